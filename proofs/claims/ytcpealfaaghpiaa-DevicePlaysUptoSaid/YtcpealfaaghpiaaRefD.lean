/-
  The document's device: Load, New. Own work.
-/
import Derived.Deep.OwnRows
import Derived.Test.YtcpealfaaghpiaaRefC
namespace Go.Proofs.Ytcpealfaaghpiaa
open Go Go.RowKit Go.Maps Go.Sort Go.Shelf

theorem infoB : (Try.prog.info? 4).map (fun i => (i.zero, i.size, i.bytes)) = some (some (.bool false), 1, 1) := by kernel_rfl

/-- The answer of the document's Load. -/
def RLoadPost (l : List ByteArray) (w : World) (e : Ending) (w' : World) : Prop :=
  Fr [] w w' ∧ ((loadErr l ≠ 0 ∧ e = .returned (.tuple #[.pointer none, .int .i64 (loadErr l)])) ∨
    (loadErr l = 0 ∧ ∃ x p b q, e = .returned (.tuple #[.pointer (some ⟨x, 0, none⟩), .int .i64 0]) ∧ RefIs w' x p b q (DA.fresh l) ∧ w.heap.size ≤ x ∧ w.heap.size ≤ p ∧ w.heap.size ≤ b ∧ w.heap.size ≤ q))

theorem Strs.cells {w : World} {v : Value} {l : List ByteArray} (h : Strs w 9 v l) {a : Option Addr} {n c : Nat} (hv : v = .slice a n c) : ∀ ad, a = some ad → ∀ j u, (l.map Value.string)[j]? = some u → w.cell? (ad.add j) = some u := by
  intro ad had j u hj
  rw [List.getElem?_map] at hj
  cases e : l[j]? with
  | none => rw [e] at hj; cases hj
  | some s =>
    rw [e] at hj
    obtain rfl := Option.some.inj hj
    obtain ⟨g, c', e1, hc, _⟩ := h.at e
    rw [hv] at e1
    injection e1 with e2 _ _
    rw [had] at e2
    obtain rfl := Option.some.inj e2
    rw [Addr.add_lit, Nat.zero_add]
    exact hc

theorem fresh_wf {l : List ByteArray} (h1 : 4 ≤ l.length) (h2 : l.length ≤ 4096) (hg : Good l) : (DA.fresh l).WF :=
  ⟨by simp [DA.fresh], h1, h2, hg, by intro t ht; simp [DA.fresh] at ht, by simp [DA.fresh], by simp [DA.fresh]⟩
/-- The new pages, in a row of their own. -/
theorem pagesAt_of_row {w : World} {p n cap : Nat} {l : List ByteArray} (hn : l.length = n) (h : Row w 9 1 (.slice (some ⟨p, 0, none⟩) n cap) n (l.map Value.string)) : PagesAt w p l := by
  obtain ⟨_, hh⟩ := h
  rcases hh with ⟨hh, _⟩ | ⟨g, cap', cur, hv, hg2, _, _, hle, htk⟩
  · cases hh
  · injection hv with hv1 _ hv3
    injection hv1 with hv1
    injection hv1 with hv1
    subst hv1 hv3
    refine ⟨cur, hg2, by omega, fun i s hi => ?_⟩
    have := congrArg (fun x => x[i]?) htk
    simp only [List.getElem?_map, hi, Option.map_some] at this
    rw [List.getElem?_take] at this
    split at this
    · rw [← Array.getElem?_toList]; exact this
    · cases this
theorem three_heap (w : World) (A B C : Obj) : ((((w.alloc A).alloc B).alloc C).drew).heap[w.heap.size]? = some A ∧ ((((w.alloc A).alloc B).alloc C).drew).heap[w.heap.size + 1]? = some B ∧
    ((((w.alloc A).alloc B).alloc C).drew).heap[w.heap.size + 2]? = some C ∧ ((((w.alloc A).alloc B).alloc C).drew).heap.size = w.heap.size + 3 := by
  refine ⟨?_, ?_, ?_, ?_⟩
  · show (((w.heap.push A).push B).push C)[w.heap.size]? = _
    rw [Array.getElem?_push, if_neg (by simp only [Array.size_push]; omega), Array.getElem?_push, if_neg (by simp only [Array.size_push]; omega), Array.getElem?_push, if_pos rfl]
  · show (((w.heap.push A).push B).push C)[w.heap.size + 1]? = _
    rw [Array.getElem?_push, if_neg (by simp only [Array.size_push]; omega), Array.getElem?_push, if_pos (by simp only [Array.size_push])]
  · show (((w.heap.push A).push B).push C)[w.heap.size + 2]? = _
    rw [Array.getElem?_push, if_pos (by simp only [Array.size_push])]
  · show (((w.heap.push A).push B).push C).size = _
    simp
theorem rload_end (w W w4 : World) (l : List ByteArray) (n X B Q : Nat) (v' : Value) (hn : l.length = n) (h4 : 4 ≤ n) (h5 : n ≤ 4096) (hgood : Good l) (hf : Fr [] w W)
    (hX : W.heap[X]? = some (.cells #[.slice none 0 0, .slice (some ⟨B, 0, none⟩) n n, .slice (some ⟨Q, 0, none⟩) n n, .int .i64 0, .bool false] 47 (0, 0)))
    (hB : W.heap[B]? = some (.cells (madeCells #[.bool false] n) 4 (0, 0))) (hQ : W.heap[Q]? = some (.cells (madeCells #[.string ByteArray.empty] n) 9 (0, 0)))
    (gX : w.heap.size ≤ X) (gB : w.heap.size ≤ B) (gQ : w.heap.size ≤ Q) (hgrow : W.grownBy w4 none) (hown : w4.ownsRow W.heap.size 9 1 v' n (l.map Value.string)) :
    w4.cell? ⟨X, 0, none⟩ = some (.slice none 0 0) ∧ w4.frozen? ⟨X, 0, none⟩ = false ∧ RLoadPost l w (.returned (.tuple #[.pointer (some ⟨X, 0, none⟩), .int .i64 0])) (w4.setCell ⟨X, 0, none⟩ v') := by
  have hf4 : Fr [] W w4 := (Fr.refl [] W).grown hgrow (fun k hk => by cases hk)
  have hX4 := hf4.keep hX (by simp)
  have hB4 := hf4.keep hB (by simp)
  have hQ4 := hf4.keep hQ (by simp)
  have eX : X ≠ B := by rintro rfl; rw [hX] at hB; simp at hB
  have eX2 : X ≠ Q := by rintro rfl; rw [hX] at hQ; simp at hQ
  have lX := lt_of_heap hX
  have lB := lt_of_heap hB
  have lQ := lt_of_heap hQ
  have e0 : loadErr l = 0 := by unfold loadErr; rw [hn, if_pos ⟨h4, h5⟩, if_pos hgood]
  have hr := Row.ofOwn hown
  rcases hown.2 with ⟨hv, h0⟩ | ⟨p, cap, cur, hv, hp, hpc, hnc, hcm, _⟩
  · omega
  · subst hv
    have hs : Fr [X] w4 (w4.setCell ⟨X, 0, none⟩ (.slice (some ⟨p, 0, none⟩) n cap)) := (Fr.refl _ _).setCell (.inl (by simp)) _
    have lp := lt_of_heap hpc
    refine ⟨by rw [cell_of_row _ _ _ _ _ _ hX4]; rfl, frozen_of_row _ _ _ _ _ hX4, ?_, .inr ⟨e0, X, p, B, Q, rfl, ⟨fresh_wf (by omega) (by omega) hgood, ⟨cap, n, n, ?_, ?_, hcm⟩, ?_, ?_, ?_, by omega⟩, gX, ?_, gB, gQ⟩⟩
    · exact ((hf.trans_nil hf4).setCell (.inr gX) _)
    · show _ = some (Obj.cells #[.slice _ l.length _, .slice _ l.length _, .slice _ l.length _, _, _] _ _)
      rw [hn, heap_setCell_same _ _ _ _ _ _ hX4]; rfl
    · show l.length ≤ cap; rw [hn]; exact hnc
    · exact PagesAt.keep (pagesAt_of_row hn hr) hs (by simp; omega)
    · refine FlagsAt.keep ⟨_, hB4, ?_, fun i q hi => ?_⟩ hs (by simp; omega)
      · rw [size_madeCells]; simp [DA.fresh, hn]
      · simp only [DA.fresh] at hi
        rw [List.getElem?_replicate] at hi
        split at hi
        · obtain rfl := Option.some.inj hi
          rw [← Array.getElem?_toList, toList_madeCells_one, List.getElem?_replicate, if_pos (by omega)]; rfl
        · cases hi
    · refine DataAt.keep ⟨_, hQ4, ?_, fun i q hi => ?_⟩ hs (by simp; omega)
      · rw [size_madeCells]; simp [DA.fresh, hn]
      · simp only [DA.fresh] at hi
        rw [List.getElem?_replicate] at hi
        split at hi
        · cases Option.some.inj hi
        · cases hi
    · have := hf.size; omega

set_option maxRecDepth 100000 in
set_option maxHeartbeats 1000000 in
theorem rload_walk (w : World) (v : Value) (l : List ByteArray) (h : Strs w 9 v l) :
    Calls Try.prog 49 #[v] w (RLoadPost l w) := by
  obtain ⟨n, hn⟩ : ∃ n, l.length = n := ⟨_, rfl⟩
  have h' := h.shape
  rw [hn] at h'
  obtain ⟨a, c, rfl, h1, h2⟩ := h'
  unfold maxLen at h2
  by_cases hlen : 4 ≤ n ∧ n ≤ 4096
  · obtain ⟨hl1, hl2⟩ := hlen
    obtain ⟨g, c', ea, hc0⟩ := h.at (get_of_lt hn (show 0 < n by omega)).choose_spec
    injection ea with ea1 ea2 ea3
    subst ea1
    have HN := Lib.hid hn
    have HS := Lib.hid h
    have hmkB := fun (W : World) => run_make_row' (P := Try.prog) 45 4 (.bool false) 1 Try.underlying45 infoB rfl .i64 .i64 n (by omega) (by omega) W
    have hmkS := fun (W : World) => run_make_row' (P := Try.prog) 28 9 (.string ByteArray.empty) 16 Try.underlying28 infoS rfl .i64 .i64 n (by omega) (by omega) W
    have HMB := Lib.hid hmkB
    have HMS := Lib.hid hmkS
    clear hn h hc0 ea2 ea3 hmkB hmkS
    go_enter Try.func49, Try.ntmps49
    go_wp2_with fail
    go_loop [4] (fun i => ∃ k : Nat, k ≤ n ∧ i = .int .i64 k ∧ Good (l.take k)) (fun i => n - (intOf i).toNat)
    case atStart => exact ⟨0, Nat.zero_le _, rfl, Good_nil⟩
    case round =>
      obtain ⟨k, hk, rfl, hg⟩ := hrel
      have HG := Lib.hid hg
      clear hg
      by_cases hlt : k < n
      · obtain ⟨s, hs⟩ := get_of_lt HN.out hlt
        obtain ⟨g', c'', ea, hc, _⟩ := HS.out.at hs
        injection ea with ea1 ea2 ea3
        injection ea1 with ea1
        injection ea1 with ea1
        subst ea1
        obtain ⟨q, hq⟩ : ∃ q, s.size = q := ⟨_, rfl⟩
        have HQ := Lib.hid hq
        have HX := Lib.hid hs
        clear hs ea2 ea3
        by_cases hb : q = 256
        · have hb' : ((q : Int) != 256) = false := by simp; omega
          go_wp2_with fail
          go_round
          case rel => exact ⟨k + 1, by omega, by go_num, Good_step HG.out HX.out (by rw [HQ.out]; exact hb)⟩
          case measure => simp [intOf]; omega
        · have hb' : ((q : Int) != 256) = true := by simp; omega
          go_wp2_with fail
          go_ret2
          have e0 : loadErr l = 91 := by
            unfold loadErr; rw [HN.out, if_pos ⟨hl1, hl2⟩, if_neg]
            exact fun hall => hb (by rw [← HQ.out]; exact hall s (List.mem_of_getElem? HX.out))
          exact ⟨Fr.refl _ _, .inl ⟨by rw [e0]; decide, by rw [e0]; rfl⟩⟩
      · obtain rfl : k = n := by omega
        have hgood : Good l := by have := HG.out; rwa [List.take_of_length_le (by rw [HN.out]; exact Nat.le_refl _)] at this
        have HGood := Lib.hid hgood
        have hmkB := HMB.out
        have hmkS := HMS.out
        clear hgood
        go_wp2
        go_region
        · obtain ⟨i0, hi, hz0, hz1, hz2⟩ := info_parts infoS
          obtain ⟨t1, t2, t3, t4⟩ := three_heap w (.cells (madeCells #[.bool false] k) 4) (.cells (madeCells #[.string ByteArray.empty] k) 9) (.cells #[.slice none 0 0, .slice (some ⟨w.heap.size, 0, none⟩) k k, .slice (some ⟨w.heap.size + 1, 0, none⟩) k k, .int .i64 0, .bool false] 47)
          have T1 := Lib.hid t1
          have T2 := Lib.hid t2
          have T3 := Lib.hid t3
          have T4 := Lib.hid t4
          clear t1 t2 t3 t4
          go_wp2_with (at_builtin; refine wpList_append_own _ rfl _ _ 28 rfl (w.heap.size + 3) 9 i0 _ 1 16 Try.underlying28 hi hz0 hz1 hz2 rfl (by decide) _ _ _ rfl (World.ownsRow_nil _ _ _ _) ⟨g, 0, none⟩ k c (l.map Value.string) rfl ?c0a ?c1a ?c2a ?c3a ?c4a ?c5a ?_)
          case c0a => simp [HN.out]
          case c1a => exact Strs.cells (HS.out.keep_nil ((((Fr.refl [] w).alloc _).alloc _).alloc _).drew) rfl _ rfl
          case c2a => exact strs_oneCell l
          case c3a => unfold maxLen; omega
          case c4a => omega
          case c5a => exact Nat.le_of_eq T4.out.symm
          intro v' w2 hown hgrow _
          have hfin := rload_end w _ w2 l k (w.heap.size + 2) (w.heap.size) (w.heap.size + 1) v' HN.out hl1 hl2 HGood.out ((((Fr.refl [] w).alloc _).alloc _).alloc _).drew T3.out T1.out T2.out (by omega) (by omega) (by omega) hgrow (by rw [T4.out]; simpa using hown)
          obtain ⟨hc, hfz, hp⟩ := hfin
          have HP := Lib.hid hp
          obtain ⟨a', cap', rfl, _⟩ := (Row.ofOwn hown).shape
          clear hown hgrow hp
          go_wp2
          go_ret2
          exact HP.out
        · obtain ⟨i0, hi, hz0, hz1, hz2⟩ := info_parts infoS
          obtain ⟨t1, t2, t3, t4⟩ := three_heap w (.cells (madeCells #[.string ByteArray.empty] k) 9) (.cells (madeCells #[.bool false] k) 4) (.cells #[.slice none 0 0, .slice (some ⟨w.heap.size + 1, 0, none⟩) k k, .slice (some ⟨w.heap.size, 0, none⟩) k k, .int .i64 0, .bool false] 47)
          have T1 := Lib.hid t1
          have T2 := Lib.hid t2
          have T3 := Lib.hid t3
          have T4 := Lib.hid t4
          clear t1 t2 t3 t4
          go_wp2_with (at_builtin; (refine wpList_append_own _ rfl _ _ 28 rfl (w.heap.size + 3) 9 i0 _ 1 16 Try.underlying28 hi hz0 hz1 hz2 rfl (by decide) _ _ _ rfl (World.ownsRow_nil _ _ _ _) ⟨g, 0, none⟩ k c (l.map Value.string) rfl ?c0b ?c1b ?c2b ?c3b ?c4b ?c5b ?_))
          case c0b => simp [HN.out]
          case c1b => exact Strs.cells (HS.out.keep_nil ((((Fr.refl [] w).alloc _).alloc _).alloc _).drew) rfl _ rfl
          case c2b => exact strs_oneCell l
          case c3b => unfold maxLen; omega
          case c4b => omega
          case c5b => exact Nat.le_of_eq T4.out.symm
          intro v' w2 hown hgrow _
          have hfin := rload_end w _ w2 l k (w.heap.size + 2) (w.heap.size + 1) (w.heap.size) v' HN.out hl1 hl2 HGood.out ((((Fr.refl [] w).alloc _).alloc _).alloc _).drew T3.out T2.out T1.out (by omega) (by omega) (by omega) hgrow (by rw [T4.out]; simpa using hown)
          obtain ⟨hc, hfz, hp⟩ := hfin
          have HP := Lib.hid hp
          obtain ⟨a', cap', rfl, _⟩ := (Row.ofOwn hown).shape
          clear hown hgrow hp
          go_wp2
          go_ret2
          exact HP.out
  · have e0 : loadErr l = 1 := by unfold loadErr; rw [hn, if_neg hlen]
    have HE := Lib.hid e0
    have hcases : n < 4 ∨ (4 ≤ n ∧ 4096 < n) := by omega
    clear hn h e0 hlen
    rcases hcases with q | ⟨q1, q2⟩
    all_goals
      go_enter Try.func49, Try.ntmps49
      go_wp2_with fail
      go_ret2
      exact ⟨Fr.refl _ _, .inl ⟨by rw [HE.out]; decide, by rw [HE.out]; rfl⟩⟩
end Go.Proofs.Ytcpealfaaghpiaa
