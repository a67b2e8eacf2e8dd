/-
  The law: New and Load over the world (makes). Own work.
-/
import Derived.Test.YtcpealfaaghpiaaLoadsW
namespace Go.Proofs.Ytcpealfaaghpiaa
open Go Go.RowKit Go.Maps Go.Sort Go.Shelf

/-- A device more, the hand untouched. -/
theorem new_more {w w1 w2 w7 : World} {W hn ns : Nat} {vn vl vl' vf vw vg vh vd ve : Value} {sc hc : List Value} {l : List ByteArray} {o : Obj} {d p m x y b q : Nat}
    (hW : w.heap[W]? = some (.cells #[vl, vf, vw, vg, vh, vd, ve, vn] 30 (0, 0)))
    (hd : vn.ownBlock ≠ some W ∧ vl.ownBlock ≠ some W ∧ ∀ k, vn.ownBlock = some k → vl.ownBlock ≠ some k) (hS0 : Row w 40 2 vl ns sc) (hh : Row w 9 1 vn hn hc)
    (h01 : Fr [] w w1) (h12 : Fr [] w1 w2)
    (hdv : DevIs w1 d p m (DA.fresh l) ∧ w.heap.size ≤ d ∧ w.heap.size ≤ p ∧ w.heap.size ≤ m) (hrf : RefIs w2 x y b q (DA.fresh l) ∧ w1.heap.size ≤ x ∧ w1.heap.size ≤ y ∧ w1.heap.size ≤ b ∧ w1.heap.size ≤ q)
    (h5 : ns < 5) (happ : App (w2.alloc o) w7 40 2 vl vl' ns 1 sc [.pointer (some ⟨d, 0, none⟩), .pointer (some ⟨x, 0, none⟩)]) :
    Loads w (w7.setCell ⟨W, 0, none⟩ vl') W vl vn ns sc l := by
  have hWl : W < w.heap.size := lt_of_heap hW
  have s1 := h01.size
  have s2 := h12.size
  have s5 : (w2.alloc o).heap.size = w2.heap.size + 1 := by simp
  have s6 := happ.fr.size
  have s7 : (w7.setCell ⟨W, 0, none⟩ vl').heap.size = w7.heap.size := by simp
  have h02 : Fr [] w w2 := h01.trans_nil h12
  have g1 : Fr vl.ownBlock.toList w2 w7 := ((Fr.refl vl.ownBlock.toList w2).alloc o).trans happ.fr (fun _ h => .inl h)
  have g2 : Fr [W] w7 (w7.setCell ⟨W, 0, none⟩ vl') := (Fr.refl _ _).setCell (.inl (by simp)) _
  have bl : ∀ k, vl'.ownBlock = some k → (vl.ownBlock = some k ∧ k < w.heap.size) ∨ w2.heap.size < k := by
    intro k hk
    rcases happ.blk k hk with h | h
    · exact .inl ⟨h, hS0.lt h⟩
    · exact .inr (by omega)
  obtain ⟨l1, l2, l3⟩ := hdv.1.lt
  obtain ⟨l4, l5, l6, l7⟩ := hrf.1.lt
  have new : ∀ k ∈ [d, p, m, x, y, b, q], w.heap.size ≤ k ∧ k < w2.heap.size := by
    intro k hk
    obtain ⟨_, a1, a2, a3⟩ := hdv
    obtain ⟨_, b1, b2, b3, b4⟩ := hrf
    simp at hk
    rcases hk with rfl | rfl | rfl | rfl | rfl | rfl | rfl <;> constructor <;> omega
  have kv : ∀ k ∈ [d, p, m, x, y, b, q], k ∉ vl.ownBlock.toList := by
    intro k hk hm
    obtain ⟨n1, n2⟩ := new k hk
    have := hS0.lt (Option.mem_toList.1 hm); omega
  have kw : ∀ k ∈ [d, p, m, x, y, b, q], k ∉ [W] := by
    intro k hk
    obtain ⟨n1, n2⟩ := new k hk
    simp; omega
  have D1 := ((hdv.1.keep h12 (by simp) (by simp) (by simp)).keep g1 (kv _ (by simp)) (kv _ (by simp)) (kv _ (by simp))).keep g2 (kw _ (by simp)) (kw _ (by simp)) (kw _ (by simp))
  have R1 := (hrf.1.keep g1 (kv _ (by simp)) (kv _ (by simp)) (kv _ (by simp)) (kv _ (by simp))).keep g2 (kw _ (by simp)) (kw _ (by simp)) (kw _ (by simp)) (kw _ (by simp))
  refine ⟨vn, hn, hc, vl', by omega, ((hh.keep_nil h02).keep g1 ?_).keep g2 ?_, fun k hk => .inl hk, fun k hk => ?_, fun k hk h => ?_, ?_, fun cs T hc => ?_, .inr ⟨h5, d, p, m, x, y, b, q, happ.row.keep g2 ?_, D1, R1, ?_, ?_⟩⟩
  · intro k hk hm; exact hd.2.2 k hk (Option.mem_toList.1 hm)
  · intro k hk hm; simp at hm; subst hm; exact hd.1 hk
  · rcases bl k hk with e | e
    · exact .inl e.1
    · exact .inr (by omega)
  · rcases bl k h with e | e
    · exact hd.2.2 k hk e.1
    · have := hh.lt hk; omega
  · refine ((h02.weak (T := W :: (vn.ownBlock.toList ++ vl.ownBlock.toList)) (by simp)).trans (g1.weak (T := W :: (vn.ownBlock.toList ++ vl.ownBlock.toList)) ?_) (fun _ h => .inl h)).trans (g2.weak (T := W :: (vn.ownBlock.toList ++ vl.ownBlock.toList)) ?_) (fun _ h => .inl h)
    · intro x hx; simp at hx ⊢; simp [hx]
    · intro x hx; simp at hx ⊢; simp [hx]
  · rw [hW] at hc
    injection hc with hc
    injection hc with q1 q2 q3
    subst q1 q2
    rw [heap_setCell_same _ _ _ _ _ _ (g1.keep (h02.keep hW (by simp)) (fun hm => hd.2.1 (Option.mem_toList.1 hm)))]; rfl
  · intro k hk hm
    simp at hm
    subst hm
    rcases bl _ hk with e | e
    · exact hd.2.1 e.1
    · omega
  · intro k hk
    obtain ⟨n1, n2⟩ := new k hk
    refine ⟨n1, fun e => ?_, fun e => ?_⟩
    · have := hh.lt e; omega
    · rcases bl k e with e | e <;> omega
  · intro i hi k hk
    obtain ⟨_, b1, b2, b3, b4⟩ := hrf
    simp at hi hk
    rcases hi with rfl | rfl | rfl <;> rcases hk with rfl | rfl | rfl | rfl <;> omega
theorem new_same {w w' : World} {W hn ns : Nat} {vn vl vf vw vg vh vd ve : Value} {sc hc : List Value} {l : List ByteArray}
    (hW : w.heap[W]? = some (.cells #[vl, vf, vw, vg, vh, vd, ve, vn] 30 (0, 0)))
    (hd : vn.ownBlock ≠ some W ∧ vl.ownBlock ≠ some W ∧ ∀ k, vn.ownBlock = some k → vl.ownBlock ≠ some k) (hS0 : Row w 40 2 vl ns sc) (hh : Row w 9 1 vn hn hc)
    (h01 : Fr [] w w') : Loads w w' W vl vn ns sc l := by
  refine ⟨vn, hn, hc, vl, h01.size, hh.keep_nil h01, fun k hk => .inl hk, fun k hk => .inl hk, hd.2.2, h01.weak (by simp), fun cs T hc => ?_, .inl ⟨rfl, hS0.keep_nil h01⟩⟩
  rw [hW] at hc
  injection hc with hc
  injection hc with q1 q2 q3
  subst q1 q2
  rw [h01.keep hW (by simp)]; rfl
theorem Loads.pre {w wa w' : World} {W ns : Nat} {vn vl : Value} {sc : List Value} {l : List ByteArray} (h : Loads wa w' W vl vn ns sc l) (hf : Fr [] w wa) : Loads w w' W vl vn ns sc l := by
  obtain ⟨vn', hn', hs', vl', a1, a2, a3, a4, a5, a6, a7, a8⟩ := h.ex
  have hs := hf.size
  refine ⟨vn', hn', hs', vl', by omega, a2, fun k hk => ?_, fun k hk => ?_, a5, (hf.weak (by simp)).trans a6 (fun _ h => .inl h), fun cs T hc => a7 cs T (hf.keep hc (by simp)), ?_⟩
  · rcases a3 k hk with e | e
    · exact .inl e
    · exact .inr (by omega)
  · rcases a4 k hk with e | e
    · exact .inl e
    · exact .inr (by omega)
  · rcases a8 with e | ⟨e1, d, p, m, x, y, b, q, e2, e3, e4, e5, e6⟩
    · exact .inl e
    · exact .inr ⟨e1, d, p, m, x, y, b, q, e2, e3, e4, fun k hk => ⟨by have := (e5 k hk).1; omega, (e5 k hk).2⟩, e6⟩

set_option maxRecDepth 100000 in
theorem makesNew_raw (w : World) (W : Nat) (on n : Int) (s : ByteArray) (ka : Option Addr) (kn kc : Nat) (vl vf vw vg vh vd ve vn : Value) (ns hn : Nat) (sc hc : List Value)
    (hW : w.heap[W]? = some (.cells #[vl, vf, vw, vg, vh, vd, ve, vn] 30 (0, 0)))
    (hs : Row w 40 2 vl ns sc) (hns : ns ≤ 5) (hh : Row w 9 1 vn hn hc)
    (hd : vn.ownBlock ≠ some W ∧ vl.ownBlock ≠ some W ∧ ∀ k, vn.ownBlock = some k → vl.ownBlock ≠ some k) :
    Calls Try.prog 20 #[.pointer (some ⟨W, 0, none⟩), .agg #[.int .i64 12, .int .i64 on, .int .i64 n, .string s, .slice ka kn kc]] w fun e w' => e = .returned (.tuple #[.bool true, .bool true]) ∧ Loads w w' W vl vn ns sc (zpages n.toNat) := by
  obtain ⟨wa, hwa⟩ : ∃ wa, w.alloc (.cells #[.int .i64 12, .int .i64 on, .int .i64 n, .string s, .slice ka kn kc] 35) = wa := ⟨_, rfl⟩
  have hfa : Fr [] w wa := by rw [← hwa]; exact (Fr.refl _ _).alloc _
  have hbox : wa.heap[w.heap.size]? = some (.cells #[.int .i64 12, .int .i64 on, .int .i64 n, .string s, .slice ka kn kc] 35 (0, 0)) := by rw [← hwa]; exact heap_alloc_new w _
  have b0 := cell_of_row _ _ 0 _ _ _ hbox
  have b2 := cell_of_row _ _ 2 _ _ _ hbox
  simp at b0 b2
  have hnw := new_walk wa n
  obtain ⟨va, vc, rfl, h5, h6⟩ := hs.shape
  unfold maxLen at h6
  have HB := Lib.hid hbox
  have HNW := Lib.hid hnw
  have HFA := Lib.hid hfa
  have HW := Lib.hid (hfa.keep hW (by simp))
  have HS := Lib.hid (hs.keep_nil hfa)
  have HHn := Lib.hid (hh.keep_nil hfa)
  have HD := Lib.hid hd
  clear hbox hnw hfa hW hs hh hd
  go_enter Try.func20, Try.ntmps20
  go_wp2_with fail
  refine HNW.out.mono ?_
  rintro e w1 ⟨hf1, hpost⟩
  have hpo : ∃ da, e = .returned (.tuple #[.pointer da, .int .i64 (newErr n)]) ∧ ((newErr n ≠ 0 ∧ da = none) ∨ (newErr n = 0 ∧ ∃ d p m, da = some ⟨d, 0, none⟩ ∧ DevIs w1 d p m (DA.fresh (zpages n.toNat)) ∧ wa.heap.size ≤ d ∧ wa.heap.size ≤ p ∧ wa.heap.size ≤ m)) := by
    rcases hpost with ⟨h0, he⟩ | ⟨h0, d, p, m, he, hh⟩
    · exact ⟨none, he, .inl ⟨h0, rfl⟩⟩
    · exact ⟨some ⟨d, 0, none⟩, by rw [h0]; exact he, .inr ⟨h0, d, p, m, rfl, hh⟩⟩
  obtain ⟨da, rfl, hda⟩ := hpo
  have b2' := hf1.cell b2 (by simp)
  have hrn := rnew_walk w1 n
  have HF1 := Lib.hid hf1
  have HDA := Lib.hid hda
  have HRN := Lib.hid hrn
  clear hf1 hda hrn hpost HNW
  obtain ⟨r, hr⟩ : ∃ r, newErr n = r := ⟨_, rfl⟩
  rw [hr]
  go_wp2_with fail
  refine HRN.out.mono ?_
  rintro e w2 ⟨hf2, hpost⟩
  have hpo : ∃ xa, e = .returned (.tuple #[.pointer xa, .int .i64 r]) ∧ ((r ≠ 0 ∧ xa = none) ∨ (r = 0 ∧ ∃ x y b q, xa = some ⟨x, 0, none⟩ ∧ RefIs w2 x y b q (DA.fresh (zpages n.toNat)) ∧ w1.heap.size ≤ x ∧ w1.heap.size ≤ y ∧ w1.heap.size ≤ b ∧ w1.heap.size ≤ q)) := by
    rw [hr] at hpost
    rcases hpost with ⟨h0, he⟩ | ⟨h0, x, y, b, q, he, hh⟩
    · exact ⟨none, he, .inl ⟨h0, rfl⟩⟩
    · exact ⟨some ⟨x, 0, none⟩, by rw [h0]; exact he, .inr ⟨h0, x, y, b, q, rfl, hh⟩⟩
  obtain ⟨xa, rfl, hxa⟩ := hpo
  have hW2 := hf2.keep (HF1.out.keep HW.out (by simp)) (by simp)
  have d0 := cell_of_row _ _ 0 _ _ _ hW2
  have g0 := frozen_of_row _ _ 0 _ _ hW2
  simp at d0
  have hda := HDA.out
  rw [hr] at hda
  have HF2 := Lib.hid hf2
  have HW2 := Lib.hid hW2
  have HSR := Lib.hid ((HS.out.keep_nil HF1.out).keep_nil hf2)
  clear hr hf2 hpost HRN HDA hW2
  rcases hda with ⟨r0, rfl⟩ | ⟨r0, d, p, m, rfl, hdd⟩
  · rcases hxa with ⟨_, rfl⟩ | ⟨r1, _⟩
    · go_wp2_with fail
      go_ret2
      exact ⟨rfl, (new_same HW.out HD.out HS.out HHn.out (HF1.out.trans_nil HF2.out)).pre HFA.out⟩
    · exact absurd r1 r0
  · rcases hxa with ⟨r1, _⟩ | ⟨_, x, y, b, q, rfl, hxx⟩
    · exact absurd r0 r1
    · subst r0
      have HDD := Lib.hid hdd
      have HXX := Lib.hid hxx
      clear hdd hxx
      by_cases hfive : ns < 5
      · have hSra := HSR.out.keep_nil ((Fr.refl [] w2).alloc (.cells #[.pointer (some ⟨d, 0, none⟩), .pointer (some ⟨x, 0, none⟩)] 40))
        have HSRA := Lib.hid hSra
        obtain ⟨is, hi, hz0, hz1, hz2⟩ := info_parts infoSide
        clear hSra
        go_wp2_with (at_builtin; refine wpList_append_row rfl _ _ 25 rfl 40 is _ 2 16 Try.underlying25 hi hz0 hz1 hz2 rfl (by decide) (.slice va ns vc) ns sc rfl HSRA.out ⟨w2.heap.size, 0, none⟩ 1 1 [.pointer (some ⟨d, 0, none⟩), .pointer (some ⟨x, 0, none⟩)] rfl rfl (cell_two_new _ _ _ _) (by intro u hu; simp at hu; rcases hu with rfl | rfl <;> rfl) (by unfold maxLen; omega) (by omega) ?_)
        intro v' w7 happ
        have hend := (new_more HW.out HD.out HS.out HHn.out HF1.out HF2.out HDD.out HXX.out hfive happ.out).pre HFA.out
        have hW7 := happ.out.fr.keep (((Fr.refl [] w2).alloc (.cells #[.pointer (some ⟨d, 0, none⟩), .pointer (some ⟨x, 0, none⟩)] 40)).keep HW2.out (by simp)) (fun hm => HD.out.2.1 (Option.mem_toList.1 hm))
        obtain ⟨fa, fc, rfl, _, _⟩ := happ.out.row.shape
        have d7 := cell_of_row _ _ 0 _ _ _ hW7
        have g7 := frozen_of_row _ _ 0 _ _ hW7
        simp at d7
        have HEND := Lib.hid hend
        clear hend hW7
        go_wp2_with fail
        go_ret2
        exact ⟨rfl, HEND.out⟩
      · go_wp2_with fail
        go_ret2
        exact ⟨rfl, (new_same HW.out HD.out HS.out HHn.out (HF1.out.trans_nil HF2.out)).pre HFA.out⟩
end Go.Proofs.Ytcpealfaaghpiaa
