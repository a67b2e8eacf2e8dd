/-
  The program's device: Load, New. Own work.
-/
import Derived.Test.YtcpealfaaghpiaaCrash
namespace Go.Proofs.Ytcpealfaaghpiaa
open Go Go.RowKit Go.Maps Go.Sort Go.Shelf

/-- No bad page among the first k. -/
def Good (l : List ByteArray) : Prop := ∀ s ∈ l, s.size = 256
instance (l : List ByteArray) : Decidable (Good l) := by unfold Good; exact inferInstance
theorem Good_nil : Good [] := by intro s hs; cases hs
theorem Good_step {l : List ByteArray} {k : Nat} {s : ByteArray} (h : Good (l.take k)) (hs : l[k]? = some s) (he : s.size = 256) : Good (l.take (k + 1)) := by
  rw [List.take_add_one, hs]
  intro t ht
  rcases List.mem_append.1 ht with ht | ht
  · exact h t ht
  · simp at ht; rw [ht]; exact he
def IdxPost (l : List ByteArray) (w : World) (e : Ending) (w' : World) : Prop := ∃ r : Int, e = .returned (.int .i64 r) ∧ w = w' ∧ ((r = -1 ∧ Good l) ∨ (0 ≤ r ∧ ¬ Good l))

theorem bad_walk (w : World) (s : ByteArray) (n : Nat) (hn : s.size = n) : Calls Try.prog 59 #[.string s] w fun e w' => e = .returned (.bool ((n : Int) != 256)) ∧ w = w' := by
  go_enter Try.func59, Try.ntmps59
  go_wp2
  go_ret
  exact ⟨rfl, rfl⟩

set_option maxHeartbeats 400000 in
theorem index_walk (w : World) (v : Value) (l : List ByteArray) (h : Strs w 9 v l) :
    Calls Try.prog 69 #[v, .func (.func 59) #[] #[]] w (IdxPost l w) := by
  obtain ⟨n, hn⟩ : ∃ n, l.length = n := ⟨_, rfl⟩
  have h' := h.shape
  rw [hn] at h'
  obtain ⟨a, c, rfl, h1, h2⟩ := h'
  unfold maxLen at h2
  have HN := Lib.hid hn
  have HS := Lib.hid h
  clear hn h
  go_enter Try.func69, Try.ntmps69
  go_wp2_with fail
  go_loop [8] (fun i => ∃ k : Nat, k ≤ n ∧ i = .int .i64 k ∧ Good (l.take k)) (fun i => n - (intOf i).toNat)
  case atStart => exact ⟨0, Nat.zero_le _, rfl, Good_nil⟩
  case round =>
    obtain ⟨k, hk, rfl, hg⟩ := hrel
    have HG := Lib.hid hg
    clear hg
    by_cases hlt : k < n
    · obtain ⟨s, hs⟩ := get_of_lt HN.out hlt
      obtain ⟨g, c', ea, hc, _⟩ := HS.out.at hs
      injection ea with ea1 ea2 ea3
      subst ea1
      obtain ⟨q, hq⟩ : ∃ q, s.size = q := ⟨_, rfl⟩
      have HQ := Lib.hid hq
      have HX := Lib.hid hs
      clear hs ea2 ea3 hq
      by_cases hb : q = 256
      · have hb' : ((q : Int) != 256) = false := by simp; omega
        go_wp2_with (go_at_call 59; refine (bad_walk _ _ _ HQ.out).mono ?_; rintro e w' ⟨rfl, rfl⟩)
        go_round
        case rel => exact ⟨k + 1, by omega, by go_num, Good_step HG.out HX.out (by rw [HQ.out]; exact hb)⟩
        case measure => simp [intOf]; omega
      · have hb' : ((q : Int) != 256) = true := by simp; omega
        go_wp2_with (go_at_call 59; refine (bad_walk _ _ _ HQ.out).mono ?_; rintro e w' ⟨rfl, rfl⟩)
        go_ret
        exact ⟨_, rfl, rfl, .inr ⟨by omega, fun hall => hb (by rw [← HQ.out]; exact hall s (List.mem_of_getElem? HX.out))⟩⟩
    · obtain rfl : k = n := by omega
      go_wp2
      go_ret
      exact ⟨_, rfl, rfl, .inl ⟨rfl, by have := HG.out; rwa [List.take_of_length_le (by rw [HN.out]; exact Nat.le_refl _)] at this⟩⟩

theorem contains_walk (w : World) (v : Value) (l : List ByteArray) (h : Strs w 9 v l) :
    Calls Try.prog 58 #[v, .func (.func 59) #[] #[]] w fun e w' => e = .returned (.bool (!decide (Good l))) ∧ w = w' := by
  have hi := index_walk w v l h
  obtain ⟨b, hb⟩ : ∃ b, (!decide (Good l)) = b := ⟨_, rfl⟩
  rw [hb]
  have HI := Lib.hid hi
  have HB := Lib.hid hb
  clear hi hb h
  go_enter Try.func58, Try.ntmps58
  go_wp2_with fail
  refine HI.out.mono ?_
  rintro e w' ⟨r, rfl, rfl, hr⟩
  have hbr : b = decide (0 ≤ r) := by
    rw [← HB.out]
    rcases hr with ⟨rfl, hg⟩ | ⟨h0, hg⟩
    · simp [hg]
    · simp [hg, h0]
  clear hr
  subst hbr
  go_wp2
  go_ret
  exact ⟨rfl, rfl⟩

/-- A new device of these pages. -/
def DA.fresh (l : List ByteArray) : DA := { L := l, P := List.replicate l.length none, dead := false, left := 0 }
/-- What Load answers. -/
def loadErr (l : List ByteArray) : Int := if 4 ≤ l.length ∧ l.length ≤ 4096 then (if Good l then 0 else 91) else 1
def LoadPost (l : List ByteArray) (w : World) (e : Ending) (w' : World) : Prop :=
  Fr [] w w' ∧ ((loadErr l ≠ 0 ∧ e = .returned (.tuple #[.pointer none, .int .i64 (loadErr l)])) ∨
    (loadErr l = 0 ∧ ∃ d p m, e = .returned (.tuple #[.pointer (some ⟨d, 0, none⟩), .int .i64 0]) ∧ DevIs w' d p m (DA.fresh l) ∧ w.heap.size ≤ d ∧ w.heap.size ≤ p ∧ w.heap.size ≤ m))
theorem clone_walk (w : World) (v : Value) (l : List ByteArray) (h : Strs w 9 v l) (hl : l.length ≤ 4096) (h0 : 0 < l.length) :
    Calls Try.prog 35 #[v] w fun e w' => ∃ p cap, e = .returned (.slice (some ⟨p, 0, none⟩) l.length cap) ∧ w.heap.size ≤ p ∧ Strs w' 9 (.slice (some ⟨p, 0, none⟩) l.length cap) l ∧ Fr [] w w' := by
  obtain ⟨s0, hs0⟩ := get_of_lt (l := l) rfl h0
  obtain ⟨g, c, rfl, _⟩ := h.at hs0
  have hc : ∀ j, j < l.length → w.cell? ⟨g, 0 + j, none⟩ = some (.string (l.getD j ByteArray.empty)) := by
    intro j hj
    obtain ⟨s, hs⟩ := get_of_lt rfl hj
    obtain ⟨g', c', ea, hcc, _⟩ := h.at hs
    injection ea with ea1 _ _
    injection ea1 with ea1
    injection ea1 with ea1
    subst ea1
    rw [Nat.zero_add, hcc]
    simp [List.getD, hs]
  refine (Try.slices_Clone_string g 0 l.length c l w (Nat.le_refl _) (by omega) hc).mono ?_
  rintro e w' ⟨v', rfl, hrow, -, hb⟩
  rw [List.take_length] at hrow
  have hr : Strs w' 9 v' l := Row.ofOwn hrow
  obtain ⟨p, cap, rfl, _⟩ := hr.at hs0
  exact ⟨p, cap, rfl, (hrow.lt p rfl).1, hr, Fr.ofBelow hb⟩

set_option maxHeartbeats 400000 in
theorem load_walk (w : World) (v : Value) (l : List ByteArray) (h : Strs w 9 v l) :
    Calls Try.prog 39 #[v] w (LoadPost l w) := by
  have hct := contains_walk w v l h
  obtain ⟨n, hn⟩ : ∃ n, l.length = n := ⟨_, rfl⟩
  have h' := h.shape
  rw [hn] at h'
  obtain ⟨a, c, rfl, h1, h2⟩ := h'
  unfold maxLen at h2
  have hmm := @run_makeMap Try.prog
  by_cases hlen : 4 ≤ n ∧ n ≤ 4096
  · by_cases hg : Good l
    · rw [decide_eq_true hg] at hct
      have hcl := clone_walk w _ l h (by omega) (by omega)
      rw [hn] at hcl
      have HN := Lib.hid hn
      have HG := Lib.hid hg
      have HC := Lib.hid hct
      have HL := Lib.hid hcl
      clear hn hg hct hcl h
      simp only [Bool.not_true] at HC
      go_enter Try.func39, Try.ntmps39
      go_wp2_with fail
      refine HC.out.mono ?_
      rintro e w' ⟨rfl, rfl⟩
      go_wp2_with fail
      refine HL.out.mono ?_
      rintro e w1 ⟨p, cap, rfl, hp, hst, hf⟩
      have hsh := hst.shape
      rw [HN.out] at hsh
      obtain ⟨a', c', hv, h3, h4⟩ := hsh
      injection hv with hv1 hv2 hv3
      subst hv3
      have HST := Lib.hid hst
      have HF := Lib.hid hf
      clear hst hf hv1 hv2
      go_wp2
      go_ret2
      have e0 : loadErr l = 0 := by unfold loadErr; rw [HN.out, if_pos hlen, if_pos HG.out]
      have hf2 : Fr [] w1 ((w1.alloc (.map #[] 0)).alloc (.cells #[.slice (some ⟨p, 0, none⟩) n cap, .map (some w1.heap.size), .bool false, .int .i64 0] 72)) := ((Fr.refl _ _).alloc _).alloc _
      have hsz := HF.out.size
      refine ⟨HF.out.trans_nil hf2, .inr ⟨e0, w1.heap.size + 1, p, w1.heap.size, rfl, ⟨⟨by simp [DA.fresh], by show 4 ≤ l.length; rw [HN.out]; exact hlen.1, by show l.length ≤ 4096; rw [HN.out]; exact hlen.2, HG.out, ?_, by simp [DA.fresh], by simp [DA.fresh]⟩, ⟨cap, 0, ?_, ?_, h4, fun _ => rfl, by simp, by simp⟩, ?_, ?_⟩, by omega, hp, by omega⟩⟩
      · intro t ht; simp [DA.fresh] at ht
      · show _ = some (Obj.cells #[.slice (some ⟨p, 0, none⟩) l.length cap, _, _, _] _ _)
        rw [HN.out]
        exact heap_alloc2_new w1 _ _
      · show l.length ≤ cap; rw [HN.out]; exact h3
      · have hst2 := Strs.keep_nil HST.out hf2
        obtain ⟨_, hh⟩ := hst2
        rcases hh with ⟨hh, _⟩ | ⟨g, cap', cur, hv, hg2, _, _, hle, htk⟩
        · cases hh
        · injection hv with hv1 _ hv3
          injection hv1 with hv1
          injection hv1 with hv1
          subst hv1 hv3
          refine ⟨cur, hg2, ?_, fun i s hi => ?_⟩
          · show l.length ≤ cur.size; rw [HN.out]; omega
          · have := congrArg (fun x => x[i]?) htk
            simp only [List.getElem?_map, show l[i]? = some s from hi, Option.map_some] at this
            rw [List.getElem?_take] at this
            split at this
            · rw [← Array.getElem?_toList]; exact this
            · cases this
      · refine MapP.keep (P := (DA.fresh l).P) ?_ ((Fr.refl [] (w1.alloc (.map #[] 0))).alloc _) (by simp)
        refine ⟨.map [], ?_, pendIs_empty _⟩
        exact (World.ownsMap_made w1 Try.prog 3 (plainElem Try.prog 9)).mono (Nat.zero_le _)
    · rw [decide_eq_false hg] at hct
      have e0 : loadErr l = 91 := by unfold loadErr; rw [hn, if_pos hlen, if_neg hg]
      have HC := Lib.hid hct
      have HE := Lib.hid e0
      clear hn hg hct h e0
      simp only [Bool.not_false] at HC
      go_enter Try.func39, Try.ntmps39
      go_wp2_with fail
      refine HC.out.mono ?_
      rintro e w' ⟨rfl, rfl⟩
      go_wp2_with fail
      go_ret2
      exact ⟨Fr.refl _ _, .inl ⟨by rw [HE.out]; decide, by rw [HE.out]; rfl⟩⟩
  · have e0 : loadErr l = 1 := by unfold loadErr; rw [hn, if_neg hlen]
    have HE := Lib.hid e0
    have hcases : n < 4 ∨ (4 ≤ n ∧ 4096 < n) := by omega
    clear hn hct h e0 hlen
    rcases hcases with q | ⟨q1, q2⟩
    all_goals
      go_enter Try.func39, Try.ntmps39
      go_wp2_with fail
      go_ret2
      exact ⟨Fr.refl _ _, .inl ⟨by rw [HE.out]; decide, by rw [HE.out]; rfl⟩⟩
end Go.Proofs.Ytcpealfaaghpiaa
