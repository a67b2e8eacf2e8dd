/-
  The law: a crash of both devices. Own work.
-/
import Derived.Test.YtcpealfaaghpiaaCopy
namespace Go.Proofs.Ytcpealfaaghpiaa
open Go Go.RowKit Go.Maps Go.Sort Go.Shelf

theorem kcells_one (l : List (Int × Int)) : ∀ u ∈ kcells l, u.oneCell' = true := by
  intro u hu
  unfold kcells at hu
  obtain ⟨x, _, hx⟩ := List.mem_flatMap.1 hu
  simp at hx
  rcases hx with rfl | rfl <;> rfl
theorem kcells_even (l : List (Int × Int)) (j : Nat) (v : Value) (h : (kcells l)[j]? = some v) : ∃ k x, l[k]? = some x ∧ ((j = k * 2 ∧ v = .int .i64 x.1) ∨ (j = k * 2 + 1 ∧ v = .int .i64 x.2)) := by
  have hj : j < (kcells l).length := (List.getElem?_eq_some_iff.1 h).1
  rw [kcells_len] at hj
  have hk : j / 2 < l.length := by omega
  refine ⟨j / 2, l[j / 2], by simp [hk], ?_⟩
  obtain ⟨e1, e2⟩ := kcells_at l (j / 2) l[j / 2] (by simp [hk])
  rcases Nat.mod_two_eq_zero_or_one j with e | e
  · left
    have ej : j / 2 * 2 = j := by omega
    rw [ej, h] at e1
    exact ⟨ej.symm, Option.some.inj e1⟩
  · right
    have ej : j / 2 * 2 + 1 = j := by omega
    rw [ej, h] at e2
    exact ⟨ej.symm, Option.some.inj e2⟩
theorem KeepsIn.src {w : World} {a : Addr} {n cap : Nat} {l : List (Int × Int)} (h : KeepsIn w (.slice (some a) n cap) l) : ∀ j v, (kcells l)[j]? = some v → w.cell? (a.add j) = some v := by
  intro j v hj
  obtain ⟨k, x, hx, hc⟩ := kcells_even l j v hj
  obtain ⟨a', cap', e, c1, c2⟩ := h.at hx
  injection e with e _ _
  injection e with e
  subst e
  rcases hc with ⟨rfl, rfl⟩ | ⟨rfl, rfl⟩
  · exact c1
  · rw [← Deep.add_add]; exact c2
/-- What the law has lent. -/
def lentCells (ks : List (Int × Int)) : List Value := kcells ks ++ (madeCells #[.int .i64 0, .int .i64 0] ((ks.length + 8) * 2)).toList.drop (kcells ks).length
theorem lent_at (ks : List (Int × Int)) (i : Nat) (hi : i < ks.length + 8) : (lentCells ks)[i * 2]? = some (.int .i64 (ks.getD i (0, 0)).1) ∧ (lentCells ks)[i * 2 + 1]? = some (.int .i64 (ks.getD i (0, 0)).2) := by
  unfold lentCells
  by_cases h : i < ks.length
  · have hx : ks[i]? = some ks[i] := by simp [h]
    obtain ⟨e1, e2⟩ := kcells_at ks i _ hx
    rw [List.getElem?_append_left (by rw [kcells_len]; omega), List.getElem?_append_left (by rw [kcells_len]; omega), e1, e2]
    simp [List.getD, hx]
  · have hg : ks.getD i (0, 0) = (0, 0) := by simp [List.getD, List.getElem?_eq_none (show ks.length ≤ i by omega)]
    rw [hg]
    rw [List.getElem?_append_right (by rw [kcells_len]; omega), List.getElem?_append_right (by rw [kcells_len]; omega), List.getElem?_drop, List.getElem?_drop, Array.getElem?_toList, Array.getElem?_toList]
    rw [kcells_len]
    exact ⟨madeK_at _ _ (by omega), madeK_at _ _ (by omega)⟩
theorem lent_take (ks : List (Int × Int)) : (lentCells ks).take (ks.length * 2) = kcells ks := by
  unfold lentCells
  rw [← kcells_len, List.take_left']
  rfl
theorem lent_len (ks : List (Int × Int)) : (lentCells ks).length = (ks.length + 8) * 2 := by
  unfold lentCells
  have := size_madeCells #[.int .i64 0, .int .i64 0] ((ks.length + 8) * 2)
  rw [List.length_append, List.length_drop, kcells_len]
  simp only [Array.length_toList, this]; omega

set_option maxRecDepth 100000 in
set_option maxHeartbeats 1000000 in
theorem sideCrash_walk (w : World) (d p m x l b q : Nat) (D : DA) (ks : List (Int × Int)) (vk : Value) (hd : DevIs w d p m D) (hx : RefIs w x l b q D) (hk : KeepsIn w vk ks) (hwf : KWf ks) (hn : ks.length ≤ 1048576)
    (hap : ∀ a n cap, vk = .slice (some a) n cap → 0 < n → a.block < w.heap.size ∧ a.block ∉ [d, p, m, x, l, b, q]) (hdis : ∀ i ∈ [d, p, m], i ∉ [x, l, b, q]) :
    Calls Try.prog 30 #[.agg #[.pointer (some ⟨d, 0, none⟩), .pointer (some ⟨x, 0, none⟩)], vk] w fun e w' => e = .returned (.bool true) ∧ DevIs w' d p m (D.crash ks).2 ∧ RefIs w' x l b q (D.crash ks).2 ∧ Fr [d, p, m, x, l, b] w w' := by
  obtain ⟨n, hnk⟩ : ∃ n, ks.length = n := ⟨_, rfl⟩
  have hks := hk.shape
  rw [hnk] at hks hn
  obtain ⟨ak, ck, rfl, hk1, hk2⟩ := hks
  unfold maxLen at hk2
  have hmk := run_make_keeps
  have HD := Lib.hid hd
  have HX := Lib.hid hx
  have HK := Lib.hid hk
  have HNK := Lib.hid hnk
  have HW := Lib.hid hwf
  have HA := Lib.hid hap
  have HDis := Lib.hid hdis
  have hmk8 : ∀ W : World, (Instr.makeSlice 33 (.int .i64 ((n : Int) + 8)) (.int .i64 ((n : Int) + 8))).run Try.prog W = .ok (.slice (some ⟨W.heap.size, 0, none⟩) (n + 8) (n + 8)) (W.alloc (.cells (madeCells #[.int .i64 0, .int .i64 0] ((n + 8) * 2)) 84)) := fun W => hmk W (n + 8) (by omega)
  have hsK : (Try.prog.info? 84).map (·.size) = some 2 := by kernel_rfl
  have hgr : ((w.alloc (.cells #[.pointer (some ⟨d, 0, none⟩), .pointer (some ⟨x, 0, none⟩)] 40)).alloc (.cells (madeCells #[.int .i64 0, .int .i64 0] ((n + 8) * 2)) 84)).heap[w.heap.size + 1]? = some (.cells (madeCells #[.int .i64 0, .int .i64 0] ((n + 8) * 2)) 84 (0, 0)) := by
    have := heap_alloc_new (w.alloc (.cells #[.pointer (some ⟨d, 0, none⟩), .pointer (some ⟨x, 0, none⟩)] 40)) (.cells (madeCells #[.int .i64 0, .int .i64 0] ((n + 8) * 2)) 84)
    simpa using this
  have hgb : ((w.alloc (.cells #[.pointer (some ⟨d, 0, none⟩), .pointer (some ⟨x, 0, none⟩)] 40)).alloc (.cells (madeCells #[.int .i64 0, .int .i64 0] ((n + 8) * 2)) 84)).heap[w.heap.size]? = some (.cells #[.pointer (some ⟨d, 0, none⟩), .pointer (some ⟨x, 0, none⟩)] 40 (0, 0)) := by
    rw [Go.heap_alloc_old _ _ (by simp)]
    exact heap_alloc_new w _
  have hfr0 : Fr [] w ((w.alloc (.cells #[.pointer (some ⟨d, 0, none⟩), .pointer (some ⟨x, 0, none⟩)] 40)).alloc (.cells (madeCells #[.int .i64 0, .int .i64 0] ((n + 8) * 2)) 84)) := ((Fr.refl _ _).alloc _).alloc _
  obtain ⟨zc, hzc⟩ : ∃ zc, madeCells #[.int .i64 0, .int .i64 0] ((n + 8) * 2) = zc := ⟨_, rfl⟩
  simp only [hzc] at hmk8 hgr hgb hfr0
  have HZ := Lib.hid hzc
  have hzs : zc.size = (n + 8) * 2 := by rw [← hzc]; exact size_madeCells _ _
  have hlc : (kcells ks).length = n * 2 := by rw [kcells_len, hnk]
  have hone := kcells_one ks
  have hnil : ak = none → n = 0 ∧ ck = 0 := by
    rintro rfl
    rcases hk with ⟨e, e2⟩ | ⟨a, cap, e, _⟩
    · injection e with _ e3 e4
      exact ⟨e3, e4⟩
    · cases e
  have hlent : lentCells ks = kcells ks ++ zc.toList.drop (kcells ks).length := by unfold lentCells; rw [hnk, hzc]
  obtain ⟨kc, hkc⟩ : ∃ kc, kcells ks = kc := ⟨_, rfl⟩
  rw [hkc] at hlc hone hlent
  have HKC := Lib.hid hkc
  have HGR := Lib.hid hgr
  have HGB := Lib.hid hgb
  have HF0 := Lib.hid hfr0
  have HZS := Lib.hid hzs
  have HLC := Lib.hid hlc
  have HONE := Lib.hid hone
  have HNIL := Lib.hid hnil
  have HLENT := Lib.hid hlent
  clear hd hx hk hnk hwf hap hdis hmk hzc hgr hgb hfr0 hzs hlc hone hnil hkc hlent
  go_enter Try.func30, Try.ntmps30
  go_wp2_with (refine wpList_copy_sz rfl _ _ 33 33 rfl 84 2 Try.underlying33 hsK (w.heap.size + 1) (n + 8) (n + 8) ak n ck rfl rfl zc 84 HGR.out kc ?c1 ?c2 ?c3 ?c4 ?c5 ?_)
  case c1 => rw [HLC.out, show Nat.min n (n + 8) = n from Nat.min_eq_left (by omega)]
  case c2 => exact HNIL.out
  case c3 =>
    rintro ad rfl j v hj
    rw [← HKC.out] at hj
    have hk0 := HK.out.src j v hj
    exact HF0.out.cell hk0 (by simp)
  case c4 => rw [HLC.out, HZS.out]; omega
  case c5 => exact HONE.out
  intro w3 hg3 hf3
  have c0 := cell_of_row _ _ 0 _ _ _ (hf3.out.keep HGB.out (by simp))
  have c1 := cell_of_row _ _ 1 _ _ _ (hf3.out.keep HGB.out (by simp))
  simp at c0 c1
  go_wp2_with fail
  go_still_tail 6, (by kernel_rfl)
  refine wpStill_step (fun K hK => ?_)
  go_simp
  rw [if_pos (show (n : Int) ≤ n + 8 by omega)]
  refine ⟨rfl, hK _ ?_⟩
  clear hK K
  refine wpStill_nil ?_
  have hw3s := hf3.out.size
  have hs2 : ((w.alloc (.cells #[.pointer (some ⟨d, 0, none⟩), .pointer (some ⟨x, 0, none⟩)] 40)).alloc (.cells zc 84)).heap.size = w.heap.size + 2 := by simp
  have hF3 : Fr [] w w3.drew := (HF0.out.trans hf3.out (fun i hi => by simp at hi; subst hi; exact .inr (by omega))).drew
  have hlt := HD.out.lt
  have hlt2 := HX.out.lt
  have hKe : Keeps w3.drew (.slice (some ⟨w.heap.size + 1, 0, none⟩) n (n + 8)) ks := by
    refine ⟨by rw [kcells_len], .inr ⟨w.heap.size + 1, n + 8, _, by rw [HNK.out], hg3.out, by rw [HNK.out]; omega, by unfold maxLen; omega, ?_, ?_⟩⟩
    · have := lent_len ks
      rw [HLENT.out, HNK.out] at this
      simp only [List.size_toArray]
      omega
    · rw [← HLENT.out]
      exact lent_take ks
  have hDw := HD.out.keep hF3 (by simp) (by simp) (by simp)
  have hXw := HX.out.keep hF3 (by simp) (by simp) (by simp) (by simp)
  have hcr := crash_walk w3.drew d p m D ks _ hDw hKe HW.out (by rw [HNK.out]; unfold maxLen; omega) (by intro k hk; simp [Value.ownBlock] at hk; omega)
  have HCR := Lib.hid hcr
  have HF3 := Lib.hid hF3
  have HXW := Lib.hid hXw
  have c1' : w3.drew.cell? ⟨w.heap.size, 1, none⟩ = some (.pointer (some ⟨x, 0, none⟩)) := c1
  have hw3d : w3.drew.heap.size = w3.heap.size := rfl
  have hg4 : w3.drew.heap[w.heap.size + 1]? = some (.cells (lentCells ks).toArray 84 (0, 0)) := by rw [HLENT.out]; exact hg3.out
  have HG4 := Lib.hid hg4
  change wpList _ _ _ _ _ w3.drew
  obtain ⟨w4, hw4⟩ : ∃ w4, w3.drew = w4 := ⟨_, rfl⟩
  rw [hw4] at HCR HF3 HXW c1' HG4 hw3d ⊢
  clear hcr hF3 hXw hDw hKe hg3 hf3 hw4 c0 c1 hg4 hs2
  go_wp2_with fail
  refine HCR.out.mono ?_
  rintro e w5 ⟨rfl, hD5, hF5⟩
  have hDis1 : x ∉ [d, p, m] ∧ l ∉ [d, p, m] ∧ b ∉ [d, p, m] ∧ q ∉ [d, p, m] := by
    refine ⟨?_, ?_, ?_, ?_⟩ <;> intro hm <;> exact HDis.out _ hm (by simp)
  have hDis2 : d ∉ [x, l, b] ∧ p ∉ [x, l, b] ∧ m ∉ [x, l, b] := by
    refine ⟨fun hm => HDis.out d (by simp) ?_, fun hm => HDis.out p (by simp) ?_, fun hm => HDis.out m (by simp) ?_⟩ <;> (simp at hm ⊢; omega)
  have hK5 : KeepsIn w5 (.slice ak n ck) ks := (HK.out.keep HF3.out (by simp)).keep hF5 (by
    intro a n' cap' e hp
    have := (HA.out a n' cap' e hp).2
    intro hm; apply this; simp at hm ⊢; omega)
  have hX5 := HXW.out.keep hF5 hDis1.1 hDis1.2.1 hDis1.2.2.1 hDis1.2.2.2
  have hs5 := hF5.size
  have hrc := rcrash_walk w5 x l b q D ks _ hX5 hK5 HW.out (by
    intro a n' cap' e hp
    obtain ⟨h1, h2⟩ := HA.out a n' cap' e hp
    have := HF3.out.size
    simp at h2
    refine ⟨by omega, by omega, by omega, by omega⟩)
  have c1'' := hF5.cell c1' (by simp; omega)
  have hg5 := hF5.keep HG4.out (by simp; omega)
  have HRC := Lib.hid hrc
  have HD5 := Lib.hid hD5
  have HF5 := Lib.hid hF5
  have HK5 := Lib.hid hK5
  have HG5 := Lib.hid hg5
  have HDis2 := Lib.hid hDis2
  clear hrc hD5 hF5 hDis1 hDis2 hK5 hX5 hg5 c1' HCR HG4 HXW
  go_wp2_with fail
  refine HRC.out.mono ?_
  rintro e w6 ⟨rfl, hX6, hF6⟩
  have hK6 : KeepsIn w6 (.slice ak n ck) ks := HK5.out.keep hF6 (by
    intro a n' cap' e hp
    have := (HA.out a n' cap' e hp).2
    intro hm; apply this; simp at hm ⊢; omega)
  have hD6 := HD5.out.keep hF6 HDis2.out.1 HDis2.out.2.1 HDis2.out.2.2
  have hg6 := hF6.keep HG5.out (by simp; omega)
  have hFF : Fr [d, p, m, x, l, b] w w6 := ((HF3.out.weak (T := [d, p, m, x, l, b]) (by simp)).trans (HF5.out.weak (T := [d, p, m, x, l, b]) (by simp)) (fun _ h => .inl h)).trans (hF6.weak (T := [d, p, m, x, l, b]) (by simp)) (fun _ h => .inl h)
  have HK6 := Lib.hid hK6
  have HD6 := Lib.hid hD6
  have HX6 := Lib.hid hX6
  have HG6 := Lib.hid hg6
  have HFF := Lib.hid hFF
  clear hK6 hD6 hX6 hg6 hFF hF6 HRC HD5 HF5 HK5 HG5 HDis2 HF3 c1''
  obtain ⟨r, hr⟩ : ∃ r, (D.crash ks).1 = r := ⟨_, rfl⟩
  rw [hr]
  clear hr
  go_wp2_with fail
  go_loopw [8] (fun i wr => ∃ k : Nat, k ≤ n + 8 ∧ i = .int .i64 k ∧ Fr [] w6 wr) (fun i _ => n + 8 - (intOf i).toNat)
  case atStart => exact ⟨0, Nat.zero_le _, rfl, Fr.refl _ _⟩
  case round =>
    obtain ⟨k, hk, rfl, hfr⟩ := hrel
    have HFR := Lib.hid hfr
    by_cases hlt : k < n + 8
    · obtain ⟨e1, e2⟩ := lent_at ks k (by rw [HNK.out]; exact hlt)
      have hgr := hfr.keep HG6.out (by simp)
      obtain ⟨N, hN⟩ : ∃ N, (ks.getD k (0, 0)).1 = N := ⟨_, rfl⟩
      obtain ⟨B, hB⟩ : ∃ B, (ks.getD k (0, 0)).2 = B := ⟨_, rfl⟩
      rw [hN] at e1
      rw [hB] at e2
      have hf1 : ∀ o : Obj, (wr.alloc o).cell? ⟨w.heap.size + 1, k * 2, none⟩ = some (.int .i64 N) := fun o => by
        rw [cell_of_row _ _ _ _ _ _ (((Fr.refl [] wr).alloc o).keep hgr (by simp)), List.getElem?_toArray]; exact e1
      have hf2 : ∀ o : Obj, (wr.alloc o).cell? ⟨w.heap.size + 1, k * 2 + 1, none⟩ = some (.int .i64 B) := fun o => by
        rw [cell_of_row _ _ _ _ _ _ (((Fr.refl [] wr).alloc o).keep hgr (by simp)), List.getElem?_toArray]; exact e2
      by_cases hkn : k < n
      · obtain ⟨X, hx⟩ := get_of_lt HNK.out hkn
        obtain ⟨N', B'⟩ := X
        obtain ⟨g, cg, ea, d1, d2⟩ := HK6.out.at hx
        injection ea with ea1 ea2 ea3
        subst ea1
        simp only at d1 d2
        have hx2 : ks.getD k (0, 0) = (N', B') := by rw [List.getD, hx]; rfl
        rw [hx2] at hN hB
        simp only at hN hB
        subst hN hB
        have d1' := fun o : Obj => ((hfr.trans_nil ((Fr.refl [] wr).alloc o)).cell d1 (by simp))
        have d2' := fun o : Obj => ((hfr.trans_nil ((Fr.refl [] wr).alloc o)).cell d2 (by simp))
        clear hx hx2 hfr hgr e1 e2 d1 d2 ea2 ea3
        go_wp2_with fail
        go_quiet (fail)
        go_wp2_with fail
        go_roundw
        case rel => exact ⟨k + 1, by omega, by go_num, (HFR.out.alloc _).drewN _⟩
        case measure => simp [intOf]; omega
      · have hx2 : ks.getD k (0, 0) = (0, 0) := by simp [List.getD, List.getElem?_eq_none (show ks.length ≤ k by rw [HNK.out]; omega)]
        rw [hx2] at hN hB
        simp only at hN hB
        subst hN hB
        clear hx2 hfr hgr e1 e2
        go_wp2_with fail
        go_quiet (fail)
        go_wp2_with fail
        go_roundw
        case rel => exact ⟨k + 1, by omega, by go_num, (HFR.out.alloc _).drewN _⟩
        case measure => simp [intOf]; omega
    · obtain rfl : k = n + 8 := by omega
      go_wp2_with fail
      go_ret
      exact ⟨rfl, HD6.out.keep hfr (by simp) (by simp) (by simp), HX6.out.keep hfr (by simp) (by simp) (by simp) (by simp), HFF.out.trans_nil hfr⟩
end Go.Proofs.Ytcpealfaaghpiaa
