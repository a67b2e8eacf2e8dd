/-
  The law: steps of the script (printed by wip/tools/genplay.py). Own work.
-/
import Derived.Deep.RegionHeld3
import Derived.Deep.DeepFit
import Derived.Test.YtcpealfaaghpiaaPlay
namespace Go.Proofs.Ytcpealfaaghpiaa
open Go Go.RowKit Go.Maps Go.Sort Go.Shelf

set_option maxRecDepth 100000 in
set_option maxHeartbeats 1000000 in
theorem play_pages {base : Nat} {ρ : Rho} {w : World} {W : Nat} {A : WA} {B : Nat} (h : WInv base ρ w W A B) (_hB : B ≤ 190) (on n : Int) (s : ByteArray) (ka : Option Addr) (kn kc : Nat)
    (hon1 : -9223372036854775808 ≤ on) (hon2 : on ≤ 9223372036854775807) (_hn1 : -9223372036854775808 ≤ n) (_hn2 : n ≤ 9223372036854775807) :
    Calls Try.prog 5 #[.pointer (some ⟨W, 0, none⟩), .agg #[.int .i64 7, .int .i64 on, .int .i64 n, .string s, .slice ka kn kc]] w (PlayPost base ρ w W B) := by
  obtain ⟨wa, hwa⟩ : ∃ wa, w.alloc (.cells #[.int .i64 7, .int .i64 on, .int .i64 n, .string s, .slice ka kn kc] 35) = wa := ⟨_, rfl⟩
  have hfa : Fr [] w wa := by rw [← hwa]; exact (Fr.refl _ _).alloc _
  have hbox : wa.heap[w.heap.size]? = some (.cells #[.int .i64 7, .int .i64 on, .int .i64 n, .string s, .slice ka kn kc] 35 (0, 0)) := by rw [← hwa]; exact heap_alloc_new w _
  have b0 := cell_of_row _ _ 0 _ _ _ hbox
  have b1 := cell_of_row _ _ 1 _ _ _ hbox
  have b2 := cell_of_row _ _ 2 _ _ _ hbox
  have b3 := cell_of_row _ _ 3 _ _ _ hbox
  have b4 := cell_of_row _ _ 4 _ _ _ hbox
  simp at b0 b1 b2 b3 b4
  have hmk := makes_other wa W 7 on n s ka kn kc (by decide) (by decide)
  obtain ⟨va, vc, hvl, hv1, hv2⟩ := h.sides.1.shape
  unfold maxLen at hv2
  have hns := h.five
  obtain ⟨ns, hnse⟩ : ∃ ns, A.sides.length = ns := ⟨_, rfl⟩
  rw [hnse] at hvl hv1 hns
  have hW := h.cW
  have d0 := cell_of_row _ _ 0 _ _ _ hW
  simp [WA.cells, hvl] at d0
  have d0a := hfa.cell d0 (by simp)
  have HI := Lib.hid h
  have HFA := Lib.hid hfa
  have HB := Lib.hid hbox
  have HMK := Lib.hid hmk
  have HVL := Lib.hid hvl
  have HNS := Lib.hid hnse
  clear h hfa hbox hmk hvl hnse hW d0
  go_enter Try.func5, Try.ntmps5
  go_wp2_with fail
  refine HMK.out.mono ?_
  rintro e w1 ⟨rfl, hf1⟩
  have d1 := hf1.cell d0a (by simp)
  have c1 := hf1.cell b1 (by simp)
  have HF1 := Lib.hid hf1
  clear hf1
  by_cases hz : ns = 0
  · subst hz
    go_wp2_with fail
    go_ret
    exact PlayPost.quiet HI.out (HFA.out.trans_nil HF1.out)
  have hns0 : 0 < ns := by omega
  have hns1 : (ns == 0) = false := by simp; omega
  obtain ⟨i, hi⟩ : ∃ i, pickN on ns = i := ⟨_, rfl⟩
  have hilt : i < ns := by rw [← hi]; exact pickN_lt on hns0
  obtain ⟨sd, hsd⟩ := get_of_lt HNS.out hilt
  obtain ⟨g, cap, eg, _, _, e0, e1⟩ := side_cells HI.out.sides hsd
  rw [HVL.out, HNS.out] at eg
  injection eg with eg1 eg2 eg3
  subst eg1 eg3
  have e0' := HF1.out.cell (HFA.out.cell e0 (by simp)) (by simp)
  have e1' := HF1.out.cell (HFA.out.cell e1 (by simp)) (by simp)
  have HPI := Lib.hid hi
  have HSD := Lib.hid hsd
  clear hi hsd eg2 e0 e1 d0a
  go_upto_region 4 with fail
  go_cut [7] (fun t wx => t = .pointer (some ⟨w1.heap.size, 0, none⟩) ∧ Fr [] w1 wx ∧ wx.heap[w1.heap.size]? = some (.cells #[.pointer (some ⟨sd.d, 0, none⟩), .pointer (some ⟨sd.x, 0, none⟩)] 40 (0, 0)))
  case first =>
    have hpk : ∀ W : World, Calls Try.prog 6 #[.int .i64 on, .int .i64 ns] W fun e w' => e = .returned (.int .i64 i) ∧ W = w' := fun W => by
      rw [← HPI.out]; exact pick_walk W on ns (by omega) (by omega) hon1 hon2
    have HPK := Lib.hid hpk
    clear hpk
    have n1 := World.new_ne w1 _ d1
    have n2 := World.new_ne w1 _ c1
    have n3 := World.new_ne w1 _ e0'
    simp only at n1 n2 n3
    go_region_held3 (fun w' => w'.cell? ⟨W, 0, none⟩ = some (.slice (some ⟨g, 0, none⟩) ns vc) ∧ w'.cell? ⟨w.heap.size, 1, none⟩ = some (.int .i64 on) ∧ w'.cell? ⟨g, i * 2, none⟩ = some (.pointer (some ⟨sd.d, 0, none⟩)) ∧ w'.cell? ⟨g, i * 2 + 1, none⟩ = some (.pointer (some ⟨sd.x, 0, none⟩))) (go_keep)
      (first | (go_at_call 6; refine (HPK.out _).mono ?_; rintro e w' ⟨rfl, rfl⟩))
    all_goals
      go_wp2_with fail
      go_meet
      exact ⟨rfl, ((Fr.refl [] w1).alloc _).drew, heap_alloc_new w1 _⟩
  case rest =>
    obtain ⟨rfl, hfc, hsb⟩ := hcut
    have hfw : Fr [] w wc := (HFA.out.trans_nil HF1.out).trans_nil hfc
    have k0 := hfc.cell (HF1.out.cell b0 (by simp)) (by simp)
    have k1 := hfc.cell (HF1.out.cell b1 (by simp)) (by simp)
    have k2 := hfc.cell (HF1.out.cell b2 (by simp)) (by simp)
    have k3 := hfc.cell (HF1.out.cell b3 (by simp)) (by simp)
    have k4 := hfc.cell (HF1.out.cell b4 (by simp)) (by simp)
    have q0 := cell_of_row _ _ 0 _ _ _ hsb
    have q1 := cell_of_row _ _ 1 _ _ _ hsb
    simp at q0 q1
    have hbx1 : w.heap.size ≤ w1.heap.size := Nat.le_trans HFA.out.size HF1.out.size
    have hside := HI.out.dev i sd HSD.out
    have HSI := Lib.hid hside
    have HFW := Lib.hid hfw
    have HSB := Lib.hid hsb
    have HFC := Lib.hid hfc
    clear hfw hsb hfc hside b0 b1 b2 b3 b4 d1 c1 e0' e1' hns1
    have hz0 : w.heap.size ≤ wc.heap.size := HFW.out.size
    go_wp2_with fail
    refine (pages_walk wc sd.d sd.p sd.m sd.D (HSI.out.dev_at HFW.out)).mono ?_
    rintro e w2 ⟨va, rfl, hva, hf2, hna⟩
    have q0a := hf2.cell q0 (by simp)
    have q1a := hf2.cell q1 (by simp)
    have hz2 := hf2.size
    have HVA := Lib.hid hva
    have HNA := Lib.hid hna
    have HF2 := Lib.hid (HFW.out.trans_nil hf2)
    clear hva hna hf2
    go_wp2_with fail
    refine (pages_walk w2 sd.d sd.p sd.m sd.D (HSI.out.dev_at HF2.out)).mono ?_
    rintro e w3 ⟨vb, rfl, hvb, hf3, hnb⟩
    have q1b := hf3.cell q1a (by simp)
    have hz3 := hf3.size
    have HVA3 := Lib.hid (Row.keep_nil HVA.out hf3)
    have HVB := Lib.hid hvb
    have HNB := Lib.hid hnb
    have HF3 := Lib.hid (HF2.out.trans_nil hf3)
    clear hvb hnb hf3
    go_wp2_with fail
    refine (rpages_walk w3 sd.x sd.l sd.b sd.q sd.D (HSI.out.ref_at HF3.out)).mono ?_
    rintro e w4 ⟨vx, rfl, hvx, hf4, hnx⟩
    have q1c := hf4.cell q1b (by simp)
    have hz4 := hf4.size
    have HF4 := Lib.hid (HF3.out.trans_nil hf4)
    have HVA4 := Lib.hid (Row.keep_nil HVA3.out hf4)
    have HVB4 := Lib.hid (Row.keep_nil HVB.out hf4)
    have HVX := Lib.hid hvx
    clear hvx hf4 hnx
    go_wp2_with fail
    refine (same_yes w4 va vx sd.D.L HVA4.out HVX.out).mono ?_
    rintro e w5 ⟨rfl, hf5⟩
    have q1d := hf5.cell q1c (by simp)
    have hz5 := hf5.size
    have HF5 := Lib.hid (HF4.out.trans_nil hf5)
    have HVA5 := Lib.hid (Row.keep_nil HVA4.out hf5)
    have HVB5 := Lib.hid (Row.keep_nil HVB4.out hf5)
    clear hf5
    go_wp2_with fail
    refine (rpages_walk w5 sd.x sd.l sd.b sd.q sd.D (HSI.out.ref_at HF5.out)).mono ?_
    rintro e w6 ⟨vy, rfl, hvy, hf6, hny⟩
    have hz6 := hf6.size
    have HF6 := Lib.hid (HF5.out.trans_nil hf6)
    have HVA6 := Lib.hid (Row.keep_nil HVA5.out hf6)
    have HVB6 := Lib.hid (Row.keep_nil HVB5.out hf6)
    have HVY := Lib.hid hvy
    clear hvy hf6 hny
    go_wp2_with fail
    refine (same_yes w6 vb vy sd.D.L HVB6.out HVY.out).mono ?_
    rintro e w7 ⟨rfl, hf7⟩
    have hz7 := hf7.size
    have HF7 := Lib.hid (HF6.out.trans_nil hf7)
    have HVA7 := Lib.hid (Row.keep_nil HVA6.out hf7)
    have HVB7 := Lib.hid (Row.keep_nil HVB6.out hf7)
    clear hf7
    go_wp2_with fail
    refine (wpages_walk (HI.out.keep_nil HF7.out) (by omega) va sd.D.L HVA7.out HSI.out.dev.wf.hi (fun k hk => HI.out.new (Nat.le_trans hz0 (HNA.out k hk)))).mono ?_
    rintro e w8 ⟨rfl, ρ1, A1, i1, _, x1, s1, st1⟩
    have HI1 := Lib.hid i1
    have HX1 := Lib.hid x1
    have HS1 := Lib.hid s1
    have HST := Lib.hid st1
    clear i1 x1 s1 st1
    have hnoB : ∀ k, vb.ownBlock = some k → ρ k = none ∧ base ≤ k := fun k hk => HI.out.new (by have := HNB.out k hk; omega)
    have hVB8 : Strs w8 9 vb sd.D.L := by
      obtain ⟨S, hS, oS⟩ := HS1.out
      refine Row.keep HVB7.out hS fun k hk hm => ?_
      have := oS k hm
      rw [(hnoB k hk).1] at this
      cases this
    have hnB1 : ∀ k, vb.ownBlock = some k → ρ1 k = none ∧ base ≤ k := fun k hk => by
      have hkb := HNB.out k hk
      have hkl := Row.lt HVB7.out hk
      refine ⟨HST.out k hkl (fun e => ?_) (hnoB k hk).1, (hnoB k hk).2⟩
      have := Row.lt HVA.out e
      omega
    have HVB8 := Lib.hid hVB8
    have HNB1 := Lib.hid hnB1
    clear hVB8 hnB1 hnoB
    go_wp2_with fail
    refine (wpages_walk HI1.out (by omega) vb sd.D.L HVB8.out HSI.out.dev.wf.hi HNB1.out).mono ?_
    rintro e w9 ⟨rfl, ρ2, A2, i2, _, x2, s2, _⟩
    have HI2 := Lib.hid i2
    have HX2 := Lib.hid x2
    have HS2 := Lib.hid s2
    clear i2 x2 s2
    go_wp2_with fail
    go_ret
    exact PlayPost.lists HI.out HF7.out HX1.out HS1.out HI2.out HX2.out HI1.out HS2.out (fun k hk hn => HST.out k (by omega) (fun e => by have := HNA.out k e; omega) hn)


set_option maxRecDepth 100000 in
set_option maxHeartbeats 1000000 in
theorem play_pending {base : Nat} {ρ : Rho} {w : World} {W : Nat} {A : WA} {B : Nat} (h : WInv base ρ w W A B) (_hB : B ≤ 190) (on n : Int) (s : ByteArray) (ka : Option Addr) (kn kc : Nat)
    (hon1 : -9223372036854775808 ≤ on) (hon2 : on ≤ 9223372036854775807) (_hn1 : -9223372036854775808 ≤ n) (_hn2 : n ≤ 9223372036854775807) :
    Calls Try.prog 5 #[.pointer (some ⟨W, 0, none⟩), .agg #[.int .i64 6, .int .i64 on, .int .i64 n, .string s, .slice ka kn kc]] w (PlayPost base ρ w W B) := by
  obtain ⟨wa, hwa⟩ : ∃ wa, w.alloc (.cells #[.int .i64 6, .int .i64 on, .int .i64 n, .string s, .slice ka kn kc] 35) = wa := ⟨_, rfl⟩
  have hfa : Fr [] w wa := by rw [← hwa]; exact (Fr.refl _ _).alloc _
  have hbox : wa.heap[w.heap.size]? = some (.cells #[.int .i64 6, .int .i64 on, .int .i64 n, .string s, .slice ka kn kc] 35 (0, 0)) := by rw [← hwa]; exact heap_alloc_new w _
  have b0 := cell_of_row _ _ 0 _ _ _ hbox
  have b1 := cell_of_row _ _ 1 _ _ _ hbox
  have b2 := cell_of_row _ _ 2 _ _ _ hbox
  have b3 := cell_of_row _ _ 3 _ _ _ hbox
  have b4 := cell_of_row _ _ 4 _ _ _ hbox
  simp at b0 b1 b2 b3 b4
  have hmk := makes_other wa W 6 on n s ka kn kc (by decide) (by decide)
  obtain ⟨va, vc, hvl, hv1, hv2⟩ := h.sides.1.shape
  unfold maxLen at hv2
  have hns := h.five
  obtain ⟨ns, hnse⟩ : ∃ ns, A.sides.length = ns := ⟨_, rfl⟩
  rw [hnse] at hvl hv1 hns
  have hW := h.cW
  have d0 := cell_of_row _ _ 0 _ _ _ hW
  simp [WA.cells, hvl] at d0
  have d0a := hfa.cell d0 (by simp)
  have HI := Lib.hid h
  have HFA := Lib.hid hfa
  have HB := Lib.hid hbox
  have HMK := Lib.hid hmk
  have HVL := Lib.hid hvl
  have HNS := Lib.hid hnse
  clear h hfa hbox hmk hvl hnse hW d0
  go_enter Try.func5, Try.ntmps5
  go_wp2_with fail
  refine HMK.out.mono ?_
  rintro e w1 ⟨rfl, hf1⟩
  have d1 := hf1.cell d0a (by simp)
  have c1 := hf1.cell b1 (by simp)
  have HF1 := Lib.hid hf1
  clear hf1
  by_cases hz : ns = 0
  · subst hz
    go_wp2_with fail
    go_ret
    exact PlayPost.quiet HI.out (HFA.out.trans_nil HF1.out)
  have hns0 : 0 < ns := by omega
  have hns1 : (ns == 0) = false := by simp; omega
  obtain ⟨i, hi⟩ : ∃ i, pickN on ns = i := ⟨_, rfl⟩
  have hilt : i < ns := by rw [← hi]; exact pickN_lt on hns0
  obtain ⟨sd, hsd⟩ := get_of_lt HNS.out hilt
  obtain ⟨g, cap, eg, _, _, e0, e1⟩ := side_cells HI.out.sides hsd
  rw [HVL.out, HNS.out] at eg
  injection eg with eg1 eg2 eg3
  subst eg1 eg3
  have e0' := HF1.out.cell (HFA.out.cell e0 (by simp)) (by simp)
  have e1' := HF1.out.cell (HFA.out.cell e1 (by simp)) (by simp)
  have HPI := Lib.hid hi
  have HSD := Lib.hid hsd
  clear hi hsd eg2 e0 e1 d0a
  go_upto_region 4 with fail
  go_cut [7] (fun t wx => t = .pointer (some ⟨w1.heap.size, 0, none⟩) ∧ Fr [] w1 wx ∧ wx.heap[w1.heap.size]? = some (.cells #[.pointer (some ⟨sd.d, 0, none⟩), .pointer (some ⟨sd.x, 0, none⟩)] 40 (0, 0)))
  case first =>
    have hpk : ∀ W : World, Calls Try.prog 6 #[.int .i64 on, .int .i64 ns] W fun e w' => e = .returned (.int .i64 i) ∧ W = w' := fun W => by
      rw [← HPI.out]; exact pick_walk W on ns (by omega) (by omega) hon1 hon2
    have HPK := Lib.hid hpk
    clear hpk
    have n1 := World.new_ne w1 _ d1
    have n2 := World.new_ne w1 _ c1
    have n3 := World.new_ne w1 _ e0'
    simp only at n1 n2 n3
    go_region_held3 (fun w' => w'.cell? ⟨W, 0, none⟩ = some (.slice (some ⟨g, 0, none⟩) ns vc) ∧ w'.cell? ⟨w.heap.size, 1, none⟩ = some (.int .i64 on) ∧ w'.cell? ⟨g, i * 2, none⟩ = some (.pointer (some ⟨sd.d, 0, none⟩)) ∧ w'.cell? ⟨g, i * 2 + 1, none⟩ = some (.pointer (some ⟨sd.x, 0, none⟩))) (go_keep)
      (first | (go_at_call 6; refine (HPK.out _).mono ?_; rintro e w' ⟨rfl, rfl⟩))
    all_goals
      go_wp2_with fail
      go_meet
      exact ⟨rfl, ((Fr.refl [] w1).alloc _).drew, heap_alloc_new w1 _⟩
  case rest =>
    obtain ⟨rfl, hfc, hsb⟩ := hcut
    have hfw : Fr [] w wc := (HFA.out.trans_nil HF1.out).trans_nil hfc
    have k0 := hfc.cell (HF1.out.cell b0 (by simp)) (by simp)
    have k1 := hfc.cell (HF1.out.cell b1 (by simp)) (by simp)
    have k2 := hfc.cell (HF1.out.cell b2 (by simp)) (by simp)
    have k3 := hfc.cell (HF1.out.cell b3 (by simp)) (by simp)
    have k4 := hfc.cell (HF1.out.cell b4 (by simp)) (by simp)
    have q0 := cell_of_row _ _ 0 _ _ _ hsb
    have q1 := cell_of_row _ _ 1 _ _ _ hsb
    simp at q0 q1
    have hbx1 : w.heap.size ≤ w1.heap.size := Nat.le_trans HFA.out.size HF1.out.size
    have hside := HI.out.dev i sd HSD.out
    have HSI := Lib.hid hside
    have HFW := Lib.hid hfw
    have HSB := Lib.hid hsb
    have HFC := Lib.hid hfc
    clear hfw hsb hfc hside b0 b1 b2 b3 b4 d1 c1 e0' e1' hns1
    have hz0 : w.heap.size ≤ wc.heap.size := HFW.out.size
    go_wp2_with fail
    refine (pending_walk wc sd.d sd.p sd.m sd.D (HSI.out.dev_at HFW.out)).mono ?_
    rintro e w2 ⟨va, rfl, hva, hf2, hna⟩
    have q0a := hf2.cell q0 (by simp)
    have q1a := hf2.cell q1 (by simp)
    have hz2 := hf2.size
    have HVA := Lib.hid hva
    have HNA := Lib.hid hna
    have HF2 := Lib.hid (HFW.out.trans_nil hf2)
    clear hva hna hf2
    go_wp2_with fail
    refine (pending_walk w2 sd.d sd.p sd.m sd.D (HSI.out.dev_at HF2.out)).mono ?_
    rintro e w3 ⟨vb, rfl, hvb, hf3, hnb⟩
    have q1b := hf3.cell q1a (by simp)
    have hz3 := hf3.size
    have HVA3 := Lib.hid (Row.keep_nil HVA.out hf3)
    have HVB := Lib.hid hvb
    have HNB := Lib.hid hnb
    have HF3 := Lib.hid (HF2.out.trans_nil hf3)
    clear hvb hnb hf3
    go_wp2_with fail
    refine (rpending_walk w3 sd.x sd.l sd.b sd.q sd.D (HSI.out.ref_at HF3.out)).mono ?_
    rintro e w4 ⟨vx, rfl, hvx, hf4, hnx⟩
    have q1c := hf4.cell q1b (by simp)
    have hz4 := hf4.size
    have HF4 := Lib.hid (HF3.out.trans_nil hf4)
    have HVA4 := Lib.hid (Row.keep_nil HVA3.out hf4)
    have HVB4 := Lib.hid (Row.keep_nil HVB.out hf4)
    have HVX := Lib.hid hvx
    clear hvx hf4 hnx
    go_wp2_with fail
    refine (sameW_yes w4 va vx sd.D.pending HVA4.out HVX.out).mono ?_
    rintro e w5 ⟨rfl, hf5⟩
    have q1d := hf5.cell q1c (by simp)
    have hz5 := hf5.size
    have HF5 := Lib.hid (HF4.out.trans_nil hf5)
    have HVA5 := Lib.hid (Row.keep_nil HVA4.out hf5)
    have HVB5 := Lib.hid (Row.keep_nil HVB4.out hf5)
    clear hf5
    go_wp2_with fail
    refine (rpending_walk w5 sd.x sd.l sd.b sd.q sd.D (HSI.out.ref_at HF5.out)).mono ?_
    rintro e w6 ⟨vy, rfl, hvy, hf6, hny⟩
    have hz6 := hf6.size
    have HF6 := Lib.hid (HF5.out.trans_nil hf6)
    have HVA6 := Lib.hid (Row.keep_nil HVA5.out hf6)
    have HVB6 := Lib.hid (Row.keep_nil HVB5.out hf6)
    have HVY := Lib.hid hvy
    clear hvy hf6 hny
    go_wp2_with fail
    refine (sameW_yes w6 vb vy sd.D.pending HVB6.out HVY.out).mono ?_
    rintro e w7 ⟨rfl, hf7⟩
    have hz7 := hf7.size
    have HF7 := Lib.hid (HF6.out.trans_nil hf7)
    have HVA7 := Lib.hid (Row.keep_nil HVA6.out hf7)
    have HVB7 := Lib.hid (Row.keep_nil HVB6.out hf7)
    clear hf7
    go_wp2_with fail
    refine (wwrites_walk (HI.out.keep_nil HF7.out) (by omega) va sd.D.pending HVA7.out (pending_bound HSI.out.dev.wf) (fun k hk => HI.out.new (Nat.le_trans hz0 (HNA.out k hk)))).mono ?_
    rintro e w8 ⟨rfl, ρ1, A1, i1, _, x1, s1, st1⟩
    have HI1 := Lib.hid i1
    have HX1 := Lib.hid x1
    have HS1 := Lib.hid s1
    have HST := Lib.hid st1
    clear i1 x1 s1 st1
    have hnoB : ∀ k, vb.ownBlock = some k → ρ k = none ∧ base ≤ k := fun k hk => HI.out.new (by have := HNB.out k hk; omega)
    have hVB8 : Writes w8 vb sd.D.pending := by
      obtain ⟨S, hS, oS⟩ := HS1.out
      refine Row.keep HVB7.out hS fun k hk hm => ?_
      have := oS k hm
      rw [(hnoB k hk).1] at this
      cases this
    have hnB1 : ∀ k, vb.ownBlock = some k → ρ1 k = none ∧ base ≤ k := fun k hk => by
      have hkb := HNB.out k hk
      have hkl := Row.lt HVB7.out hk
      refine ⟨HST.out k hkl (fun e => ?_) (hnoB k hk).1, (hnoB k hk).2⟩
      have := Row.lt HVA.out e
      omega
    have HVB8 := Lib.hid hVB8
    have HNB1 := Lib.hid hnB1
    clear hVB8 hnB1 hnoB
    go_wp2_with fail
    refine (wwrites_walk HI1.out (by omega) vb sd.D.pending HVB8.out (pending_bound HSI.out.dev.wf) HNB1.out).mono ?_
    rintro e w9 ⟨rfl, ρ2, A2, i2, _, x2, s2, _⟩
    have HI2 := Lib.hid i2
    have HX2 := Lib.hid x2
    have HS2 := Lib.hid s2
    clear i2 x2 s2
    go_wp2_with fail
    go_ret
    exact PlayPost.lists HI.out HF7.out HX1.out HS1.out HI2.out HX2.out HI1.out HS2.out (fun k hk hn => HST.out k (by omega) (fun e => by have := HNA.out k e; omega) hn)


end Go.Proofs.Ytcpealfaaghpiaa
