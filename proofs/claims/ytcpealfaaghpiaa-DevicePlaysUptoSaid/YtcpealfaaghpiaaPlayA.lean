/-
  The law: steps of the script (printed by wip/tools/genplay.py). Own work.
-/
import Derived.Deep.RegionHeld3
import Derived.Deep.DeepFit
import Derived.Test.YtcpealfaaghpiaaPlay
namespace Go.Proofs.Ytcpealfaaghpiaa
open Go Go.RowKit Go.Maps Go.Sort Go.Shelf

set_option maxRecDepth 100000 in
set_option maxHeartbeats 1000000 in
theorem play_write {base : Nat} {ρ : Rho} {w : World} {W : Nat} {A : WA} {B : Nat} (h : WInv base ρ w W A B) (_hB : B ≤ 190) (on n : Int) (s : ByteArray) (ka : Option Addr) (kn kc : Nat)
    (hon1 : -9223372036854775808 ≤ on) (hon2 : on ≤ 9223372036854775807) (_hn1 : -9223372036854775808 ≤ n) (_hn2 : n ≤ 9223372036854775807) :
    Calls Try.prog 5 #[.pointer (some ⟨W, 0, none⟩), .agg #[.int .i64 2, .int .i64 on, .int .i64 n, .string s, .slice ka kn kc]] w (PlayPost base ρ w W B) := by
  obtain ⟨wa, hwa⟩ : ∃ wa, w.alloc (.cells #[.int .i64 2, .int .i64 on, .int .i64 n, .string s, .slice ka kn kc] 35) = wa := ⟨_, rfl⟩
  have hfa : Fr [] w wa := by rw [← hwa]; exact (Fr.refl _ _).alloc _
  have hbox : wa.heap[w.heap.size]? = some (.cells #[.int .i64 2, .int .i64 on, .int .i64 n, .string s, .slice ka kn kc] 35 (0, 0)) := by rw [← hwa]; exact heap_alloc_new w _
  have b0 := cell_of_row _ _ 0 _ _ _ hbox
  have b1 := cell_of_row _ _ 1 _ _ _ hbox
  have b2 := cell_of_row _ _ 2 _ _ _ hbox
  have b3 := cell_of_row _ _ 3 _ _ _ hbox
  have b4 := cell_of_row _ _ 4 _ _ _ hbox
  simp at b0 b1 b2 b3 b4
  have hmk := makes_other wa W 2 on n s ka kn kc (by decide) (by decide)
  obtain ⟨va, vc, hvl, hv1, hv2⟩ := h.sides.1.shape
  unfold maxLen at hv2
  have hns := h.five
  obtain ⟨ns, hnse⟩ : ∃ ns, A.sides.length = ns := ⟨_, rfl⟩
  rw [hnse] at hvl hv1 hns
  have hW := h.cW
  have d0 := cell_of_row _ _ 0 _ _ _ hW
  simp [WA.cells, hvl] at d0
  have d0a := hfa.cell d0 (by simp)
  have HI := Lib.hid h
  have HFA := Lib.hid hfa
  have HB := Lib.hid hbox
  have HMK := Lib.hid hmk
  have HVL := Lib.hid hvl
  have HNS := Lib.hid hnse
  clear h hfa hbox hmk hvl hnse hW d0
  go_enter Try.func5, Try.ntmps5
  go_wp2_with fail
  refine HMK.out.mono ?_
  rintro e w1 ⟨rfl, hf1⟩
  have d1 := hf1.cell d0a (by simp)
  have c1 := hf1.cell b1 (by simp)
  have HF1 := Lib.hid hf1
  clear hf1
  by_cases hz : ns = 0
  · subst hz
    go_wp2_with fail
    go_ret
    exact PlayPost.quiet HI.out (HFA.out.trans_nil HF1.out)
  have hns0 : 0 < ns := by omega
  have hns1 : (ns == 0) = false := by simp; omega
  obtain ⟨i, hi⟩ : ∃ i, pickN on ns = i := ⟨_, rfl⟩
  have hilt : i < ns := by rw [← hi]; exact pickN_lt on hns0
  obtain ⟨sd, hsd⟩ := get_of_lt HNS.out hilt
  obtain ⟨g, cap, eg, _, _, e0, e1⟩ := side_cells HI.out.sides hsd
  rw [HVL.out, HNS.out] at eg
  injection eg with eg1 eg2 eg3
  subst eg1 eg3
  have e0' := HF1.out.cell (HFA.out.cell e0 (by simp)) (by simp)
  have e1' := HF1.out.cell (HFA.out.cell e1 (by simp)) (by simp)
  have HPI := Lib.hid hi
  have HSD := Lib.hid hsd
  clear hi hsd eg2 e0 e1 d0a
  go_upto_region 4 with fail
  go_cut [7] (fun t wx => t = .pointer (some ⟨w1.heap.size, 0, none⟩) ∧ Fr [] w1 wx ∧ wx.heap[w1.heap.size]? = some (.cells #[.pointer (some ⟨sd.d, 0, none⟩), .pointer (some ⟨sd.x, 0, none⟩)] 40 (0, 0)))
  case first =>
    have hpk : ∀ W : World, Calls Try.prog 6 #[.int .i64 on, .int .i64 ns] W fun e w' => e = .returned (.int .i64 i) ∧ W = w' := fun W => by
      rw [← HPI.out]; exact pick_walk W on ns (by omega) (by omega) hon1 hon2
    have HPK := Lib.hid hpk
    clear hpk
    have n1 := World.new_ne w1 _ d1
    have n2 := World.new_ne w1 _ c1
    have n3 := World.new_ne w1 _ e0'
    simp only at n1 n2 n3
    go_region_held3 (fun w' => w'.cell? ⟨W, 0, none⟩ = some (.slice (some ⟨g, 0, none⟩) ns vc) ∧ w'.cell? ⟨w.heap.size, 1, none⟩ = some (.int .i64 on) ∧ w'.cell? ⟨g, i * 2, none⟩ = some (.pointer (some ⟨sd.d, 0, none⟩)) ∧ w'.cell? ⟨g, i * 2 + 1, none⟩ = some (.pointer (some ⟨sd.x, 0, none⟩))) (go_keep)
      (first | (go_at_call 6; refine (HPK.out _).mono ?_; rintro e w' ⟨rfl, rfl⟩))
    all_goals
      go_wp2_with fail
      go_meet
      exact ⟨rfl, ((Fr.refl [] w1).alloc _).drew, heap_alloc_new w1 _⟩
  case rest =>
    obtain ⟨rfl, hfc, hsb⟩ := hcut
    have hfw : Fr [] w wc := (HFA.out.trans_nil HF1.out).trans_nil hfc
    have k0 := hfc.cell (HF1.out.cell b0 (by simp)) (by simp)
    have k1 := hfc.cell (HF1.out.cell b1 (by simp)) (by simp)
    have k2 := hfc.cell (HF1.out.cell b2 (by simp)) (by simp)
    have k3 := hfc.cell (HF1.out.cell b3 (by simp)) (by simp)
    have k4 := hfc.cell (HF1.out.cell b4 (by simp)) (by simp)
    have q0 := cell_of_row _ _ 0 _ _ _ hsb
    have q1 := cell_of_row _ _ 1 _ _ _ hsb
    simp at q0 q1
    have hbx1 : w.heap.size ≤ w1.heap.size := Nat.le_trans HFA.out.size HF1.out.size
    have hside := HI.out.dev i sd HSD.out
    have HSI := Lib.hid hside
    have HFW := Lib.hid hfw
    have HSB := Lib.hid hsb
    have HFC := Lib.hid hfc
    clear hfw hsb hfc hside b0 b1 b2 b3 b4 d1 c1 e0' e1' hns1
    obtain ⟨r, hr⟩ : ∃ r, (sd.D.write n s).1 = r := ⟨_, rfl⟩
    have hdw := write_walk wc sd.d sd.p sd.m sd.D n s (HSI.out.dev_at HFW.out)
    rw [hr] at hdw
    have HDW := Lib.hid hdw
    have HR := Lib.hid hr
    clear hdw hr
    go_wp2_with fail
    refine HDW.out.mono ?_
    rintro e w5 ⟨rfl, hd5, hf5⟩
    have q1' := HSI.out.cell_later hf5 (by intro k hk; simp at hk ⊢; rcases hk with q | q <;> simp [q]) q1 hbx1
    have k2' := HSI.out.cell_later hf5 (by intro k hk; simp at hk ⊢; rcases hk with q | q <;> simp [q]) k2 (Nat.le_refl _)
    have k3' := HSI.out.cell_later hf5 (by intro k hk; simp at hk ⊢; rcases hk with q | q <;> simp [q]) k3 (Nat.le_refl _)
    have hrw := rwrite_walk w5 sd.x sd.l sd.b sd.q sd.D n s (HSI.out.ref_later HFW.out hf5 (by intro k hk; simp at hk ⊢; rcases hk with q | q <;> simp [q]))
    rw [HR.out] at hrw
    have HRW := Lib.hid hrw
    have HD5 := Lib.hid hd5
    have HF5 := Lib.hid hf5
    clear hrw hd5 hf5 HDW
    go_wp2_with fail
    refine HRW.out.mono ?_
    rintro e w6 ⟨rfl, hr6, hf6⟩
    have HR6 := Lib.hid hr6
    have HF6 := Lib.hid hf6
    clear hr6 hf6 HRW
    go_wp2_with fail
    go_ret
    exact PlayPost.both HI.out HSD.out HFW.out HF5.out (by intro k hk; simp at hk ⊢; rcases hk with q | q <;> simp [q]) HD5.out HF6.out (by intro k hk; simp at hk ⊢; rcases hk with q | q | q <;> simp [q]) HR6.out


set_option maxRecDepth 100000 in
set_option maxHeartbeats 1000000 in
theorem play_flush {base : Nat} {ρ : Rho} {w : World} {W : Nat} {A : WA} {B : Nat} (h : WInv base ρ w W A B) (_hB : B ≤ 190) (on n : Int) (s : ByteArray) (ka : Option Addr) (kn kc : Nat)
    (hon1 : -9223372036854775808 ≤ on) (hon2 : on ≤ 9223372036854775807) (_hn1 : -9223372036854775808 ≤ n) (_hn2 : n ≤ 9223372036854775807) :
    Calls Try.prog 5 #[.pointer (some ⟨W, 0, none⟩), .agg #[.int .i64 4, .int .i64 on, .int .i64 n, .string s, .slice ka kn kc]] w (PlayPost base ρ w W B) := by
  obtain ⟨wa, hwa⟩ : ∃ wa, w.alloc (.cells #[.int .i64 4, .int .i64 on, .int .i64 n, .string s, .slice ka kn kc] 35) = wa := ⟨_, rfl⟩
  have hfa : Fr [] w wa := by rw [← hwa]; exact (Fr.refl _ _).alloc _
  have hbox : wa.heap[w.heap.size]? = some (.cells #[.int .i64 4, .int .i64 on, .int .i64 n, .string s, .slice ka kn kc] 35 (0, 0)) := by rw [← hwa]; exact heap_alloc_new w _
  have b0 := cell_of_row _ _ 0 _ _ _ hbox
  have b1 := cell_of_row _ _ 1 _ _ _ hbox
  have b2 := cell_of_row _ _ 2 _ _ _ hbox
  have b3 := cell_of_row _ _ 3 _ _ _ hbox
  have b4 := cell_of_row _ _ 4 _ _ _ hbox
  simp at b0 b1 b2 b3 b4
  have hmk := makes_other wa W 4 on n s ka kn kc (by decide) (by decide)
  obtain ⟨va, vc, hvl, hv1, hv2⟩ := h.sides.1.shape
  unfold maxLen at hv2
  have hns := h.five
  obtain ⟨ns, hnse⟩ : ∃ ns, A.sides.length = ns := ⟨_, rfl⟩
  rw [hnse] at hvl hv1 hns
  have hW := h.cW
  have d0 := cell_of_row _ _ 0 _ _ _ hW
  simp [WA.cells, hvl] at d0
  have d0a := hfa.cell d0 (by simp)
  have HI := Lib.hid h
  have HFA := Lib.hid hfa
  have HB := Lib.hid hbox
  have HMK := Lib.hid hmk
  have HVL := Lib.hid hvl
  have HNS := Lib.hid hnse
  clear h hfa hbox hmk hvl hnse hW d0
  go_enter Try.func5, Try.ntmps5
  go_wp2_with fail
  refine HMK.out.mono ?_
  rintro e w1 ⟨rfl, hf1⟩
  have d1 := hf1.cell d0a (by simp)
  have c1 := hf1.cell b1 (by simp)
  have HF1 := Lib.hid hf1
  clear hf1
  by_cases hz : ns = 0
  · subst hz
    go_wp2_with fail
    go_ret
    exact PlayPost.quiet HI.out (HFA.out.trans_nil HF1.out)
  have hns0 : 0 < ns := by omega
  have hns1 : (ns == 0) = false := by simp; omega
  obtain ⟨i, hi⟩ : ∃ i, pickN on ns = i := ⟨_, rfl⟩
  have hilt : i < ns := by rw [← hi]; exact pickN_lt on hns0
  obtain ⟨sd, hsd⟩ := get_of_lt HNS.out hilt
  obtain ⟨g, cap, eg, _, _, e0, e1⟩ := side_cells HI.out.sides hsd
  rw [HVL.out, HNS.out] at eg
  injection eg with eg1 eg2 eg3
  subst eg1 eg3
  have e0' := HF1.out.cell (HFA.out.cell e0 (by simp)) (by simp)
  have e1' := HF1.out.cell (HFA.out.cell e1 (by simp)) (by simp)
  have HPI := Lib.hid hi
  have HSD := Lib.hid hsd
  clear hi hsd eg2 e0 e1 d0a
  go_upto_region 4 with fail
  go_cut [7] (fun t wx => t = .pointer (some ⟨w1.heap.size, 0, none⟩) ∧ Fr [] w1 wx ∧ wx.heap[w1.heap.size]? = some (.cells #[.pointer (some ⟨sd.d, 0, none⟩), .pointer (some ⟨sd.x, 0, none⟩)] 40 (0, 0)))
  case first =>
    have hpk : ∀ W : World, Calls Try.prog 6 #[.int .i64 on, .int .i64 ns] W fun e w' => e = .returned (.int .i64 i) ∧ W = w' := fun W => by
      rw [← HPI.out]; exact pick_walk W on ns (by omega) (by omega) hon1 hon2
    have HPK := Lib.hid hpk
    clear hpk
    have n1 := World.new_ne w1 _ d1
    have n2 := World.new_ne w1 _ c1
    have n3 := World.new_ne w1 _ e0'
    simp only at n1 n2 n3
    go_region_held3 (fun w' => w'.cell? ⟨W, 0, none⟩ = some (.slice (some ⟨g, 0, none⟩) ns vc) ∧ w'.cell? ⟨w.heap.size, 1, none⟩ = some (.int .i64 on) ∧ w'.cell? ⟨g, i * 2, none⟩ = some (.pointer (some ⟨sd.d, 0, none⟩)) ∧ w'.cell? ⟨g, i * 2 + 1, none⟩ = some (.pointer (some ⟨sd.x, 0, none⟩))) (go_keep)
      (first | (go_at_call 6; refine (HPK.out _).mono ?_; rintro e w' ⟨rfl, rfl⟩))
    all_goals
      go_wp2_with fail
      go_meet
      exact ⟨rfl, ((Fr.refl [] w1).alloc _).drew, heap_alloc_new w1 _⟩
  case rest =>
    obtain ⟨rfl, hfc, hsb⟩ := hcut
    have hfw : Fr [] w wc := (HFA.out.trans_nil HF1.out).trans_nil hfc
    have k0 := hfc.cell (HF1.out.cell b0 (by simp)) (by simp)
    have k1 := hfc.cell (HF1.out.cell b1 (by simp)) (by simp)
    have k2 := hfc.cell (HF1.out.cell b2 (by simp)) (by simp)
    have k3 := hfc.cell (HF1.out.cell b3 (by simp)) (by simp)
    have k4 := hfc.cell (HF1.out.cell b4 (by simp)) (by simp)
    have q0 := cell_of_row _ _ 0 _ _ _ hsb
    have q1 := cell_of_row _ _ 1 _ _ _ hsb
    simp at q0 q1
    have hbx1 : w.heap.size ≤ w1.heap.size := Nat.le_trans HFA.out.size HF1.out.size
    have hside := HI.out.dev i sd HSD.out
    have HSI := Lib.hid hside
    have HFW := Lib.hid hfw
    have HSB := Lib.hid hsb
    have HFC := Lib.hid hfc
    clear hfw hsb hfc hside b0 b1 b2 b3 b4 d1 c1 e0' e1' hns1
    obtain ⟨r, hr⟩ : ∃ r, (sd.D.flush).1 = r := ⟨_, rfl⟩
    have hdw := flush_walk wc sd.d sd.p sd.m sd.D  (HSI.out.dev_at HFW.out)
    rw [hr] at hdw
    have HDW := Lib.hid hdw
    have HR := Lib.hid hr
    clear hdw hr
    go_wp2_with fail
    refine HDW.out.mono ?_
    rintro e w5 ⟨rfl, hd5, hf5⟩
    have q1' := HSI.out.cell_later hf5 (by intro k hk; simp at hk ⊢; rcases hk with q | q | q <;> simp [q]) q1 hbx1
    have k2' := HSI.out.cell_later hf5 (by intro k hk; simp at hk ⊢; rcases hk with q | q | q <;> simp [q]) k2 (Nat.le_refl _)
    have k3' := HSI.out.cell_later hf5 (by intro k hk; simp at hk ⊢; rcases hk with q | q | q <;> simp [q]) k3 (Nat.le_refl _)
    have hrw := rflush_walk w5 sd.x sd.l sd.b sd.q sd.D  (HSI.out.ref_later HFW.out hf5 (by intro k hk; simp at hk ⊢; rcases hk with q | q | q <;> simp [q]))
    rw [HR.out] at hrw
    have HRW := Lib.hid hrw
    have HD5 := Lib.hid hd5
    have HF5 := Lib.hid hf5
    clear hrw hd5 hf5 HDW
    go_wp2_with fail
    refine HRW.out.mono ?_
    rintro e w6 ⟨rfl, hr6, hf6⟩
    have HR6 := Lib.hid hr6
    have HF6 := Lib.hid hf6
    clear hr6 hf6 HRW
    go_wp2_with fail
    go_ret
    exact PlayPost.both HI.out HSD.out HFW.out HF5.out (by intro k hk; simp at hk ⊢; rcases hk with q | q | q <;> simp [q]) HD5.out HF6.out (by intro k hk; simp at hk ⊢; rcases hk with q | q | q <;> simp [q]) HR6.out


set_option maxRecDepth 100000 in
set_option maxHeartbeats 1000000 in
theorem play_arm {base : Nat} {ρ : Rho} {w : World} {W : Nat} {A : WA} {B : Nat} (h : WInv base ρ w W A B) (_hB : B ≤ 190) (on n : Int) (s : ByteArray) (ka : Option Addr) (kn kc : Nat)
    (hon1 : -9223372036854775808 ≤ on) (hon2 : on ≤ 9223372036854775807) (_hn1 : -9223372036854775808 ≤ n) (_hn2 : n ≤ 9223372036854775807) :
    Calls Try.prog 5 #[.pointer (some ⟨W, 0, none⟩), .agg #[.int .i64 5, .int .i64 on, .int .i64 n, .string s, .slice ka kn kc]] w (PlayPost base ρ w W B) := by
  obtain ⟨wa, hwa⟩ : ∃ wa, w.alloc (.cells #[.int .i64 5, .int .i64 on, .int .i64 n, .string s, .slice ka kn kc] 35) = wa := ⟨_, rfl⟩
  have hfa : Fr [] w wa := by rw [← hwa]; exact (Fr.refl _ _).alloc _
  have hbox : wa.heap[w.heap.size]? = some (.cells #[.int .i64 5, .int .i64 on, .int .i64 n, .string s, .slice ka kn kc] 35 (0, 0)) := by rw [← hwa]; exact heap_alloc_new w _
  have b0 := cell_of_row _ _ 0 _ _ _ hbox
  have b1 := cell_of_row _ _ 1 _ _ _ hbox
  have b2 := cell_of_row _ _ 2 _ _ _ hbox
  have b3 := cell_of_row _ _ 3 _ _ _ hbox
  have b4 := cell_of_row _ _ 4 _ _ _ hbox
  simp at b0 b1 b2 b3 b4
  have hmk := makes_other wa W 5 on n s ka kn kc (by decide) (by decide)
  obtain ⟨va, vc, hvl, hv1, hv2⟩ := h.sides.1.shape
  unfold maxLen at hv2
  have hns := h.five
  obtain ⟨ns, hnse⟩ : ∃ ns, A.sides.length = ns := ⟨_, rfl⟩
  rw [hnse] at hvl hv1 hns
  have hW := h.cW
  have d0 := cell_of_row _ _ 0 _ _ _ hW
  simp [WA.cells, hvl] at d0
  have d0a := hfa.cell d0 (by simp)
  have HI := Lib.hid h
  have HFA := Lib.hid hfa
  have HB := Lib.hid hbox
  have HMK := Lib.hid hmk
  have HVL := Lib.hid hvl
  have HNS := Lib.hid hnse
  clear h hfa hbox hmk hvl hnse hW d0
  go_enter Try.func5, Try.ntmps5
  go_wp2_with fail
  refine HMK.out.mono ?_
  rintro e w1 ⟨rfl, hf1⟩
  have d1 := hf1.cell d0a (by simp)
  have c1 := hf1.cell b1 (by simp)
  have HF1 := Lib.hid hf1
  clear hf1
  by_cases hz : ns = 0
  · subst hz
    go_wp2_with fail
    go_ret
    exact PlayPost.quiet HI.out (HFA.out.trans_nil HF1.out)
  have hns0 : 0 < ns := by omega
  have hns1 : (ns == 0) = false := by simp; omega
  obtain ⟨i, hi⟩ : ∃ i, pickN on ns = i := ⟨_, rfl⟩
  have hilt : i < ns := by rw [← hi]; exact pickN_lt on hns0
  obtain ⟨sd, hsd⟩ := get_of_lt HNS.out hilt
  obtain ⟨g, cap, eg, _, _, e0, e1⟩ := side_cells HI.out.sides hsd
  rw [HVL.out, HNS.out] at eg
  injection eg with eg1 eg2 eg3
  subst eg1 eg3
  have e0' := HF1.out.cell (HFA.out.cell e0 (by simp)) (by simp)
  have e1' := HF1.out.cell (HFA.out.cell e1 (by simp)) (by simp)
  have HPI := Lib.hid hi
  have HSD := Lib.hid hsd
  clear hi hsd eg2 e0 e1 d0a
  go_upto_region 4 with fail
  go_cut [7] (fun t wx => t = .pointer (some ⟨w1.heap.size, 0, none⟩) ∧ Fr [] w1 wx ∧ wx.heap[w1.heap.size]? = some (.cells #[.pointer (some ⟨sd.d, 0, none⟩), .pointer (some ⟨sd.x, 0, none⟩)] 40 (0, 0)))
  case first =>
    have hpk : ∀ W : World, Calls Try.prog 6 #[.int .i64 on, .int .i64 ns] W fun e w' => e = .returned (.int .i64 i) ∧ W = w' := fun W => by
      rw [← HPI.out]; exact pick_walk W on ns (by omega) (by omega) hon1 hon2
    have HPK := Lib.hid hpk
    clear hpk
    have n1 := World.new_ne w1 _ d1
    have n2 := World.new_ne w1 _ c1
    have n3 := World.new_ne w1 _ e0'
    simp only at n1 n2 n3
    go_region_held3 (fun w' => w'.cell? ⟨W, 0, none⟩ = some (.slice (some ⟨g, 0, none⟩) ns vc) ∧ w'.cell? ⟨w.heap.size, 1, none⟩ = some (.int .i64 on) ∧ w'.cell? ⟨g, i * 2, none⟩ = some (.pointer (some ⟨sd.d, 0, none⟩)) ∧ w'.cell? ⟨g, i * 2 + 1, none⟩ = some (.pointer (some ⟨sd.x, 0, none⟩))) (go_keep)
      (first | (go_at_call 6; refine (HPK.out _).mono ?_; rintro e w' ⟨rfl, rfl⟩))
    all_goals
      go_wp2_with fail
      go_meet
      exact ⟨rfl, ((Fr.refl [] w1).alloc _).drew, heap_alloc_new w1 _⟩
  case rest =>
    obtain ⟨rfl, hfc, hsb⟩ := hcut
    have hfw : Fr [] w wc := (HFA.out.trans_nil HF1.out).trans_nil hfc
    have k0 := hfc.cell (HF1.out.cell b0 (by simp)) (by simp)
    have k1 := hfc.cell (HF1.out.cell b1 (by simp)) (by simp)
    have k2 := hfc.cell (HF1.out.cell b2 (by simp)) (by simp)
    have k3 := hfc.cell (HF1.out.cell b3 (by simp)) (by simp)
    have k4 := hfc.cell (HF1.out.cell b4 (by simp)) (by simp)
    have q0 := cell_of_row _ _ 0 _ _ _ hsb
    have q1 := cell_of_row _ _ 1 _ _ _ hsb
    simp at q0 q1
    have hbx1 : w.heap.size ≤ w1.heap.size := Nat.le_trans HFA.out.size HF1.out.size
    have hside := HI.out.dev i sd HSD.out
    have HSI := Lib.hid hside
    have HFW := Lib.hid hfw
    have HSB := Lib.hid hsb
    have HFC := Lib.hid hfc
    clear hfw hsb hfc hside b0 b1 b2 b3 b4 d1 c1 e0' e1' hns1
    obtain ⟨r, hr⟩ : ∃ r, (sd.D.arm n).1 = r := ⟨_, rfl⟩
    have hdw := arm_walk wc sd.d sd.p sd.m sd.D n (HSI.out.dev_at HFW.out) _hn2
    rw [hr] at hdw
    have HDW := Lib.hid hdw
    have HR := Lib.hid hr
    clear hdw hr
    go_wp2_with fail
    refine HDW.out.mono ?_
    rintro e w5 ⟨rfl, hd5, hf5⟩
    have q1' := HSI.out.cell_later hf5 (by intro k hk; simp at hk ⊢; simp [hk]) q1 hbx1
    have k2' := HSI.out.cell_later hf5 (by intro k hk; simp at hk ⊢; simp [hk]) k2 (Nat.le_refl _)
    have k3' := HSI.out.cell_later hf5 (by intro k hk; simp at hk ⊢; simp [hk]) k3 (Nat.le_refl _)
    have hrw := rarm_walk w5 sd.x sd.l sd.b sd.q sd.D n (HSI.out.ref_later HFW.out hf5 (by intro k hk; simp at hk ⊢; simp [hk])) _hn2
    rw [HR.out] at hrw
    have HRW := Lib.hid hrw
    have HD5 := Lib.hid hd5
    have HF5 := Lib.hid hf5
    clear hrw hd5 hf5 HDW
    go_wp2_with fail
    refine HRW.out.mono ?_
    rintro e w6 ⟨rfl, hr6, hf6⟩
    have HR6 := Lib.hid hr6
    have HF6 := Lib.hid hf6
    clear hr6 hf6 HRW
    go_wp2_with fail
    go_ret
    exact PlayPost.both HI.out HSD.out HFW.out HF5.out (by intro k hk; simp at hk ⊢; simp [hk]) HD5.out HF6.out (by intro k hk; simp at hk ⊢; simp [hk]) HR6.out


set_option maxRecDepth 100000 in
set_option maxHeartbeats 1000000 in
theorem play_read {base : Nat} {ρ : Rho} {w : World} {W : Nat} {A : WA} {B : Nat} (h : WInv base ρ w W A B) (_hB : B ≤ 190) (on n : Int) (s : ByteArray) (ka : Option Addr) (kn kc : Nat)
    (hon1 : -9223372036854775808 ≤ on) (hon2 : on ≤ 9223372036854775807) (_hn1 : -9223372036854775808 ≤ n) (_hn2 : n ≤ 9223372036854775807) :
    Calls Try.prog 5 #[.pointer (some ⟨W, 0, none⟩), .agg #[.int .i64 1, .int .i64 on, .int .i64 n, .string s, .slice ka kn kc]] w (PlayPost base ρ w W B) := by
  obtain ⟨wa, hwa⟩ : ∃ wa, w.alloc (.cells #[.int .i64 1, .int .i64 on, .int .i64 n, .string s, .slice ka kn kc] 35) = wa := ⟨_, rfl⟩
  have hfa : Fr [] w wa := by rw [← hwa]; exact (Fr.refl _ _).alloc _
  have hbox : wa.heap[w.heap.size]? = some (.cells #[.int .i64 1, .int .i64 on, .int .i64 n, .string s, .slice ka kn kc] 35 (0, 0)) := by rw [← hwa]; exact heap_alloc_new w _
  have b0 := cell_of_row _ _ 0 _ _ _ hbox
  have b1 := cell_of_row _ _ 1 _ _ _ hbox
  have b2 := cell_of_row _ _ 2 _ _ _ hbox
  have b3 := cell_of_row _ _ 3 _ _ _ hbox
  have b4 := cell_of_row _ _ 4 _ _ _ hbox
  simp at b0 b1 b2 b3 b4
  have hmk := makes_other wa W 1 on n s ka kn kc (by decide) (by decide)
  obtain ⟨va, vc, hvl, hv1, hv2⟩ := h.sides.1.shape
  unfold maxLen at hv2
  have hns := h.five
  obtain ⟨ns, hnse⟩ : ∃ ns, A.sides.length = ns := ⟨_, rfl⟩
  rw [hnse] at hvl hv1 hns
  have hW := h.cW
  have d0 := cell_of_row _ _ 0 _ _ _ hW
  simp [WA.cells, hvl] at d0
  have d0a := hfa.cell d0 (by simp)
  have HI := Lib.hid h
  have HFA := Lib.hid hfa
  have HB := Lib.hid hbox
  have HMK := Lib.hid hmk
  have HVL := Lib.hid hvl
  have HNS := Lib.hid hnse
  clear h hfa hbox hmk hvl hnse hW d0
  go_enter Try.func5, Try.ntmps5
  go_wp2_with fail
  refine HMK.out.mono ?_
  rintro e w1 ⟨rfl, hf1⟩
  have d1 := hf1.cell d0a (by simp)
  have c1 := hf1.cell b1 (by simp)
  have HF1 := Lib.hid hf1
  clear hf1
  by_cases hz : ns = 0
  · subst hz
    go_wp2_with fail
    go_ret
    exact PlayPost.quiet HI.out (HFA.out.trans_nil HF1.out)
  have hns0 : 0 < ns := by omega
  have hns1 : (ns == 0) = false := by simp; omega
  obtain ⟨i, hi⟩ : ∃ i, pickN on ns = i := ⟨_, rfl⟩
  have hilt : i < ns := by rw [← hi]; exact pickN_lt on hns0
  obtain ⟨sd, hsd⟩ := get_of_lt HNS.out hilt
  obtain ⟨g, cap, eg, _, _, e0, e1⟩ := side_cells HI.out.sides hsd
  rw [HVL.out, HNS.out] at eg
  injection eg with eg1 eg2 eg3
  subst eg1 eg3
  have e0' := HF1.out.cell (HFA.out.cell e0 (by simp)) (by simp)
  have e1' := HF1.out.cell (HFA.out.cell e1 (by simp)) (by simp)
  have HPI := Lib.hid hi
  have HSD := Lib.hid hsd
  clear hi hsd eg2 e0 e1 d0a
  go_upto_region 4 with fail
  go_cut [7] (fun t wx => t = .pointer (some ⟨w1.heap.size, 0, none⟩) ∧ Fr [] w1 wx ∧ wx.heap[w1.heap.size]? = some (.cells #[.pointer (some ⟨sd.d, 0, none⟩), .pointer (some ⟨sd.x, 0, none⟩)] 40 (0, 0)))
  case first =>
    have hpk : ∀ W : World, Calls Try.prog 6 #[.int .i64 on, .int .i64 ns] W fun e w' => e = .returned (.int .i64 i) ∧ W = w' := fun W => by
      rw [← HPI.out]; exact pick_walk W on ns (by omega) (by omega) hon1 hon2
    have HPK := Lib.hid hpk
    clear hpk
    have n1 := World.new_ne w1 _ d1
    have n2 := World.new_ne w1 _ c1
    have n3 := World.new_ne w1 _ e0'
    simp only at n1 n2 n3
    go_region_held3 (fun w' => w'.cell? ⟨W, 0, none⟩ = some (.slice (some ⟨g, 0, none⟩) ns vc) ∧ w'.cell? ⟨w.heap.size, 1, none⟩ = some (.int .i64 on) ∧ w'.cell? ⟨g, i * 2, none⟩ = some (.pointer (some ⟨sd.d, 0, none⟩)) ∧ w'.cell? ⟨g, i * 2 + 1, none⟩ = some (.pointer (some ⟨sd.x, 0, none⟩))) (go_keep)
      (first | (go_at_call 6; refine (HPK.out _).mono ?_; rintro e w' ⟨rfl, rfl⟩))
    all_goals
      go_wp2_with fail
      go_meet
      exact ⟨rfl, ((Fr.refl [] w1).alloc _).drew, heap_alloc_new w1 _⟩
  case rest =>
    obtain ⟨rfl, hfc, hsb⟩ := hcut
    have hfw : Fr [] w wc := (HFA.out.trans_nil HF1.out).trans_nil hfc
    have k0 := hfc.cell (HF1.out.cell b0 (by simp)) (by simp)
    have k1 := hfc.cell (HF1.out.cell b1 (by simp)) (by simp)
    have k2 := hfc.cell (HF1.out.cell b2 (by simp)) (by simp)
    have k3 := hfc.cell (HF1.out.cell b3 (by simp)) (by simp)
    have k4 := hfc.cell (HF1.out.cell b4 (by simp)) (by simp)
    have q0 := cell_of_row _ _ 0 _ _ _ hsb
    have q1 := cell_of_row _ _ 1 _ _ _ hsb
    simp at q0 q1
    have hbx1 : w.heap.size ≤ w1.heap.size := Nat.le_trans HFA.out.size HF1.out.size
    have hside := HI.out.dev i sd HSD.out
    have HSI := Lib.hid hside
    have HFW := Lib.hid hfw
    have HSB := Lib.hid hsb
    have HFC := Lib.hid hfc
    clear hfw hsb hfc hside b0 b1 b2 b3 b4 d1 c1 e0' e1' hns1
    obtain ⟨rs, hrs⟩ : ∃ r, (sd.D.read n).1 = r := ⟨_, rfl⟩
    obtain ⟨re, hre⟩ : ∃ r, (sd.D.read n).2 = r := ⟨_, rfl⟩
    have hdw := read_walk wc sd.d sd.p sd.m sd.D n (HSI.out.dev_at HFW.out)
    have hrw := rread_walk wc sd.x sd.l sd.b sd.q sd.D n (HSI.out.ref_at HFW.out)
    rw [hrs, hre] at hdw hrw
    have HDW := Lib.hid hdw
    have HRW := Lib.hid hrw
    clear hdw hrw hrs hre
    go_wp2_with fail
    refine HDW.out.mono ?_
    rintro e w5 ⟨rfl, rfl⟩
    go_wp2_with fail
    refine HRW.out.mono ?_
    rintro e w6 ⟨rfl, rfl⟩
    go_wp2_with fail
    go_ret
    exact PlayPost.quiet HI.out HFW.out


end Go.Proofs.Ytcpealfaaghpiaa
