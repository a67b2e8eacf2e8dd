/-
  The law: steps of the script (printed by wip/tools/genplay.py). Own work.
-/
import Derived.Deep.RegionHeld3
import Derived.Deep.DeepFit
import Derived.Deep.QuietTactic
import Derived.BigQuiet
import Derived.Test.YtcpealfaaghpiaaPlay
namespace Go.Proofs.Ytcpealfaaghpiaa
open Go Go.RowKit Go.Maps Go.Sort Go.Shelf

set_option maxRecDepth 100000 in
set_option maxHeartbeats 1000000 in
theorem play_page {base : Nat} {ρ : Rho} {w : World} {W : Nat} {A : WA} {B : Nat} (h : WInv base ρ w W A B) (_hB : B ≤ 190) (on n : Int) (s : ByteArray) (ka : Option Addr) (kn kc : Nat)
    (hon1 : -9223372036854775808 ≤ on) (hon2 : on ≤ 9223372036854775807) (_hn1 : -9223372036854775808 ≤ n) (_hn2 : n ≤ 9223372036854775807) :
    Calls Try.prog 5 #[.pointer (some ⟨W, 0, none⟩), .agg #[.int .i64 3, .int .i64 on, .int .i64 n, .string s, .slice ka kn kc]] w (PlayPost base ρ w W B) := by
  obtain ⟨wa, hwa⟩ : ∃ wa, w.alloc (.cells #[.int .i64 3, .int .i64 on, .int .i64 n, .string s, .slice ka kn kc] 35) = wa := ⟨_, rfl⟩
  have hfa : Fr [] w wa := by rw [← hwa]; exact (Fr.refl _ _).alloc _
  have hbox : wa.heap[w.heap.size]? = some (.cells #[.int .i64 3, .int .i64 on, .int .i64 n, .string s, .slice ka kn kc] 35 (0, 0)) := by rw [← hwa]; exact heap_alloc_new w _
  have b0 := cell_of_row _ _ 0 _ _ _ hbox
  have b1 := cell_of_row _ _ 1 _ _ _ hbox
  have b2 := cell_of_row _ _ 2 _ _ _ hbox
  have b3 := cell_of_row _ _ 3 _ _ _ hbox
  have b4 := cell_of_row _ _ 4 _ _ _ hbox
  simp at b0 b1 b2 b3 b4
  have hmk := makes_other wa W 3 on n s ka kn kc (by decide) (by decide)
  obtain ⟨va, vc, hvl, hv1, hv2⟩ := h.sides.1.shape
  unfold maxLen at hv2
  have hns := h.five
  obtain ⟨ns, hnse⟩ : ∃ ns, A.sides.length = ns := ⟨_, rfl⟩
  rw [hnse] at hvl hv1 hns
  have hW := h.cW
  have d0 := cell_of_row _ _ 0 _ _ _ hW
  simp [WA.cells, hvl] at d0
  have d0a := hfa.cell d0 (by simp)
  have HI := Lib.hid h
  have HFA := Lib.hid hfa
  have HB := Lib.hid hbox
  have HMK := Lib.hid hmk
  have HVL := Lib.hid hvl
  have HNS := Lib.hid hnse
  clear h hfa hbox hmk hvl hnse hW d0
  go_enter Try.func5, Try.ntmps5
  go_wp2_with fail
  refine HMK.out.mono ?_
  rintro e w1 ⟨rfl, hf1⟩
  have d1 := hf1.cell d0a (by simp)
  have c1 := hf1.cell b1 (by simp)
  have HF1 := Lib.hid hf1
  clear hf1
  by_cases hz : ns = 0
  · subst hz
    go_wp2_with fail
    go_ret
    exact PlayPost.quiet HI.out (HFA.out.trans_nil HF1.out)
  have hns0 : 0 < ns := by omega
  have hns1 : (ns == 0) = false := by simp; omega
  obtain ⟨i, hi⟩ : ∃ i, pickN on ns = i := ⟨_, rfl⟩
  have hilt : i < ns := by rw [← hi]; exact pickN_lt on hns0
  obtain ⟨sd, hsd⟩ := get_of_lt HNS.out hilt
  obtain ⟨g, cap, eg, _, _, e0, e1⟩ := side_cells HI.out.sides hsd
  rw [HVL.out, HNS.out] at eg
  injection eg with eg1 eg2 eg3
  subst eg1 eg3
  have e0' := HF1.out.cell (HFA.out.cell e0 (by simp)) (by simp)
  have e1' := HF1.out.cell (HFA.out.cell e1 (by simp)) (by simp)
  have HPI := Lib.hid hi
  have HSD := Lib.hid hsd
  clear hi hsd eg2 e0 e1 d0a
  go_upto_region 4 with fail
  go_cut [7] (fun t wx => t = .pointer (some ⟨w1.heap.size, 0, none⟩) ∧ Fr [] w1 wx ∧ wx.heap[w1.heap.size]? = some (.cells #[.pointer (some ⟨sd.d, 0, none⟩), .pointer (some ⟨sd.x, 0, none⟩)] 40 (0, 0)))
  case first =>
    have hpk : ∀ W : World, Calls Try.prog 6 #[.int .i64 on, .int .i64 ns] W fun e w' => e = .returned (.int .i64 i) ∧ W = w' := fun W => by
      rw [← HPI.out]; exact pick_walk W on ns (by omega) (by omega) hon1 hon2
    have HPK := Lib.hid hpk
    clear hpk
    have n1 := World.new_ne w1 _ d1
    have n2 := World.new_ne w1 _ c1
    have n3 := World.new_ne w1 _ e0'
    simp only at n1 n2 n3
    go_region_held3 (fun w' => w'.cell? ⟨W, 0, none⟩ = some (.slice (some ⟨g, 0, none⟩) ns vc) ∧ w'.cell? ⟨w.heap.size, 1, none⟩ = some (.int .i64 on) ∧ w'.cell? ⟨g, i * 2, none⟩ = some (.pointer (some ⟨sd.d, 0, none⟩)) ∧ w'.cell? ⟨g, i * 2 + 1, none⟩ = some (.pointer (some ⟨sd.x, 0, none⟩))) (go_keep)
      (first | (go_at_call 6; refine (HPK.out _).mono ?_; rintro e w' ⟨rfl, rfl⟩))
    all_goals
      go_wp2_with fail
      go_meet
      exact ⟨rfl, ((Fr.refl [] w1).alloc _).drew, heap_alloc_new w1 _⟩
  case rest =>
    obtain ⟨rfl, hfc, hsb⟩ := hcut
    have hfw : Fr [] w wc := (HFA.out.trans_nil HF1.out).trans_nil hfc
    have k0 := hfc.cell (HF1.out.cell b0 (by simp)) (by simp)
    have k1 := hfc.cell (HF1.out.cell b1 (by simp)) (by simp)
    have k2 := hfc.cell (HF1.out.cell b2 (by simp)) (by simp)
    have k3 := hfc.cell (HF1.out.cell b3 (by simp)) (by simp)
    have k4 := hfc.cell (HF1.out.cell b4 (by simp)) (by simp)
    have q0 := cell_of_row _ _ 0 _ _ _ hsb
    have q1 := cell_of_row _ _ 1 _ _ _ hsb
    simp at q0 q1
    have hbx1 : w.heap.size ≤ w1.heap.size := Nat.le_trans HFA.out.size HF1.out.size
    have hside := HI.out.dev i sd HSD.out
    have HSI := Lib.hid hside
    have HFW := Lib.hid hfw
    have HSB := Lib.hid hsb
    have HFC := Lib.hid hfc
    clear hfw hsb hfc hside b0 b1 b2 b3 b4 d1 c1 e0' e1' hns1
    obtain ⟨nl, hnl⟩ : ∃ nl, sd.D.L.length = nl := ⟨_, rfl⟩
    have hnl4 : 4 ≤ nl ∧ nl ≤ 4096 := by rw [← hnl]; exact ⟨HSI.out.dev.wf.lo, HSI.out.dev.wf.hi⟩
    obtain ⟨nn, hnn⟩ : ∃ nn, pickN n nl = nn := ⟨_, rfl⟩
    obtain ⟨ps, hps⟩ : ∃ ps, pageS (s.size : Int) = ps := ⟨_, rfl⟩
    obtain ⟨r, hr⟩ : ∃ r, (sd.D.write (nn : Int) ps).1 = r := ⟨_, rfl⟩
    have hs2 : ∀ m, Calls Try.prog 23 #[.pointer (some ⟨sd.x, 0, none⟩)] (wc.drewN m) fun e w' => e = .returned (.int .i64 nl) ∧ w' = wc.drewN m := fun m => by
      rw [← hnl]; exact (rsize_walk _ sd.x sd.l sd.b sd.q sd.D (HSI.out.ref_at (HFW.out.drewN m))).mono fun _ _ ⟨a, b⟩ => ⟨a, b.symm⟩
    have hs3 : ∀ m, Calls Try.prog 6 #[.int .i64 n, .int .i64 nl] (wc.drewN m) fun e w' => e = .returned (.int .i64 nn) ∧ w' = wc.drewN m := fun m => by
      rw [← hnn]; exact (pick_walk _ n nl (by omega) (by omega) _hn1 _hn2).mono fun _ _ ⟨a, b⟩ => ⟨a, b.symm⟩
    have hpg : ∀ W : World, Calls Try.prog 17 #[.int .i64 (s.size : Int)] W fun e w' => e = .returned (.string ps) ∧ Fr [] W w' := fun W => by rw [← hps]; exact page_walk W _
    have HS2 := Lib.hid hs2
    have HS3 := Lib.hid hs3
    have HPG := Lib.hid hpg
    have HR := Lib.hid hr
    clear hs2 hs3 hpg hnl hnn hps hr
    go_wp2_with fail
    go_quiet ((first | (go_at_call 23; exact Calls.quiet_of_same (HS2.out _)) | (go_at_call 6; exact Calls.quiet_of_same (HS3.out _))))
    go_upto_region 15 with fail
    go_cut [14] (fun t wx => t = .int .i64 r ∧ DevIs wx sd.d sd.p sd.m (sd.D.write (nn : Int) ps).2 ∧ Fr [sd.d, sd.m] wc wx)
    case first =>
      go_region_held3 (fun w' => w'.cell? ⟨w1.heap.size, 0, none⟩ = some (.pointer (some ⟨sd.d, 0, none⟩)) ∧ w'.cell? ⟨w.heap.size, 3, none⟩ = some (.string s)) (go_keep)
        (first
          | (go_at_call 17; refine (HPG.out _).mono ?_; rintro e w2 ⟨rfl, hf2⟩; have hf2' : Fr [] wc w2 := ((Fr.refl [] wc).drewN _).drew.trans_nil hf2; have p0 := hf2'.cell q0 (by simp); have p3 := hf2'.cell k3 (by simp); have HF2 := Lib.hid hf2'; clear hf2 hf2')
          | (go_at_call 16; refine (write_walk w2 sd.d sd.p sd.m sd.D (nn : Int) ps (HSI.out.dev_at (HFW.out.trans_nil HF2.out))).mono ?_; rintro e w3 ⟨rfl, hd3, hf3⟩; rw [HR.out]; have r0 := HSI.out.cell_later hf3 (by intro k hk; simp at hk ⊢; rcases hk with q | q <;> simp [q]) p0 hbx1; have r3 := HSI.out.cell_later hf3 (by intro k hk; simp at hk ⊢; rcases hk with q | q <;> simp [q]) p3 (Nat.le_refl _); have HD3 := Lib.hid hd3; have HF3 := Lib.hid ((HF2.out.weak (T := [sd.d, sd.m]) (by simp)).trans hf3 (fun _ h => .inl h)); clear hd3 hf3))
      go_wp2_with fail
      go_meet
      exact ⟨rfl, HD3.out, HF3.out⟩
    case rest =>
      obtain ⟨rfl, hd5, hf5⟩ := hcut
      have q1' := HSI.out.cell_later hf5 (by intro k hk; simp at hk ⊢; rcases hk with q | q <;> simp [q]) q1 hbx1
      have k3' := HSI.out.cell_later hf5 (by intro k hk; simp at hk ⊢; rcases hk with q | q <;> simp [q]) k3 (Nat.le_refl _)
      have HD5 := Lib.hid hd5
      have HF5 := Lib.hid hf5
      have HR5 := Lib.hid (HSI.out.ref_later HFW.out hf5 (by intro k hk; simp at hk ⊢; rcases hk with q | q <;> simp [q]))
      clear hd5 hf5
      go_upto_region 16 with fail
      go_cut [4] (fun t wx => t = .bool true ∧ PlayPost base ρ w W B (.returned (.bool true)) wx)
      case first =>
        go_region_held3 (fun w' => w'.cell? ⟨w1.heap.size, 1, none⟩ = some (.pointer (some ⟨sd.x, 0, none⟩)) ∧ w'.cell? ⟨w.heap.size, 3, none⟩ = some (.string s)) (go_keep)
          (first
            | (go_at_call 17; refine (HPG.out _).mono ?_; rintro e w6 ⟨rfl, hf6⟩; have hf6' := (Fr.refl [] wc).drew.trans_nil hf6; have p1 := hf6'.cell q1' (by simp); have p3 := hf6'.cell k3' (by simp); have HF6 := Lib.hid hf6'; clear hf6 hf6')
            | (go_at_call 22; refine (rwrite_walk w6 sd.x sd.l sd.b sd.q sd.D (nn : Int) ps (HR5.out.keep HF6.out (by simp) (by simp) (by simp) (by simp))).mono ?_; rintro e w7 ⟨rfl, hr7, hf7⟩; rw [HR.out]; have hT : ∀ k ∈ [sd.x, sd.b, sd.q], k ∈ sd.blocks := (by intro k hk; simp [SideA.blocks] at hk ⊢; rcases hk with q | q | q <;> simp [q]); have r1 := HSI.out.box_later hf7 hT p1 hbx1; have r3 := HSI.out.box_later hf7 hT p3 (Nat.le_refl _); have HPP := Lib.hid (PlayPost.both HI.out HSD.out HFW.out HF5.out (by intro k hk; simp at hk ⊢; rcases hk with q | q <;> simp [q]) HD5.out ((HF6.out.weak (by simp)).trans hf7 (fun _ h => .inl h)) (by intro k hk; simp at hk ⊢; rcases hk with q | q | q <;> simp [q]) hr7); clear hr7 hf7 hT))
        go_wp2_with fail
        go_meet
        exact ⟨rfl, HPP.out⟩
      case rest =>
        obtain ⟨rfl, hp⟩ := hcut
        have HP := Lib.hid hp
        clear hp
        go_wp2_with fail
        go_ret
        exact HP.out


end Go.Proofs.Ytcpealfaaghpiaa
