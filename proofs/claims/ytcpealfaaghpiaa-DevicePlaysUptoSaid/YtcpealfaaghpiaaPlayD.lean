/-
  The law: steps of the script (printed by wip/tools/genplay.py). Own work.
-/
import Derived.Deep.RegionHeld3
import Derived.Deep.DeepFit
import Derived.Deep.QuietTactic
import Derived.BigQuiet
import Derived.Test.YtcpealfaaghpiaaPlay
namespace Go.Proofs.Ytcpealfaaghpiaa
open Go Go.RowKit Go.Maps Go.Sort Go.Shelf

set_option maxRecDepth 100000 in
set_option maxHeartbeats 1000000 in
theorem play_keeps {base : Nat} {ρ : Rho} {w : World} {W : Nat} {A : WA} {B : Nat} (h : WInv base ρ w W A B) (_hB : B ≤ 190) (on n : Int) (s : ByteArray) (ka : Option Addr) (kn kc : Nat)
    (hon1 : -9223372036854775808 ≤ on) (hon2 : on ≤ 9223372036854775807) (_hn1 : -9223372036854775808 ≤ n) (_hn2 : n ≤ 9223372036854775807) (ks : List (Int × Int)) (hk : KeepsIn w (.slice ka kn kc) ks) (hkw : KWf ks) (hkn : ks.length ≤ 1048576) (hkb : ∀ a m c, Value.slice ka kn kc = .slice (some a) m c → 0 < m → a.block < base) :
    Calls Try.prog 5 #[.pointer (some ⟨W, 0, none⟩), .agg #[.int .i64 9, .int .i64 on, .int .i64 n, .string s, .slice ka kn kc]] w (PlayPost base ρ w W B) := by
  obtain ⟨wa, hwa⟩ : ∃ wa, w.alloc (.cells #[.int .i64 9, .int .i64 on, .int .i64 n, .string s, .slice ka kn kc] 35) = wa := ⟨_, rfl⟩
  have hfa : Fr [] w wa := by rw [← hwa]; exact (Fr.refl _ _).alloc _
  have hbox : wa.heap[w.heap.size]? = some (.cells #[.int .i64 9, .int .i64 on, .int .i64 n, .string s, .slice ka kn kc] 35 (0, 0)) := by rw [← hwa]; exact heap_alloc_new w _
  have b0 := cell_of_row _ _ 0 _ _ _ hbox
  have b1 := cell_of_row _ _ 1 _ _ _ hbox
  have b2 := cell_of_row _ _ 2 _ _ _ hbox
  have b3 := cell_of_row _ _ 3 _ _ _ hbox
  have b4 := cell_of_row _ _ 4 _ _ _ hbox
  simp at b0 b1 b2 b3 b4
  have hmk := makes_other wa W 9 on n s ka kn kc (by decide) (by decide)
  obtain ⟨va, vc, hvl, hv1, hv2⟩ := h.sides.1.shape
  unfold maxLen at hv2
  have hns := h.five
  obtain ⟨ns, hnse⟩ : ∃ ns, A.sides.length = ns := ⟨_, rfl⟩
  rw [hnse] at hvl hv1 hns
  have hW := h.cW
  have d0 := cell_of_row _ _ 0 _ _ _ hW
  simp [WA.cells, hvl] at d0
  have d0a := hfa.cell d0 (by simp)
  have HI := Lib.hid h
  have HFA := Lib.hid hfa
  have HB := Lib.hid hbox
  have HMK := Lib.hid hmk
  have HVL := Lib.hid hvl
  have HNS := Lib.hid hnse
  clear h hfa hbox hmk hvl hnse hW d0
  have hkn' : kn = ks.length ∧ kn ≤ kc ∧ kc ≤ 9223372036854775807 := by
    obtain ⟨a', c', e, e1, e2⟩ := hk.shape
    injection e with q1 q2 q3
    unfold maxLen at e2
    omega
  obtain ⟨hk1, hk2, hk3⟩ := hkn'
  have HK := Lib.hid hk
  have HKW := Lib.hid hkw
  have HKB := Lib.hid hkb
  have HK1 := Lib.hid hk1
  clear hk hkw hkb hk1
  go_enter Try.func5, Try.ntmps5
  go_wp2_with fail
  refine HMK.out.mono ?_
  rintro e w1 ⟨rfl, hf1⟩
  have d1 := hf1.cell d0a (by simp)
  have c1 := hf1.cell b1 (by simp)
  have HF1 := Lib.hid hf1
  clear hf1
  by_cases hz : ns = 0
  · subst hz
    go_wp2_with fail
    go_ret
    exact PlayPost.quiet HI.out (HFA.out.trans_nil HF1.out)
  have hns0 : 0 < ns := by omega
  have hns1 : (ns == 0) = false := by simp; omega
  obtain ⟨i, hi⟩ : ∃ i, pickN on ns = i := ⟨_, rfl⟩
  have hilt : i < ns := by rw [← hi]; exact pickN_lt on hns0
  obtain ⟨sd, hsd⟩ := get_of_lt HNS.out hilt
  obtain ⟨g, cap, eg, _, _, e0, e1⟩ := side_cells HI.out.sides hsd
  rw [HVL.out, HNS.out] at eg
  injection eg with eg1 eg2 eg3
  subst eg1 eg3
  have e0' := HF1.out.cell (HFA.out.cell e0 (by simp)) (by simp)
  have e1' := HF1.out.cell (HFA.out.cell e1 (by simp)) (by simp)
  have HPI := Lib.hid hi
  have HSD := Lib.hid hsd
  clear hi hsd eg2 e0 e1 d0a
  go_upto_region 4 with fail
  go_cut [7] (fun t wx => t = .pointer (some ⟨w1.heap.size, 0, none⟩) ∧ Fr [] w1 wx ∧ wx.heap[w1.heap.size]? = some (.cells #[.pointer (some ⟨sd.d, 0, none⟩), .pointer (some ⟨sd.x, 0, none⟩)] 40 (0, 0)))
  case first =>
    have hpk : ∀ W : World, Calls Try.prog 6 #[.int .i64 on, .int .i64 ns] W fun e w' => e = .returned (.int .i64 i) ∧ W = w' := fun W => by
      rw [← HPI.out]; exact pick_walk W on ns (by omega) (by omega) hon1 hon2
    have HPK := Lib.hid hpk
    clear hpk
    have n1 := World.new_ne w1 _ d1
    have n2 := World.new_ne w1 _ c1
    have n3 := World.new_ne w1 _ e0'
    simp only at n1 n2 n3
    go_region_held3 (fun w' => w'.cell? ⟨W, 0, none⟩ = some (.slice (some ⟨g, 0, none⟩) ns vc) ∧ w'.cell? ⟨w.heap.size, 1, none⟩ = some (.int .i64 on) ∧ w'.cell? ⟨g, i * 2, none⟩ = some (.pointer (some ⟨sd.d, 0, none⟩)) ∧ w'.cell? ⟨g, i * 2 + 1, none⟩ = some (.pointer (some ⟨sd.x, 0, none⟩))) (go_keep)
      (first | (go_at_call 6; refine (HPK.out _).mono ?_; rintro e w' ⟨rfl, rfl⟩))
    all_goals
      go_wp2_with fail
      go_meet
      exact ⟨rfl, ((Fr.refl [] w1).alloc _).drew, heap_alloc_new w1 _⟩
  case rest =>
    obtain ⟨rfl, hfc, hsb⟩ := hcut
    have hfw : Fr [] w wc := (HFA.out.trans_nil HF1.out).trans_nil hfc
    have k0 := hfc.cell (HF1.out.cell b0 (by simp)) (by simp)
    have k1 := hfc.cell (HF1.out.cell b1 (by simp)) (by simp)
    have k2 := hfc.cell (HF1.out.cell b2 (by simp)) (by simp)
    have k3 := hfc.cell (HF1.out.cell b3 (by simp)) (by simp)
    have k4 := hfc.cell (HF1.out.cell b4 (by simp)) (by simp)
    have q0 := cell_of_row _ _ 0 _ _ _ hsb
    have q1 := cell_of_row _ _ 1 _ _ _ hsb
    simp at q0 q1
    have hbx1 : w.heap.size ≤ w1.heap.size := Nat.le_trans HFA.out.size HF1.out.size
    have hside := HI.out.dev i sd HSD.out
    have HSI := Lib.hid hside
    have HFW := Lib.hid hfw
    have HSB := Lib.hid hsb
    have HFC := Lib.hid hfc
    clear hfw hsb hfc hside b0 b1 b2 b3 b4 d1 c1 e0' e1' hns1
    have hkc : KeepsIn wc.drew (.slice ka kn kc) ks := HK.out.keep HFW.out.drew (by simp)
    have hap : ∀ a m c, Value.slice ka kn kc = .slice (some a) m c → 0 < m → a.block < wc.drew.heap.size := fun a m c e hm => by
      have hb := HKB.out a m c e hm
      have h1 := HI.out.base_le
      have h2 := HI.out.W_lt
      have h3 := HFW.out.drew.size
      omega
    have HKC := Lib.hid hkc
    have HAP := Lib.hid hap
    have hz0 : w.heap.size ≤ wc.heap.size := HFW.out.size
    have hnp := pending_bound HSI.out.dev.wf
    obtain ⟨np, hnpe⟩ : ∃ np, sd.D.pending.length = np := ⟨_, rfl⟩
    rw [hnpe] at hnp
    have HNP := Lib.hid hnpe
    clear hkc hap hnpe
    go_upto_region 42 with fail
    go_cut [4] (fun t wx => t = .bool true ∧ PlayPost base ρ w W B (.returned (.bool true)) wx)
    case first =>
      go_region_held3 (fun w' => w'.cell? ⟨w1.heap.size, 0, none⟩ = some (.pointer (some ⟨sd.d, 0, none⟩)) ∧ w'.cell? ⟨w1.heap.size, 1, none⟩ = some (.pointer (some ⟨sd.x, 0, none⟩)) ∧ w'.cell? ⟨w.heap.size, 4, none⟩ = some (.slice ka kn kc)) (go_keep)
        (first
          | (go_at_call 13; refine (rpending_walk wc.drew sd.x sd.l sd.b sd.q sd.D (HSI.out.ref_at HFW.out.drew)).mono ?_; rintro e w2 ⟨vx, rfl, hvx, hf2, hnx⟩; have hvs := hvx.shape; rw [HNP.out] at hvs; obtain ⟨xa, xc, rfl, hx1, hx2⟩ := hvs; unfold maxLen at hx2; have p0 := hf2.cell (a := ⟨w1.heap.size, 0, none⟩) q0 (by simp); have p1 := hf2.cell (a := ⟨w1.heap.size, 1, none⟩) q1 (by simp); have p4 := hf2.cell (a := ⟨w.heap.size, 4, none⟩) k4 (by simp); have HF2 := Lib.hid hf2; clear hvx hf2 hnx)
          | (go_at_call 31; refine (near_walk w2 (.slice ka kn kc) ks np (HKC.out.keep HF2.out (by simp)) HKW.out hnp (fun a m c e hm => Nat.lt_of_lt_of_le (HAP.out a m c e hm) HF2.out.size)).mono ?_; rintro e w3 ⟨vn, rfl, hvn, hf3, hnn⟩; have r0 := hf3.cell p0 (by simp); have r1 := hf3.cell p1 (by simp); have r4 := hf3.cell p4 (by simp); have HF3 := Lib.hid hf3; have HVN := Lib.hid hvn; have HNN := Lib.hid hnn; clear hf3 hvn hnn)
          | (go_at_call 30; have h23 := (HFW.out.drew.trans_nil HF2.out).trans_nil HF3.out; refine (sideCrash_walk w3 sd.d sd.p sd.m sd.x sd.l sd.b sd.q sd.D (nearL ks np (min ks.length np)) vn (HSI.out.dev_at h23) (HSI.out.ref_at h23) HVN.out.toIn (nearL_wf ks np hnp _ (Nat.min_le_right _ _)) (by rw [nearL_len]; omega) (fun a m c e _ => HSI.out.apart_new (HFW.out.drew.trans_nil HF2.out).size HVN.out HNN.out a m c e) HSI.out.disj).mono ?_; rintro e w5 ⟨rfl, hd5, hr5, hf5⟩; have s0 := HSI.out.box_later hf5 (six_blocks sd) r0 hbx1; have s1 := HSI.out.box_later hf5 (six_blocks sd) r1 hbx1; have s4 := HSI.out.box_later hf5 (six_blocks sd) r4 (Nat.le_refl _); have HPP := Lib.hid (PlayPost.one HI.out HSD.out h23 hf5 (six_blocks sd) hd5 hr5); clear hd5 hr5 hf5 h23))
      go_wp2_with fail
      go_meet
      exact ⟨rfl, HPP.out⟩
    case rest =>
      obtain ⟨rfl, hp⟩ := hcut
      have HP := Lib.hid hp
      clear hp
      go_wp2_with fail
      go_ret
      exact HP.out


end Go.Proofs.Ytcpealfaaghpiaa
