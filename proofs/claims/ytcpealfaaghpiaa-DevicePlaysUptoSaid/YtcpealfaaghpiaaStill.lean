/-
  The law's still: the whole (printed by wip/tools/genstillw.py). Own work.
-/
import Derived.Deep.RegionHeld3
import Derived.Deep.DeepCutAuto
import Derived.Deep.CutBlock
import Derived.Deep.QuietTactic
import Derived.BigQuiet
import Derived.Outline
import Derived.IntWalk
import Derived.Test.YtcpealfaaghpiaaStillWB
namespace Go.Proofs.Ytcpealfaaghpiaa
open Go Go.RowKit Go.Maps Go.Sort Go.Shelf
set_option maxRecDepth 100000 in
set_option maxHeartbeats 4000000 in
theorem still_walk {base : Nat} {ρ : Rho} {w : World} {W : Nat} {A : WA} {B : Nat} (h : WInv base ρ w W A B) (hB : B ≤ 200) :
    Calls Try.prog 7 #[.pointer (some ⟨W, 0, none⟩)] w (StillPost base ρ w W B) := by
  obtain ⟨nf, hnf⟩ : ∃ n, A.free.length = n := ⟨_, rfl⟩
  obtain ⟨nw, hnw⟩ : ∃ n, A.wfree.length = n := ⟨_, rfl⟩
  obtain ⟨fa, fc, hvf, hf1, hf2⟩ := h.free.1.slice
  obtain ⟨wa, wcp, hvw, hw1, hw2⟩ := h.was.1.slice
  obtain ⟨ga, gc, hvg, hg1, hg2⟩ := h.wfree.1.slice
  obtain ⟨ha, hc, hvh, hh1, hh2⟩ := h.wwas.1.slice
  have hW := h.cW
  rw [hnf] at hvf hvw hf1 hw1
  rw [hnw] at hvg hvh hg1 hh1
  have d1 := cell_of_row _ _ 1 _ _ _ hW
  have d2 := cell_of_row _ _ 2 _ _ _ hW
  have d3 := cell_of_row _ _ 3 _ _ _ hW
  have d4 := cell_of_row _ _ 4 _ _ _ hW
  simp [WA.cells] at d1 d2 d3 d4
  rw [hvf] at d1
  rw [hvw] at d2
  rw [hvg] at d3
  rw [hvh] at d4
  have HI := Lib.hid h
  have HNF := Lib.hid hnf
  have HNW := Lib.hid hnw
  have HVF := Lib.hid hvf
  have HVW := Lib.hid hvw
  have HVG := Lib.hid hvg
  have HVH := Lib.hid hvh
  clear h hnf hnw hvf hvw hvg hvh hW
  go_enter Try.func7, Try.ntmps7
  go_upto_block 0 with fail
  go_cut [3] (fun _ wx => Fr [] w wx)
  case first =>
    go_wp2_with fail
    go_loopw [3] (fun i wr => ∃ k : Nat, k ≤ nf ∧ i = .int .i64 k ∧ Fr [] w wr) (fun i _ => nf - (intOf i).toNat)
    case atStart => exact ⟨0, Nat.zero_le _, rfl, Fr.refl _ _⟩
    case round =>
      obtain ⟨k, hk, rfl, hfr⟩ := hrel
      have c1 := hfr.cell d1 (by simp)
      have c2 := hfr.cell d2 (by simp)
      have HFR := Lib.hid hfr
      clear hfr
      by_cases hlt : k < nf
      · obtain ⟨⟨v, l⟩, hp⟩ := get_of_lt HNF.out hlt
        obtain ⟨u, hu⟩ := get_of_lt (l := A.was) (by have := HI.out.was.1.1; rw [HNF.out] at this; omega) hlt
        obtain ⟨g, rfl, x1, _⟩ := HI.out.free.1.nth HVF.out hp
        obtain ⟨g', rfl, x2, _⟩ := (HNF.out ▸ HI.out.was.1).nth' HVW.out hu
        have y1 := HFR.out.cell x1 (by simp)
        have y2 := HFR.out.cell x2 (by simp)
        have r1 := (HI.out.lfree k v l hp).1.1.keep_nil HFR.out
        have r2 := (HI.out.lwas k v l u hp hu).1.keep_nil HFR.out
        have hsame : ∀ n, Calls Try.prog 8 #[v, u] (wr.drewN n) fun e w' => e = .returned (.bool true) ∧ ∃ m, w' = (wr.drewN n).drewN m := fun n => by
          refine (same_walk (wr.drewN n) v u l l (r1.keep_nil ((Fr.refl _ _).drewN n)) (r2.keep_nil ((Fr.refl _ _).drewN n))).mono ?_
          rintro e w' ⟨rfl, hm⟩
          exact ⟨by simp, hm⟩
        have HSM := Lib.hid hsame
        clear hp hu x1 x2 r1 r2 hsame
        go_wp2_with fail
        go_quiet ((go_at_call 8; exact Calls.quiet_of (HSM.out _)))
        go_wp2_with fail
        go_roundw
        case rel => exact ⟨k + 1, by omega, by go_num, HFR.out.drewN _⟩
        case measure => simp [intOf]; omega
      · go_wp2_with fail
        go_meet
        exact HFR.out
  case rest =>
    obtain ⟨w1, rfl⟩ : ∃ x : World, x = wc := ⟨_, rfl⟩
    have HF1 := Lib.hid hcut
    clear hcut
    go_upto_block 2 with fail
    go_cut [5] (fun _ wx => Fr [] w wx)
    case first =>
      go_wp2_with fail
      go_loopw [5] (fun i wr => ∃ k : Nat, k ≤ nw ∧ i = .int .i64 k ∧ Fr [] w wr) (fun i _ => nw - (intOf i).toNat)
      case atStart => exact ⟨0, Nat.zero_le _, rfl, HF1.out⟩
      case round =>
        obtain ⟨k, hk, rfl, hfr⟩ := hrel
        have c1 := hfr.cell d3 (by simp)
        have c2 := hfr.cell d4 (by simp)
        have HFR := Lib.hid hfr
        clear hfr
        by_cases hlt : k < nw
        · obtain ⟨⟨v, l⟩, hp⟩ := get_of_lt HNW.out hlt
          obtain ⟨u, hu⟩ := get_of_lt (l := A.wwas) (by have := HI.out.wwas.1.1; rw [HNW.out] at this; omega) hlt
          obtain ⟨g, rfl, x1, _⟩ := HI.out.wfree.1.nth HVG.out hp
          obtain ⟨g', rfl, x2, _⟩ := (HNW.out ▸ HI.out.wwas.1).nth' HVH.out hu
          have y1 := HFR.out.cell x1 (by simp)
          have y2 := HFR.out.cell x2 (by simp)
          have r1 := (HI.out.lwfree k v l hp).1.1.keep_nil HFR.out
          have r2 := (HI.out.lwwas k v l u hp hu).1.keep_nil HFR.out
          have hsame : ∀ n, Calls Try.prog 11 #[v, u] (wr.drewN n) fun e w' => e = .returned (.bool true) ∧ ∃ m, w' = (wr.drewN n).drewN m := fun n => by
            refine (sameWrites_walk (wr.drewN n) v u l l (r1.keep_nil ((Fr.refl _ _).drewN n)) (r2.keep_nil ((Fr.refl _ _).drewN n))).mono ?_
            rintro e w' ⟨rfl, hm⟩
            exact ⟨by simp, hm⟩
          have HSM := Lib.hid hsame
          clear hp hu x1 x2 r1 r2 hsame
          go_wp2_with fail
          go_quiet ((go_at_call 11; exact Calls.quiet_of (HSM.out _)))
          go_wp2_with fail
          go_roundw
          case rel => exact ⟨k + 1, by omega, by go_num, HFR.out.drewN _⟩
          case measure => simp [intOf]; omega
        · go_wp2_with fail
          go_meet
          exact HFR.out
    case rest =>
      obtain ⟨w2, rfl⟩ : ∃ x : World, x = wc := ⟨_, rfl⟩
      have hinv := HI.out.keep_nil hcut
      have hf := hcut
      clear hcut
      go_step
      exact still_t3 hinv hB hf _ _ _ _ _ _ _ _ _ _ _ _ _ _ _ _ _ _ _ _ _ _ _ _ _ _ _ _ _ _ _ _ _ _ _ _ _ _ _ _ _ _ _ _ _ _ _ _ _ _ _ _ _ _ _ _ _ _ _ _ _ _ _ _ _ _ _ _ _ _ _ _ _ _ _ _ _ _ _ _ _ _ _ _ _ _ _ _ _ _ _ _ _ _ _ _ _ _ _ _ _ _ _ _ _ _ _ _ _ _ _ _ _ _ _ _ _ _ _ _ _ _ _ _ _ _ _ _ _ _ _ _ _ _ _ _ _ _ _ _ _ _ _ _ _ _ _ _ _ _ _ _ _ _ _ _ _ _ _ _ _ _ _ _ _ _ _ _ _ _ _ _ _ _ _ _ _ _ _ _ _ _ _ _ _ _ _ _ _ _ _ _ _ _ _ _ _ _ _ _ _ _ _ _ _ _ _ _ _ _ _ _ _ _ _ _ _ _ _ _ _ _ _ _ _ _ _ _ _ _ _ _ _ _ _ _ _ _ _ _ _ _ _ _ _ _ _ _ _ _ _ _ _ _ _ _ _ _ _ _ _ _ _ _ _ _ _ _ _ _ _ _ _ _ _ _ _ _ _ _ _ _ _ _ _ _ _ _ _ _ _ _ _ _ _ _ _ _ _ _ _ _ _ _ _ _ _ _ _ _ _ _ _
end Go.Proofs.Ytcpealfaaghpiaa
