/-
  The law's first calls, whose answers are fixed. Own work.
-/
import Derived.Deep.RegionHeld
import Derived.Deep.DeepCutAuto
import Derived.Outline
import Derived.Test.YtcpealfaaghpiaaPlay
namespace Go.Proofs.Ytcpealfaaghpiaa
open Go Go.RowKit Go.Maps Go.Sort Go.Shelf

def knownD (ps : ByteArray) : DA := { L := zpages 4, P := [none, none, some ps, none], dead := false, left := 0 }
theorem known_write {ps : ByteArray} (h : ps.size = 256) : (DA.fresh (zpages 4)).write 2 ps = (0, knownD ps) := by
  have hl : (zpages 4).length = 4 := by simp [zpages]
  unfold DA.write
  have ha : (DA.fresh (zpages 4)).asked 2 = 0 := by simp [DA.asked, DA.fresh, hl]
  rw [if_neg (by simp [ha]), if_neg (by simp [h]), if_neg (by simp [DA.dies, DA.fresh])]
  simp [DA.acted, DA.fresh, knownD, hl]
theorem known_read {ps : ByteArray} : (knownD ps).read 2 = (ps, 0) := by
  have hl : (zpages 4).length = 4 := by simp [zpages]
  have ha : (knownD ps).asked 2 = 0 := by simp [DA.asked, knownD, hl]
  unfold DA.read
  rw [if_pos ha]
  rfl
theorem known_pending {ps : ByteArray} : (knownD ps).pending = [(2, ps)] := by
  have : (knownD ps).keys = [2] := rfl
  unfold DA.pending
  rw [this]; rfl

set_option maxRecDepth 100000 in
set_option maxHeartbeats 4000000 in
theorem known_walk (w : World) : Calls Try.prog 4 #[] w fun e w' => e = .returned (.bool true) ∧ Fr [] w w' := by
  obtain ⟨ps, hps⟩ : ∃ ps, pageS 5 = ps := ⟨_, rfl⟩
  have hpz : ps.size = 256 := by rw [← hps]; exact pageS_size 5
  have hpg : ∀ W : World, Calls Try.prog 17 #[.int .i64 5] W fun e w' => e = .returned (.string ps) ∧ Fr [] W w' := fun W => by rw [← hps]; exact page_walk W 5
  obtain ⟨D1, hD1⟩ : ∃ D1, knownD ps = D1 := ⟨_, rfl⟩
  have e1 := known_write hpz
  have e2 := known_read (ps := ps)
  have e3 := known_pending (ps := ps)
  rw [hD1] at e1 e2 e3
  have e4 : D1.L = zpages 4 := by rw [← hD1]; rfl
  have e5 : D1.dead = false := by rw [← hD1]; rfl
  have HPG := Lib.hid hpg
  have E1 := Lib.hid e1
  have E2 := Lib.hid e2
  have E3 := Lib.hid e3
  have E4 := Lib.hid e4
  have E5 := Lib.hid e5
  clear hps hpz hpg hD1 e1 e2 e3 e4 e5
  go_enter Try.func4, Try.ntmps4
  go_wp2_with fail
  refine (new_walk w 4).mono ?_
  rintro e w1 ⟨hf1, hpost⟩
  rcases hpost with ⟨h0, _⟩ | ⟨_, d, p, m, rfl, hdev, lo1, lo2, lo3⟩
  · exact absurd (show newErr 4 = 0 from rfl) h0
  have HF1 := Lib.hid hf1
  have HD1 := Lib.hid hdev
  clear hf1 hdev
  go_wp2_with fail
  refine (HPG.out _).mono ?_
  rintro e w2 ⟨rfl, hf2⟩
  have hd2 := HD1.out.keep hf2 (by simp) (by simp) (by simp)
  have HF2 := Lib.hid (HF1.out.trans_nil hf2)
  have hlow := HD1.out.lt
  clear hf2
  have hw := write_walk w2 d p m (DA.fresh (zpages 4)) 2 ps hd2
  rw [E1.out] at hw
  have HW := Lib.hid hw
  clear hw hd2
  go_wp2_with fail
  refine HW.out.mono ?_
  rintro e w3 ⟨rfl, hd3, hf3⟩
  have HD3 := Lib.hid hd3
  have HF3 := Lib.hid hf3
  clear hd3 hf3 HW
  have hr := read_walk w3 d p m D1 2 HD3.out
  rw [E2.out] at hr
  have HR := Lib.hid hr
  clear hr
  go_wp2_with fail
  refine HR.out.mono ?_
  rintro e w3' ⟨rfl, rfl⟩
  go_wp2_with fail
  refine (pending_walk w3 d p m D1 HD3.out).mono ?_
  rintro e w4 ⟨vl, rfl, hvl, hf4, hnl⟩
  rw [E3.out] at hvl
  obtain ⟨gl, cl, rfl, l0, _⟩ := Row.cell hvl (i := 0) (x := .int .i64 2) rfl
  obtain ⟨gl', cl', el, l1, _⟩ := Row.cell hvl (i := 1) (x := .string ps) rfl
  have hls := hvl.shape
  injection el with el _ el3
  injection el with el
  injection el with el
  subst el el3
  have HD4 := Lib.hid (HD3.out.keep hf4 (by simp) (by simp) (by simp))
  have HF4 := Lib.hid hf4
  clear hvl hf4 hnl
  go_wp2_with fail
  refine (pages_walk w4 d p m D1 HD4.out).mono ?_
  rintro e w5 ⟨vp, rfl, hvp, hf5, hnp⟩
  rw [E4.out] at hvp
  have hrow : Row w5 9 1 vp 4 ((zpages 4).map Value.string) := by
    have h := hvp
    unfold Strs at h
    rw [show (zpages 4).length = 4 by simp [zpages]] at h
    exact h
  obtain ⟨zp, hzp⟩ : ∃ z, zpage = z := ⟨_, rfl⟩
  have hmk := run_zrow
  have hcv := run_zstring
  obtain ⟨zr, hzr⟩ : ∃ z, zrow = z := ⟨_, rfl⟩
  rw [hzr] at hmk hcv
  rw [hzp] at hcv
  obtain ⟨gp, cp, rfl, p2, _⟩ := Row.cell hrow (i := 2) (x := .string zp) (by rw [← hzp]; rfl)
  have q0 := hf5.cell l0 (by simp)
  have q1 := hf5.cell l1 (by simp)
  have HD5 := Lib.hid (HD4.out.keep hf5 (by simp) (by simp) (by simp))
  have HF5 := Lib.hid hf5
  have HFW := Lib.hid (((((HF2.out.weak (T := [d, m]) (by simp)).trans HF3.out (fun _ h => .inl h)).trans_nil HF4.out).trans_nil HF5.out).mono (T := []) (fun x hx => by simp at hx; rcases hx with rfl | rfl <;> exact .inr (by omega)))
  clear hvp hf5 hnp hrow hzp hzr l0 l1
  have n0 := World.new_ne w5 _ q0
  have n2 := World.new_ne w5 _ p2
  simp only at n0 n2
  go_upto_region 8 with fail
  go_region_held (fun w' => Fr [] w5 w' ∧ w'.cell? ⟨gl, 0, none⟩ = some (.int .i64 2) ∧ w'.cell? ⟨gl, 1, none⟩ = some (.string ps) ∧ w'.cell? ⟨gp, 2, none⟩ = some (.string zp)) (refine ⟨?_, ?_, ?_, ?_⟩ <;> first | assumption | exact (Fr.refl _ _).drew | exact (‹Fr [] w5 _ ∧ _›.1).alloc _ | go_keep)
    (first
      | (go_at_call 17; refine (HPG.out _).mono ?_; rintro e wq ⟨rfl, hfq⟩; have hq := Fr.trans_nil (‹Fr [] w5 _ ∧ _›.1) hfq; have z0 := hq.cell q0 (by simp); have z1 := hq.cell q1 (by simp); have z2 := hq.cell p2 (by simp); have y0 := World.new_ne wq _ z0; have y2 := World.new_ne wq _ z2; simp only at y0 y2; clear hfq)
      | (go_at_call 19; refine (size_walk _ d p m D1 (HD5.out.keep (‹Fr [] w5 _ ∧ _›.1) (by simp) (by simp) (by simp))).mono ?_; rintro e wq ⟨rfl, rfl⟩; rw [E4.out])
      | (go_at_call 14; refine (dead_walk _ d p m D1 (HD5.out.keep (‹Fr [] w5 _ ∧ _›.1) (by simp) (by simp) (by simp))).mono ?_; rintro e wq ⟨rfl, rfl⟩; rw [E5.out]))
  go_wp2_with fail
  go_ret
  exact ⟨rfl, HFW.out.trans_nil (‹Fr [] w5 _ ∧ _›.1)⟩
end Go.Proofs.Ytcpealfaaghpiaa
