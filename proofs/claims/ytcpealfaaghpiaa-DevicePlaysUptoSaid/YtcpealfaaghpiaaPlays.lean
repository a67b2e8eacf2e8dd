/-
  The law: the whole script. Own work.
-/
import Derived.Deep.RegionHeld3
import Derived.Deep.DeepCutAuto
import Derived.Deep.QuietTactic
import Derived.BigQuiet
import Derived.Deep.CutBlock
import Derived.Outline
import Derived.Test.YtcpealfaaghpiaaKnown
import Derived.Test.YtcpealfaaghpiaaPlayF
import Derived.Test.YtcpealfaaghpiaaStill
namespace Go.Proofs.Ytcpealfaaghpiaa
open Go Go.RowKit Go.Maps Go.Sort Go.Shelf

theorem Goes.fr {base : Nat} {ρ : Rho} {w wr wr' : World} {W : Nat} {A : WA} {B : Nat} (h : WInv base ρ wr W A B) (hb : w.heap.size ≤ base) (hf : Fr [] w wr) (hs : ∃ S, Fr S wr wr' ∧ Ours ρ S) : Fr [] w wr' := by
  obtain ⟨S, hS, oS⟩ := hs
  refine ((hf.weak (T := S) (by simp)).trans hS (fun _ h => .inl h)).mono fun x hx => .inr ?_
  have := oS x hx
  cases e : ρ x with
  | none => rw [e] at this; cases this
  | some t => have := h.ge e; omega
def nilW : Array Value := #[.slice none 0 0, .slice none 0 0, .slice none 0 0, .slice none 0 0, .slice none 0 0, .slice none 0 0, .slice none 0 0, .slice none 0 0]
def nilA : WA := { vl := .slice none 0 0, vf := .slice none 0 0, vw := .slice none 0 0, vg := .slice none 0 0, vh := .slice none 0 0, vd := .slice none 0 0, ve := .slice none 0 0, vn := .slice none 0 0, sides := [], free := [], was := [], wfree := [], wwas := [], done := [], wdone := [], G := 0, H := 0, hn := 0 }
theorem winv_start {base : Nat} {w : World} {W : Nat} (hW : w.heap[W]? = some (.cells nilW 30 (0, 0))) (hb : base ≤ W) : WInv base (upd (fun _ => none) W .W) w W nilA 0 := by
  have nil : ∀ {E : TypeId} {sz : Nat} {t : Tag}, TRow (upd (fun _ => none) W .W) w E sz t (.slice none 0 0) 0 [] := fun {E sz t} => ⟨⟨by simp, .inl ⟨rfl, rfl⟩⟩, fun k hk => by simp [Value.ownBlock] at hk⟩
  have hl := lt_of_heap hW
  constructor
  · exact upd_same _ _ _
  · exact hW
  · exact fun k hk => upd_ne (by omega)
  · exact fun k hk => upd_ne (by omega)
  · exact nil
  · exact Nat.zero_le _
  · intro i s hs; simp [nilA] at hs
  · exact nil
  · exact nil
  · intro i v l hi; simp [nilA] at hi
  · intro i v l u hi; simp [nilA] at hi
  · exact nil
  · exact nil
  · intro i v l hi; simp [nilA] at hi
  · intro i v l u hi; simp [nilA] at hi
  · exact nil
  · rfl
  · intro i v n hi; simp [nilA] at hi
  · exact nil
  · rfl
  · intro i v n hi; simp [nilA] at hi
  · exact ⟨[], nil⟩
  · exact Nat.le_refl _
  · exact Nat.le_refl _

/-- An op of the script lies at an address. -/
def OpAt (w : World) (a : Addr) : Prop := ∃ (kind on n : Int) (s : ByteArray) (ka : Option Addr) (kn kc : Nat) (ks : List (Int × Int)),
  w.cell? a = some (.int .i64 kind) ∧ w.cell? ⟨a.block, a.off + 1, none⟩ = some (.int .i64 on) ∧ w.cell? ⟨a.block, a.off + 2, none⟩ = some (.int .i64 n) ∧ w.cell? ⟨a.block, a.off + 3, none⟩ = some (.string s) ∧ w.cell? ⟨a.block, a.off + 4, none⟩ = some (.slice ka kn kc) ∧
  -9223372036854775808 ≤ on ∧ on ≤ 9223372036854775807 ∧ -9223372036854775808 ≤ n ∧ n ≤ 9223372036854775807 ∧ KeepsIn w (.slice ka kn kc) ks ∧ KWf ks ∧ ks.length ≤ 1048576 ∧ ∀ a' m c, Value.slice ka kn kc = .slice (some a') m c → 0 < m → a'.block < w.heap.size

set_option maxRecDepth 100000 in
set_option maxHeartbeats 4000000 in
theorem plays_walk (w : World) (pages : Int) (sa : Option Addr) (sn sc : Nat) (hp1 : -9223372036854775808 ≤ pages) (hp2 : pages ≤ 9223372036854775807) (_hsn : sn ≤ 9223372036854775807) (hs : ∀ i, i < sn → ∃ a, sa = some a ∧ OpAt w (a.add (i * 5))) :
    Calls Try.prog 3 #[.int .i64 pages, .slice sa sn sc] w fun e w' => e = .returned (.bool true) ∧ Fr [] w w' := by
  have HS := Lib.hid hs
  obtain ⟨pk, hpk⟩ : ∃ pk, pickN pages 12 = pk := ⟨_, rfl⟩
  have hpk12 : pk < 12 := by rw [← hpk]; exact pickN_lt pages (by omega)
  have hpick : ∀ W : World, Calls Try.prog 6 #[.int .i64 pages, .int .i64 12] W fun e w' => e = .returned (.int .i64 pk) ∧ W = w' := fun W => by
    rw [← hpk]; exact pick_walk W pages 12 (by omega) (by omega) hp1 hp2
  have HPK := Lib.hid hpick
  clear hs hpk hpick
  go_enter Try.func3, Try.ntmps3
  go_wp2_with fail
  refine (known_walk w).mono ?_
  rintro e w1 ⟨rfl, hf1⟩
  have HF1 := Lib.hid hf1
  clear hf1
  go_wp2_with fail
  refine (HPK.out _).mono ?_
  rintro e w2 ⟨rfl, hw2⟩
  have hW : w2.heap[w1.heap.size]? = some (.cells nilW 30 (0, 0)) := by rw [← hw2]; exact heap_alloc_new w1 _
  have hf2 : Fr [] w w2 := by rw [← hw2]; exact HF1.out.alloc _
  have hinv := winv_start (base := w.heap.size) hW HF1.out.size
  have HI2 := Lib.hid hinv
  have HF2 := Lib.hid hf2
  clear hW hinv hf2 hw2
  go_wp2_with fail
  refine (play_walk HI2.out (by omega) 12 0 _ _ none 0 0 (by omega) (by omega) (by omega) (by omega) [] (.inl ⟨rfl, rfl⟩) (by intro x hx; cases hx) (by simp) (by intro a m c e _; cases e)).mono ?_
  rintro e w3 ⟨rfl, ρ3, A3, h3, _, s3⟩
  have HF3 := Lib.hid (Goes.fr HI2.out (Nat.le_refl _) HF2.out s3)
  have HI3 := Lib.hid h3
  clear h3 s3
  go_upto_block 0 with fail
  go_cut [8] (fun _ wx => ∃ ρ A B, WInv w.heap.size ρ wx w1.heap.size A B ∧ B ≤ 190 ∧ Fr [] w wx)
  case first =>
    go_wp2_with fail
    go_loopw [8] (fun i wr => ∃ k : Nat, k ≤ 80 ∧ i = .int .i64 k ∧ ∃ ρ A, WInv w.heap.size ρ wr w1.heap.size A (2 * k + 2) ∧ Fr [] w wr) (fun i _ => 80 - (intOf i).toNat)
    case atStart => exact ⟨0, by omega, rfl, ρ3, A3, HI3.out, HF3.out⟩
    case round =>
      obtain ⟨k, hk, rfl, ρ, A, hi, hf⟩ := hrel
      have HI := Lib.hid hi
      have HF := Lib.hid hf
      clear hi hf
      by_cases h1 : k < sn
      · by_cases h2 : k < 80
        · obtain ⟨a0, rfl, kind, on, n, s, ka, kn, kc, ks, o0, o1, o2, o3, o4, b1, b2, b3, b4, hk1, hk2, hk3, hk4⟩ := HS.out k h1
          have p0 := HF.out.cell o0 (by simp)
          have p1 := HF.out.cell o1 (by simp)
          have p2 := HF.out.cell o2 (by simp)
          have p3 := HF.out.cell o3 (by simp)
          have p4 := HF.out.cell o4 (by simp)
          have HK1 := Lib.hid (hk1.keep HF.out (by simp))
          have HK2 := Lib.hid hk2
          have HK4 := Lib.hid hk4
          clear o0 o1 o2 o3 o4 hk1 hk2 hk4
          go_wp2_with fail
          refine (play_walk HI.out (by omega) kind on n s ka kn kc b1 b2 b3 b4 ks HK1.out HK2.out hk3 HK4.out).mono ?_
          rintro e w5 ⟨rfl, ρ5, A5, h5, _, s5⟩
          have HF5 := Lib.hid (Goes.fr HI.out (Nat.le_refl _) HF.out s5)
          have HI5 := Lib.hid h5
          clear h5 s5 p0 p1 p2 p3 p4
          by_cases hm : k % 3 = 2
          · have hb : ((k : Int) % 3 == 2) = true := by simp; omega
            go_wp2_with fail
            refine (still_walk HI5.out (by omega)).mono ?_
            rintro e w6 ⟨rfl, ρ6, A6, h6, _, s6⟩
            have HF6 := Lib.hid (Goes.fr HI5.out (Nat.le_refl _) HF5.out s6)
            have HI6 := Lib.hid h6
            clear h6 s6 hb
            go_wp2_with fail
            go_roundw
            case rel => exact ⟨k + 1, by omega, by go_num, ρ6, A6, HI6.out.more (by omega), HF6.out⟩
            case measure => simp [intOf]; omega
          · have hb : ((k : Int) % 3 == 2) = false := by simp; omega
            go_wp2_with fail
            go_roundw
            case rel => exact ⟨k + 1, by omega, by go_num, ρ5, A5, HI5.out.more (by omega), HF5.out⟩
            case measure => simp [intOf]; omega
        · go_wp2_with fail
          go_meet
          exact ⟨ρ, A, _, HI.out, by omega, HF.out⟩
      · go_wp2_with fail
        go_meet
        exact ⟨ρ, A, _, HI.out, by omega, HF.out⟩
  case rest =>
    obtain ⟨w4, rfl⟩ : ∃ x : World, x = wc := ⟨_, rfl⟩
    obtain ⟨ρ, A, B, hi, hB, hf⟩ := hcut
    obtain ⟨va, vc, hvl, hv1, hv2⟩ := hi.sides.1.slice
    have hns := hi.five
    obtain ⟨ns, hnse⟩ : ∃ ns, A.sides.length = ns := ⟨_, rfl⟩
    rw [hnse] at hvl hv1 hns
    have d0 := cell_of_row _ _ 0 _ _ _ hi.cW
    simp [WA.cells, hvl] at d0
    have HI := Lib.hid hi
    have HF := Lib.hid hf
    have HVL := Lib.hid hvl
    have HNS := Lib.hid hnse
    clear hi hf hvl hnse
    go_upto_block 2 with fail
    go_cut [11] (fun _ wx => Fr [] w4 wx)
    case first =>
      go_wp2_with fail
      go_loopw [11] (fun i wr => ∃ k : Nat, k ≤ ns ∧ i = .int .i64 k ∧ Fr [] w4 wr) (fun i _ => ns - (intOf i).toNat)
      case atStart => exact ⟨0, Nat.zero_le _, rfl, Fr.refl _ _⟩
      case round =>
        obtain ⟨k, hk, rfl, hfr⟩ := hrel
        have y0 := hfr.cell d0 (by simp)
        have HFR := Lib.hid hfr
        have HFW : Hid (Fr [] w4 w4) := Lib.hid (Fr.refl _ _)
        clear hfr
        by_cases hlt : k < ns
        · obtain ⟨sd, hsd⟩ := get_of_lt HNS.out hlt
          obtain ⟨g, cap, eg, _, _, e0, e1⟩ := side_cells HI.out.sides hsd
          rw [HVL.out, HNS.out] at eg
          injection eg with eg1 eg2 eg3
          subst eg1 eg3
          have y1 := HFR.out.cell e0 (by simp)
          have y2 := HFR.out.cell e1 (by simp)
          have HSI := Lib.hid (HI.out.dev k sd hsd)
          clear hsd eg2 e0 e1
          go_wp2_with fail
          go_upto_region 19 with fail
          go_cut [12] (fun t wx => t = .bool true ∧ Fr [] wr wx)
          case first =>
            go_region_held3 (fun w' => Fr [] wr w' ∧ w'.cell? ⟨w1.heap.size, 0, none⟩ = some (.slice (some ⟨g, 0, none⟩) ns vc) ∧ w'.cell? ⟨g, k * 2, none⟩ = some (.pointer (some ⟨sd.d, 0, none⟩)) ∧ w'.cell? ⟨g, k * 2 + 1, none⟩ = some (.pointer (some ⟨sd.x, 0, none⟩))) (refine ⟨?_, ?_, ?_, ?_⟩ <;> first | assumption | exact (Fr.refl _ _).drew | go_keep)
              (first
                | (go_at_call 9; refine (pages_walk _ sd.d sd.p sd.m sd.D (HSI.out.dev_at ((HFW.out.trans_nil HFR.out).trans_nil (‹Fr [] wr _ ∧ _›.1)))).mono ?_; rintro e wq ⟨vp, rfl, hvp, hfq, hnp⟩; have hq := Fr.trans_nil (‹Fr [] wr _ ∧ _›.1) hfq; have z0 := hq.cell y0 (by simp); have z1 := hq.cell y1 (by simp); have z2 := hq.cell y2 (by simp); have HVP := Lib.hid hvp; clear hvp hfq hnp)
                | (go_at_call 10; refine (rpages_walk _ sd.x sd.l sd.b sd.q sd.D (HSI.out.ref_at ((HFW.out.trans_nil HFR.out).trans_nil (‹Fr [] wr _ ∧ _›.1)))).mono ?_; rintro e wz ⟨vx, rfl, hvx, hfz, hnx⟩; have hz := Fr.trans_nil (‹Fr [] wr _ ∧ _›.1) hfz; have z0 := hz.cell y0 (by simp); have z1 := hz.cell y1 (by simp); have z2 := hz.cell y2 (by simp); have HVX := Lib.hid hvx; have HVP2 := Lib.hid (Row.keep_nil HVP.out hfz); clear hvx hfz hnx)
                | (go_at_call 8; refine (same_yes _ vp vx sd.D.L HVP2.out HVX.out).mono ?_; rintro e wy ⟨rfl, hfy⟩; have hy := Fr.trans_nil (‹Fr [] wr _ ∧ _›.1) hfy; have z0 := hy.cell y0 (by simp); have z1 := hy.cell y1 (by simp); have z2 := hy.cell y2 (by simp); clear hfy))
            all_goals
              go_wp2_with fail
              go_meet
              exact ⟨rfl, ‹Fr [] wr _ ∧ _›.1⟩
          case rest =>
            obtain ⟨rfl, hfc⟩ := hcut
            have y0' := hfc.cell y0 (by simp)
            have y1' := hfc.cell y1 (by simp)
            have y2' := hfc.cell y2 (by simp)
            have HFR2 := Lib.hid (HFR.out.trans_nil hfc)
            clear hfc y0 y1 y2 HFR
            go_upto_region 20 with fail
            go_cut [13] (fun t wx => t = .bool true ∧ Fr [] wc wx)
            case first =>
              go_region_held3 (fun w' => Fr [] wc w' ∧ w'.cell? ⟨w1.heap.size, 0, none⟩ = some (.slice (some ⟨g, 0, none⟩) ns vc) ∧ w'.cell? ⟨g, k * 2, none⟩ = some (.pointer (some ⟨sd.d, 0, none⟩)) ∧ w'.cell? ⟨g, k * 2 + 1, none⟩ = some (.pointer (some ⟨sd.x, 0, none⟩))) (refine ⟨?_, ?_, ?_, ?_⟩ <;> first | assumption | exact (Fr.refl _ _).drew | go_keep)
                (first
                  | (go_at_call 12; refine (pending_walk _ sd.d sd.p sd.m sd.D (HSI.out.dev_at ((HFW.out.trans_nil HFR2.out).trans_nil (‹Fr [] wc _ ∧ _›.1)))).mono ?_; rintro e wq ⟨vp, rfl, hvp, hfq, hnp⟩; have hq := Fr.trans_nil (‹Fr [] wc _ ∧ _›.1) hfq; have z0 := hq.cell y0' (by simp); have z1 := hq.cell y1' (by simp); have z2 := hq.cell y2' (by simp); have HVP := Lib.hid hvp; clear hvp hfq hnp)
                  | (go_at_call 13; refine (rpending_walk _ sd.x sd.l sd.b sd.q sd.D (HSI.out.ref_at ((HFW.out.trans_nil HFR2.out).trans_nil (‹Fr [] wc _ ∧ _›.1)))).mono ?_; rintro e wz ⟨vx, rfl, hvx, hfz, hnx⟩; have hz := Fr.trans_nil (‹Fr [] wc _ ∧ _›.1) hfz; have z0 := hz.cell y0' (by simp); have z1 := hz.cell y1' (by simp); have z2 := hz.cell y2' (by simp); have HVX := Lib.hid hvx; have HVP2 := Lib.hid (Row.keep_nil HVP.out hfz); clear hvx hfz hnx)
                  | (go_at_call 11; refine (sameW_yes _ vp vx sd.D.pending HVP2.out HVX.out).mono ?_; rintro e wy ⟨rfl, hfy⟩; have hy := Fr.trans_nil (‹Fr [] wc _ ∧ _›.1) hfy; have z0 := hy.cell y0' (by simp); have z1 := hy.cell y1' (by simp); have z2 := hy.cell y2' (by simp); clear hfy))
              all_goals
                go_wp2_with fail
                go_meet
                exact ⟨rfl, ‹Fr [] wc _ ∧ _›.1⟩
            case rest =>
              obtain ⟨rfl, hfc⟩ := hcut
              have y0 := hfc.cell y0' (by simp)
              have y1 := hfc.cell y1' (by simp)
              have y2 := hfc.cell y2' (by simp)
              have HFR3 := Lib.hid (HFR2.out.trans_nil hfc)
              clear hfc y0' y1' y2' HFR2
              obtain ⟨bd, hbd⟩ : ∃ bd, sd.D.dead = bd := ⟨_, rfl⟩
              obtain ⟨cl, cb, cq, c0, cc1, c2, c3, c4, _⟩ := (HSI.out.ref_at HFR3.out).cells
              rw [hbd] at c4
              have hs3 : ∀ n, Calls Try.prog 14 #[.pointer (some ⟨sd.d, 0, none⟩)] (wc.drewN n) fun e w' => e = .returned (.bool bd) ∧ w' = wc.drewN n := fun n => by
                rw [← hbd]; exact (dead_walk _ sd.d sd.p sd.m sd.D ((HSI.out.dev_at HFR3.out).drewN n)).mono fun _ _ ⟨a, b⟩ => ⟨a, b.symm⟩
              have HS3 := Lib.hid hs3
              clear hs3 hbd c0 cc1 c2 c3
              go_wp2_with fail
              go_quiet ((go_at_call 14; exact Calls.quiet_of_same (HS3.out _)))
              go_wp2_with fail
              go_roundw
              case rel => exact ⟨k + 1, by omega, by go_num, HFR3.out.drewN _⟩
              case measure => simp [intOf]; omega
        · obtain rfl : k = ns := by omega
          go_wp2_with fail
          go_meet
          exact HFR.out
    case rest =>
      have HF9 := Lib.hid hcut
      clear hcut
      go_wp2_with fail
      refine (still_walk (HI.out.keep_nil HF9.out) (by omega)).mono ?_
      rintro e w6 ⟨rfl, ρ6, A6, h6, _, s6⟩
      have HF6 := Lib.hid (Goes.fr (HI.out.keep_nil HF9.out) (Nat.le_refl _) (HF.out.trans_nil HF9.out) s6)
      clear h6 s6
      go_wp2_with fail
      go_ret
      exact ⟨rfl, HF6.out⟩
end Go.Proofs.Ytcpealfaaghpiaa
