/-
  The law's still: the marking of pages (printed by wip/tools/genstillw.py). Own work.
-/
import Derived.Deep.RegionHeld3
import Derived.Deep.DeepCutAuto
import Derived.Deep.CutBlock
import Derived.Deep.QuietTactic
import Derived.BigQuiet
import Derived.Outline
import Derived.IntWalk
import Derived.Test.YtcpealfaaghpiaaStillWA
namespace Go.Proofs.Ytcpealfaaghpiaa
open Go Go.RowKit Go.Maps Go.Sort Go.Shelf

set_option maxRecDepth 1000000 in
set_option maxHeartbeats 4000000 in
theorem still_t3 {base : Nat} {ρ : Rho} {w0 w : World} {W : Nat} {A : WA} {B : Nat} (h : WInv base ρ w W A B) (hB : B ≤ 200) (h0 : Fr [] w0 w) (x1 x2 x3 x4 x5 x6 x7 x8 x9 x10 x11 x12 x13 x14 x15 x16 x17 x18 x19 x20 x21 x22 x23 x24 x25 x26 x27 x28 x29 x30 x31 x32 x33 x34 x35 x36 x37 x38 x39 x40 x41 x42 x43 x44 x45 x46 x47 x48 x49 x50 x51 x52 x53 x54 x55 x56 x57 x58 x59 x60 x61 x62 x63 x64 x65 x66 x67 x68 x69 x70 x71 x72 x73 x74 x75 x76 x77 x78 x79 x80 x81 x82 x83 x84 x85 x86 x87 x88 x89 x90 x91 x92 x93 x94 x95 x96 x97 x98 x99 x100 x101 x102 x103 x104 x105 x106 x107 x108 x109 x110 x111 x112 x113 x114 x115 x116 x117 x118 x119 x120 x121 x122 x123 x124 x125 x126 x127 x128 x129 x130 x131 x132 x133 x134 x135 x136 x137 x138 x139 x140 x141 x142 x143 x144 x145 x146 x147 x148 x149 x150 x151 x152 x153 x154 x155 x156 x157 x158 x159 x160 x161 x162 x163 x164 x165 x166 x167 x168 x169 x170 x171 x172 x173 x174 x175 x176 x177 x178 x179 x180 x181 x182 x183 x184 x185 x186 x187 x188 x189 x190 x191 x192 x193 x194 x195 x196 x197 x198 x199 x200 x201 x202 x203 x204 x205 x206 x207 x208 x209 x210 x211 x212 x213 x214 x215 x216 x217 x218 x219 x220 x221 x222 x223 x224 x225 x226 x227 x228 x229 x230 x231 x232 x233 x234 x235 x236 x237 x238 x239 x240 x241 x242 x243 x244 x245 x246 x247 x248 x249 x250 x251 x252 x253 x254 x255 x256 x257 x258 x259 x260 x261 x262 x263 x264 x265 x266 x267 x268 x269 x270 x271 x272 x273 x274 x275 x276 x277 x278 x279 x280 x281 x282 x283 x284 x285 x286 x287 x288 x289 x290 x291 x292 x293 x294 x295 x296 x297 x298 x299 x300 x301 x302 x303 x304 x305 x306 x307 x308 x309 x310 x311 x312 x313 : Value) :
    Code.wp Try.prog (stillT 3) (bodyPost Try.prog Try.f7 (StillPost base ρ w0 W B)) ⟨#[.pointer (some ⟨W, 0, none⟩), x1, x2, x3, x4, x5, x6, x7, x8, x9, x10, x11, x12, x13, x14, x15, x16, x17, x18, x19, x20, x21, x22, x23, x24, x25, x26, x27, x28, x29, x30, x31, x32, x33, x34, x35, x36, x37, x38, x39, x40, x41, x42, x43, x44, x45, x46, x47, x48, x49, x50, x51, x52, x53, x54, x55, x56, x57, x58, x59, x60, x61, x62, x63, x64, x65, x66, x67, x68, x69, x70, x71, x72, x73, x74, x75, x76, x77, x78, x79, x80, x81, x82, x83, x84, x85, x86, x87, x88, x89, x90, x91, x92, x93, x94, x95, x96, x97, x98, x99, x100, x101, x102, x103, x104, x105, x106, x107, x108, x109, x110, x111, x112, x113, x114, x115, x116, x117, x118, x119, x120, x121, x122, x123, x124, x125, x126, x127, x128, x129, x130, x131, x132, x133, x134, x135, x136, x137, x138, x139, x140, x141, x142, x143, x144, x145, x146, x147, x148, x149, x150, x151, x152, x153, x154, x155, x156, x157, x158, x159, x160, x161, x162, x163, x164, x165, x166, x167, x168, x169, x170, x171, x172, x173, x174, x175, x176, x177, x178, x179, x180, x181, x182, x183, x184, x185, x186, x187, x188, x189, x190, x191, x192, x193, x194, x195, x196, x197, x198, x199, x200, x201, x202, x203, x204, x205, x206, x207, x208, x209, x210, x211, x212, x213, x214, x215, x216, x217, x218, x219, x220, x221, x222, x223, x224, x225, x226, x227, x228, x229, x230, x231, x232, x233, x234, x235, x236, x237, x238, x239, x240, x241, x242, x243, x244, x245, x246, x247, x248, x249, x250, x251, x252, x253, x254, x255, x256, x257, x258, x259, x260, x261, x262, x263, x264, x265, x266, x267, x268, x269, x270, x271, x272, x273, x274, x275, x276, x277, x278, x279, x280, x281, x282, x283, x284, x285, x286, x287, x288, x289, x290, x291, x292, x293, x294, x295, x296, x297, x298, x299, x300, x301, x302, x303, x304, x305, x306, x307, x308, x309, x310, x311, x312, x313], []⟩ w := by
  conv => arg 2; whnf
  obtain ⟨nf, hnf⟩ : ∃ n, A.free.length = n := ⟨_, rfl⟩
  obtain ⟨fa, fc, hvf, hf1, hf2⟩ := h.free.1.slice
  obtain ⟨da, dc, hvd, hd1, hd2⟩ := h.done.1.slice
  have hW := h.cW
  rw [hnf] at hvf hf1
  have d1 := cell_of_row _ _ 1 _ _ _ hW
  have d5 := cell_of_row _ _ 5 _ _ _ hW
  simp [WA.cells] at d1 d5
  rw [hvf] at d1
  rw [hvd, h.dlen] at d5
  have hG : A.G + nf ≤ 200 := by have := h.bG; omega
  have hst := smstage_start h
  have HST := Lib.hid hst
  have HI := Lib.hid h
  have HNF := Lib.hid hnf
  have HVF := Lib.hid hvf
  have H0 := Lib.hid h0
  have hdl : ((12 * A.G : Nat) : Int) ≤ 9223372036854775807 := by omega
  clear h hnf hvf hvd hW hst h0 hd1 hd2
  have hTW := HI.out.tW
  have hTF : ∀ g, A.vf.ownBlock = some g → ρ g = some .free := HI.out.free.2
  have HTF := Lib.hid hTF
  have HTW := Lib.hid hTW
  clear hTF hTW
  go_upto_block 4 with fail
  go_cut [8] (fun _ wx => MStage ρ wx 9 1 .sl smc A.G (sitems A) nf 0 ∧ Only (IsSl A.G) ρ w wx)
  case first =>
    go_wp2_with fail
    go_loopw [8] (fun i wr => ∃ k : Nat, k ≤ nf ∧ i = .int .i64 k ∧ MStage ρ wr 9 1 .sl smc A.G (sitems A) k 0 ∧ Only (IsSl A.G) ρ w wr) (fun i _ => nf - (intOf i).toNat)
    case atStart => exact ⟨0, Nat.zero_le _, rfl, HST.out, Only.nil (Fr.refl _ _)⟩
    case round =>
      obtain ⟨k, hk, rfl, hm, ho⟩ := hrel
      have c1 := ho.cell d1 HTW.out (by rintro ⟨i, e⟩; cases e)
      have HM := Lib.hid hm
      have HO := Lib.hid ho
      clear hm ho
      by_cases hlt : k < nf
      · obtain ⟨⟨v, l⟩, hp⟩ := get_of_lt HNF.out hlt
        obtain ⟨g, rfl, x1, hg⟩ := HI.out.free.1.nth HVF.out hp
        have y1 := HO.out.cell x1 (HTF.out g hg) (by rintro ⟨i, e⟩; cases e)
        have hl := (HI.out.lfree k v l hp).2
        obtain ⟨n, hn⟩ : ∃ n, l.length = n := ⟨_, rfl⟩
        obtain ⟨va, vc, hv, hv1, hv2⟩ := (HI.out.lfree k v l hp).1.1.slice
        subst hv
        rw [hn] at y1 hv1 hl x1
        obtain ⟨mk, hmk⟩ : ∃ mk, markS (A.G + k) = mk := ⟨_, rfl⟩
        have hmark : ∀ W' : World, Calls Try.prog 33 #[.int .i64 ((A.G : Int) + (k : Int))] W' fun e w' => e = .returned (.string mk) ∧ Fr [] W' w' := fun W' => by
          have := mark_walk W' (A.G + k)
          rw [hmk, Int.natCast_add] at this
          exact this
        have hwr : IntKind.i64.wrap ((A.G : Int) + (k : Int)) = (A.G : Int) + (k : Int) := IntWalk.i64_in _ (by omega)
        have HMK := Lib.hid hmark
        have HMK0 := Lib.hid hmk
        have HP := Lib.hid hp
        have HN := Lib.hid hn
        have HWR := Lib.hid hwr
        have HGF := Lib.hid (HTF.out g hg)
        clear hmark hmk hp hn hwr hg
        go_wp2_with fail
        obtain ⟨wo, rfl⟩ : ∃ x : World, x = wr := ⟨_, rfl⟩
        go_loopw [9] (fun jv wr => ∃ j : Nat, j ≤ n ∧ jv = .int .i64 j ∧ MStage ρ wr 9 1 .sl smc A.G (sitems A) k j ∧ Only (IsSl A.G) ρ w wr) (fun jv _ => n - (intOf jv).toNat)
        case atStart => exact ⟨0, Nat.zero_le _, rfl, HM.out, HO.out⟩
        case round =>
          obtain ⟨j, hj, rfl, hm2, ho2⟩ := hrel
          have c1' := ho2.cell d1 HTW.out (by rintro ⟨i, e⟩; cases e)
          have y1' := ho2.cell x1 HGF.out (by rintro ⟨i, e⟩; cases e)
          have HM2 := Lib.hid hm2
          have HO2 := Lib.hid ho2
          clear hm2 ho2
          by_cases hjl : j < n
          · obtain ⟨xs, hrow, htg⟩ := smark_row HM2.out HP.out
            rw [HN.out] at hrow
            obtain ⟨gv, vc', e, _, _, hx⟩ := hrow.there hjl
            injection e with e _ e3
            subst e e3
            obtain ⟨xo, hx1, hx2⟩ := hx 0 (by omega)
            rw [Nat.mul_one, Nat.add_zero] at hx1 hx2
            have hgl : gv < wr.heap.size := World.block_lt_of_cell? wr _ hx1
            have hgt := htg gv rfl
            have n1 := tag_ne HTW.out hgt (by simp)
            have n2 := tag_ne HGF.out hgt (by simp)
            have n1' := n1.symm
            have n2' := n2.symm
            clear hx hrow htg hgt
            have hwr := HWR.out
            go_upto_region 20 with fail
            go_region_held3 (fun w' => w'.cell? ⟨W, 1, none⟩ = some (.slice (some ⟨g, 0, none⟩) nf fc) ∧ w'.cell? ⟨g, k, none⟩ = some (.slice (some ⟨gv, 0, none⟩) n vc)) (go_keep)
              (first | (go_at_call 33; refine (HMK.out _).mono ?_; rintro e w2 ⟨rfl, hf2⟩; have hf2' := (Fr.refl [] wr).drew.trans_nil hf2; have p1 := hf2'.cell c1' (by simp); have p2 := hf2'.cell y1' (by simp); have p3 := hf2'.cell hx1 (by simp); have p4 : w2.frozen? ⟨gv, j, none⟩ = false := (hf2'.frozen (a := ⟨gv, j, none⟩) hgl (by simp)).trans hx2; have HF2 := Lib.hid hf2'; clear hf2 hf2'))
            all_goals
              clear hwr
              have HSTEP := Lib.hid (smark_step HM2.out HP.out (by rw [HN.out]; exact hjl) rfl HF2.out HMK0.out)
              go_wp2_with fail
              go_roundw
              case rel => exact ⟨j + 1, by omega, by go_num, HSTEP.out.1, HO2.out.trans HSTEP.out.2⟩
              case measure => simp [intOf]; omega
          · obtain rfl : j = n := by omega
            go_wp2_with fail
            go_roundw
            case rel => exact ⟨k + 1, by omega, by go_num, smark_next HP.out (HN.out ▸ HM2.out), HO2.out⟩
            case measure => simp [intOf]; omega
      · obtain rfl : k = nf := by omega
        go_wp2_with fail
        go_meet
        exact ⟨HM.out, HO.out⟩
  case rest =>
    obtain ⟨hm, ho⟩ := hcut
    go_step
    exact still_t5 HI.out hB H0.out (by rw [HNF.out]; exact hm) ho _ _ _ _ _ _ _ _ _ _ _ _ _ _ _ _ _ _ _ _ _ _ _ _ _ _ _ _ _ _ _ _ _ _ _ _ _ _ _ _ _ _ _ _ _ _ _ _ _ _ _ _ _ _ _ _ _ _ _ _ _ _ _ _ _ _ _ _ _ _ _ _ _ _ _ _ _ _ _ _ _ _ _ _ _ _ _ _ _ _ _ _ _ _ _ _ _ _ _ _ _ _ _ _ _ _ _ _ _ _ _ _ _ _ _ _ _ _ _ _ _ _ _ _ _ _ _ _ _ _ _ _ _ _ _ _ _ _ _ _ _ _ _ _ _ _ _ _ _ _ _ _ _ _ _ _ _ _ _ _ _ _ _ _ _ _ _ _ _ _ _ _ _ _ _ _ _ _ _ _ _ _ _ _ _ _ _ _ _ _ _ _ _ _ _ _ _ _ _ _ _ _ _ _ _ _ _ _ _ _ _ _ _ _ _ _ _ _ _ _ _ _ _ _ _ _ _ _ _ _ _ _ _ _ _ _ _ _ _ _ _ _ _ _ _ _ _ _ _ _ _ _ _ _ _ _ _ _ _ _ _ _ _ _ _ _ _ _ _ _ _ _ _ _ _ _ _ _ _ _ _ _ _ _ _ _ _ _ _ _ _ _ _ _ _ _ _ _ _ _ _ _ _ _ _ _ _ _ _ _ _ _
end Go.Proofs.Ytcpealfaaghpiaa
