/-
  The law's still: the marking of writes (printed by wip/tools/genstillw.py). Own work.
-/
import Derived.Deep.RegionHeld3
import Derived.Deep.DeepCutAuto
import Derived.Deep.CutBlock
import Derived.Deep.QuietTactic
import Derived.BigQuiet
import Derived.Outline
import Derived.IntWalk
import Derived.Test.YtcpealfaaghpiaaStillWC
namespace Go.Proofs.Ytcpealfaaghpiaa
open Go Go.RowKit Go.Maps Go.Sort Go.Shelf

set_option maxRecDepth 1000000 in
set_option maxHeartbeats 4000000 in
theorem still_t5 {base : Nat} {ρ : Rho} {w0 w1 w : World} {W : Nat} {A : WA} {B : Nat} (h : WInv base ρ w1 W A B) (hB : B ≤ 200) (h0 : Fr [] w0 w1) (hm0 : MStage ρ w 9 1 .sl smc A.G (sitems A) A.free.length 0) (ho0 : Only (IsSl A.G) ρ w1 w) (x1 x2 x3 x4 x5 x6 x8 x9 x10 x11 x12 x13 x14 x15 x16 x17 x18 x19 x20 x21 x22 x23 x24 x25 x26 x27 x28 x29 x30 x31 x32 x33 x34 x35 x36 x37 x38 x39 x40 x41 x42 x43 x44 x45 x46 x47 x48 x49 x50 x51 x52 x53 x54 x55 x56 x57 x58 x59 x60 x61 x62 x63 x64 x65 x66 x67 x68 x69 x70 x71 x72 x73 x74 x75 x76 x77 x78 x79 x80 x81 x82 x83 x84 x85 x86 x87 x88 x89 x90 x91 x92 x93 x94 x95 x96 x97 x98 x99 x100 x101 x102 x103 x104 x105 x106 x107 x108 x109 x110 x111 x112 x113 x114 x115 x116 x117 x118 x119 x120 x121 x122 x123 x124 x125 x126 x127 x128 x129 x130 x131 x132 x133 x134 x135 x136 x137 x138 x139 x140 x141 x142 x143 x144 x145 x146 x147 x148 x149 x150 x151 x152 x153 x154 x155 x156 x157 x158 x159 x160 x161 x162 x163 x164 x165 x166 x167 x168 x169 x170 x171 x172 x173 x174 x175 x176 x177 x178 x179 x180 x181 x182 x183 x184 x185 x186 x187 x188 x189 x190 x191 x192 x193 x194 x195 x196 x197 x198 x199 x200 x201 x202 x203 x204 x205 x206 x207 x208 x209 x210 x211 x212 x213 x214 x215 x216 x217 x218 x219 x220 x221 x222 x223 x224 x225 x226 x227 x228 x229 x230 x231 x232 x233 x234 x235 x236 x237 x238 x239 x240 x241 x242 x243 x244 x245 x246 x247 x248 x249 x250 x251 x252 x253 x254 x255 x256 x257 x258 x259 x260 x261 x262 x263 x264 x265 x266 x267 x268 x269 x270 x271 x272 x273 x274 x275 x276 x277 x278 x279 x280 x281 x282 x283 x284 x285 x286 x287 x288 x289 x290 x291 x292 x293 x294 x295 x296 x297 x298 x299 x300 x301 x302 x303 x304 x305 x306 x307 x308 x309 x310 x311 x312 x313 : Value) :
    Code.wp Try.prog (stillT 5) (bodyPost Try.prog Try.f7 (StillPost base ρ w0 W B)) ⟨#[.pointer (some ⟨W, 0, none⟩), x1, x2, x3, x4, x5, x6, .int .i64 (A.G : Int), x8, x9, x10, x11, x12, x13, x14, x15, x16, x17, x18, x19, x20, x21, x22, x23, x24, x25, x26, x27, x28, x29, x30, x31, x32, x33, x34, x35, x36, x37, x38, x39, x40, x41, x42, x43, x44, x45, x46, x47, x48, x49, x50, x51, x52, x53, x54, x55, x56, x57, x58, x59, x60, x61, x62, x63, x64, x65, x66, x67, x68, x69, x70, x71, x72, x73, x74, x75, x76, x77, x78, x79, x80, x81, x82, x83, x84, x85, x86, x87, x88, x89, x90, x91, x92, x93, x94, x95, x96, x97, x98, x99, x100, x101, x102, x103, x104, x105, x106, x107, x108, x109, x110, x111, x112, x113, x114, x115, x116, x117, x118, x119, x120, x121, x122, x123, x124, x125, x126, x127, x128, x129, x130, x131, x132, x133, x134, x135, x136, x137, x138, x139, x140, x141, x142, x143, x144, x145, x146, x147, x148, x149, x150, x151, x152, x153, x154, x155, x156, x157, x158, x159, x160, x161, x162, x163, x164, x165, x166, x167, x168, x169, x170, x171, x172, x173, x174, x175, x176, x177, x178, x179, x180, x181, x182, x183, x184, x185, x186, x187, x188, x189, x190, x191, x192, x193, x194, x195, x196, x197, x198, x199, x200, x201, x202, x203, x204, x205, x206, x207, x208, x209, x210, x211, x212, x213, x214, x215, x216, x217, x218, x219, x220, x221, x222, x223, x224, x225, x226, x227, x228, x229, x230, x231, x232, x233, x234, x235, x236, x237, x238, x239, x240, x241, x242, x243, x244, x245, x246, x247, x248, x249, x250, x251, x252, x253, x254, x255, x256, x257, x258, x259, x260, x261, x262, x263, x264, x265, x266, x267, x268, x269, x270, x271, x272, x273, x274, x275, x276, x277, x278, x279, x280, x281, x282, x283, x284, x285, x286, x287, x288, x289, x290, x291, x292, x293, x294, x295, x296, x297, x298, x299, x300, x301, x302, x303, x304, x305, x306, x307, x308, x309, x310, x311, x312, x313], []⟩ w := by
  conv => arg 2; whnf
  obtain ⟨nf, hnf⟩ : ∃ n, A.wfree.length = n := ⟨_, rfl⟩
  obtain ⟨fa, fc, hvf, hf1, hf2⟩ := h.wfree.1.slice
  obtain ⟨da, dc, hvd, hd1, hd2⟩ := h.wdone.1.slice
  have hW := h.cW
  rw [hnf] at hvf hf1
  have d1 := cell_of_row _ _ 3 _ _ _ hW
  have d5 := cell_of_row _ _ 6 _ _ _ hW
  simp [WA.cells] at d1 d5
  rw [hvf] at d1
  rw [hvd, h.wdlen] at d5
  have hTW := h.tW
  have e5 := ho0.cell d5 hTW (by rintro ⟨i, e⟩; cases e)
  have hG : A.H + nf ≤ 200 := by have := h.bH; omega
  have hst := wmstage_start h ho0
  have HST := Lib.hid hst
  have HI := Lib.hid h
  have HNF := Lib.hid hnf
  have HVF := Lib.hid hvf
  have H0 := Lib.hid h0
  have HM0 := Lib.hid hm0
  have HO0 := Lib.hid (ho0.weak (Q := fun t => IsSl A.G t ∨ IsWl A.H t) fun t h => .inl h)
  have hTF : ∀ g, A.vg.ownBlock = some g → ρ g = some .wfree := HI.out.wfree.2
  have HTF := Lib.hid hTF
  have HTW := Lib.hid hTW
  clear hTF hTW
  clear h hnf hvf hvd hW hst h0 hd1 hd2 hm0 ho0 d5
  go_upto_block 8 with fail
  go_cut [11] (fun _ wx => MStage ρ wx 58 2 .wl wmc A.H (witems A) nf 0 ∧ Only (IsWl A.H) ρ w wx)
  case first =>
    clear e5
    have d1' := HO0.out.cell d1 HTW.out (by rintro (⟨i, e⟩ | ⟨i, e⟩) <;> cases e)
    go_wp2_with fail
    go_loopw [11] (fun i wr => ∃ k : Nat, k ≤ nf ∧ i = .int .i64 k ∧ MStage ρ wr 58 2 .wl wmc A.H (witems A) k 0 ∧ Only (IsWl A.H) ρ w wr) (fun i _ => nf - (intOf i).toNat)
    case atStart => exact ⟨0, Nat.zero_le _, rfl, HST.out, Only.nil (Fr.refl _ _)⟩
    case round =>
      obtain ⟨k, hk, rfl, hm, ho⟩ := hrel
      have c1 := ho.cell d1' HTW.out (by rintro ⟨i, e⟩; cases e)
      have HM := Lib.hid hm
      have HO := Lib.hid ho
      clear hm ho
      by_cases hlt : k < nf
      · obtain ⟨⟨v, l⟩, hp⟩ := get_of_lt HNF.out hlt
        obtain ⟨g, rfl, x1, hg⟩ := HI.out.wfree.1.nth HVF.out hp
        have x1' := HO0.out.cell x1 (HTF.out g hg) (by rintro (⟨i, e⟩ | ⟨i, e⟩) <;> cases e)
        have y1 := HO.out.cell x1' (HTF.out g hg) (by rintro ⟨i, e⟩; cases e)
        have hl := (HI.out.lwfree k v l hp).2
        obtain ⟨n, hn⟩ : ∃ n, l.length = n := ⟨_, rfl⟩
        obtain ⟨va, vc, hv, hv1, hv2⟩ := (HI.out.lwfree k v l hp).1.1.slice
        subst hv
        rw [hn] at y1 hv1 hl x1'
        have hmk : -1 - ((A.H + k : Nat) : Int) = -1 - (A.H : Int) - (k : Int) := by omega
        have HMK0 := Lib.hid hmk
        have HP := Lib.hid hp
        have HN := Lib.hid hn
        have HGF := Lib.hid (HTF.out g hg)
        clear hmk hp hn hg x1
        go_wp2_with fail
        obtain ⟨wo, rfl⟩ : ∃ x : World, x = wr := ⟨_, rfl⟩
        go_loopw [12] (fun jv wr => ∃ j : Nat, j ≤ n ∧ jv = .int .i64 j ∧ MStage ρ wr 58 2 .wl wmc A.H (witems A) k j ∧ Only (IsWl A.H) ρ w wr) (fun jv _ => n - (intOf jv).toNat)
        case atStart => exact ⟨0, Nat.zero_le _, rfl, HM.out, HO.out⟩
        case round =>
          obtain ⟨j, hj, rfl, hm2, ho2⟩ := hrel
          have c1' := ho2.cell d1' HTW.out (by rintro ⟨i, e⟩; cases e)
          have y1' := ho2.cell x1' HGF.out (by rintro ⟨i, e⟩; cases e)
          have HM2 := Lib.hid hm2
          have HO2 := Lib.hid ho2
          clear hm2 ho2
          by_cases hjl : j < n
          · obtain ⟨xs, hrow, htg⟩ := wmark_row HM2.out HP.out
            rw [HN.out] at hrow
            obtain ⟨gv, vc', e, _, _, hx⟩ := hrow.there hjl
            injection e with e _ e3
            subst e e3
            obtain ⟨xo, hx1, hx2⟩ := hx 0 (by omega)
            obtain ⟨xq, hx3, hx4⟩ := hx 1 (by omega)
            rw [Nat.add_zero] at hx1 hx2
            have hgt := htg gv rfl
            have n1 := tag_ne HTW.out hgt (by simp)
            have n2 := tag_ne HGF.out hgt (by simp)
            have n1' := n1.symm
            have n2' := n2.symm
            have HSTEP := Lib.hid (wmark_step HM2.out HP.out (by rw [HN.out]; exact hjl) rfl (Fr.refl [] wr) HMK0.out)
            clear hx hrow htg hgt
            go_wp2_with fail
            go_roundw
            case rel => exact ⟨j + 1, by omega, by go_num, HSTEP.out.1, HO2.out.trans HSTEP.out.2⟩
            case measure => simp [intOf]; omega
          · obtain rfl : j = n := by omega
            go_wp2_with fail
            go_roundw
            case rel => exact ⟨k + 1, by omega, by go_num, wmark_next HP.out (HN.out ▸ HM2.out), HO2.out⟩
            case measure => simp [intOf]; omega
      · obtain rfl : k = nf := by omega
        go_wp2_with fail
        go_meet
        exact ⟨HM.out, HO.out⟩
  case rest =>
    obtain ⟨hm, ho⟩ := hcut
    have hall := HO0.out.trans (ho.weak (Q := fun t => IsSl A.G t ∨ IsWl A.H t) fun t h => .inr h)
    have hms : MStage ρ wc 9 1 .sl smc A.G (sitems A) A.free.length 0 := by
      obtain ⟨S, hS, oS⟩ := ho
      exact HM0.out.keep hS fun x hx i e => by obtain ⟨t, q, j, r⟩ := oS x hx; rw [e] at q; have := Option.some.inj q; rw [r] at this; cases this
    have hp := PInv.of HI.out hall hms (by rw [HNF.out]; exact hm)
    have b1 := HI.out.bG
    have b2 := HI.out.bH
    have l1 : (slens A).length = A.free.length := by simp [slens]
    have l2 : (wlens A).length = A.wfree.length := by simp [wlens]
    go_step
    exact still_t7 hp HI.out.dlen HI.out.wdlen (by rw [l1]; exact b1) (by rw [l2]; exact b2) hB H0.out _ _ _ _ _ _ _ _ _ _ _ _ _ _ _ _ _ _ _ _ _ _ _ _ _ _ _ _ _ _ _ _ _ _ _ _ _ _ _ _ _ _ _ _ _ _ _ _ _ _ _ _ _ _ _ _ _ _ _ _ _ _ _ _ _ _ _ _ _ _ _ _ _ _ _ _ _ _ _ _ _ _ _ _ _ _ _ _ _ _ _ _ _ _ _ _ _ _ _ _ _ _ _ _ _ _ _ _ _ _ _ _ _ _ _ _ _ _ _ _ _ _ _ _ _ _ _ _ _ _ _ _ _ _ _ _ _ _ _ _ _ _ _ _ _ _ _ _ _ _ _ _ _ _ _ _ _ _ _ _ _ _ _ _ _ _ _ _ _ _ _ _ _ _ _ _ _ _ _ _ _ _ _ _ _ _ _ _ _ _ _ _ _ _ _ _ _ _ _ _ _ _ _ _ _ _ _ _ _ _ _ _ _ _ _ _ _ _ _ _ _ _ _ _ _ _ _ _ _ _ _ _ _ _ _ _ _ _ _ _ _ _ _ _ _ _ _ _ _ _ _ _ _ _ _ _ _ _ _ _ _ _ _ _ _ _ _ _ _ _ _ _ _ _ _ _ _ _ _ _ _ _ _ _ _ _ _ _ _ _ _ _ _ _ _ _ _ _ _ _ _ _ _ _ _ _ _ _ _ _ _
end Go.Proofs.Ytcpealfaaghpiaa
