/-
  The law's still: the fields, and the last loop but one (printed by wip/tools/genstillw.py). Own work.
-/
import Derived.Deep.RegionHeld3
import Derived.Deep.DeepCutAuto
import Derived.Deep.CutBlock
import Derived.Deep.QuietTactic
import Derived.BigQuiet
import Derived.Outline
import Derived.IntWalk
import Derived.Test.YtcpealfaaghpiaaStillWF
namespace Go.Proofs.Ytcpealfaaghpiaa
open Go Go.RowKit Go.Maps Go.Sort Go.Shelf

set_option maxRecDepth 1000000 in
set_option maxHeartbeats 4000000 in
theorem still_t9 {base : Nat} {ρ0 ρ : Rho} {w0 w1 w : World} {W : Nat} {vl vf vw vg vh vd ve vn : Value} {ss : List SideA} {hn : Nat} {fl wl D E : List (Value × Nat)} {G H B : Nat} (h : PInv base ρ0 w1 ρ w W vl vf vw vg vh vd ve vn ss hn fl wl D E G H) (hD : D.length = 12 * (G + fl.length)) (hE : E.length = 12 * (H + wl.length)) (bG : G + fl.length ≤ B) (bH : H + wl.length ≤ B) (hB : B ≤ 200) (h0 : Fr [] w0 w1) (x1 x2 x3 x4 x5 x6 x7 x8 x9 x10 x11 x12 x13 x14 x15 x16 x17 x18 x19 x20 x21 x22 x23 x24 x25 x26 x27 x28 x29 x30 x31 x32 x33 x34 x35 x36 x37 x38 x39 x40 x41 x42 x43 x44 x45 x46 x47 x48 x49 x50 x51 x52 x53 x54 x55 x56 x57 x58 x59 x60 x61 x62 x63 x64 x65 x66 x67 x68 x69 x70 x71 x72 x73 x74 x75 x76 x77 x78 x79 x80 x81 x82 x83 x84 x85 x86 x87 x88 x89 x90 x91 x92 x93 x94 x95 x96 x97 x98 x99 x100 x101 x102 x103 x104 x105 x106 x107 x108 x109 x110 x111 x112 x113 x114 x115 x116 x117 x118 x119 x120 x121 x122 x123 x124 x125 x126 x127 x128 x129 x130 x131 x132 x133 x134 x135 x136 x137 x138 x139 x140 x141 x142 x143 x144 x145 x146 x147 x148 x149 x150 x151 x152 x153 x154 x155 x156 x157 x158 x159 x160 x161 x162 x163 x164 x165 x166 x167 x168 x169 x170 x171 x172 x173 x174 x175 x176 x177 x178 x179 x180 x181 x182 x183 x184 x185 x186 x187 x188 x189 x190 x191 x192 x193 x194 x195 x196 x197 x198 x199 x200 x201 x202 x203 x204 x205 x206 x207 x208 x209 x210 x211 x212 x213 x214 x215 x216 x217 x218 x219 x220 x221 x222 x223 x224 x225 x226 x227 x228 x229 x230 x231 x232 x233 x234 x235 x236 x237 x238 x239 x240 x241 x242 x243 x244 x245 x246 x247 x248 x249 x250 x251 x252 x253 x254 x255 x256 x257 x258 x259 x260 x261 x262 x263 x264 x265 x266 x267 x268 x269 x270 x271 x272 x273 x274 x275 x276 x277 x278 x279 x280 x281 x282 x283 x284 x285 x286 x287 x288 x289 x290 x291 x292 x293 x294 x295 x296 x297 x298 x299 x300 x301 x302 x303 x304 x305 x306 x307 x308 x309 x310 x311 x312 x313 : Value) :
    Code.wp Try.prog (stillT 9) (bodyPost Try.prog Try.f7 (StillPost base ρ0 w0 W B)) ⟨#[.pointer (some ⟨W, 0, none⟩), x1, x2, x3, x4, x5, x6, x7, x8, x9, x10, x11, x12, x13, x14, x15, x16, x17, x18, x19, x20, x21, x22, x23, x24, x25, x26, x27, x28, x29, x30, x31, x32, x33, x34, x35, x36, x37, x38, x39, x40, x41, x42, x43, x44, x45, x46, x47, x48, x49, x50, x51, x52, x53, x54, x55, x56, x57, x58, x59, x60, x61, x62, x63, x64, x65, x66, x67, x68, x69, x70, x71, x72, x73, x74, x75, x76, x77, x78, x79, x80, x81, x82, x83, x84, x85, x86, x87, x88, x89, x90, x91, x92, x93, x94, x95, x96, x97, x98, x99, x100, x101, x102, x103, x104, x105, x106, x107, x108, x109, x110, x111, x112, x113, x114, x115, x116, x117, x118, x119, x120, x121, x122, x123, x124, x125, x126, x127, x128, x129, x130, x131, x132, x133, x134, x135, x136, x137, x138, x139, x140, x141, x142, x143, x144, x145, x146, x147, x148, x149, x150, x151, x152, x153, x154, x155, x156, x157, x158, x159, x160, x161, x162, x163, x164, x165, x166, x167, x168, x169, x170, x171, x172, x173, x174, x175, x176, x177, x178, x179, x180, x181, x182, x183, x184, x185, x186, x187, x188, x189, x190, x191, x192, x193, x194, x195, x196, x197, x198, x199, x200, x201, x202, x203, x204, x205, x206, x207, x208, x209, x210, x211, x212, x213, x214, x215, x216, x217, x218, x219, x220, x221, x222, x223, x224, x225, x226, x227, x228, x229, x230, x231, x232, x233, x234, x235, x236, x237, x238, x239, x240, x241, x242, x243, x244, x245, x246, x247, x248, x249, x250, x251, x252, x253, x254, x255, x256, x257, x258, x259, x260, x261, x262, x263, x264, x265, x266, x267, x268, x269, x270, x271, x272, x273, x274, x275, x276, x277, x278, x279, x280, x281, x282, x283, x284, x285, x286, x287, x288, x289, x290, x291, x292, x293, x294, x295, x296, x297, x298, x299, x300, x301, x302, x303, x304, x305, x306, x307, x308, x309, x310, x311, x312, x313], []⟩ w := by
  conv => arg 2; whnf
  have hcw := h.core.cW
  have o1 := cell_of_row _ _ 1 _ _ _ hcw
  have o2 := cell_of_row _ _ 2 _ _ _ hcw
  have o3 := cell_of_row _ _ 3 _ _ _ hcw
  have o4 := cell_of_row _ _ 4 _ _ _ hcw
  have p1 := frozen_of_row _ _ 1 _ _ hcw
  have p2 := frozen_of_row _ _ 2 _ _ hcw
  have p3 := frozen_of_row _ _ 3 _ _ hcw
  have p4 := frozen_of_row _ _ 4 _ _ hcw
  simp at o1 o2 o3 o4
  have hback := h.back (w' := (((w.setCell ⟨W, 1, none⟩ (.slice none 0 0)).setCell ⟨W, 2, none⟩ (.slice none 0 0)).setCell ⟨W, 3, none⟩ (.slice none 0 0)).setCell ⟨W, 4, none⟩ (.slice none 0 0)) hD hE ((((Fr.refl [W] w).setCell (.inl (by simp)) _).setCell (.inl (by simp)) _).setCell (.inl (by simp)) _ |>.setCell (.inl (by simp)) _)
    (by rw [heap_setCell_same _ _ _ _ _ _ (heap_setCell_same _ _ _ _ _ _ (heap_setCell_same _ _ _ _ _ _ (heap_setCell_same _ _ _ _ _ _ hcw)))]; rfl) bG bH
  have HB := Lib.hid hback
  clear hback hcw h
  go_upto_region 51 with fail
  obtain ⟨w2, hw2⟩ : ∃ x, (((w.setCell ⟨W, 1, none⟩ (.slice none 0 0)).setCell ⟨W, 2, none⟩ (.slice none 0 0)).setCell ⟨W, 3, none⟩ (.slice none 0 0)).setCell ⟨W, 4, none⟩ (.slice none 0 0) = x := ⟨_, rfl⟩
  have hback := HB.out
  rw [hw2] at hback ⊢
  obtain ⟨hinv, htrk⟩ := hback
  clear o1 o2 o3 o4 p1 p2 p3 p4 HB hw2
  have hvd := hinv.done.1.slice
  obtain ⟨da, dc, hvd, hd1, hd2⟩ := hvd
  simp only at hvd hd1
  obtain ⟨nd, hnd⟩ : ∃ n, D.length = n := ⟨_, rfl⟩
  have hnb : nd ≤ 2400 := by omega
  rw [hnd] at hvd hd1
  have d5 := cell_of_row _ _ 5 _ _ _ hinv.cW
  simp [WA.cells] at d5
  rw [hvd] at d5
  have hTD : ∀ g, vd.ownBlock = some g → ρ g = some .done := hinv.done.2
  have HI := Lib.hid hinv
  have HND := Lib.hid hnd
  have HVD := Lib.hid hvd
  have HTR := Lib.hid htrk
  have H0 := Lib.hid h0
  clear hinv hnd hvd htrk h0 hTD hD hE
  go_upto_block 20 with fail
  go_cut [19] (fun _ wx => Fr [] w2 wx)
  case first =>
    go_wp2_with fail
    go_loopw [19] (fun i wr => ∃ k : Nat, k ≤ nd ∧ i = .int .i64 k ∧ Fr [] w2 wr) (fun i _ => nd - (intOf i).toNat)
    case atStart => exact ⟨0, Nat.zero_le _, rfl, Fr.refl _ _⟩
    case round =>
      obtain ⟨k, hk, rfl, hfr⟩ := hrel
      have c5 := hfr.cell d5 (by simp)
      have HFR := Lib.hid hfr
      clear hfr
      by_cases hlt : k < nd
      · obtain ⟨⟨v, n⟩, hp⟩ := get_of_lt HND.out hlt
        obtain ⟨g, rfl, x1, _⟩ := HI.out.done.1.nth HVD.out hp
        have y1 := HFR.out.cell x1 (by simp)
        obtain ⟨hr, hn⟩ := HI.out.ldone k v n hp
        obtain ⟨va, vc, hv, hv1, hv2⟩ := hr.1.slice
        subst hv
        obtain ⟨mk, hmk⟩ : ∃ mk, markS (k / 12) = mk := ⟨_, rfl⟩
        have hmark : ∀ W' : World, Calls Try.prog 33 #[.int .i64 ((k : Int) / 12)] W' fun e w' => e = .returned (.string mk) ∧ Fr [] W' w' := fun W' => by
          have := mark_walk W' (k / 12)
          rw [hmk, Int.natCast_ediv] at this
          exact this
        have hr1 := hr.1
        rw [hmk, ← rep_one] at hr1
        have HR := Lib.hid hr1
        have HMK := Lib.hid hmark
        clear hp hr hmark hmk hr1
        go_wp2_with fail
        obtain ⟨wo, rfl⟩ : ∃ x : World, x = wr := ⟨_, rfl⟩
        go_loopw [20] (fun jv wr => ∃ j : Nat, j ≤ n ∧ jv = .int .i64 j ∧ Fr [] w2 wr) (fun jv _ => n - (intOf jv).toNat)
        case atStart => exact ⟨0, Nat.zero_le _, rfl, HFR.out⟩
        case round =>
          obtain ⟨j, hj, rfl, hfr2⟩ := hrel
          have c5' := hfr2.cell d5 (by simp)
          have y1' := hfr2.cell x1 (by simp)
          have HFR2 := Lib.hid hfr2
          clear hfr2
          by_cases hjl : j < n
          · obtain ⟨gv, vc', e, x2⟩ := rep_cell (m := [Value.string mk]) (c := 0) (x := .string mk) HR.out rfl hjl rfl
            injection e with e _ e3
            subst e e3
            rw [Nat.add_zero, Nat.mul_one] at x2
            have z2 := HFR2.out.cell x2 (by simp)
            go_upto_region 57 with fail
            go_cut [277] (fun t wx => t = .bool false ∧ Fr [] wr wx)
            case first =>
              have hdv : IntKind.i64.wrap ((k : Int) / 12) = (k : Int) / 12 := IntWalk.i64_in _ (by omega)
              go_region_held3 (fun w' => w'.cell? ⟨W, 5, none⟩ = some (.slice (some ⟨g, 0, none⟩) nd dc) ∧ w'.cell? ⟨g, k, none⟩ = some (.slice (some ⟨gv, 0, none⟩) n vc) ∧ w'.cell? ⟨gv, j, none⟩ = some (.string mk)) (go_keep)
                (first | (go_at_call 33; refine (HMK.out _).mono ?_; rintro e w3 ⟨rfl, hf3⟩; have hf3' := (Fr.refl [] wr).drew.trans_nil hf3; have p1 := hf3'.cell c5' (by simp); have p2 := hf3'.cell y1' (by simp); have p3 := hf3'.cell z2 (by simp); have HF3 := Lib.hid hf3'; clear hf3 hf3'))
              all_goals
                go_wp2_with fail
                go_meet
                exact ⟨by simp, HF3.out⟩
            case rest =>
              obtain ⟨rfl, hfc⟩ := hcut
              have HFC := Lib.hid (HFR2.out.trans_nil hfc)
              clear hfc
              go_wp2_with fail
              go_roundw
              case rel => exact ⟨j + 1, by omega, by go_num, HFC.out⟩
              case measure => simp [intOf]; omega
          · obtain rfl : j = n := by omega
            go_wp2_with fail
            go_roundw
            case rel => exact ⟨k + 1, by omega, by go_num, HFR2.out⟩
            case measure => simp [intOf]; omega
      · obtain rfl : k = nd := by omega
        go_wp2_with fail
        go_meet
        exact HFR.out
  case rest =>
    have hf := hcut
    clear hcut
    go_step
    exact still_t14 (HI.out.keep_nil hf) hB (HTR.out.nil hf) H0.out _ _ _ _ _ _ _ _ _ _ _ _ _ _ _ _ _ _ _ _ _ _ _ _ _ _ _ _ _ _ _ _ _ _ _ _ _ _ _ _ _ _ _ _ _ _ _ _ _ _ _ _ _ _ _ _ _ _ _ _ _ _ _ _ _ _ _ _ _ _ _ _ _ _ _ _ _ _ _ _ _ _ _ _ _ _ _ _ _ _ _ _ _ _ _ _ _ _ _ _ _ _ _ _ _ _ _ _ _ _ _ _ _ _ _ _ _ _ _ _ _ _ _ _ _ _ _ _ _ _ _ _ _ _ _ _ _ _ _ _ _ _ _ _ _ _ _ _ _ _ _ _ _ _ _ _ _ _ _ _ _ _ _ _ _ _ _ _ _ _ _ _ _ _ _ _ _ _ _ _ _ _ _ _ _ _ _ _ _ _ _ _ _ _ _ _ _ _ _ _ _ _ _ _ _ _ _ _ _ _ _ _ _ _ _ _ _ _ _ _ _ _ _ _ _ _ _ _ _ _ _ _ _ _ _ _ _ _ _ _ _ _ _ _ _ _ _ _ _ _ _ _ _ _ _ _ _ _ _ _ _ _ _ _ _ _ _ _ _ _ _ _ _ _ _ _ _ _ _ _ _ _ _ _ _ _ _ _ _ _ _ _ _ _ _ _ _ _ _ _ _ _ _ _ _ _ _ _ _ _ _ _ _
end Go.Proofs.Ytcpealfaaghpiaa
