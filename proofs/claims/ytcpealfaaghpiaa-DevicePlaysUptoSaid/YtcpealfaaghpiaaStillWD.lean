/-
  The law's still: the growing of writes (printed by wip/tools/genstillw.py). Own work.
-/
import Derived.Deep.RegionHeld3
import Derived.Deep.DeepCutAuto
import Derived.Deep.CutBlock
import Derived.Deep.QuietTactic
import Derived.BigQuiet
import Derived.Outline
import Derived.IntWalk
import Derived.Test.YtcpealfaaghpiaaStillWE
namespace Go.Proofs.Ytcpealfaaghpiaa
open Go Go.RowKit Go.Maps Go.Sort Go.Shelf

set_option maxRecDepth 1000000 in
set_option maxHeartbeats 4000000 in
theorem still_t8 {base : Nat} {ρ0 ρ : Rho} {w0 w1 w : World} {W : Nat} {vl vf vw vg vh vd ve vn : Value} {ss : List SideA} {hn : Nat} {fl wl D E : List (Value × Nat)} {G H B : Nat} (h : PInv base ρ0 w1 ρ w W vl vf vw vg vh vd ve vn ss hn fl wl D E G H) (hD : D.length = 12 * (G + fl.length)) (hE : E.length = 12 * H) (bG : G + fl.length ≤ B) (bH : H + wl.length ≤ B) (hB : B ≤ 200) (h0 : Fr [] w0 w1) (x1 x2 x3 x4 x5 x6 x7 x8 x9 x11 x12 x13 x14 x15 x16 x17 x18 x19 x20 x21 x22 x23 x24 x25 x26 x27 x28 x29 x30 x31 x32 x33 x34 x35 x36 x37 x38 x39 x40 x41 x42 x43 x44 x45 x46 x47 x48 x49 x50 x51 x52 x53 x54 x55 x56 x57 x58 x59 x60 x61 x62 x63 x64 x65 x66 x67 x68 x69 x70 x71 x72 x73 x74 x75 x76 x77 x78 x79 x80 x81 x82 x83 x84 x85 x86 x87 x88 x89 x90 x91 x92 x93 x94 x95 x96 x97 x98 x99 x100 x101 x102 x103 x104 x105 x106 x107 x108 x109 x110 x111 x112 x113 x114 x115 x116 x117 x118 x119 x120 x121 x122 x123 x124 x125 x126 x127 x128 x129 x130 x131 x132 x133 x134 x135 x136 x137 x138 x139 x140 x141 x142 x143 x144 x145 x146 x147 x148 x149 x150 x151 x152 x153 x154 x155 x156 x157 x158 x159 x160 x161 x162 x163 x164 x165 x166 x167 x168 x169 x170 x171 x172 x173 x174 x175 x176 x177 x178 x179 x180 x181 x182 x183 x184 x185 x186 x187 x188 x189 x190 x191 x192 x193 x194 x195 x196 x197 x198 x199 x200 x201 x202 x203 x204 x205 x206 x207 x208 x209 x210 x211 x212 x213 x214 x215 x216 x217 x218 x219 x220 x221 x222 x223 x224 x225 x226 x227 x228 x229 x230 x231 x232 x233 x234 x235 x236 x237 x238 x239 x240 x241 x242 x243 x244 x245 x246 x247 x248 x249 x250 x251 x252 x253 x254 x255 x256 x257 x258 x259 x260 x261 x262 x263 x264 x265 x266 x267 x268 x269 x270 x271 x272 x273 x274 x275 x276 x277 x278 x279 x280 x281 x282 x283 x284 x285 x286 x287 x288 x289 x290 x291 x292 x293 x294 x295 x296 x297 x298 x299 x300 x301 x302 x303 x304 x305 x306 x307 x308 x309 x310 x311 x312 x313 : Value) :
    Code.wp Try.prog (stillT 8) (bodyPost Try.prog Try.f7 (StillPost base ρ0 w0 W B)) ⟨#[.pointer (some ⟨W, 0, none⟩), x1, x2, x3, x4, x5, x6, x7, x8, x9, .int .i64 (H : Int), x11, x12, x13, x14, x15, x16, x17, x18, x19, x20, x21, x22, x23, x24, x25, x26, x27, x28, x29, x30, x31, x32, x33, x34, x35, x36, x37, x38, x39, x40, x41, x42, x43, x44, x45, x46, x47, x48, x49, x50, x51, x52, x53, x54, x55, x56, x57, x58, x59, x60, x61, x62, x63, x64, x65, x66, x67, x68, x69, x70, x71, x72, x73, x74, x75, x76, x77, x78, x79, x80, x81, x82, x83, x84, x85, x86, x87, x88, x89, x90, x91, x92, x93, x94, x95, x96, x97, x98, x99, x100, x101, x102, x103, x104, x105, x106, x107, x108, x109, x110, x111, x112, x113, x114, x115, x116, x117, x118, x119, x120, x121, x122, x123, x124, x125, x126, x127, x128, x129, x130, x131, x132, x133, x134, x135, x136, x137, x138, x139, x140, x141, x142, x143, x144, x145, x146, x147, x148, x149, x150, x151, x152, x153, x154, x155, x156, x157, x158, x159, x160, x161, x162, x163, x164, x165, x166, x167, x168, x169, x170, x171, x172, x173, x174, x175, x176, x177, x178, x179, x180, x181, x182, x183, x184, x185, x186, x187, x188, x189, x190, x191, x192, x193, x194, x195, x196, x197, x198, x199, x200, x201, x202, x203, x204, x205, x206, x207, x208, x209, x210, x211, x212, x213, x214, x215, x216, x217, x218, x219, x220, x221, x222, x223, x224, x225, x226, x227, x228, x229, x230, x231, x232, x233, x234, x235, x236, x237, x238, x239, x240, x241, x242, x243, x244, x245, x246, x247, x248, x249, x250, x251, x252, x253, x254, x255, x256, x257, x258, x259, x260, x261, x262, x263, x264, x265, x266, x267, x268, x269, x270, x271, x272, x273, x274, x275, x276, x277, x278, x279, x280, x281, x282, x283, x284, x285, x286, x287, x288, x289, x290, x291, x292, x293, x294, x295, x296, x297, x298, x299, x300, x301, x302, x303, x304, x305, x306, x307, x308, x309, x310, x311, x312, x313], []⟩ w := by
  conv => arg 2; whnf
  obtain ⟨nf, hnf⟩ : ∃ n, wl.length = n := ⟨_, rfl⟩
  have hnb : nf ≤ 200 := by omega
  have hgb : H + nf ≤ 200 := by omega
  obtain ⟨fa, fc, hvf, hf1, hf2⟩ := h.wlists.row.1.slice
  rw [hnf] at hvf hf1
  obtain ⟨i0, hi, hz0, hz1, hz2⟩ := info_parts infoWW
  obtain ⟨i1, hi1, hz10, hz11, hz12⟩ := info_parts infoW
  have HST : Hid (WOut base ρ0 w1 W vl vf vw vg vh vd vn ss hn fl wl D G H 0 w) := Lib.hid ⟨ρ, ve, E, h, (by rw [hE]; omega)⟩
  have HNF := Lib.hid hnf
  have HVF := Lib.hid hvf
  have H0 := Lib.hid h0
  have HDD := Lib.hid hD
  clear h hnf hvf h0 hD hE
  go_upto_block 16 with fail
  go_cut [16] (fun _ wx => WOut base ρ0 w1 W vl vf vw vg vh vd vn ss hn fl wl D G H nf wx)
  case first =>
    go_wp2_with fail
    go_loopw [16] (fun i wr => ∃ k : Nat, k ≤ nf ∧ i = .int .i64 k ∧ WOut base ρ0 w1 W vl vf vw vg vh vd vn ss hn fl wl D G H k wr) (fun i _ => nf - (intOf i).toNat)
    case atStart => exact ⟨0, Nat.zero_le _, rfl, HST.out⟩
    case round =>
      obtain ⟨k, hk, rfl, hout⟩ := hrel
      have HOUT := Lib.hid hout
      obtain ⟨ρ', vd', D', hp, hdl⟩ := hout
      have c1 := cell_of_row _ _ 3 _ _ _ hp.core.cW
      simp at c1
      rw [HVF.out] at c1
      by_cases hlt : k < nf
      · obtain ⟨⟨v, n⟩, hq⟩ := get_of_lt HNF.out hlt
        obtain ⟨g, rfl, x1, _⟩ := hp.wlists.row.1.nth HVF.out hq
        have hin : WIn base ρ0 w1 W vl vf vw vg vh vd vn ss hn fl wl D G H k 0 v wr := ⟨ρ', vd', D', n, hp.startW hdl hq⟩
        obtain ⟨va, vc, hv, hv1, hv2⟩ := (hp.wlists.each k v n hq).1.1.slice
        subst hv
        have HIN := Lib.hid hin
        have hwm : wmc (H + k) = [.int .i64 (-1 - (H : Int) - (k : Int)), .string ByteArray.empty] := by
          unfold wmc
          rw [show (-1 - ((H + k : Nat) : Int)) = -1 - (H : Int) - (k : Int) by omega]
        have HWM := Lib.hid hwm
        clear hwm
        clear hin hp hdl hq
        go_wp2_with fail
        obtain ⟨wo, rfl⟩ : ∃ x : World, x = wr := ⟨_, rfl⟩
        go_loopw [17, 18] (fun lv jv wr => ∃ j : Nat, j ≤ 12 ∧ jv = .int .i64 j ∧ WIn base ρ0 w1 W vl vf vw vg vh vd vn ss hn fl wl D G H k j lv wr) (fun _ jv _ => 12 - (intOf jv).toNat)
        case atStart => exact ⟨0, by omega, rfl, HIN.out⟩
        case round =>
          obtain ⟨j, hj, rfl, hin⟩ := hrel
          obtain ⟨ρ2, vd2, D2, n2, hg⟩ := hin
          by_cases hjl : j < 12
          · have hcw := hg.core.cW
            have c5 := cell_of_row _ _ 6 _ _ _ hcw
            simp at c5
            obtain ⟨da, dc, hvd, hd1, hd2⟩ := hg.gst.grp.row.1.slice
            have hdl2 := hg.gst.dl
            have hdb : D2.length ≤ 2400 := by omega
            have hn2 := hg.gst.hn
            have hn2' : n2 ≤ 4108 := by omega
            obtain ⟨la, lc, hlv, hl1, hl2⟩ := hg.gst.cur.1.slice
            subst hlv
            have hrow : Row (wr.alloc (.cells #[.slice la n2 lc] 43)) 43 1 vd2 D2.length (D2.map (·.1)) := hg.gst.grp.row.1.keep_nil ((Fr.refl _ _).alloc _)
            have hWd : W ∉ vd2.ownBlock.toList := fun hm => by
              have := hg.gst.grp.row.2 W (Option.mem_toList.1 hm)
              rw [hg.core.tW] at this; cases this
            subst hvd
            have HROW := Lib.hid hrow
            have HG := Lib.hid hg
            have HCW := Lib.hid hcw
            have HWD := Lib.hid hWd
            clear hrow hg hcw hWd hdl2
            go_wp2_with (at_builtin; refine wpList_append_row rfl _ _ 27 rfl 43 i0 _ 1 24 Try.underlying27 hi hz0 hz1 hz2 rfl (by decide) (.slice da D2.length dc) D2.length (D2.map (·.1)) rfl HROW.out ⟨wr.heap.size, 0, none⟩ 1 1 [.slice la n2 lc] rfl rfl (cell_one_new _ _ _) (by intro u hu; simp at hu; subst hu; rfl) (by unfold maxLen; omega) (by omega) ?_)
            intro vd3 w2 happ
            obtain ⟨xa, xc, rfl, _, _⟩ := happ.out.row.slice
            have hcw2 := happ.out.fr.keep (((Fr.refl [] wr).alloc (.cells #[.slice la n2 lc] 43)).keep HCW.out (by simp)) HWD.out
            have e5 := cell_of_row _ _ 6 _ _ _ hcw2
            have f5 := frozen_of_row _ _ 6 _ _ hcw2
            simp at e5
            have hpush := HG.out.push happ.out hjl (by omega)
            obtain ⟨w3, hw3⟩ : ∃ x, w2.setCell ⟨W, 6, none⟩ (.slice xa (D2.length + 1) xc) = x := ⟨_, rfl⟩
            rw [hw3] at hpush
            have HPUSH := Lib.hid hpush
            have HW3 := Lib.hid hw3
            clear hcw2 hpush hw3 happ HROW HCW HWD HG c5
            go_upto_region 46 with fail
            rw [HW3.out]
            clear e5 f5
            obtain ⟨ρ4, hg4⟩ := HPUSH.out
            have hrow5 : Row (w3.alloc (.cells #[.int .i64 (-1 - (H : Int) - (k : Int)), .string ByteArray.empty] 58)) 58 2 (.slice la n2 lc) n2 (rep n2 [.int .i64 (-1 - (H : Int) - (k : Int)), .string ByteArray.empty]) := by rw [← HWM.out]; exact hg4.gst.cur.1.keep_nil ((Fr.refl _ _).alloc _)
            have HROW5 := Lib.hid hrow5
            have HG5 := Lib.hid hg4
            clear hg4 hrow5
            go_wp2_with (at_builtin; refine wpList_append_row rfl _ _ 43 rfl 58 i1 _ 2 24 Try.underlying43 hi1 hz10 hz11 hz12 rfl (by decide) (.slice la n2 lc) n2 (rep n2 [.int .i64 (-1 - (H : Int) - (k : Int)), .string ByteArray.empty]) rfl HROW5.out ⟨w3.heap.size, 0, none⟩ 1 1 [.int .i64 (-1 - (H : Int) - (k : Int)), .string ByteArray.empty] rfl rfl (cell_two_new _ _ _ _) (by intro u hu; simp at hu; rcases hu with rfl | rfl <;> rfl) (by unfold maxLen; omega) (by omega) ?_)
            intro v6 w6 happ6
            have hnew : WIn base ρ0 w1 W vl vf vw vg vh vd vn ss hn fl wl D G H k (j + 1) v6 w6 := by
              have ha := happ6.out
              rw [← HWM.out] at ha
              obtain ⟨ρ7, h7⟩ := HG5.out.grow ha
              exact ⟨_, _, _, _, h7⟩
            have HNEW := Lib.hid hnew
            clear hnew happ6
            go_wp2_with fail
            go_roundw
            case rel => exact ⟨j + 1, by omega, by go_num, HNEW.out⟩
            case measure => simp [intOf]; omega
          · obtain rfl : j = 12 := by omega
            have hst := hg.stop
            have hout2 : WOut base ρ0 w1 W vl vf vw vg vh vd vn ss hn fl wl D G H (k + 1) wr := ⟨_, _, _, hst.1, hst.2⟩
            have HOUT2 := Lib.hid hout2
            clear hst hout2 hg
            go_wp2_with fail
            go_roundw
            case rel => exact ⟨k + 1, by omega, by go_num, HOUT2.out⟩
            case measure => simp [intOf]; omega
      · obtain rfl : k = nf := by omega
        clear hp hdl
        go_wp2_with fail
        go_meet
        exact HOUT.out
  case rest =>
    obtain ⟨ρ3, vd3, D3, hp3, hl3⟩ := hcut
    go_step
    exact still_t9 hp3 HDD.out (by rw [HNF.out]; exact hl3) bG bH hB H0.out _ _ _ _ _ _ _ _ _ _ _ _ _ _ _ _ _ _ _ _ _ _ _ _ _ _ _ _ _ _ _ _ _ _ _ _ _ _ _ _ _ _ _ _ _ _ _ _ _ _ _ _ _ _ _ _ _ _ _ _ _ _ _ _ _ _ _ _ _ _ _ _ _ _ _ _ _ _ _ _ _ _ _ _ _ _ _ _ _ _ _ _ _ _ _ _ _ _ _ _ _ _ _ _ _ _ _ _ _ _ _ _ _ _ _ _ _ _ _ _ _ _ _ _ _ _ _ _ _ _ _ _ _ _ _ _ _ _ _ _ _ _ _ _ _ _ _ _ _ _ _ _ _ _ _ _ _ _ _ _ _ _ _ _ _ _ _ _ _ _ _ _ _ _ _ _ _ _ _ _ _ _ _ _ _ _ _ _ _ _ _ _ _ _ _ _ _ _ _ _ _ _ _ _ _ _ _ _ _ _ _ _ _ _ _ _ _ _ _ _ _ _ _ _ _ _ _ _ _ _ _ _ _ _ _ _ _ _ _ _ _ _ _ _ _ _ _ _ _ _ _ _ _ _ _ _ _ _ _ _ _ _ _ _ _ _ _ _ _ _ _ _ _ _ _ _ _ _ _ _ _ _ _ _ _ _ _ _ _ _ _ _ _ _ _ _ _ _ _ _ _ _ _ _ _ _ _ _ _ _ _ _ _
end Go.Proofs.Ytcpealfaaghpiaa
