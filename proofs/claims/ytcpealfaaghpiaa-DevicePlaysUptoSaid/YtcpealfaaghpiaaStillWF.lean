/-
  The law's still: the last loop (printed by wip/tools/genstillw.py). Own work.
-/
import Derived.Deep.RegionHeld3
import Derived.Deep.DeepCutAuto
import Derived.Deep.CutBlock
import Derived.Deep.QuietTactic
import Derived.BigQuiet
import Derived.Outline
import Derived.IntWalk
import Derived.Test.YtcpealfaaghpiaaStillV
namespace Go.Proofs.Ytcpealfaaghpiaa
open Go Go.RowKit Go.Maps Go.Sort Go.Shelf

set_option maxRecDepth 1000000 in
set_option maxHeartbeats 4000000 in
theorem still_t14 {base : Nat} {ρ0 ρ : Rho} {w0 w1 w : World} {W : Nat} {A : WA} {B : Nat} (h : WInv base ρ w W A B) (hB : B ≤ 200) (hk : Trk ρ0 w1 ρ w) (h0 : Fr [] w0 w1) (x1 x2 x3 x4 x5 x6 x7 x8 x9 x10 x11 x12 x13 x14 x15 x16 x17 x18 x19 x20 x21 x22 x23 x24 x25 x26 x27 x28 x29 x30 x31 x32 x33 x34 x35 x36 x37 x38 x39 x40 x41 x42 x43 x44 x45 x46 x47 x48 x49 x50 x51 x52 x53 x54 x55 x56 x57 x58 x59 x60 x61 x62 x63 x64 x65 x66 x67 x68 x69 x70 x71 x72 x73 x74 x75 x76 x77 x78 x79 x80 x81 x82 x83 x84 x85 x86 x87 x88 x89 x90 x91 x92 x93 x94 x95 x96 x97 x98 x99 x100 x101 x102 x103 x104 x105 x106 x107 x108 x109 x110 x111 x112 x113 x114 x115 x116 x117 x118 x119 x120 x121 x122 x123 x124 x125 x126 x127 x128 x129 x130 x131 x132 x133 x134 x135 x136 x137 x138 x139 x140 x141 x142 x143 x144 x145 x146 x147 x148 x149 x150 x151 x152 x153 x154 x155 x156 x157 x158 x159 x160 x161 x162 x163 x164 x165 x166 x167 x168 x169 x170 x171 x172 x173 x174 x175 x176 x177 x178 x179 x180 x181 x182 x183 x184 x185 x186 x187 x188 x189 x190 x191 x192 x193 x194 x195 x196 x197 x198 x199 x200 x201 x202 x203 x204 x205 x206 x207 x208 x209 x210 x211 x212 x213 x214 x215 x216 x217 x218 x219 x220 x221 x222 x223 x224 x225 x226 x227 x228 x229 x230 x231 x232 x233 x234 x235 x236 x237 x238 x239 x240 x241 x242 x243 x244 x245 x246 x247 x248 x249 x250 x251 x252 x253 x254 x255 x256 x257 x258 x259 x260 x261 x262 x263 x264 x265 x266 x267 x268 x269 x270 x271 x272 x273 x274 x275 x276 x277 x278 x279 x280 x281 x282 x283 x284 x285 x286 x287 x288 x289 x290 x291 x292 x293 x294 x295 x296 x297 x298 x299 x300 x301 x302 x303 x304 x305 x306 x307 x308 x309 x310 x311 x312 x313 : Value) :
    Code.wp Try.prog (stillT 14) (bodyPost Try.prog Try.f7 (StillPost base ρ0 w0 W B)) ⟨#[.pointer (some ⟨W, 0, none⟩), x1, x2, x3, x4, x5, x6, x7, x8, x9, x10, x11, x12, x13, x14, x15, x16, x17, x18, x19, x20, x21, x22, x23, x24, x25, x26, x27, x28, x29, x30, x31, x32, x33, x34, x35, x36, x37, x38, x39, x40, x41, x42, x43, x44, x45, x46, x47, x48, x49, x50, x51, x52, x53, x54, x55, x56, x57, x58, x59, x60, x61, x62, x63, x64, x65, x66, x67, x68, x69, x70, x71, x72, x73, x74, x75, x76, x77, x78, x79, x80, x81, x82, x83, x84, x85, x86, x87, x88, x89, x90, x91, x92, x93, x94, x95, x96, x97, x98, x99, x100, x101, x102, x103, x104, x105, x106, x107, x108, x109, x110, x111, x112, x113, x114, x115, x116, x117, x118, x119, x120, x121, x122, x123, x124, x125, x126, x127, x128, x129, x130, x131, x132, x133, x134, x135, x136, x137, x138, x139, x140, x141, x142, x143, x144, x145, x146, x147, x148, x149, x150, x151, x152, x153, x154, x155, x156, x157, x158, x159, x160, x161, x162, x163, x164, x165, x166, x167, x168, x169, x170, x171, x172, x173, x174, x175, x176, x177, x178, x179, x180, x181, x182, x183, x184, x185, x186, x187, x188, x189, x190, x191, x192, x193, x194, x195, x196, x197, x198, x199, x200, x201, x202, x203, x204, x205, x206, x207, x208, x209, x210, x211, x212, x213, x214, x215, x216, x217, x218, x219, x220, x221, x222, x223, x224, x225, x226, x227, x228, x229, x230, x231, x232, x233, x234, x235, x236, x237, x238, x239, x240, x241, x242, x243, x244, x245, x246, x247, x248, x249, x250, x251, x252, x253, x254, x255, x256, x257, x258, x259, x260, x261, x262, x263, x264, x265, x266, x267, x268, x269, x270, x271, x272, x273, x274, x275, x276, x277, x278, x279, x280, x281, x282, x283, x284, x285, x286, x287, x288, x289, x290, x291, x292, x293, x294, x295, x296, x297, x298, x299, x300, x301, x302, x303, x304, x305, x306, x307, x308, x309, x310, x311, x312, x313], []⟩ w := by
  conv => arg 2; whnf
  obtain ⟨ne, hne⟩ : ∃ n, A.wdone.length = n := ⟨_, rfl⟩
  obtain ⟨ea, ec, hve, he1, he2⟩ := h.wdone.1.slice
  rw [hne] at hve he1
  have d6 := cell_of_row _ _ 6 _ _ _ h.cW
  simp [WA.cells] at d6
  rw [hve] at d6
  have hnb : ne ≤ 2400 := by have := h.wdlen; have := h.bH; omega
  have HI := Lib.hid h
  have HNE := Lib.hid hne
  have HVE := Lib.hid hve
  have HP := Lib.hid (hk.goes h h0)
  clear h hne hve hk h0
  go_wp2_with fail
  go_loop [21] (fun i => ∃ k : Nat, k ≤ ne ∧ i = .int .i64 k) (fun i => ne - (intOf i).toNat)
  case atStart => exact ⟨0, Nat.zero_le _, rfl⟩
  case round =>
    obtain ⟨k, hk, rfl⟩ := hrel
    by_cases hlt : k < ne
    · obtain ⟨⟨v, n⟩, hp⟩ := get_of_lt HNE.out hlt
      obtain ⟨g, rfl, x1, _⟩ := HI.out.wdone.1.nth HVE.out hp
      obtain ⟨hr, hn⟩ := HI.out.lwdone k v n hp
      obtain ⟨va, vc, hv, hv1, hv2⟩ := hr.1.slice
      subst hv
      have HR := Lib.hid hr.1
      clear hp hr
      go_wp2_with fail
      go_loop [22] (fun jv => ∃ j : Nat, j ≤ n ∧ jv = .int .i64 j) (fun jv => n - (intOf jv).toNat)
      case atStart => exact ⟨0, Nat.zero_le _, rfl⟩
      case round =>
        obtain ⟨j, hj, rfl⟩ := hrel
        by_cases hjl : j < n
        · obtain ⟨gv, vc', e, x2⟩ := rep_cell (m := wmc (k / 12)) (c := 0) (x := .int .i64 (-1 - ((k / 12 : Nat) : Int))) HR.out rfl hjl rfl
          injection e with e _ e3
          subst e e3
          rw [Nat.add_zero, Int.natCast_ediv] at x2
          go_wp2_with fail
          go_round
          case rel => exact ⟨j + 1, by omega, by go_num⟩
          case measure => simp [intOf]; omega
        · obtain rfl : j = n := by omega
          go_wp2_with fail
          go_round
          case rel => exact ⟨k + 1, by omega, by go_num⟩
          case measure => simp [intOf]; omega
    · obtain rfl : k = ne := by omega
      go_wp2_with fail
      go_ret
      exact ⟨rfl, HP.out⟩
end Go.Proofs.Ytcpealfaaghpiaa
