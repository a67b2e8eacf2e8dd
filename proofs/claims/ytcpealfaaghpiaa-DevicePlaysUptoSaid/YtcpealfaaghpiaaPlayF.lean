/-
  The law: a step of the script, whatever it is. Own work.
-/
import Derived.Test.YtcpealfaaghpiaaPlayA
import Derived.Test.YtcpealfaaghpiaaPlayB
import Derived.Test.YtcpealfaaghpiaaPlayC
import Derived.Test.YtcpealfaaghpiaaPlayD
import Derived.Test.YtcpealfaaghpiaaPlayE
namespace Go.Proofs.Ytcpealfaaghpiaa
open Go Go.RowKit Go.Maps Go.Sort Go.Shelf

set_option maxRecDepth 100000 in
set_option maxHeartbeats 1000000 in
theorem play_made {base : Nat} {ρ : Rho} {w : World} {W : Nat} {A : WA} {B : Nat} (h : WInv base ρ w W A B) (kind on n : Int) (s : ByteArray) (ka : Option Addr) (kn kc : Nat)
    (hmk : ∀ wa, WInv base ρ wa W A B → Calls Try.prog 20 #[.pointer (some ⟨W, 0, none⟩), .agg #[.int .i64 kind, .int .i64 on, .int .i64 n, .string s, .slice ka kn kc]] wa fun e w' => e = .returned (.tuple #[.bool true, .bool true]) ∧ Goes base ρ wa W B w') :
    Calls Try.prog 5 #[.pointer (some ⟨W, 0, none⟩), .agg #[.int .i64 kind, .int .i64 on, .int .i64 n, .string s, .slice ka kn kc]] w (PlayPost base ρ w W B) := by
  obtain ⟨wa, hwa⟩ : ∃ wa, w.alloc (.cells #[.int .i64 kind, .int .i64 on, .int .i64 n, .string s, .slice ka kn kc] 35) = wa := ⟨_, rfl⟩
  have hfa : Fr [] w wa := by rw [← hwa]; exact (Fr.refl _ _).alloc _
  have hm := hmk wa (h.keep_nil hfa)
  have hbox : wa.heap[w.heap.size]? = some (.cells #[.int .i64 kind, .int .i64 on, .int .i64 n, .string s, .slice ka kn kc] 35 (0, 0)) := by rw [← hwa]; exact heap_alloc_new w _
  have b0 := cell_of_row _ _ 0 _ _ _ hbox
  have b1 := cell_of_row _ _ 1 _ _ _ hbox
  have b2 := cell_of_row _ _ 2 _ _ _ hbox
  have b3 := cell_of_row _ _ 3 _ _ _ hbox
  have b4 := cell_of_row _ _ 4 _ _ _ hbox
  simp at b0 b1 b2 b3 b4
  have HM := Lib.hid hm
  have HFA := Lib.hid hfa
  have HB := Lib.hid hbox
  clear h hmk hfa hm hbox
  go_enter Try.func5, Try.ntmps5
  go_wp2_with fail
  refine HM.out.mono ?_
  rintro e w1 ⟨rfl, hg⟩
  have HP := Lib.hid (PlayPost.goes HFA.out hg)
  clear hg
  go_wp2_with fail
  go_ret
  exact HP.out

theorem play_walk {base : Nat} {ρ : Rho} {w : World} {W : Nat} {A : WA} {B : Nat} (h : WInv base ρ w W A B) (hB : B ≤ 190) (kind on n : Int) (s : ByteArray) (ka : Option Addr) (kn kc : Nat)
    (hon1 : -9223372036854775808 ≤ on) (hon2 : on ≤ 9223372036854775807) (hn1 : -9223372036854775808 ≤ n) (hn2 : n ≤ 9223372036854775807)
    (ks : List (Int × Int)) (hk : KeepsIn w (.slice ka kn kc) ks) (hkw : KWf ks) (hkn : ks.length ≤ 1048576) (hkb : ∀ a m c, Value.slice ka kn kc = .slice (some a) m c → 0 < m → a.block < base) :
    Calls Try.prog 5 #[.pointer (some ⟨W, 0, none⟩), .agg #[.int .i64 kind, .int .i64 on, .int .i64 n, .string s, .slice ka kn kc]] w (PlayPost base ρ w W B) := by
  by_cases h1 : kind = 1
  · subst h1; exact play_read h hB on n s ka kn kc hon1 hon2 hn1 hn2
  by_cases h2 : kind = 2
  · subst h2; exact play_write h hB on n s ka kn kc hon1 hon2 hn1 hn2
  by_cases h3 : kind = 3
  · subst h3; exact play_page h hB on n s ka kn kc hon1 hon2 hn1 hn2
  by_cases h4 : kind = 4
  · subst h4; exact play_flush h hB on n s ka kn kc hon1 hon2 hn1 hn2
  by_cases h5 : kind = 5
  · subst h5; exact play_arm h hB on n s ka kn kc hon1 hon2 hn1 hn2
  by_cases h6 : kind = 6
  · subst h6; exact play_pending h hB on n s ka kn kc hon1 hon2 hn1 hn2
  by_cases h7 : kind = 7
  · subst h7; exact play_pages h hB on n s ka kn kc hon1 hon2 hn1 hn2
  by_cases h8 : kind = 8
  · subst h8; exact play_crash h hB on n s ka kn kc hon1 hon2 hn1 hn2 ks hk hkw hkn hkb
  by_cases h9 : kind = 9
  · subst h9; exact play_keeps h hB on n s ka kn kc hon1 hon2 hn1 hn2 ks hk hkw hkn hkb
  by_cases h10 : kind = 10
  · subst h10; exact play_reload h hB on n s ka kn kc hon1 hon2 hn1 hn2
  by_cases h11 : kind = 11
  · subst h11; exact play_made h 11 on n s ka kn kc fun wa hi => wmakesLoad hi on n s ka kn kc hon1 hon2 hn1 hn2
  by_cases h12 : kind = 12
  · subst h12; exact play_made h 12 on n s ka kn kc fun wa hi => wmakesNew hi on n s ka kn kc
  exact play_other h hB on n s ka kn kc hon1 hon2 hn1 hn2 kind h1 h2 h3 h4 h5 h6 h7 h8 h9 h10 h11 h12
end Go.Proofs.Ytcpealfaaghpiaa
