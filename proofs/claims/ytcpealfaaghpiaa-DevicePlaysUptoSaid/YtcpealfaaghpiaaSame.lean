import Derived.Test.YtcpealfaaghpiaaRows
import Derived.Test.YtcpealfaaghpiaaBase
namespace Go.Proofs.Ytcpealfaaghpiaa
open Go Go.RowKit

set_option maxHeartbeats 400000 in
theorem same_walk (w : World) (va vb : Value) (la lb : List ByteArray) (ha : Strs w 9 va la) (hb : Strs w 9 vb lb) :
    Calls Try.prog 8 #[va, vb] w fun e w' => e = .returned (.bool (decide (la = lb))) ∧ ∃ n, w' = w.drewN n := by
  obtain ⟨n, hn⟩ : ∃ n, la.length = n := ⟨_, rfl⟩
  obtain ⟨m, hm⟩ : ∃ m, lb.length = m := ⟨_, rfl⟩
  have ha' := ha.shape
  have hb' := hb.shape
  rw [hn] at ha'
  rw [hm] at hb'
  obtain ⟨aa, ca, rfl, hca, hma⟩ := ha'
  obtain ⟨ab, cb, rfl, hcb, hmb⟩ := hb'
  unfold maxLen at hma hmb
  have Hn := Lib.hid hn
  have Hm := Lib.hid hm
  by_cases hl : n = m
  · subst hl
    have HA := Lib.hid ha
    have HB := Lib.hid hb
    clear ha hb hn hm
    go_enter Try.func8, Try.ntmps8
    go_wp2
    go_loopw [5] (fun i wr => ∃ k q : Nat, k ≤ n ∧ i = .int .i64 k ∧ la.take k = lb.take k ∧ wr = w.drewN q) (fun i _ => n - (intOf i).toNat)
    case atStart => exact ⟨0, 0, Nat.zero_le _, rfl, by simp, rfl⟩
    case round =>
      obtain ⟨k, q, hk, rfl, ht, rfl⟩ := hrel
      have HT := Lib.hid ht
      clear ht
      by_cases hlt : k < n
      · obtain ⟨sa, hsa⟩ := get_of_lt Hn.out hlt
        obtain ⟨sb, hsb⟩ := get_of_lt Hm.out hlt
        obtain ⟨ga, xa, ea, hc1, _⟩ := HA.out.at hsa
        obtain ⟨gb, xb, eb, hc2, _⟩ := HB.out.at hsb
        injection ea with ea1 ea2 ea3
        injection eb with eb1 eb2 eb3
        subst ea1 eb1
        have HSA := Lib.hid hsa
        have HSB := Lib.hid hsb
        clear hsa hsb ea2 ea3 eb2 eb3
        by_cases hs : sa = sb
        · subst hs
          go_wp2
          go_quiet (fail)
          go_wp2
          go_roundw
          case rel => exact ⟨k + 1, _, by omega, by go_num, take_eq_step HT.out HSA.out HSB.out, rfl⟩
          case measure => simp [intOf]; omega
        · have hs' := strs_ne hs
          go_wp2
          go_quiet (fail)
          go_wp2
          go_ret
          exact ⟨ret_false (decide_eq_false (ne_of_get HSA.out HSB.out hs)), drewN2 _ _ _⟩
      · obtain rfl : k = n := by omega
        go_wp2
        go_ret
        exact ⟨ret_true (decide_eq_true (eq_of_take Hn.out Hm.out HT.out)), _, rfl⟩
  · have hl' : ((n : Int) != (m : Int)) = true := by simp; omega
    clear ha hb hn hm
    go_enter Try.func8, Try.ntmps8
    go_wp2
    go_ret
    refine ⟨ret_false (decide_eq_false ?_), 0, rfl⟩
    intro h; subst h; exact hl (Hn.out.symm.trans Hm.out)
end Go.Proofs.Ytcpealfaaghpiaa
