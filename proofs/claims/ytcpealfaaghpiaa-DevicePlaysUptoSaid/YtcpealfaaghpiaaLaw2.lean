/-
  The law: sameWrites; near. Own work.
-/
import Derived.Test.YtcpealfaaghpiaaRefE
namespace Go.Proofs.Ytcpealfaaghpiaa
open Go Go.RowKit Go.Maps Go.Sort Go.Shelf

theorem Writes.at {w : World} {v : Value} {l : List (Nat × ByteArray)} (h : Writes w v l) {k : Nat} {x : Nat × ByteArray} (hx : l[k]? = some x) :
    ∃ g cap, v = .slice (some ⟨g, 0, none⟩) l.length cap ∧ w.cell? ⟨g, k * 2, none⟩ = some (.int .i64 x.1) ∧ w.cell? ⟨g, k * 2 + 1, none⟩ = some (.string x.2) := by
  obtain ⟨e1, e2⟩ := wcells_at l k x hx
  obtain ⟨g, cap, q1, c1, _⟩ := Row.cell h e1
  obtain ⟨g2, cap2, q2, c2, _⟩ := Row.cell h e2
  rw [q1] at q2
  injection q2 with q2; injection q2 with q2; injection q2 with q2; subst q2
  exact ⟨g, cap, q1, c1, c2⟩

set_option maxHeartbeats 400000 in
theorem sameWrites_walk (w : World) (va vb : Value) (la lb : List (Nat × ByteArray)) (ha : Writes w va la) (hb : Writes w vb lb) :
    Calls Try.prog 11 #[va, vb] w fun e w' => e = .returned (.bool (decide (la = lb))) ∧ ∃ n, w' = w.drewN n := by
  obtain ⟨n, hn⟩ : ∃ n, la.length = n := ⟨_, rfl⟩
  obtain ⟨m, hm⟩ : ∃ m, lb.length = m := ⟨_, rfl⟩
  have ha' := ha.shape
  have hb' := hb.shape
  rw [hn] at ha'
  rw [hm] at hb'
  obtain ⟨aa, ca, rfl, hca, hma⟩ := ha'
  obtain ⟨ab, cb, rfl, hcb, hmb⟩ := hb'
  unfold maxLen at hma hmb
  have Hn := Lib.hid hn
  have Hm := Lib.hid hm
  by_cases hl : n = m
  · subst hl
    have HA := Lib.hid ha
    have HB := Lib.hid hb
    clear ha hb hn hm
    go_enter Try.func11, Try.ntmps11
    go_wp2
    go_loopw [5] (fun i wr => ∃ k q : Nat, k ≤ n ∧ i = .int .i64 k ∧ la.take k = lb.take k ∧ wr = w.drewN q) (fun i _ => n - (intOf i).toNat)
    case atStart => exact ⟨0, 0, Nat.zero_le _, rfl, by simp, rfl⟩
    case round =>
      obtain ⟨k, q, hk, rfl, ht, rfl⟩ := hrel
      have HT := Lib.hid ht
      clear ht
      by_cases hlt : k < n
      · obtain ⟨sa, hsa⟩ := get_of_lt Hn.out hlt
        obtain ⟨sb, hsb⟩ := get_of_lt Hm.out hlt
        obtain ⟨ga, xa, ea, hc1, hc2⟩ := HA.out.at hsa
        obtain ⟨gb, xb, eb, hc3, hc4⟩ := HB.out.at hsb
        injection ea with ea1 ea2 ea3
        injection eb with eb1 eb2 eb3
        subst ea1 eb1
        obtain ⟨pa, da⟩ := sa
        obtain ⟨pb, db⟩ := sb
        simp only at hc1 hc2 hc3 hc4
        have HSA := Lib.hid hsa
        have HSB := Lib.hid hsb
        clear hsa hsb ea2 ea3 eb2 eb3
        by_cases hp : pa = pb
        · subst hp
          by_cases hs : da = db
          · subst hs
            go_wp2
            go_quiet (fail)
            go_wp2
            go_roundw
            case rel => exact ⟨k + 1, _, by omega, by go_num, take_eq_step HT.out HSA.out HSB.out, rfl⟩
            case measure => simp [intOf]; omega
          · have hs' := strs_ne hs
            have hs2 := strs_ne' hs
            go_wp2
            go_quiet (fail)
            go_wp2
            go_ret
            exact ⟨ret_false (decide_eq_false (ne_of_get HSA.out HSB.out (by intro e; exact hs (Prod.mk.inj e).2))), drewN2 _ _ _⟩
        · have hp' : ((pa : Int) == (pb : Int)) = false := by simp; omega
          go_wp2
          go_quiet (fail)
          go_wp2
          go_ret
          exact ⟨ret_false (decide_eq_false (ne_of_get HSA.out HSB.out (by intro e; exact hp (Prod.mk.inj e).1))), drewN2 _ _ _⟩
      · obtain rfl : k = n := by omega
        go_wp2
        go_ret
        exact ⟨ret_true (decide_eq_true (eq_of_take Hn.out Hm.out HT.out)), _, rfl⟩
  · have hl' : ((n : Int) != (m : Int)) = true := by simp; omega
    clear ha hb hn hm
    go_enter Try.func11, Try.ntmps11
    go_wp2
    go_ret
    refine ⟨ret_false (decide_eq_false ?_), 0, rfl⟩
    intro h; subst h; exact hl (Hn.out.symm.trans Hm.out)

/-- Keeps of what is pending. -/
def nearL (ks : List (Int × Int)) (n : Nat) : Nat → List (Int × Int)
  | 0 => []
  | k + 1 => nearL ks n k ++ [((n : Int) - 1 - (k : Int), (pickN (ks.getD k (0, 0)).2 257 : Int))]
theorem nearL_len (ks : List (Int × Int)) (n k : Nat) : (nearL ks n k).length = k := by
  induction k with
  | zero => rfl
  | succ k ih => unfold nearL; rw [List.length_append, ih]; rfl
theorem kcells_snoc (l : List (Int × Int)) (x : Int × Int) : kcells (l ++ [x]) = kcells l ++ [Value.int .i64 x.1, Value.int .i64 x.2] := by simp [kcells]
theorem nearL_wf (ks : List (Int × Int)) (n : Nat) (hn : n ≤ 4096) (k : Nat) (hk : k ≤ n) : KWf (nearL ks n k) := by
  induction k with
  | zero => intro x hx; simp [nearL] at hx
  | succ k ih =>
    intro x hx
    unfold nearL at hx
    rcases List.mem_append.1 hx with hx | hx
    · exact ih (by omega) x hx
    · simp at hx
      subst hx
      have := pickN_lt (ks.getD k (0, 0)).2 (show 0 < 257 by omega)
      simp only
      refine ⟨by omega, by omega, by omega, ?_⟩
      have : (pickN (ks.getD k (0, 0)).2 257) ≤ 257 := by omega
      simp [List.getD] at this ⊢
      omega
theorem infoK : (Try.prog.info? 84).map (fun i => (i.zero, i.size, i.bytes)) = some (some (.agg #[.int .i64 0, .int .i64 0]), 2, 16) := by kernel_rfl

set_option maxHeartbeats 400000 in
theorem near_walk (w : World) (vk : Value) (ks : List (Int × Int)) (n : Nat) (hk : KeepsIn w vk ks) (hwf : KWf ks) (hn : n ≤ 4096) (hap : ∀ a m cap, vk = .slice (some a) m cap → 0 < m → a.block < w.heap.size) :
    Calls Try.prog 31 #[vk, .int .i64 n] w fun e w' => ∃ v, e = .returned v ∧ Keeps w' v (nearL ks n (min ks.length n)) ∧ Fr [] w w' ∧ (∀ k, v.ownBlock = some k → w.heap.size ≤ k) := by
  obtain ⟨nk, hnk⟩ : ∃ nk, ks.length = nk := ⟨_, rfl⟩
  have hks := hk.shape
  rw [hnk] at hks ⊢
  obtain ⟨ak, ck, rfl, hk1, hk2⟩ := hks
  unfold maxLen at hk2
  obtain ⟨i0, hi, hz0, hz1, hz2⟩ := info_parts infoK
  have HK := Lib.hid hk
  have HNK := Lib.hid hnk
  have HW := Lib.hid hwf
  have HA := Lib.hid hap
  clear hk hnk hwf hap
  go_enter Try.func31, Try.ntmps31
  go_wp2_with fail
  go_loopw [5, 6] (fun out i wr => ∃ k : Nat, k ≤ nk ∧ k ≤ n ∧ i = .int .i64 k ∧ wr.ownsRow w.heap.size 84 2 out k (kcells (nearL ks n k)) ∧ Fr [] w wr) (fun _ i _ => nk - (intOf i).toNat)
  case atStart => exact ⟨0, Nat.zero_le _, Nat.zero_le _, rfl, World.ownsRow_nil w _ _ _, Fr.refl _ _⟩
  case round =>
    obtain ⟨k, hk, hkn, rfl, hown, hfr⟩ := hrel
    have hsz := hfr.size
    have hEnd : ∀ k', k' = min nk n → k = k' → Keeps wr u5 (nearL ks n k') := by
      intro k' _ e
      subst e
      unfold Keeps
      rw [nearL_len]
      exact Row.ofOwn hown
    have HEnd := Lib.hid hEnd
    clear hEnd
    have HFR := Lib.hid hfr
    by_cases hlt : k < nk
    · by_cases hlt2 : k < n
      · obtain ⟨X, hx⟩ := get_of_lt HNK.out hlt
        obtain ⟨N, B⟩ := X
        obtain ⟨g, cg, ea, _, hc2⟩ := HK.out.at hx
        injection ea with ea1 ea2 ea3
        subst ea1
        simp only at hc2
        have hc2' := hfr.cell hc2 (by simp)
        obtain ⟨_, _, hB1, hB2⟩ := HW.out _ (List.mem_of_getElem? hx)
        simp only at hB1 hB2
        have hgd : nearL ks n (k + 1) = nearL ks n k ++ [((n : Int) - 1 - (k : Int), (pickN B 257 : Int))] := by
          show nearL ks n k ++ [((n : Int) - 1 - (k : Int), (pickN (ks.getD k (0, 0)).2 257 : Int))] = _
          rw [List.getD, hx]; rfl
        have HGD := Lib.hid hgd
        clear hx ea2 ea3 hc2 hgd hfr
        go_wp2_with fail
        refine (pick_walk wr B 257 (by omega) (by omega) hB1 hB2).mono ?_
        rintro e wr' ⟨rfl, rfl⟩
        obtain ⟨pk, hpk⟩ : ∃ pk, pickN B 257 = pk := ⟨_, rfl⟩
        rw [hpk] at HGD ⊢
        clear hpk
        go_wp2_with (at_builtin; refine wpList_append_own _ rfl _ _ 33 rfl w.heap.size 84 i0 _ 2 16 Try.underlying33 hi hz0 hz1 hz2 rfl (by decide) _ _ _ rfl (hown.alloc _) ⟨wr.heap.size, 0, none⟩ 1 1 [.int .i64 ((n : Int) - 1 - k), .int .i64 pk] rfl rfl ?c1 ?c2 ?c3 ?c4 ?c5 ?_)
        case c1 => exact cell_two_new _ _ _ _
        case c2 => intro u hu; simp at hu; rcases hu with rfl | rfl <;> rfl
        case c3 => unfold maxLen; omega
        case c4 => omega
        case c5 => simp; omega
        intro v' w2 hown' hgrow _
        have hfr2 : Fr [] w w2 := (HFR.out.alloc _).grown hgrow (fun j hj => .inr ((hown.alloc (.cells #[Value.int .i64 ((n : Int) - 1 - k), Value.int .i64 pk] 84)).lt j hj).1)
        have HO := Lib.hid hown'
        have HF2 := Lib.hid hfr2
        clear hown' hfr2 hgrow hown
        go_wp2_with fail
        go_roundw
        case rel =>
          refine ⟨k + 1, by omega, by omega, by go_num, ?_, HF2.out⟩
          rw [HGD.out, kcells_snoc]
          exact HO.out
        case measure => simp [intOf]; omega
      · have HM := Lib.hid (show k = min nk n by omega)
        have HO := Lib.hid hown
        clear hown hfr
        go_wp2_with fail
        go_ret
        exact ⟨_, rfl, HEnd.out _ rfl HM.out, HFR.out, fun j hj => (HO.out.lt j hj).1⟩
    · have HM := Lib.hid (show k = min nk n by omega)
      have HO := Lib.hid hown
      clear hown hfr
      go_wp2_with fail
      go_ret
      exact ⟨_, rfl, HEnd.out _ rfl HM.out, HFR.out, fun j hj => (HO.out.lt j hj).1⟩
end Go.Proofs.Ytcpealfaaghpiaa
