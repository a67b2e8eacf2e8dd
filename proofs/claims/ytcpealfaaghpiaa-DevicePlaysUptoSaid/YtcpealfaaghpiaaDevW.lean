/-
  The program's device: walks of its small calls. Own work.
-/
import Derived.Test.YtcpealfaaghpiaaDev
namespace Go.Proofs.Ytcpealfaaghpiaa
open Go Go.RowKit

theorem asked_walk (w : World) (d p m : Nat) (D : DA) (i : Int) (h : DevIs w d p m D) :
    Calls Try.prog 40 #[.pointer (some ⟨d, 0, none⟩), .int .i64 i] w fun e w' => e = .returned (.int .i64 (D.asked i)) ∧ w = w' := by
  obtain ⟨cap, armed, c0, c1, c2, c3, _⟩ := h.cells
  have hn := h.wf.hi
  obtain ⟨n, hn'⟩ : ∃ n, D.L.length = n := ⟨_, rfl⟩
  obtain ⟨r, hr⟩ : ∃ r, D.asked i = r := ⟨_, rfl⟩
  rw [hr]
  unfold DA.asked at hr
  obtain ⟨dead, hd⟩ : ∃ b, D.dead = b := ⟨_, rfl⟩
  rw [hd] at c2 hr
  rw [hn'] at c0 hn hr
  clear hd hn' h c1 c3
  cases dead
  · rw [if_neg (by simp)] at hr
    by_cases h0 : i < 0
    · rw [if_neg (by omega)] at hr
      subst hr
      go_enter Try.func40, Try.ntmps40
      go_wp2
      go_ret
      exact ⟨rfl, rfl⟩
    · by_cases h1 : i < n
      · rw [if_pos (by omega)] at hr
        subst hr
        go_enter Try.func40, Try.ntmps40
        go_wp2
        go_ret
        exact ⟨rfl, rfl⟩
      · rw [if_neg (by omega)] at hr
        subst hr
        go_enter Try.func40, Try.ntmps40
        go_wp2
        go_ret
        exact ⟨rfl, rfl⟩
  · rw [if_pos rfl] at hr
    subst hr
    go_enter Try.func40, Try.ntmps40
    go_wp2
    go_ret
    exact ⟨rfl, rfl⟩

theorem size_walk (w : World) (d p m : Nat) (D : DA) (h : DevIs w d p m D) :
    Calls Try.prog 19 #[.pointer (some ⟨d, 0, none⟩)] w fun e w' => e = .returned (.int .i64 D.L.length) ∧ w = w' := by
  obtain ⟨cap, armed, c0, _⟩ := h.cells
  go_enter Try.func19, Try.ntmps19
  go_wp2
  go_ret
  exact ⟨rfl, rfl⟩

theorem dead_walk (w : World) (d p m : Nat) (D : DA) (h : DevIs w d p m D) :
    Calls Try.prog 14 #[.pointer (some ⟨d, 0, none⟩)] w fun e w' => e = .returned (.bool D.dead) ∧ w = w' := by
  obtain ⟨cap, armed, c0, c1, c2, _⟩ := h.cells
  go_enter Try.func14, Try.ntmps14
  go_wp2
  go_ret
  exact ⟨rfl, rfl⟩

/-- Its fields, one of which is written. -/
theorem DevIs.setFields {w w' : World} {d p m : Nat} {D D' : DA} (h : DevIs w d p m D) (hf : Fr [d] w w') {cap : Nat} {armed : Int}
    (hb : w'.heap[d]? = some (.cells #[.slice (some ⟨p, 0, none⟩) D.L.length cap, .map (some m), .bool D'.dead, .int .i64 armed] 72 (0, 0)))
    (hc : D.L.length ≤ cap ∧ cap ≤ maxLen) (ha : D'.dead = false → armed = D'.left) (h0 : 0 ≤ armed ∧ armed ≤ 9223372036854775807) (hL : D'.L = D.L) (hP : D'.P = D.P) (hl : 0 ≤ D'.left ∧ D'.left ≤ 9223372036854775807) : DevIs w' d p m D' := by
  obtain ⟨n1, n2, _⟩ := h.apart
  obtain ⟨cur, hcc, r2⟩ := h.pages
  refine ⟨⟨by rw [hL, hP]; exact h.wf.len, by rw [hL]; exact h.wf.lo, by rw [hL]; exact h.wf.hi, by rw [hL]; exact h.wf.szL, by rw [hP]; exact h.wf.szP, hl.1, hl.2⟩, ⟨cap, armed, by rw [hL]; exact hb, by rw [hL]; exact hc.1, hc.2, ha, h0⟩, ⟨cur, hf.keep hcc (by simp; omega), by rw [hL]; exact r2⟩, by rw [hP]; exact h.pend.keep hf (by simp; omega)⟩

theorem arm_raw (w : World) (d : Nat) (dead : Bool) (n : Int) (old : Value) (c2 : w.cell? ⟨d, 2, none⟩ = some (.bool dead)) (c3 : w.cell? ⟨d, 3, none⟩ = some old) (fz : w.frozen? ⟨d, 3, none⟩ = false) (r : Int) (w1 : World)
    (h : (dead = true ∧ r = 2 ∧ w1 = w) ∨ (dead = false ∧ n < 0 ∧ r = 1 ∧ w1 = w) ∨ (dead = false ∧ 0 ≤ n ∧ r = 0 ∧ w1 = w.setCell ⟨d, 3, none⟩ (.int .i64 n))) :
    Calls Try.prog 26 #[.pointer (some ⟨d, 0, none⟩), .int .i64 n] w fun e w' => e = .returned (.int .i64 r) ∧ w' = w1 := by
  rcases h with ⟨rfl, rfl, rfl⟩ | ⟨rfl, h0, rfl, rfl⟩ | ⟨rfl, h0, rfl, rfl⟩
  all_goals
    go_enter Try.func26, Try.ntmps26
    go_wp2
    go_ret
    exact ⟨rfl, rfl⟩

theorem arm_walk (w : World) (d p m : Nat) (D : DA) (n : Int) (h : DevIs w d p m D) (hn : n ≤ 9223372036854775807) :
    Calls Try.prog 26 #[.pointer (some ⟨d, 0, none⟩), .int .i64 n] w fun e w' => e = .returned (.int .i64 (D.arm n).1) ∧ DevIs w' d p m (D.arm n).2 ∧ Fr [d] w w' := by
  obtain ⟨cap, armed, c0, c1, c2, c3, _⟩ := h.cells
  obtain ⟨cap', armed', hb, hcl, hcm, _⟩ := h.fields
  have fz : w.frozen? ⟨d, 3, none⟩ = false := frozen_of_row _ _ _ _ _ hb
  unfold DA.arm
  cases hd : D.dead
  · rw [hd] at c2
    rw [if_neg (by simp)]
    by_cases h0 : n < 0
    · rw [if_pos h0]
      refine (arm_raw w d false n _ c2 c3 fz 1 w (.inr (.inl ⟨rfl, h0, rfl, rfl⟩))).mono ?_
      rintro e w' ⟨rfl, rfl⟩
      exact ⟨rfl, h, Fr.refl _ _⟩
    · rw [if_neg h0]
      refine (arm_raw w d false n _ c2 c3 fz 0 _ (.inr (.inr ⟨rfl, by omega, rfl, rfl⟩))).mono ?_
      rintro e w' ⟨rfl, rfl⟩
      have hf : Fr [d] w (w.setCell ⟨d, 3, none⟩ (.int .i64 n)) := (Fr.refl _ _).setCell (.inl (by simp)) _
      refine ⟨rfl, h.setFields (cap := cap') (armed := n) hf ?_ ⟨hcl, hcm⟩ (fun _ => rfl) ⟨by omega, hn⟩ rfl rfl ⟨by simp; omega, hn⟩, hf⟩
      rw [heap_setCell_same _ _ _ _ _ _ hb]
      rw [hd]; rfl
  · rw [hd] at c2
    rw [if_pos rfl]
    refine (arm_raw w d true n _ c2 c3 fz 2 w (.inl ⟨rfl, rfl, rfl⟩)).mono ?_
    rintro e w' ⟨rfl, rfl⟩
    exact ⟨rfl, h, Fr.refl _ _⟩

theorem read_walk (w : World) (d p m : Nat) (D : DA) (i : Int) (h : DevIs w d p m D) :
    Calls Try.prog 18 #[.pointer (some ⟨d, 0, none⟩), .int .i64 i] w fun e w' => e = .returned (.tuple #[.string (D.read i).1, .int .i64 (D.read i).2]) ∧ w = w' := by
  obtain ⟨cap, armed, c0, c1, c2, c3, _⟩ := h.cells
  have ha := asked_walk w d p m D i h
  unfold DA.read
  by_cases hi : D.asked i = 0
  · have hr : 0 ≤ i ∧ i < D.L.length := by
      unfold DA.asked at hi
      split at hi
      · cases hi
      · split at hi
        · assumption
        · cases hi
    obtain ⟨k, rfl⟩ := Int.eq_ofNat_of_zero_le hr.1
    have hk : k < D.L.length := by omega
    have hkb : k < 4096 := by have := h.wf.hi; omega
    have hm := h.pend.look_ok hkb
    obtain ⟨s, hs⟩ := get_of_lt rfl hk
    obtain ⟨cp, _⟩ := h.page hs
    rw [if_pos hi]
    simp only [Int.toNat_natCast, DA.at_]
    rw [show D.L.getD k ByteArray.empty = s by simp [List.getD, hs]]
    rw [hi] at ha
    obtain ⟨n, hn⟩ : ∃ n, D.L.length = n := ⟨_, rfl⟩
    rw [hn] at c0 hk
    have hnb : n ≤ 4096 := by rw [← hn]; exact h.wf.hi
    clear hn hs hr hi h hkb c2 c3
    cases ho : (D.P[k]?).join with
    | none =>
      rw [ho] at hm
      simp only [Option.getD_none, Option.isSome_none] at hm ⊢
      clear ho
      go_enter Try.func18, Try.ntmps18
      go_wp2_with (go_at_call 40; refine ha.mono ?_; rintro e w' ⟨rfl, rfl⟩)
      go_ret2
      exact ⟨rfl, rfl⟩
    | some t =>
      rw [ho] at hm
      simp only [Option.getD_some, Option.isSome_some] at hm ⊢
      clear ho
      go_enter Try.func18, Try.ntmps18
      go_wp2_with (go_at_call 40; refine ha.mono ?_; rintro e w' ⟨rfl, rfl⟩)
      go_ret2
      exact ⟨rfl, rfl⟩
  · rw [if_neg hi]
    obtain ⟨a, hA⟩ : ∃ a, D.asked i = a := ⟨_, rfl⟩
    rw [hA] at ha hi ⊢
    have hb : (a != 0) = true := by simpa using hi
    clear hA h c0 c1 c2 c3
    go_enter Try.func18, Try.ntmps18
    go_wp2_with (go_at_call 40; refine ha.mono ?_; rintro e w' ⟨rfl, rfl⟩)
    go_ret2
    exact ⟨rfl, rfl⟩
end Go.Proofs.Ytcpealfaaghpiaa
