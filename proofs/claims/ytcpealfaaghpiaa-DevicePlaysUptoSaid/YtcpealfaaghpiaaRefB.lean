/-
  The document's device: an act, Write, Pages, Pending, Flush. Own work.
-/
import Derived.Test.YtcpealfaaghpiaaRef
namespace Go.Proofs.Ytcpealfaaghpiaa
open Go Go.RowKit Go.Maps Go.Sort Go.Shelf

theorem ract_raw (w : World) (x : Nat) (left : Int) (c3 : w.cell? ⟨x, 3, none⟩ = some (.int .i64 left)) (c4 : w.cell? ⟨x, 4, none⟩ = some (.bool false)) (f3 : w.frozen? ⟨x, 3, none⟩ = false) (f4 : w.frozen? ⟨x, 4, none⟩ = false) (h0 : 0 ≤ left) (h1 : left ≤ 9223372036854775807) (r : Bool) (w1 : World)
    (h : (left = 0 ∧ r = false ∧ w1 = w) ∨ (left = 1 ∧ r = true ∧ w1 = (w.setCell ⟨x, 3, none⟩ (.int .i64 0)).setCell ⟨x, 4, none⟩ (.bool true)) ∨ (1 < left ∧ r = false ∧ w1 = (w.setCell ⟨x, 3, none⟩ (.int .i64 (left - 1))).setCell ⟨x, 4, none⟩ (.bool false))) :
    Calls Try.prog 45 #[.pointer (some ⟨x, 0, none⟩)] w fun e w' => e = .returned (.bool r) ∧ w' = w1 := by
  rcases h with ⟨rfl, rfl, rfl⟩ | ⟨rfl, rfl, rfl⟩ | ⟨hl, rfl, rfl⟩
  · go_enter Try.func45, Try.ntmps45
    go_wp2
    go_ret
    exact ⟨rfl, rfl⟩
  · go_enter Try.func45, Try.ntmps45
    go_wp2
    go_ret
    exact ⟨rfl, rfl⟩
  · have hb : ((left - 1) == 0) = false := by simp; omega
    go_enter Try.func45, Try.ntmps45
    go_wp2
    go_ret
    exact ⟨rfl, rfl⟩
theorem ract_walk (w : World) (x l b q : Nat) (D : DA) (h : RefIs w x l b q D) (hd : D.dead = false) :
    Calls Try.prog 45 #[.pointer (some ⟨x, 0, none⟩)] w fun e w' => e = .returned (.bool D.dies) ∧ RefIs w' x l b q (if D.dies then D.killed else D.acted) ∧ Fr [x] w w' := by
  obtain ⟨cl, cb, cq, c0, c1, c2, c3, c4, f3, f4⟩ := h.cells
  rw [hd] at c4
  have hl0 := h.wf.left0
  have hl1 := h.wf.left1
  have two : ∀ (n : Int) (dd : Bool), Fr [x] w ((w.setCell ⟨x, 3, none⟩ (.int .i64 n)).setCell ⟨x, 4, none⟩ (.bool dd)) := fun n dd => ((Fr.refl [x] w).setCell (.inl (by simp)) _).setCell (.inl (by simp)) _
  have hh : ∀ (n : Int) (dd : Bool) a0 a1 a2 a3 a4, w.heap[x]? = some (.cells #[a0, a1, a2, a3, a4] 47 (0, 0)) →
      ((w.setCell ⟨x, 3, none⟩ (.int .i64 n)).setCell ⟨x, 4, none⟩ (.bool dd)).heap[x]? = some (.cells #[a0, a1, a2, .int .i64 n, .bool dd] 47 (0, 0)) := by
    intro n dd a0 a1 a2 a3 a4 hx
    rw [heap_setCell_same _ _ _ _ _ _ (heap_setCell_same _ _ _ _ _ _ hx)]; rfl
  by_cases h1 : D.left = 1
  · have e : D.dies = true := by simp [DA.dies, h1]
    rw [e, if_pos rfl]
    refine (ract_raw w x D.left c3 c4 f3 f4 hl0 hl1 true _ (.inr (.inl ⟨h1, rfl, rfl⟩))).mono ?_
    rintro e w' ⟨rfl, rfl⟩
    exact ⟨rfl, h.turned 0 true (by omega) (by omega) _ (two _ _) (hh _ _), two _ _⟩
  · have e : D.dies = false := by simp [DA.dies, h1]
    rw [e, if_neg (by simp)]
    by_cases h2 : D.left = 0
    · refine (ract_raw w x D.left c3 c4 f3 f4 hl0 hl1 false _ (.inl ⟨h2, rfl, rfl⟩)).mono ?_
      rintro e w' ⟨rfl, rfl⟩
      have e2 : D.acted = D := by unfold DA.acted; rw [if_neg (by omega)]
      exact ⟨rfl, by rw [e2]; exact h, Fr.refl _ _⟩
    · refine (ract_raw w x D.left c3 c4 f3 f4 hl0 hl1 false _ (.inr (.inr ⟨by omega, rfl, rfl⟩))).mono ?_
      rintro e w' ⟨rfl, rfl⟩
      have ht := h.turned (D.left - 1) false (by omega) (by omega) _ (two _ _) (hh _ _)
      have e2 : D.acted = { D with left := D.left - 1, dead := false } := by unfold DA.acted; rw [if_pos (by omega), hd]
      exact ⟨rfl, by rw [e2]; exact ht, two _ _⟩

theorem rwrite_refused (w : World) (x : Nat) (i : Int) (s : ByteArray) (a r : Int)
    (ha : Calls Try.prog 44 #[.pointer (some ⟨x, 0, none⟩), .int .i64 i] w fun e w' => e = .returned (.int .i64 a) ∧ w = w')
    (hr : ((a != 0) = true ∧ r = a) ∨ (a = 0 ∧ ((s.size : Int) != 256) = true ∧ r = 91)) :
    Calls Try.prog 22 #[.pointer (some ⟨x, 0, none⟩), .int .i64 i, .string s] w fun e w' => e = .returned (.int .i64 r) ∧ w' = w := by
  have HA := Lib.hid ha
  clear ha
  rcases hr with ⟨h, rfl⟩ | ⟨rfl, h, rfl⟩
  all_goals
    go_enter Try.func22, Try.ntmps22
    go_wp2_with (go_at_call 44; refine HA.out.mono ?_; rintro e w' ⟨rfl, rfl⟩)
    go_ret
    exact ⟨rfl, rfl⟩
theorem killed_if (D : DA) (h : D.dies = true) : (if D.dies = true then D.killed else D.acted) = D.killed := if_pos h
theorem acted_if (D : DA) (h : D.dies = false) : (if D.dies = true then D.killed else D.acted) = D.acted := if_neg (by rw [h]; simp)
/-- Both sides of a write. -/
theorem RefIs.written {w : World} {x l b q : Nat} {D : DA} (h : RefIs w x l b q D) {k : Nat} (_hk : k < D.P.length) (s : ByteArray) (hs : s.size = 256) :
    RefIs ((w.setCell ⟨b, k, none⟩ (.bool true)).setCell ⟨q, k, none⟩ (.string s)) x l b q { D with P := D.P.set k (some s) } ∧ Fr [b, q] w ((w.setCell ⟨b, k, none⟩ (.bool true)).setCell ⟨q, k, none⟩ (.string s)) := by
  obtain ⟨n1, n2, n3, n4, n5, n6⟩ := h.apart
  have f1 : Fr [b] w (w.setCell ⟨b, k, none⟩ (.bool true)) := (Fr.refl _ _).setCell (.inl (by simp)) _
  have f2 : Fr [q] (w.setCell ⟨b, k, none⟩ (.bool true)) ((w.setCell ⟨b, k, none⟩ (.bool true)).setCell ⟨q, k, none⟩ (.string s)) := (Fr.refl _ _).setCell (.inl (by simp)) _
  have f3 : Fr [b, q] w ((w.setCell ⟨b, k, none⟩ (.bool true)).setCell ⟨q, k, none⟩ (.string s)) := (f1.weak (by simp)).setCell (.inl (by simp)) _
  obtain ⟨cl, cb, cq, hh, r⟩ := h.fields
  refine ⟨⟨⟨?_, h.wf.lo, h.wf.hi, h.wf.szL, some_join_set h.wf.szP hs, h.wf.left0, h.wf.left1⟩, ⟨cl, cb, cq, f3.keep hh (by simp; omega), r⟩, h.pages.keep f3 (by simp; omega), (h.flags.set k (some s)).keep f2 (by simp; omega), (h.data.keep f1 (by simp; omega)).setSome k s, h.lq⟩, f3⟩
  show (D.P.set k (some s)).length = D.L.length
  rw [List.length_set]; exact h.wf.len

theorem rwrite_walk (w : World) (x l b q : Nat) (D : DA) (i : Int) (s : ByteArray) (h : RefIs w x l b q D) :
    Calls Try.prog 22 #[.pointer (some ⟨x, 0, none⟩), .int .i64 i, .string s] w fun e w' => e = .returned (.int .i64 (D.write i s).1) ∧ RefIs w' x l b q (D.write i s).2 ∧ Fr [x, b, q] w w' := by
  have ha := rasked_walk w x l b q D i h
  unfold DA.write
  by_cases hz : D.asked i = 0
  · rw [if_neg (by simpa using hz)]
    rw [hz] at ha
    obtain ⟨hdead, hi0, hi1⟩ := asked_zero hz
    by_cases hs : s.size = 256
    · rw [if_neg (by simpa using hs)]
      have hact := ract_walk w x l b q D h hdead
      have hsb : ((s.size : Int) != 256) = false := by simp; omega
      have HA := Lib.hid ha
      have HS := Lib.hid hs
      cases hd : D.dies
      · rw [if_neg (by simp)]
        rw [hd] at hact
        simp only [Bool.false_eq_true, if_false] at hact
        have HC := Lib.hid hact
        obtain ⟨k, rfl⟩ := Int.eq_ofNat_of_zero_le hi0
        have hk : k < D.P.length := by rw [h.wf.len]; omega
        obtain ⟨n, hn⟩ : ∃ n, D.L.length = n := ⟨_, rfl⟩
        have hkn : k < n := by omega
        have HK := Lib.hid hk
        have HN := Lib.hid hn
        have hnb := h.wf.hi
        rw [hn] at hnb
        clear ha hs hact hd hz h hi0 hi1 hk hn
        go_enter Try.func22, Try.ntmps22
        go_wp2_with (first | (go_at_call 44; refine HA.out.mono ?_; rintro e w' ⟨rfl, rfl⟩))
        refine HC.out.mono ?_
        rintro e w1 ⟨rfl, hR, hf⟩
        obtain ⟨cl, cb, cq, c0, c1, c2, _⟩ := hR.cells
        obtain ⟨cf, ff⟩ := hR.flags.cell (i := k) HK.out
        obtain ⟨o, co, fo⟩ := hR.data.old (i := k) HK.out
        obtain ⟨n1, n2, n3, n4, n5, n6⟩ := hR.apart
        have hwr := hR.written (k := k) HK.out s HS.out
        have eL : D.acted.L.length = n := HN.out
        rw [eL] at c0 c1 c2
        obtain ⟨fl, hfl⟩ : ∃ fl, ((D.acted.P[k]?).join).isSome = fl := ⟨_, rfl⟩
        rw [hfl] at cf
        have HW := Lib.hid hwr
        have HF := Lib.hid hf
        clear hR hf hwr eL hfl
        go_wp2
        go_ret
        exact ⟨rfl, HW.out.1, (HF.out.weak (T := [x, b, q]) (by simp)).trans (HW.out.2.weak (T := [x, b, q]) (by simp)) (fun _ h => .inl h)⟩
      · rw [if_pos rfl]
        rw [hd] at hact
        simp only [if_true] at hact
        have HC := Lib.hid hact
        clear ha hs hact hd hz h hi0 hi1
        go_enter Try.func22, Try.ntmps22
        go_wp2_with (first | (go_at_call 44; refine HA.out.mono ?_; rintro e w' ⟨rfl, rfl⟩))
        refine HC.out.mono ?_
        rintro e w1 ⟨rfl, hR, hf⟩
        have HW := Lib.hid hR
        have HF := Lib.hid hf
        clear hR hf
        go_wp2
        go_ret
        exact ⟨rfl, HW.out, HF.out.weak (by simp)⟩
    · rw [if_pos (by simpa using hs)]
      refine (rwrite_refused w x i s 0 91 ha (.inr ⟨rfl, by simp; omega, rfl⟩)).mono ?_
      rintro e w' ⟨rfl, rfl⟩
      exact ⟨rfl, h, Fr.refl _ _⟩
  · rw [if_pos (by simpa using hz)]
    refine (rwrite_refused w x i s _ _ ha (.inl ⟨by simpa using hz, rfl⟩)).mono ?_
    rintro e w' ⟨rfl, rfl⟩
    exact ⟨rfl, h, Fr.refl _ _⟩
end Go.Proofs.Ytcpealfaaghpiaa
