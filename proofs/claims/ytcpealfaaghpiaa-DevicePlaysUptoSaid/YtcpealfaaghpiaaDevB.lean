/-
  The program's device: Write. Own work.
-/
import Derived.Shelf.Abstract
import Derived.Test.YtcpealfaaghpiaaDevA
namespace Go.Proofs.Ytcpealfaaghpiaa
open Go Go.RowKit Go.Shelf

/-- The world in which Write has its three parameters boxed. -/
def boxed3 (w : World) (d : Nat) (i : Int) (s : ByteArray) : World :=
  ((w.alloc (.cells #[.pointer (some ⟨d, 0, none⟩)] 37)).alloc (.cells #[.int .i64 i] 3)).alloc (.cells #[.string s] 9)
theorem boxed3_fr (w : World) (d : Nat) (i : Int) (s : ByteArray) : Fr [] w (boxed3 w d i s) := (((Fr.refl [] w).alloc _).alloc _).alloc _
theorem write_refused (w : World) (d : Nat) (i : Int) (s : ByteArray) (a r : Int)
    (ha : Calls Try.prog 40 #[.pointer (some ⟨d, 0, none⟩), .int .i64 i] (boxed3 w d i s) fun e w' => e = .returned (.int .i64 a) ∧ boxed3 w d i s = w')
    (hr : ((a != 0) = true ∧ r = a) ∨ (a = 0 ∧ ((s.size : Int) != 256) = true ∧ r = 91)) :
    Calls Try.prog 16 #[.pointer (some ⟨d, 0, none⟩), .int .i64 i, .string s] w fun e w' => e = .returned (.int .i64 r) ∧ w' = boxed3 w d i s := by
  unfold boxed3 at ha ⊢
  have HA := Lib.hid ha
  clear ha
  rcases hr with ⟨h, rfl⟩ | ⟨rfl, h, rfl⟩
  all_goals
    go_enter Try.func16, Try.ntmps16
    go_wp2_with (go_at_call 40; refine HA.out.mono ?_; rintro e w' ⟨rfl, rfl⟩)
    go_ret
    exact ⟨rfl, rfl⟩
/-- It comes to the act. -/
theorem write_acts (w : World) (d : Nat) (i : Int) (s : ByteArray) (R : Ending → World → Prop)
    (ha : Calls Try.prog 40 #[.pointer (some ⟨d, 0, none⟩), .int .i64 i] (boxed3 w d i s) fun e w' => e = .returned (.int .i64 0) ∧ boxed3 w d i s = w')
    (hs : ((s.size : Int) != 256) = false)
    (hact : Calls Try.prog 41 #[.pointer (some ⟨d, 0, none⟩), .func (.func 42) #[] #[.pointer (some ⟨w.heap.size + 2, 0, none⟩), .pointer (some ⟨w.heap.size, 0, none⟩), .pointer (some ⟨w.heap.size + 1, 0, none⟩)]] (boxed3 w d i s) fun e w' => (∃ v, e = .returned v) ∧ R e w') :
    Calls Try.prog 16 #[.pointer (some ⟨d, 0, none⟩), .int .i64 i, .string s] w R := by
  have hmf : ∀ (fn : Fn) (first cap : Array Value) (w : World), (Instr.makeFunc fn first cap).run Try.prog w = .ok (.func fn first cap) w := fun _ _ _ _ => rfl
  unfold boxed3 at ha hact
  have HA := Lib.hid ha
  have HC := Lib.hid hact
  clear ha hact
  go_enter Try.func16, Try.ntmps16
  go_wp2_with (go_at_call 40; refine HA.out.mono ?_; rintro e w' ⟨rfl, rfl⟩)
  refine HC.out.mono ?_
  rintro e w' ⟨⟨v, rfl⟩, hR⟩
  have HR := Lib.hid hR
  clear hR
  go_wp2
  exact HR.out

theorem some_join_set {P : List (Option ByteArray)} {k : Nat} {s : ByteArray} (hP : ∀ t, some t ∈ P → t.size = 256) (hs : s.size = 256) : ∀ t, some t ∈ P.set k (some s) → t.size = 256 := by
  intro t ht
  rcases List.mem_or_eq_of_mem_set ht with h | h
  · exact hP t h
  · injection h with h; rw [h]; exact hs
theorem asked_zero {D : DA} {i : Int} (h : D.asked i = 0) : D.dead = false ∧ 0 ≤ i ∧ i < (D.L.length : Int) := by
  unfold DA.asked at h
  split at h
  · cases h
  · rename_i hd
    split at h
    · rename_i hi; exact ⟨by simpa using hd, hi.1, hi.2⟩
    · cases h
/-- A device whose map has turned, and whose count. -/
theorem DevIs.acted {w W : World} {d p m : Nat} {D : DA} (h : DevIs w d p m D) (hf : Fr [m] w W) (P' : List (Option ByteArray)) (hP : MapP W m P') (hlen : P'.length = D.P.length) (hsz : ∀ t, some t ∈ P' → t.size = 256) (hdead : D.dead = false) (w' : World)
    (hw : (0 < D.left ∧ w' = W.setCell ⟨d, 3, none⟩ (.int .i64 (D.left - 1))) ∨ (D.left = 0 ∧ w' = W)) : DevIs w' d p m { D.acted with P := P' } ∧ Fr [d, m] w w' := by
  obtain ⟨n1, n2, n3⟩ := h.apart
  obtain ⟨cap, armed, hb, hc1, hc2, ha, h0, h1⟩ := h.fields
  obtain ⟨cur, hcc, hcl, r2⟩ := h.pages
  have hb' := hf.keep hb (by simpa using n2)
  have hc' := hf.keep hcc (by simpa using n3)
  have hm := hP.choose_spec.1.lt
  rcases hw with ⟨hp, rfl⟩ | ⟨hz, rfl⟩
  · have hfr : Fr [d, m] w (W.setCell ⟨d, 3, none⟩ (.int .i64 (D.left - 1))) := (hf.weak (by simp)).setCell (.inl (by simp)) _
    have hf2 : Fr [d] W (W.setCell ⟨d, 3, none⟩ (.int .i64 (D.left - 1))) := (Fr.refl [d] W).setCell (.inl (by simp)) _
    refine ⟨⟨⟨by rw [hlen]; exact h.wf.len, h.wf.lo, h.wf.hi, h.wf.szL, hsz, ?_, ?_⟩, ⟨cap, D.left - 1, ?_, hc1, hc2, ?_, by omega, by have := h.wf.left1; omega⟩, ⟨cur, hf2.keep hc' (by simp; omega), hcl, r2⟩, hP.keep hf2 (by simp; omega)⟩, hfr⟩
    · simp only [DA.acted, hp, if_true]; omega
    · have := h.wf.left1; simp only [DA.acted, hp, if_true]; omega
    · rw [heap_setCell_same _ _ _ _ _ _ hb']; rfl
    · intro _; simp [DA.acted, hp]
  · have hfr : Fr [d, m] w w' := hf.weak (by simp)
    have hna : ¬ 0 < D.left := by omega
    refine ⟨⟨⟨by rw [hlen]; exact h.wf.len, h.wf.lo, h.wf.hi, h.wf.szL, hsz, ?_, ?_⟩, ⟨cap, armed, hb', hc1, hc2, ?_, h0, h1⟩, ⟨cur, hc', hcl, r2⟩, hP⟩, hfr⟩
    · simp only [DA.acted, hna, if_false]; exact h.wf.left0
    · simp only [DA.acted, hna, if_false]; exact h.wf.left1
    · intro _; simp only [DA.acted, hna, if_false]; exact ha hdead
/-- A device that has died in an act. -/
theorem DevIs.killed {w : World} {d p m : Nat} {D : DA} (h : DevIs w d p m D) (o : Obj) : DevIs ((w.setCell ⟨d, 2, none⟩ (.bool true)).alloc o) d p m D.killed ∧ Fr [d] w ((w.setCell ⟨d, 2, none⟩ (.bool true)).alloc o) := by
  obtain ⟨cap, armed, hb, hc1, hc2, ha, h0, h1⟩ := h.fields
  have hf : Fr [d] w (w.setCell ⟨d, 2, none⟩ (.bool true)) := (Fr.refl _ _).setCell (.inl (by simp)) _
  have hd : DevIs (w.setCell ⟨d, 2, none⟩ (.bool true)) d p m D.killed := by
    refine h.setFields (D' := D.killed) (cap := cap) (armed := armed) hf ?_ ⟨hc1, hc2⟩ (fun e => by cases e) ⟨h0, h1⟩ rfl rfl ⟨by simp [DA.killed], by simp [DA.killed]⟩
    rw [heap_setCell_same _ _ _ _ _ _ hb]; rfl
  exact ⟨hd.keep ((Fr.refl [] _).alloc o) (by simp) (by simp) (by simp), hf.alloc o⟩

theorem write_walk (w : World) (d p m : Nat) (D : DA) (i : Int) (s : ByteArray) (h : DevIs w d p m D) :
    Calls Try.prog 16 #[.pointer (some ⟨d, 0, none⟩), .int .i64 i, .string s] w fun e w' => e = .returned (.int .i64 (D.write i s).1) ∧ DevIs w' d p m (D.write i s).2 ∧ Fr [d, m] w w' := by
  have hf0 := boxed3_fr w d i s
  have h3 := h.keep hf0 (by simp) (by simp) (by simp)
  have ha := asked_walk (boxed3 w d i s) d p m D i h3
  unfold DA.write
  by_cases hz : D.asked i = 0
  · rw [if_neg (by simpa using hz)]
    rw [hz] at ha
    obtain ⟨hdead, hi0, hi1⟩ := asked_zero hz
    by_cases hs : s.size = 256
    · rw [if_neg (by simpa using hs)]
      obtain ⟨cap, armed, hb, hc1, hc2, harm, h0, h1⟩ := h.fields
      obtain rfl := harm hdead
      have hb3 := hf0.keep hb (by simp)
      have hlt := h.lt
      by_cases hd : D.left = 1
      · rw [if_pos (by simp [DA.dies, hd])]
        refine write_acts w d i s _ ha (by simp [hs]) ((act_dies (boxed3 w d i s) d _ (.bool D.dead) (cell_of_row _ _ _ _ _ _ hb3) (frozen_of_row _ _ _ _ _ hb3) (by rw [cell_of_row _ _ _ _ _ _ hb3, hd]; rfl)).mono ?_)
        rintro e w' ⟨rfl, rfl⟩
        obtain ⟨k1, k2⟩ := h3.killed (.cells #[.pointer (some ⟨d, 0, none⟩)] 37)
        exact ⟨⟨_, rfl⟩, rfl, k1, (hf0.weak (by simp)).trans (k2.weak (T := [d, m]) (by simp)) (fun x hx => .inl hx)⟩
      · rw [if_neg (by simp [DA.dies, hd])]
        obtain ⟨k, rfl⟩ := Int.eq_ofNat_of_zero_le hi0
        have hk : k < D.P.length := by rw [h.wf.len]; omega
        have hB : boxed3 w d (↑k) s = ((w.alloc (.cells #[.pointer (some ⟨d, 0, none⟩)] 37)).alloc (.cells #[.int .i64 (k : Int)] 3)).alloc (.cells #[.string s] 9) := rfl
        have hsz3 : (boxed3 w d (↑k) s).heap.size = w.heap.size + 3 := by rw [hB]; simp
        obtain ⟨W3, hW3⟩ : ∃ W3, boxed3 w d (↑k) s = W3 := ⟨_, rfl⟩
        -- the boxes, in the world in which the act has boxed its receiver
        have c1 : W3.cell? ⟨w.heap.size, 0, none⟩ = some (.pointer (some ⟨d, 0, none⟩)) := by rw [← hW3, hB]; simp [go_sem]
        have c2 : W3.cell? ⟨w.heap.size + 1, 0, none⟩ = some (.int .i64 (k : Int)) := by rw [← hW3, hB]; simp [go_sem]
        have c3 : W3.cell? ⟨w.heap.size + 2, 0, none⟩ = some (.string s) := by rw [← hW3, hB]; simp [go_sem]
        rw [hW3] at ha h3 hb3 hsz3 hf0
        let W4 := W3.alloc (.cells #[.pointer (some ⟨d, 0, none⟩)] 37)
        have hf4 : Fr [] W3 W4 := (Fr.refl _ _).alloc _
        have h4 : DevIs W4 d p m D := h3.keep hf4 (by simp) (by simp) (by simp)
        have hb4 := hf4.keep hb3 (by simp)
        obtain ⟨w1, hrun, hP1, hf1⟩ := (show MapP W4.drew m D.P from h4.pend).store hk (by have := h.wf.hi; have := h.wf.len; omega) s (by rw [hs]; unfold maxLen; omega)
        have hf1' : Fr [m] W4 w1 := ⟨hf1.os, hf1.tape, hf1.output, hf1.size, hf1.block⟩
        obtain ⟨n1, n2, n3⟩ := h.apart
        have hcB : W4.cell? ⟨W3.heap.size, 0, none⟩ = some (.pointer (some ⟨d, 0, none⟩)) := by simp [W4, go_sem]
        have hdo := write1_raw W4 (w.heap.size + 2) w.heap.size (w.heap.size + 1) d m (↑k) s w1 (hf4.cell c3 (by simp)) (hf4.cell c1 (by simp)) (hf4.cell c2 (by simp)) (cell_of_row _ _ _ _ _ _ hb4) hrun
        have hact := act_lives W3 d 42 #[.pointer (some ⟨w.heap.size + 2, 0, none⟩), .pointer (some ⟨w.heap.size, 0, none⟩), .pointer (some ⟨w.heap.size + 1, 0, none⟩)] D.left (fun W => W = w1) (cell_of_row _ _ _ _ _ _ hb3) hd h0 h1
          (enters_of Try.func42 (by kernel_rfl) rfl) hdo
          (by rintro W rfl; exact ⟨hf1'.cell hcB (by simp; omega), hf1'.cell (cell_of_row _ _ _ _ _ _ hb4) (by simp; omega), by rw [hf1'.frozen (lt_of_heap hb4) (by simp; omega)]; exact frozen_of_row _ _ _ _ _ hb4⟩)
        refine write_acts w d (↑k) s _ (by rw [hW3]; exact ha) (by simp [hs]) ?_
        rw [hW3]
        refine hact.mono ?_
        rintro e w' ⟨rfl, W, rfl, hw'⟩
        obtain ⟨k1, k2⟩ := h4.acted hf1' _ hP1 (by simp) (some_join_set h.wf.szP hs) hdead w' hw'
        refine ⟨⟨_, rfl⟩, rfl, k1, ?_⟩
        exact ((hf0.trans_nil hf4).weak (T := [d, m]) (by simp)).trans k2 (fun x hx => .inl hx)
    · rw [if_pos (by simpa using hs)]
      refine (write_refused w d i s 0 91 ha (.inr ⟨rfl, by simp; omega, rfl⟩)).mono ?_
      rintro e w' ⟨rfl, rfl⟩
      exact ⟨rfl, h3, hf0.weak (by simp)⟩
  · rw [if_pos (by simpa using hz)]
    refine (write_refused w d i s _ _ ha (.inl ⟨by simpa using hz, rfl⟩)).mono ?_
    rintro e w' ⟨rfl, rfl⟩
    exact ⟨rfl, h3, hf0.weak (by simp)⟩
end Go.Proofs.Ytcpealfaaghpiaa
