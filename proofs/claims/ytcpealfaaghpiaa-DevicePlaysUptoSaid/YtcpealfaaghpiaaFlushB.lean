/-
  The program's device: Flush, whole. Own work.
-/
import Derived.Test.YtcpealfaaghpiaaFlush
namespace Go.Proofs.Ytcpealfaaghpiaa
open Go Go.RowKit Go.Maps Go.Sort Go.Shelf

theorem flush_dead (w : World) (d : Nat) (c2 : w.cell? ⟨d, 2, none⟩ = some (.bool true)) :
    Calls Try.prog 24 #[.pointer (some ⟨d, 0, none⟩)] w fun e w' => e = .returned (.int .i64 2) ∧ w' = w.alloc (.cells #[.pointer (some ⟨d, 0, none⟩)] 37) := by
  have hd : d < w.heap.size := World.block_lt_of_cell? w _ c2
  go_enter Try.func24, Try.ntmps24
  go_wp2
  go_ret
  exact ⟨rfl, rfl⟩
theorem flush_acts (w : World) (d : Nat) (R : Ending → World → Prop) (c2 : w.cell? ⟨d, 2, none⟩ = some (.bool false))
    (hact : Calls Try.prog 41 #[.pointer (some ⟨d, 0, none⟩), .func (.func 46) #[] #[.pointer (some ⟨w.heap.size, 0, none⟩)]] (w.alloc (.cells #[.pointer (some ⟨d, 0, none⟩)] 37)) fun e w' => (∃ v, e = .returned v) ∧ R e w') :
    Calls Try.prog 24 #[.pointer (some ⟨d, 0, none⟩)] w R := by
  have hmf : ∀ (fn : Fn) (first cap : Array Value) (w : World), (Instr.makeFunc fn first cap).run Try.prog w = .ok (.func fn first cap) w := fun _ _ _ _ => rfl
  have hd : d < w.heap.size := World.block_lt_of_cell? w _ c2
  have HC := Lib.hid hact
  clear hact
  go_enter Try.func24, Try.ntmps24
  go_wp2_with fail
  refine HC.out.mono ?_
  rintro e w' ⟨⟨v, rfl⟩, hR⟩
  have HR := Lib.hid hR
  clear hR
  go_wp2
  exact HR.out
/-- A device behind an act that turned its pages and what is pending. -/
theorem DevIs.acted2 {w W : World} {d p m : Nat} {D : DA} (h : DevIs w d p m D) (hf : Fr [p, m] w W) (L' : List ByteArray) (P' : List (Option ByteArray)) (hL : PagesAt W p L') (hP : MapP W m P') (hl1 : L'.length = D.L.length) (hl2 : P'.length = D.P.length)
    (hs1 : ∀ s ∈ L', s.size = 256) (hs2 : ∀ t, some t ∈ P' → t.size = 256) (hdead : D.dead = false) (w' : World)
    (hw : (0 < D.left ∧ w' = W.setCell ⟨d, 3, none⟩ (.int .i64 (D.left - 1))) ∨ (D.left = 0 ∧ w' = W)) : DevIs w' d p m { D.acted with L := L', P := P' } ∧ Fr [d, p, m] w w' := by
  obtain ⟨n1, n2, n3⟩ := h.apart
  obtain ⟨cap, armed, hb, hc1, hc2, ha, h0, h1⟩ := h.fields
  have hb' := hf.keep hb (by simp; omega)
  rcases hw with ⟨hp, rfl⟩ | ⟨hz, rfl⟩
  · have hfr : Fr [d, p, m] w (W.setCell ⟨d, 3, none⟩ (.int .i64 (D.left - 1))) := (hf.weak (by simp)).setCell (.inl (by simp)) _
    have hf2 : Fr [d] W (W.setCell ⟨d, 3, none⟩ (.int .i64 (D.left - 1))) := (Fr.refl [d] W).setCell (.inl (by simp)) _
    refine ⟨⟨⟨?_, ?_, ?_, hs1, hs2, ?_, ?_⟩, ⟨cap, D.left - 1, ?_, ?_, hc2, ?_, by omega, by have := h.wf.left1; omega⟩, hL.keep hf2 (by simp; omega), hP.keep hf2 (by simp; omega)⟩, hfr⟩
    · show P'.length = L'.length; rw [hl1, hl2]; exact h.wf.len
    · show 4 ≤ L'.length; rw [hl1]; exact h.wf.lo
    · show L'.length ≤ 4096; rw [hl1]; exact h.wf.hi
    · simp only [DA.acted, hp, if_true]; omega
    · have := h.wf.left1; simp only [DA.acted, hp, if_true]; omega
    · show _ = some (Obj.cells #[.slice (some ⟨p, 0, none⟩) L'.length cap, _, _, _] _ _)
      rw [heap_setCell_same _ _ _ _ _ _ hb', hl1]; rfl
    · show L'.length ≤ cap; rw [hl1]; exact hc1
    · intro _; simp [DA.acted, hp]
  · have hfr : Fr [d, p, m] w w' := hf.weak (by simp)
    have hna : ¬ 0 < D.left := by omega
    refine ⟨⟨⟨?_, ?_, ?_, hs1, hs2, ?_, ?_⟩, ⟨cap, armed, ?_, ?_, hc2, ?_, h0, h1⟩, hL, hP⟩, hfr⟩
    · show P'.length = L'.length; rw [hl1, hl2]; exact h.wf.len
    · show 4 ≤ L'.length; rw [hl1]; exact h.wf.lo
    · show L'.length ≤ 4096; rw [hl1]; exact h.wf.hi
    · simp only [DA.acted, hna, if_false]; exact h.wf.left0
    · simp only [DA.acted, hna, if_false]; exact h.wf.left1
    · show _ = some (Obj.cells #[.slice (some ⟨p, 0, none⟩) L'.length cap, _, _, _] _ _)
      rw [hl1]; exact hb'
    · show L'.length ≤ cap; rw [hl1]; exact hc1
    · intro _; simp only [DA.acted, hna, if_false]; exact ha hdead
theorem flushed_len {D : DA} (h : D.WF) : (flushed D.L D.P).length = D.L.length := by unfold flushed; rw [List.length_zipWith, h.len]; simp
theorem flushed_sz {D : DA} (h : D.WF) : ∀ s ∈ flushed D.L D.P, s.size = 256 := by
  intro s hs
  unfold flushed at hs
  obtain ⟨j, hj, he⟩ := List.getElem_of_mem hs
  rw [List.getElem_zipWith] at he
  rw [List.length_zipWith] at hj
  cases hp : D.P[j]'(by omega) with
  | none => rw [hp] at he; rw [← he]; exact h.szL _ (List.getElem_mem _)
  | some t => rw [hp] at he; rw [← he]; exact h.szP t (by rw [← hp]; exact List.getElem_mem _)

theorem flush_walk (w : World) (d p m : Nat) (D : DA) (h : DevIs w d p m D) :
    Calls Try.prog 24 #[.pointer (some ⟨d, 0, none⟩)] w fun e w' => e = .returned (.int .i64 D.flush.1) ∧ DevIs w' d p m D.flush.2 ∧ Fr [d, p, m] w w' := by
  obtain ⟨cap, armed, c0, c1, c2, c3, harm, h0, h1⟩ := h.cells
  obtain ⟨W3, hW3⟩ : ∃ W3, w.alloc (.cells #[.pointer (some ⟨d, 0, none⟩)] 37) = W3 := ⟨_, rfl⟩
  have hf3 : Fr [] w W3 := by rw [← hW3]; exact (Fr.refl _ _).alloc _
  have h3 := h.keep hf3 (by simp) (by simp) (by simp)
  unfold DA.flush
  cases hdead : D.dead
  · rw [if_neg (by simp)]
    obtain rfl := harm hdead
    rw [hdead] at c2
    obtain ⟨_, _, hb, _⟩ := h.fields
    have hb3 := hf3.keep hb (by simp)
    by_cases hd : D.left = 1
    · rw [if_pos (by simp [DA.dies, hd])]
      refine flush_acts w d _ c2 ?_
      rw [hW3]
      refine (act_dies W3 d _ (.bool false) (hf3.cell c2 (by simp)) (frozen_of_row _ _ _ _ _ hb3) (by rw [← hd]; exact hf3.cell c3 (by simp))).mono ?_
      rintro e w' ⟨rfl, rfl⟩
      obtain ⟨k1, k2⟩ := h3.killed (.cells #[.pointer (some ⟨d, 0, none⟩)] 37)
      exact ⟨⟨_, rfl⟩, rfl, k1, (hf3.weak (by simp)).trans (k2.weak (T := [d, p, m]) (by simp)) (fun x hx => .inl hx)⟩
    · rw [if_neg (by simp [DA.dies, hd])]
      have cb : W3.cell? ⟨w.heap.size, 0, none⟩ = some (.pointer (some ⟨d, 0, none⟩)) := by rw [← hW3]; simp [go_sem]
      have hsz3 : W3.heap.size = w.heap.size + 1 := by rw [← hW3]; simp
      let W4 := W3.alloc (.cells #[.pointer (some ⟨d, 0, none⟩)] 37)
      have hf4 : Fr [] W3 W4 := (Fr.refl _ _).alloc _
      have h4 : DevIs W4 d p m D := h3.keep hf4 (by simp) (by simp) (by simp)
      have hlt := h.lt
      obtain ⟨n1, n2, n3⟩ := h.apart
      have hcB : W4.cell? ⟨W3.heap.size, 0, none⟩ = some (.pointer (some ⟨d, 0, none⟩)) := by simp [W4, go_sem]
      have hb4 := hf4.keep hb3 (by simp)
      have hdo := flush1_walk W4 d p m w.heap.size D h4 (hf4.cell cb (by simp)) (by omega)
      have hact := act_lives W3 d 46 #[.pointer (some ⟨w.heap.size, 0, none⟩)] D.left (fun W => PagesAt W p (flushed D.L D.P) ∧ MapP W m (D.P.map fun _ => none) ∧ Fr [p, m] W4 W) (hf3.cell c3 (by simp)) hd h0 h1
        (enters_of Try.func46 (by kernel_rfl) rfl) hdo
        (by rintro W ⟨_, _, hf⟩; exact ⟨hf.cell hcB (by simp; omega), hf.cell (hf4.cell (hf3.cell c3 (by simp)) (by simp)) (by simp; omega), by rw [hf.frozen (lt_of_heap hb4) (by simp; omega)]; exact frozen_of_row _ _ _ _ _ hb4⟩)
      refine flush_acts w d _ c2 ?_
      rw [hW3]
      refine hact.mono ?_
      rintro e w' ⟨rfl, W, ⟨hp1, hm1, hf5⟩, hw'⟩
      obtain ⟨k1, k2⟩ := h4.acted2 hf5 _ _ hp1 hm1 (flushed_len h.wf) (by simp) (flushed_sz h.wf) (by intro t ht; simp at ht) hdead w' hw'
      exact ⟨⟨_, rfl⟩, rfl, k1, ((hf3.trans_nil hf4).weak (T := [d, p, m]) (by simp)).trans k2 (fun x hx => .inl hx)⟩
  · rw [if_pos rfl]
    rw [hdead] at c2
    refine (flush_dead w d c2).mono ?_
    rintro e w' ⟨rfl, rfl⟩
    rw [hW3]
    exact ⟨rfl, h3, hf3.weak (by simp)⟩
end Go.Proofs.Ytcpealfaaghpiaa
