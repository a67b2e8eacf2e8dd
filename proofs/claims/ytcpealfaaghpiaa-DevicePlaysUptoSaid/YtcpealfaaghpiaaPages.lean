/-
  The program's device: Clip, Clone, Pages, Pending. Own work.
-/
import Derived.Test.YtcpealfaaghpiaaRising
namespace Go.Proofs.Ytcpealfaaghpiaa
open Go Go.RowKit Go.Maps Go.Sort Go.Shelf

theorem own_clip {a : Option Addr} {n n' c c' k : Nat} (h : (Value.slice a n c).ownBlock = some k) : (Value.slice a n' c').ownBlock = some k := by
  cases a with
  | none => simp [Value.ownBlock] at h
  | some x => exact h
theorem clipS_walk (w : World) (a : Option Addr) (n cap : Nat) (h : n ≤ cap) (_hc : cap ≤ 9223372036854775807) :
    Calls Try.prog 34 #[.slice a n cap] w fun e w' => e = .returned (.slice a n n) ∧ w = w' := by
  have hrun : ∀ W, (Instr.slice 28 (.slice a n cap) none (some (.int .i64 (n : Int))) (some (.int .i64 (n : Int)))).run Try.prog W = .ok (.slice a n n) W := by
    intro W
    simp [Instr.slice, Instr.sliceBounds, Instr.sliceBound, run_underlying Try.underlying28, asIntOf, h]
    cases a <;> simp [Addr.add]
  go_enter Try.func34, Try.ntmps34
  go_wp2
  go_ret
  exact ⟨rfl, rfl⟩
theorem clipW_walk (w : World) (a : Option Addr) (n cap : Nat) (h : n ≤ cap) (_hc : cap ≤ 9223372036854775807) :
    Calls Try.prog 37 #[.slice a n cap] w fun e w' => e = .returned (.slice a n n) ∧ w = w' := by
  have hrun : ∀ W, (Instr.slice 43 (.slice a n cap) none (some (.int .i64 (n : Int))) (some (.int .i64 (n : Int)))).run Try.prog W = .ok (.slice a n n) W := by
    intro W
    simp [Instr.slice, Instr.sliceBounds, Instr.sliceBound, run_underlying Try.underlying43, asIntOf, h]
    cases a <;> simp [Addr.add]
  go_enter Try.func37, Try.ntmps37
  go_wp2
  go_ret
  exact ⟨rfl, rfl⟩
/-- A row whose spare room is cut off. -/
theorem Row.clip {w : World} {E : TypeId} {sz : Nat} {a : Option Addr} {n cap : Nat} {xs : List Value} (h : Row w E sz (.slice a n cap) n xs) : Row w E sz (.slice a n n) n xs := by
  refine ⟨h.1, ?_⟩
  rcases h.2 with ⟨hn, h0⟩ | ⟨g, cap', cur, hv, hg, h1, h2, h3, h4⟩
  · injection hn with h5 h6 h7; subst h5 h6; exact .inl ⟨rfl, rfl⟩
  · injection hv with h5 h6 h7; subst h5 h7
    exact .inr ⟨g, n, cur, rfl, hg, Nat.le_refl _, Nat.le_trans h1 h2, Nat.le_trans (Nat.mul_le_mul_right _ h1) h3, h4⟩

theorem pages_walk (w : World) (d p m : Nat) (D : DA) (h : DevIs w d p m D) :
    Calls Try.prog 9 #[.pointer (some ⟨d, 0, none⟩)] w fun e w' => ∃ v, e = .returned v ∧ Strs w' 9 v D.L ∧ Fr [] w w' ∧ (∀ k, v.ownBlock = some k → w.heap.size ≤ k) := by
  obtain ⟨cap, armed, c0, _⟩ := h.cells
  have hn := h.wf.hi
  obtain ⟨n, hn'⟩ : ∃ n, D.L.length = n := ⟨_, rfl⟩
  have hc : ∀ j, j < D.L.length → w.cell? ⟨p, 0 + j, none⟩ = some (.string (D.L.getD j ByteArray.empty)) := by
    intro j hj
    rw [Nat.zero_add, (h.page (i := j) (s := D.L.getD j ByteArray.empty) (by simp [List.getD, hj])).1]
  have hcl := Try.slices_Clone_string p 0 D.L.length cap D.L w (Nat.le_refl _) (by omega) hc
  rw [List.take_length] at hcl
  have hlen : (D.L.map Value.string).length = n := by simp [hn']
  unfold Strs
  obtain ⟨xs, hxs⟩ : ∃ xs, D.L.map Value.string = xs := ⟨_, rfl⟩
  rw [hxs, hn'] at hcl ⊢
  rw [hn'] at c0 hn
  clear hxs hlen hn' hc h
  have HC := Lib.hid hcl
  clear hcl
  go_enter Try.func9, Try.ntmps9
  go_wp2_with fail
  refine HC.out.mono ?_
  rintro e w' ⟨v, rfl, hrow, -, hb⟩
  have hr := Row.ofOwn hrow
  obtain ⟨a, cp, rfl, h1, h2⟩ := hr.shape
  unfold maxLen at h2
  have HR := Lib.hid hr
  have HO := Lib.hid hrow
  have HB := Lib.hid hb
  clear hr hrow hb
  go_wp2_with fail
  refine (clipS_walk w' a n cp h1 (by omega)).mono ?_
  rintro e w2 ⟨rfl, rfl⟩
  go_wp2_with fail
  go_ret
  exact ⟨_, rfl, HR.out.clip, Fr.ofBelow HB.out, fun k hk => (HO.out.lt k (own_clip hk)).1⟩
end Go.Proofs.Ytcpealfaaghpiaa
