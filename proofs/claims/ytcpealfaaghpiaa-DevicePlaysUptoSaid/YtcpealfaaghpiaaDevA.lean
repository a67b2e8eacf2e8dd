/-
  The program's device: an act (a deferred count), Write. Own work.
-/
import Derived.Test.YtcpealfaaghpiaaDevW
namespace Go.Proofs.Ytcpealfaaghpiaa
open Go Go.RowKit

/-- The deferred count. -/
theorem count_deferred (w : World) (d B : Nat) (armed : Int) (u : FrameMode) (cB : w.cell? ⟨B, 0, none⟩ = some (.pointer (some ⟨d, 0, none⟩))) (c3 : w.cell? ⟨d, 3, none⟩ = some (.int .i64 armed)) (fz : w.frozen? ⟨d, 3, none⟩ = false) (h0 : 0 ≤ armed) (h1 : armed ≤ 9223372036854775807)
    (w1 : World) (hw : (0 < armed ∧ w1 = w.setCell ⟨d, 3, none⟩ (.int .i64 (armed - 1))) ∨ (armed = 0 ∧ w1 = w)) :
    CallsD Try.prog 60 #[.pointer (some ⟨B, 0, none⟩)] u w fun e u' w' => u' = u ∧ (e = .returned (.tuple #[]) ∧ w' = w1) := by
  rcases hw with ⟨h, rfl⟩ | ⟨rfl, rfl⟩
  · go_enter_d Try.func60, Try.ntmps60
    go_wp2
    go_end0
    exact ⟨rfl, rfl⟩
  · go_enter_d Try.func60, Try.ntmps60
    go_wp2
    go_end0
    exact ⟨rfl, rfl⟩

/-- The act in which it dies. -/
theorem act_dies (w : World) (d : Nat) (fv : Value) (b0 : Value) (c2 : w.cell? ⟨d, 2, none⟩ = some b0) (fz : w.frozen? ⟨d, 2, none⟩ = false) (c3 : w.cell? ⟨d, 3, none⟩ = some (.int .i64 1)) :
    Calls Try.prog 41 #[.pointer (some ⟨d, 0, none⟩), fv] w fun e w' => e = .returned (.int .i64 2) ∧ w' = (w.setCell ⟨d, 2, none⟩ (.bool true)).alloc (.cells #[.pointer (some ⟨d, 0, none⟩)] 37) := by
  have hd : d < w.heap.size := World.block_lt_of_cell? w _ c2
  go_enter_defers Try.func41, Try.ntmps41
  go_wp2
  exact ⟨_, results_tmp rfl _ _ _, rfl, rfl⟩

/-- What an act leaves. -/
def Acted (R : World → Prop) (d : Nat) (armed : Int) (e : Ending) (w' : World) : Prop :=
  e = .returned (.int .i64 0) ∧ ∃ W, R W ∧ ((0 < armed ∧ w' = W.setCell ⟨d, 3, none⟩ (.int .i64 (armed - 1))) ∨ (armed = 0 ∧ w' = W))
/-- An act in which it lives. -/
theorem act_lives (w : World) (d f : Nat) (caps : Array Value) (armed : Int) (R : World → Prop) (c3 : w.cell? ⟨d, 3, none⟩ = some (.int .i64 armed)) (hne : ¬ armed = 1) (h0 : 0 ≤ armed) (h1 : armed ≤ 9223372036854775807)
    (hent : ∀ args W, (callFunc f args).run Try.prog W = .ok (.enter f args) W)
    (hdo : Calls Try.prog f caps (w.alloc (.cells #[.pointer (some ⟨d, 0, none⟩)] 37)) fun e W => e = .returned (.tuple #[]) ∧ R W)
    (hR : ∀ W, R W → W.cell? ⟨w.heap.size, 0, none⟩ = some (.pointer (some ⟨d, 0, none⟩)) ∧ W.cell? ⟨d, 3, none⟩ = some (.int .i64 armed) ∧ W.frozen? ⟨d, 3, none⟩ = false) :
    Calls Try.prog 41 #[.pointer (some ⟨d, 0, none⟩), .func (.func f) #[] caps] w (Acted R d armed) := by
  have hd : d < w.heap.size := World.block_lt_of_cell? w _ c3
  have hmf : ∀ (fn : Fn) (first cap : Array Value) (w : World), (Instr.makeFunc fn first cap).run Try.prog w = .ok (.func fn first cap) w := fun _ _ _ _ => rfl
  have HR := Lib.hid hR
  have HD := Lib.hid hdo
  clear hR hdo
  go_enter_defers Try.func41, Try.ntmps41
  go_wp2
  refine HD.out.mono ?_
  rintro e W ⟨rfl, hW⟩
  have HW := Lib.hid hW
  clear hW
  go_wp2
  obtain ⟨cB, c3', fz'⟩ := HR.out W HW.out
  refine leaves_cons (f := 60) (args := #[.pointer (some ⟨w.heap.size, 0, none⟩)]) (by simp) (by simp [go_sem]) ?_
  by_cases hp : 0 < armed
  · refine (count_deferred W d w.heap.size armed .returning cB c3' fz' h0 h1 _ (.inl ⟨hp, rfl⟩)).mono ?_
    rintro e u' w'' ⟨rfl, rfl, rfl⟩
    exact ⟨_, results_tmp rfl _ _ _, rfl, _, HW.out, .inl ⟨hp, rfl⟩⟩
  · have hz : armed = 0 := by omega
    refine (count_deferred W d w.heap.size armed .returning cB c3' fz' h0 h1 _ (.inr ⟨hz, rfl⟩)).mono ?_
    rintro e u' w'' ⟨rfl, rfl, rfl⟩
    exact ⟨_, results_tmp rfl _ _ _, rfl, _, HW.out, .inr ⟨hz, rfl⟩⟩
/-- What Write does in its act. -/
theorem write1_raw (w : World) (bs bd bi d m : Nat) (i : Int) (s : ByteArray) (w1 : World) (h1 : w.cell? ⟨bs, 0, none⟩ = some (.string s)) (h2 : w.cell? ⟨bd, 0, none⟩ = some (.pointer (some ⟨d, 0, none⟩)))
    (h3 : w.cell? ⟨bi, 0, none⟩ = some (.int .i64 i)) (h4 : w.cell? ⟨d, 1, none⟩ = some (.map (some m)))
    (hrun : (Instr.mapUpdate 70 (.map (some m)) (.int .i64 i) (.string s)).run Try.prog w.drew = .ok () w1) :
    Calls Try.prog 42 #[.pointer (some ⟨bs, 0, none⟩), .pointer (some ⟨bd, 0, none⟩), .pointer (some ⟨bi, 0, none⟩)] w fun e w' => e = .returned (.tuple #[]) ∧ w' = w1 := by
  go_enter Try.func42, Try.ntmps42
  go_region
  all_goals (go_end0; exact ⟨rfl, rfl⟩)
end Go.Proofs.Ytcpealfaaghpiaa
