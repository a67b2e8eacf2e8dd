/-
  Frames of the heap, rows of cells, lists of strings: plain facts about the model's worlds, over any program. Own work.
-/
import Derived.WalkKit
import Derived.WalkSpells
import Derived.WalkLawsBesides
import Derived.Lib.Hide
import Derived.BigQuiet
namespace Go.Proofs.Ytcpealfaaghpiaa
open Go Go.RowKit

/-- Nothing that was there has turned, but for the blocks of S. -/
structure Fr (S : List Nat) (w w' : World) : Prop where
  os : w'.os = w.os
  tape : w'.tape = w.tape
  output : w'.output = w.output
  size : w.heap.size ≤ w'.heap.size
  block : ∀ k, k < w.heap.size → k ∉ S → w'.heap[k]? = w.heap[k]?

theorem Fr.refl (S : List Nat) (w : World) : Fr S w w := ⟨rfl, rfl, rfl, Nat.le_refl _, fun _ _ _ => rfl⟩
theorem Fr.trans {S T : List Nat} {a b c : World} (h : Fr S a b) (k : Fr T b c) (hT : ∀ x ∈ T, x ∈ S ∨ a.heap.size ≤ x) : Fr S a c :=
  ⟨k.os.trans h.os, k.tape.trans h.tape, k.output.trans h.output, Nat.le_trans h.size k.size, fun i hi hS =>
    (k.block i (Nat.lt_of_lt_of_le hi h.size) (fun hx => (hT i hx).elim hS (fun hge => by omega))).trans (h.block i hi hS)⟩
theorem Fr.trans_same {S : List Nat} {a b c : World} (h : Fr S a b) (k : Fr S b c) : Fr S a c := h.trans k (fun _ hx => .inl hx)
theorem Fr.trans_nil {S : List Nat} {a b c : World} (h : Fr S a b) (k : Fr [] b c) : Fr S a c := h.trans k (fun _ hx => by cases hx)
theorem Fr.mono {S T : List Nat} {a b : World} (h : Fr S a b) (hS : ∀ x ∈ S, x ∈ T ∨ a.heap.size ≤ x) : Fr T a b :=
  ⟨h.os, h.tape, h.output, h.size, fun i hi hT => h.block i hi (fun hx => (hS i hx).elim hT (fun hge => by omega))⟩
theorem Fr.weak {S T : List Nat} {a b : World} (h : Fr S a b) (hS : ∀ x ∈ S, x ∈ T) : Fr T a b := h.mono fun x hx => .inl (hS x hx)
theorem Fr.alloc {S : List Nat} {a w : World} (h : Fr S a w) (o : Obj) : Fr S a (w.alloc o) :=
  h.trans_nil ⟨rfl, rfl, rfl, by simp, fun k hk _ => Go.heap_alloc_old w o hk⟩
theorem Fr.setCell {S : List Nat} {a w : World} (h : Fr S a w) {p : Addr} (hp : p.block ∈ S ∨ a.heap.size ≤ p.block) (u : Value) : Fr S a (w.setCell p u) :=
  h.trans (T := [p.block]) ⟨rfl, rfl, rfl, by simp, fun k _ hk => heap_setCell_other w p k u (by simpa using hk)⟩ (fun x hx => by simp at hx; subst hx; exact hp)
theorem Fr.drew {S : List Nat} {a w : World} (h : Fr S a w) : Fr S a w.drew := ⟨h.os, h.tape, h.output, h.size, h.block⟩
theorem Fr.drewN {S : List Nat} {a w : World} (h : Fr S a w) (n : Nat) : Fr S a (w.drewN n) := ⟨h.os, h.tape, h.output, h.size, h.block⟩
theorem Fr.grown {S : List Nat} {a w w' : World} {row : Option Nat} (h : Fr S a w) (hg : w.grownBy w' row) (hr : ∀ k, row = some k → k ∈ S ∨ a.heap.size ≤ k) : Fr S a w' :=
  h.trans (T := row.toList) ⟨hg.os, hg.tape, hg.output, hg.size, fun k hk hn => hg.block k hk (fun e => hn (by rw [← e]; simp))⟩
    (fun x hx => hr x (by cases row <;> simp_all))
theorem Fr.below {a w : World} (h : Fr [] a w) : Below a.heap.size a w := ⟨h.os, h.tape, h.output, h.size, fun k hk => h.block k hk (by simp)⟩
theorem Fr.ofBelow {a w : World} (h : Below a.heap.size a w) : Fr [] a w := ⟨h.os, h.tape, h.output, h.size, fun k hk _ => h.block k hk⟩
theorem Fr.keep {S : List Nat} {w w' : World} (h : Fr S w w') {k : Nat} {o : Obj} (ho : w.heap[k]? = some o) (hk : k ∉ S) : w'.heap[k]? = some o :=
  (h.block k (Array.getElem?_eq_some_iff.1 ho).1 hk).trans ho
theorem Fr.cell {S : List Nat} {w w' : World} (h : Fr S w w') {a : Addr} {v : Value} (ho : w.cell? a = some v) (hk : a.block ∉ S) : w'.cell? a = some v :=
  (World.cell?_of_block (h.block a.block (World.block_lt_of_cell? w a ho) hk)).trans ho
theorem Fr.frozen {S : List Nat} {w w' : World} (h : Fr S w w') {a : Addr} (ha : a.block < w.heap.size) (hk : a.block ∉ S) : w'.frozen? a = w.frozen? a :=
  World.frozen?_of_block (h.block a.block ha hk)

theorem lt_of_heap {w : World} {k : Nat} {o : Obj} (h : w.heap[k]? = some o) : k < w.heap.size := (Array.getElem?_eq_some_iff.1 h).1

/-- A map's block is written. -/
def World.putObj (w : World) (b : Nat) (o : Obj) : World := { w with heap := w.heap.setIfInBounds b o }

/-- The cells of a row: v has n elements, of sz cells each, which are xs. -/
def Row (w : World) (E : TypeId) (sz : Nat) (v : Value) (n : Nat) (xs : List Value) : Prop :=
  xs.length = n * sz ∧ ((v = .slice none 0 0 ∧ n = 0) ∨
    ∃ g cap cur, v = .slice (some ⟨g, 0, none⟩) n cap ∧ w.heap[g]? = some (.cells cur E (0, 0)) ∧ n ≤ cap ∧ cap ≤ maxLen ∧ cap * sz ≤ cur.size ∧ cur.toList.take (n * sz) = xs)

def blk (v : Value) (k : Nat) : Prop := v.ownBlock = some k

theorem Row.keep {w w' : World} {E : TypeId} {sz : Nat} {v : Value} {n : Nat} {xs : List Value} (h : Row w E sz v n xs) {S : List Nat} (hf : Fr S w w') (hS : ∀ k, v.ownBlock = some k → k ∉ S) : Row w' E sz v n xs := by
  refine ⟨h.1, ?_⟩
  rcases h.2 with hn | ⟨g, cap, cur, rfl, hg, r⟩
  · exact .inl hn
  · exact .inr ⟨g, cap, cur, rfl, hf.keep hg (hS g rfl), r⟩
theorem Row.keep_nil {w w' : World} {E : TypeId} {sz : Nat} {v : Value} {n : Nat} {xs : List Value} (h : Row w E sz v n xs) (hf : Fr [] w w') : Row w' E sz v n xs :=
  h.keep hf (by simp)
theorem Row.lt {w : World} {E : TypeId} {sz : Nat} {v : Value} {n : Nat} {xs : List Value} (h : Row w E sz v n xs) {k : Nat} (hk : v.ownBlock = some k) : k < w.heap.size := by
  rcases h.2 with ⟨rfl, _⟩ | ⟨g, cap, cur, rfl, hg, _⟩
  · simp [Value.ownBlock] at hk
  · simp [Value.ownBlock] at hk; subst hk; exact lt_of_heap hg
/-- An element's cell. -/
theorem Row.cell {w : World} {E : TypeId} {sz : Nat} {v : Value} {n : Nat} {xs : List Value} (h : Row w E sz v n xs) {i : Nat} {x : Value} (hx : xs[i]? = some x) :
    ∃ g cap, v = .slice (some ⟨g, 0, none⟩) n cap ∧ w.cell? ⟨g, i, none⟩ = some x ∧ w.frozen? ⟨g, i, none⟩ = false := by
  rcases h.2 with ⟨rfl, rfl⟩ | ⟨g, cap, cur, rfl, hg, _, _, _, ht⟩
  · have := h.1; simp at this; subst this; simp at hx
  · refine ⟨g, cap, rfl, ?_, frozen_of_row w g i cur E hg⟩
    rw [cell_of_row w g i cur E (0, 0) hg]
    rw [← ht, List.getElem?_take] at hx
    split at hx
    · simpa using hx
    · cases hx

/-- A slice of strings. -/
def Strs (w : World) (E : TypeId) (v : Value) (l : List ByteArray) : Prop := Row w E 1 v l.length (l.map Value.string)
theorem Strs.cell {w : World} {E : TypeId} {v : Value} {l : List ByteArray} (h : Strs w E v l) {i : Nat} (hi : i < l.length) :
    ∃ g cap, v = .slice (some ⟨g, 0, none⟩) l.length cap ∧ w.cell? ⟨g, i, none⟩ = some (.string l[i]) ∧ w.frozen? ⟨g, i, none⟩ = false :=
  Row.cell h (by simp [hi])
theorem Strs.at {w : World} {E : TypeId} {v : Value} {l : List ByteArray} (h : Strs w E v l) {i : Nat} {s : ByteArray} (hi : l[i]? = some s) :
    ∃ g cap, v = .slice (some ⟨g, 0, none⟩) l.length cap ∧ w.cell? ⟨g, i, none⟩ = some (.string s) ∧ w.frozen? ⟨g, i, none⟩ = false :=
  Row.cell h (by simp [hi])
theorem get_of_lt {α : Type} {l : List α} {n k : Nat} (hn : l.length = n) (h : k < n) : ∃ s, l[k]? = some s := ⟨l[k], by simp [hn, h]⟩
theorem take_eq_step {α : Type} {la lb : List α} {k : Nat} {s : α} (h : la.take k = lb.take k) (ha : la[k]? = some s) (hb : lb[k]? = some s) : la.take (k+1) = lb.take (k+1) := by
  rw [List.take_add_one, List.take_add_one, h, ha, hb]
theorem ne_of_get {α : Type} {la lb : List α} {k : Nat} {s t : α} (ha : la[k]? = some s) (hb : lb[k]? = some t) (hk : ¬ s = t) : ¬ la = lb := by
  intro h; subst h; rw [ha] at hb; exact hk (Option.some.inj hb)
theorem eq_of_take {α : Type} {la lb : List α} {n : Nat} (ha : la.length = n) (hb : lb.length = n) (h : la.take n = lb.take n) : la = lb := by
  rw [List.take_of_length_le (by omega), List.take_of_length_le (by omega)] at h; exact h
theorem toList_inj {a b : ByteArray} (h : a.toList = b.toList) : a = b := by
  rw [ByteArray.toList_eq, ByteArray.toList_eq] at h
  cases a; cases b; congr; exact Array.toList_inj.1 h
theorem strs_ne {a b : ByteArray} (h : ¬ a = b) : (!a.toList == b.toList) = true := by
  rw [Bool.not_eq_true', beq_eq_false_iff_ne]; exact fun e => h (toList_inj e)
theorem strs_ne' {a b : ByteArray} (h : ¬ a = b) : (a.toList == b.toList) = false := by
  rw [beq_eq_false_iff_ne]; exact fun e => h (toList_inj e)
theorem ret_true {b : Bool} (h : b = true) : Ending.returned (.bool true) = .returned (.bool b) := by rw [h]
theorem ret_false {b : Bool} (h : b = false) : Ending.returned (.bool false) = .returned (.bool b) := by rw [h]
theorem ret_int {k : IntKind} {a b : Int} (h : a = b) : Ending.returned (.int k a) = .returned (.int k b) := by rw [h]
theorem drewN2 (w : World) (a b : Nat) : ∃ n, (w.drewN a).drewN b = w.drewN n := ⟨_, World.drewN_drewN w a b⟩
theorem Strs.keep {w w' : World} {E : TypeId} {v : Value} {l : List ByteArray} (h : Strs w E v l) {S : List Nat} (hf : Fr S w w') (hS : ∀ k, v.ownBlock = some k → k ∉ S) : Strs w' E v l := Row.keep h hf hS
theorem Strs.keep_nil {w w' : World} {E : TypeId} {v : Value} {l : List ByteArray} (h : Strs w E v l) (hf : Fr [] w w') : Strs w' E v l := Row.keep_nil h hf
theorem Row.shape {w : World} {E : TypeId} {sz : Nat} {v : Value} {n : Nat} {xs : List Value} (h : Row w E sz v n xs) : ∃ a cap, v = .slice a n cap ∧ n ≤ cap ∧ cap ≤ maxLen := by
  rcases h.2 with ⟨rfl, rfl⟩ | ⟨g, cap, cur, rfl, _, h1, h2, _⟩
  · exact ⟨none, 0, rfl, Nat.le_refl _, by unfold maxLen; omega⟩
  · exact ⟨_, cap, rfl, h1, h2⟩
end Go.Proofs.Ytcpealfaaghpiaa
