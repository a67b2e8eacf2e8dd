/-
  The device in plain Lean (no program in sight): pages that last, what is pending, dead, in how many acts it dies; what each call answers and leaves. Own work.
-/
import Derived.Lib.SlKeysI
import Derived.Test.YtcpealfaaghpiaaBase
namespace Go.Proofs.Ytcpealfaaghpiaa
open Go

/-- A device: what lasts, what is pending, is it dead, at which act it dies. -/
structure DA where
  L : List ByteArray
  P : List (Option ByteArray)
  dead : Bool
  left : Int

structure DA.WF (D : DA) : Prop where
  len : D.P.length = D.L.length
  lo : 4 ≤ D.L.length
  hi : D.L.length ≤ 4096
  szL : ∀ s ∈ D.L, s.size = 256
  szP : ∀ s, some s ∈ D.P → s.size = 256
  left0 : 0 ≤ D.left
  left1 : D.left ≤ 9223372036854775807

def DA.at_ (D : DA) (i : Nat) : Option ByteArray := (D.P[i]?).join

/-- The pages of which something is pending, rising. -/
def pkUpto (P : List (Option ByteArray)) (n : Nat) : List Nat := (List.range n).filter fun i => ((P[i]?).join).isSome
def DA.keys (D : DA) : List Nat := pkUpto D.P D.P.length
def DA.asked (D : DA) (i : Int) : Int := if D.dead then 2 else if 0 ≤ i ∧ i < (D.L.length : Int) then 0 else 90
def DA.read (D : DA) (i : Int) : ByteArray × Int :=
  if D.asked i = 0 then ((D.at_ i.toNat).getD (D.L.getD i.toNat ByteArray.empty), 0) else (ByteArray.empty, D.asked i)
/-- An act: does it die in it? -/
def DA.dies (D : DA) : Bool := decide (D.left = 1)
def DA.acted (D : DA) : DA := { D with left := if 0 < D.left then D.left - 1 else D.left }
def DA.killed (D : DA) : DA := { D with dead := true, left := 0 }
def DA.write (D : DA) (i : Int) (s : ByteArray) : Int × DA :=
  if D.asked i ≠ 0 then (D.asked i, D) else if s.size ≠ 256 then (91, D) else if D.dies then (2, D.killed)
  else (0, { D.acted with P := D.P.set i.toNat (some s) })
/-- What lasts behind a flush. -/
def flushed (L : List ByteArray) (P : List (Option ByteArray)) : List ByteArray := L.zipWith (fun s p => p.getD s) P
def DA.flush (D : DA) : Int × DA :=
  if D.dead then (2, D) else if D.dies then (2, D.killed) else (0, { D.acted with L := flushed D.L D.P, P := D.P.map fun _ => none })
def DA.arm (D : DA) (n : Int) : Int × DA :=
  if D.dead then (2, D) else if n < 0 then (1, D) else (0, { D with left := n })
def DA.pending (D : DA) : List (Nat × ByteArray) := D.keys.map fun i => (i, (D.at_ i).getD ByteArray.empty)

theorem pkUpto_succ (P : List (Option ByteArray)) (n : Nat) : pkUpto P (n + 1) = pkUpto P n ++ (if ((P[n]?).join).isSome then [n] else []) := by
  unfold pkUpto
  rw [List.range_succ, List.filter_append]
  congr 1
  by_cases h : ((P[n]?).join).isSome <;> simp [h]
theorem mem_keys (D : DA) (i : Nat) : i ∈ D.keys ↔ (D.at_ i).isSome = true := by
  unfold DA.keys pkUpto DA.at_
  rw [List.mem_filter, List.mem_range]
  constructor
  · exact fun h => h.2
  · intro h
    refine ⟨?_, h⟩
    rcases Nat.lt_or_ge i D.P.length with hl | hl
    · exact hl
    · rw [List.getElem?_eq_none hl] at h; simp at h
theorem keys_lt (D : DA) {i : Nat} (h : i ∈ D.keys) : i < D.P.length := by
  unfold DA.keys pkUpto at h
  exact List.mem_range.1 (List.mem_filter.1 h).1
theorem keys_pairwise (D : DA) : D.keys.Pairwise (· < ·) := by
  unfold DA.keys pkUpto
  exact (List.pairwise_lt_range).filter _
theorem keys_len (D : DA) : D.keys.length ≤ D.P.length := by
  unfold DA.keys pkUpto
  exact Nat.le_trans (List.length_filter_le _ _) (by simp)

/-! ### the map of pending writes, as a datum -/
def lookP (P : List (Option ByteArray)) (k : Int) : Option ByteArray := if 0 ≤ k then (P[k.toNat]?).join else none
/-- The datum reads as P. -/
structure PendIs (M : DataW Unit) (P : List (Option ByteArray)) : Prop where
  has : ∀ k : Int, Maps.has M (.int .i64 k) = (lookP P k).isSome
  at_ : ∀ (k : Int) (s : ByteArray), lookP P k = some s → ∀ z, M.atKey (.int .i64 k) z = .lit (.string s.data.toList)

theorem lookP_nat (P : List (Option ByteArray)) (i : Nat) : lookP P (i : Int) = (P[i]?).join := by simp [lookP]
theorem lookP_set_same {P : List (Option ByteArray)} {i : Nat} (h : i < P.length) (x : Option ByteArray) : lookP (P.set i x) (i : Int) = x := by
  rw [lookP_nat, List.getElem?_set_self h]; rfl
theorem lookP_set_other {P : List (Option ByteArray)} {i : Nat} {k : Int} (h : k ≠ (i : Int)) (x : Option ByteArray) : lookP (P.set i x) k = lookP P k := by
  unfold lookP
  split
  · rw [List.getElem?_set_ne (by omega)]
  · rfl
theorem pendIs_empty (n : Nat) : PendIs (.map []) (List.replicate n none) := by
  refine ⟨fun k => ?_, fun k s h => ?_⟩
  · have : lookP (List.replicate n none) k = none := by
      unfold lookP; split
      · rw [List.getElem?_replicate]; split <;> rfl
      · rfl
    rw [this]; rfl
  · have : lookP (List.replicate n none) k = none := by
      unfold lookP; split
      · rw [List.getElem?_replicate]; split <;> rfl
      · rfl
    rw [this] at h; cases h
theorem lit_ne {a b : Int} (h : a ≠ b) : (Lit.int .i64 a) ≠ (Lit.int .i64 b) := by intro e; injection e with _ e2; exact h e2
theorem PendIs.put {M : DataW Unit} {P : List (Option ByteArray)} (h : PendIs M P) (hM : Maps.IsMap M) {i : Nat} (hi : i < P.length) (s : ByteArray) (hk : WideAt.IsKeyLit (.int .i64 (i : Int))) :
    PendIs (M.put (.int .i64 (i : Int)) (.lit (.string s.data.toList))) (P.set i (some s)) := by
  refine ⟨fun k => ?_, fun k t hk' z => ?_⟩
  · by_cases e : k = (i : Int)
    · subst e; rw [lookP_set_same hi, Maps.has_put_same hM hk]; rfl
    · rw [lookP_set_other e, Maps.has_put_other (lit_ne e), h.has]
  · by_cases e : k = (i : Int)
    · subst e; rw [lookP_set_same hi] at hk'; injection hk' with hk'; subst hk'; exact Maps.atKey_put_same hM hk _ _
    · rw [lookP_set_other e] at hk'; rw [Maps.atKey_put_other (lit_ne e)]; exact h.at_ k t hk' z
theorem PendIs.del {M : DataW Unit} {P : List (Option ByteArray)} (h : PendIs M P) {i : Nat} (hi : i < P.length) :
    PendIs (M.del (.int .i64 (i : Int))) (P.set i none) := by
  refine ⟨fun k => ?_, fun k t hk' z => ?_⟩
  · by_cases e : k = (i : Int)
    · subst e; rw [lookP_set_same hi, Maps.has_del_same]; rfl
    · rw [lookP_set_other e, Maps.has_del_other (lit_ne e), h.has]
  · by_cases e : k = (i : Int)
    · subst e; rw [lookP_set_same hi] at hk'; cases hk'
    · rw [lookP_set_other e] at hk'; rw [Maps.atKey_del_other (lit_ne e)]; exact h.at_ k t hk' z

theorem leI_trans (a b c : Int) (h1 : leI a b = true) (h2 : leI b c = true) : leI a c = true := by
  simp only [leI, decide_eq_true_eq] at *; omega
theorem leI_total (a b : Int) : (leI a b || leI b a) = true := by
  simp only [leI, Bool.or_eq_true, decide_eq_true_eq]; omega
/-- The sorted keys of the datum are the pages that are pending. -/
theorem sorted_keys {M : DataW Unit} {D : DA} (h : PendIs M D.P) {es : List (Lit × DataW Unit)} (he : M = .map es) (hp : es.Pairwise (fun p q => p.1 ≠ q.1)) (hk : ∀ p ∈ es, ∃ x, p.1 = .int .i64 x) {ss : List Int} (hs : ss.Perm (intKeys M)) :
    ss.mergeSort leI = D.keys.map (fun (i : Nat) => (i : Int)) := by
  have hnd : (D.keys.map (fun (i : Nat) => (i : Int))).Pairwise (· < ·) := List.pairwise_map.2 ((keys_pairwise D).imp (by intro a b hab; omega))
  have hnd' : (D.keys.map (fun (i : Nat) => (i : Int))).Nodup := hnd.imp (by intro a b hab; omega)
  have hperm : (D.keys.map (fun (i : Nat) => (i : Int))).Perm (intKeys M) := by
    subst he
    refine perm_intKeys hp hk hnd' fun x => ?_
    rw [h.has x, List.mem_map]
    constructor
    · rintro ⟨i, hi, rfl⟩; rw [lookP_nat]; exact (mem_keys D i).1 hi
    · intro hx
      unfold lookP at hx
      split at hx
      · rename_i h0; exact ⟨x.toNat, (mem_keys D _).2 hx, by omega⟩
      · cases hx
  rw [mergeSort_of_perm_i (hs.trans hperm.symm)]
  exact List.mergeSort_of_pairwise (hnd.imp (by intro a b hab; simp only [leI, decide_eq_true_eq]; omega))
end Go.Proofs.Ytcpealfaaghpiaa
