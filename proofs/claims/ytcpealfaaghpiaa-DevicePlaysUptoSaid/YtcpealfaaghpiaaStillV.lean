/-
  The law's still: words for the walk (printed by wip/tools/genstillw.py). Own work.
-/
import Derived.Deep.RegionHeld3
import Derived.Deep.DeepCutAuto
import Derived.Deep.CutBlock
import Derived.Deep.QuietTactic
import Derived.BigQuiet
import Derived.Outline
import Derived.IntWalk
import Derived.Test.YtcpealfaaghpiaaStillR
namespace Go.Proofs.Ytcpealfaaghpiaa
open Go Go.RowKit Go.Maps Go.Sort Go.Shelf
theorem Row.slice {w : World} {E : TypeId} {sz : Nat} {v : Value} {n : Nat} {xs : List Value} (h : Row w E sz v n xs) : ∃ a cap, v = .slice a n cap ∧ n ≤ cap ∧ cap ≤ 9223372036854775807 := by
  obtain ⟨a, c, e, h1, h2⟩ := h.shape
  unfold maxLen at h2
  exact ⟨a, c, e, h1, by omega⟩
/-- The i-th of a row of slices. -/
theorem Row.nth {w : World} {E : TypeId} {α : Type} {vf : Value} {fl : List (Value × α)} {a : Option Addr} {n cap : Nat} (h : Row w E 1 vf fl.length (fl.map (·.1))) (hv : vf = .slice a n cap) {i : Nat} {v : Value} {l : α} (hi : fl[i]? = some (v, l)) :
    ∃ g, a = some ⟨g, 0, none⟩ ∧ w.cell? ⟨g, i, none⟩ = some v ∧ vf.ownBlock = some g := by
  obtain ⟨g, cap', e, hc, _⟩ := Row.cell h (i := i) (x := v) (by rw [List.getElem?_map, hi]; rfl)
  rw [hv] at e
  injection e with e _ _
  exact ⟨g, e, hc, by rw [hv, e]; rfl⟩
theorem Row.nth' {w : World} {E : TypeId} {vf : Value} {fl : List Value} {a : Option Addr} {n cap : Nat} (h : Row w E 1 vf n fl) (hv : vf = .slice a n cap) {i : Nat} {v : Value} (hi : fl[i]? = some v) :
    ∃ g, a = some ⟨g, 0, none⟩ ∧ w.cell? ⟨g, i, none⟩ = some v ∧ vf.ownBlock = some g := by
  obtain ⟨g, cap', e, hc, _⟩ := Row.cell h (i := i) (x := v) hi
  rw [hv] at e
  injection e with e _ _
  exact ⟨g, e, hc, by rw [hv, e]; rfl⟩


theorem Trk.goes {base : Nat} {ρ0 ρ : Rho} {w0 w1 w : World} {W : Nat} {A : WA} {B : Nat} (h : WInv base ρ w W A B) (hk : Trk ρ0 w1 ρ w) (h0 : Fr [] w0 w1) : Goes base ρ0 w0 W B w := by
  obtain ⟨S, hS, oS⟩ := hk.fr
  have z := h0.size
  exact ⟨ρ, A, h, fun k t hk' ht => hk.ext k t (by omega) ht, S, (h0.weak (by simp)).trans hS (fun _ h => .inl h), oS⟩
theorem Goes.pre {base : Nat} {ρ0 : Rho} {w0 w1 w : World} {W B : Nat} (h : Goes base ρ0 w1 W B w) (h0 : Fr [] w0 w1) : Goes base ρ0 w0 W B w := by
  obtain ⟨ρ', A', h1, h2, S, h3, h4⟩ := h
  have z := h0.size
  exact ⟨ρ', A', h1, fun k t hk ht => h2 k t (by omega) ht, S, (h0.weak (by simp)).trans h3 (fun _ h => .inl h), h4⟩
theorem cell_one_new (w : World) (x : Value) (T : TypeId) : ∀ (j : Nat) (u : Value), ([x] : List Value)[j]? = some u → (w.alloc (.cells #[x] T)).cell? ((⟨w.heap.size, 0, none⟩ : Addr).add j) = some u := by
  intro j u hj
  match j, hj with
  | 0, hj => simp at hj; subst hj; simp [Addr.add, go_sem]
def SOut (base : Nat) (ρ0 : Rho) (w1 : World) (W : Nat) (vl vf vw vg vh ve vn : Value) (ss : List SideA) (hn : Nat) (fl wl E : List (Value × Nat)) (G H k : Nat) (wr : World) : Prop :=
  ∃ ρ' vd' D', PInv base ρ0 w1 ρ' wr W vl vf vw vg vh vd' ve vn ss hn fl wl D' E G H ∧ D'.length = 12 * (G + k)
def SIn (base : Nat) (ρ0 : Rho) (w1 : World) (W : Nat) (vl vf vw vg vh ve vn : Value) (ss : List SideA) (hn : Nat) (fl wl E : List (Value × Nat)) (G H k j : Nat) (l : Value) (wr : World) : Prop :=
  ∃ ρ' vd' D' n, GInvS base ρ0 w1 ρ' wr W vl vf vw vg vh vd' ve vn ss hn fl wl D' E G H k j (4096 + j) l n
def WOut (base : Nat) (ρ0 : Rho) (w1 : World) (W : Nat) (vl vf vw vg vh vd vn : Value) (ss : List SideA) (hn : Nat) (fl wl D : List (Value × Nat)) (G H k : Nat) (wr : World) : Prop :=
  ∃ ρ' ve' E', PInv base ρ0 w1 ρ' wr W vl vf vw vg vh vd ve' vn ss hn fl wl D E' G H ∧ E'.length = 12 * (H + k)
def WIn (base : Nat) (ρ0 : Rho) (w1 : World) (W : Nat) (vl vf vw vg vh vd vn : Value) (ss : List SideA) (hn : Nat) (fl wl D : List (Value × Nat)) (G H k j : Nat) (l : Value) (wr : World) : Prop :=
  ∃ ρ' ve' E' n, GInvW base ρ0 w1 ρ' wr W vl vf vw vg vh vd ve' vn ss hn fl wl D E' G H k j (4096 + j) l n
/-- The elements of a row that is marked. -/
theorem rep_cell {w : World} {E : TypeId} {sz : Nat} {v : Value} {n : Nat} {m : List Value} (h : Row w E sz v n (rep n m)) (hm : m.length = sz) {j : Nat} (hj : j < n) {c : Nat} {x : Value} (hc : m[c]? = some x) :
    ∃ g cap, v = .slice (some ⟨g, 0, none⟩) n cap ∧ w.cell? ⟨g, j * sz + c, none⟩ = some x := by
  have hcl : c < sz := by rw [← hm]; exact (List.getElem?_eq_some_iff.1 hc).1
  obtain ⟨g, cap, e, hx, _⟩ := Row.cell h (i := j * sz + c) (x := x) (by rw [rep_get hm n j c hj hcl, hc])
  exact ⟨g, cap, e, hx⟩

/-- The code behind the first n statements. -/
def Code.tailN : Nat → Code → Code
  | 0, c => c
  | n + 1, .seq _ b => Code.tailN n b
  | _ + 1, c => c
noncomputable def stillT (n : Nat) : Code := Code.tailN n (Try.f7.body.getD .skip)
/-- What still comes to. -/
def StillPost (base : Nat) (ρ : Rho) (w : World) (W B : Nat) (e : Ending) (w' : World) : Prop := e = .returned (.bool true) ∧ Goes base ρ w W B w'
end Go.Proofs.Ytcpealfaaghpiaa
