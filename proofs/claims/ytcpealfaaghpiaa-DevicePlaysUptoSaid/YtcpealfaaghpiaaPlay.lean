/-
  The law's world: one device's step over the invariant; the small steps of play. Own work.
-/
import Derived.Deep.DeepFit
import Derived.Test.YtcpealfaaghpiaaMakesB
namespace Go.Proofs.Ytcpealfaaghpiaa
open Go Go.RowKit Go.Maps Go.Sort Go.Shelf

theorem WInv.more {base : Nat} {ρ : Rho} {w : World} {W : Nat} {A : WA} {B B' : Nat} (h : WInv base ρ w W A B) (hB : B ≤ B') : WInv base ρ w W A B' := by
  have h1 := h.bG
  have h2 := h.bH
  exact { h with bG := by omega, bH := by omega }
theorem flatMap_set_same {α β : Type} {f : α → List β} : ∀ {l : List α} {i : Nat} {x y : α}, l[i]? = some x → f x = f y → (l.set i y).flatMap f = l.flatMap f
  | [], _, _, _, h, _ => by simp at h
  | a :: l, 0, x, y, h, e => by simp at h; subst h; simp [e]
  | a :: l, i + 1, x, y, h, e => by simp at h; simp [flatMap_set_same h e]
def SideA.blocks (s : SideA) : List Nat := [s.d, s.p, s.m, s.x, s.l, s.b, s.q]
theorem SideIs.tagged {ρ : Rho} {w : World} {i : Nat} {s : SideA} (h : SideIs ρ w i s) {k : Nat} (hk : k ∈ s.blocks) : ∃ j, ρ k = some (.dev i j) := by
  simp [SideA.blocks] at hk
  rcases hk with rfl | rfl | rfl | rfl | rfl | rfl | rfl
  · exact ⟨_, h.td⟩
  · exact ⟨_, h.tp⟩
  · exact ⟨_, h.tm⟩
  · exact ⟨_, h.tx⟩
  · exact ⟨_, h.tl⟩
  · exact ⟨_, h.tb⟩
  · exact ⟨_, h.tq⟩
theorem SideIs.lt {ρ : Rho} {w : World} {i : Nat} {s : SideA} (h : SideIs ρ w i s) {k : Nat} (hk : k ∈ s.blocks) : k < w.heap.size := by
  obtain ⟨l1, l2, l3⟩ := h.dev.lt
  obtain ⟨l4, l5, l6, l7⟩ := h.ref.lt
  simp [SideA.blocks] at hk
  rcases hk with rfl | rfl | rfl | rfl | rfl | rfl | rfl <;> assumption
theorem SideIs.disj {ρ : Rho} {w : World} {i : Nat} {s : SideA} (h : SideIs ρ w i s) : ∀ k ∈ [s.d, s.p, s.m], k ∉ [s.x, s.l, s.b, s.q] := by
  intro k hk hm
  have e1 : ∃ j, j < 3 ∧ ρ k = some (.dev i j) := by
    simp at hk
    rcases hk with rfl | rfl | rfl
    · exact ⟨0, by omega, h.td⟩
    · exact ⟨1, by omega, h.tp⟩
    · exact ⟨2, by omega, h.tm⟩
  have e2 : ∃ j, 3 ≤ j ∧ ρ k = some (.dev i j) := by
    simp at hm
    rcases hm with rfl | rfl | rfl | rfl
    · exact ⟨3, by omega, h.tx⟩
    · exact ⟨4, by omega, h.tl⟩
    · exact ⟨5, by omega, h.tb⟩
    · exact ⟨6, by omega, h.tq⟩
  obtain ⟨j, hj, e1⟩ := e1
  obtain ⟨j', hj', e2⟩ := e2
  rw [e1] at e2
  have := Option.some.inj e2
  injection this with _ e
  omega

/-- One side has gone on. -/
theorem WInv.step {base : Nat} {ρ : Rho} {w w' : World} {W : Nat} {A : WA} {B : Nat} (h : WInv base ρ w W A B) {i : Nat} {s : SideA} (hi : A.sides[i]? = some s) {S : List Nat} (hf : Fr S w w') (hS : ∀ k ∈ S, k ∈ s.blocks ∨ w.heap.size ≤ k) {D' : DA}
    (hd : DevIs w' s.d s.p s.m D') (hr : RefIs w' s.x s.l s.b s.q D') : ∃ A', WInv base ρ w' W A' B ∧ ∃ T, Fr T w w' ∧ Ours ρ T := by
  have hs := h.dev i s hi
  have hf' : Fr s.blocks w w' := hf.mono (fun x hx => hS x hx)
  have tg : ∀ k ∈ s.blocks, ∃ j, ρ k = some (.dev i j) := fun k hk => hs.tagged hk
  have no : ∀ t, (∀ j, t ≠ .dev i j) → ∀ k ∈ s.blocks, ρ k ≠ some t := by
    intro t ht k hk e
    obtain ⟨j, q⟩ := tg k hk
    rw [e] at q
    exact ht j (Option.some.inj q)
  have hlen : (A.sides.set i { s with D := D' }).length = A.sides.length := by simp
  refine ⟨_, h.turn hf' (Ext.refl _ _) (fun t _ _ _ hd' => no t (fun j => hd' i j)) A.vl A.vn (A.sides.set i { s with D := D' }) A.hn (hf'.keep h.cW (fun hm => no _ (by simp) _ hm h.tW)) h.low (fun k hk => h.lim k (Nat.le_trans hf.size hk)) ?_ (by rw [hlen]; exact h.five) ?_
    (h.hand.imp fun hs hh => hh.keep hf' (no _ (by simp)) (Ext.refl _ _)), s.blocks, hf', fun k hk => by obtain ⟨j, q⟩ := tg k hk; rw [q]; rfl⟩
  · rw [hlen, flatMap_set_same hi (show SideA.cells s = SideA.cells { s with D := D' } from rfl)]
    exact h.sides.keep hf' (no _ (by simp)) (Ext.refl _ _)
  · intro j t ht
    by_cases e : i = j
    · subst e
      rw [List.getElem?_set_self (List.getElem?_eq_some_iff.1 hi).1] at ht
      have := Option.some.inj ht
      subst this
      exact ⟨hd, hr, hs.td, hs.tp, hs.tm, hs.tx, hs.tl, hs.tb, hs.tq⟩
    · rw [List.getElem?_set_ne e] at ht
      refine (h.dev j t ht).keep hf' (fun k hk j' => no _ ?_ k hk) (Ext.refl _ _)
      intro j'' q
      injection q with q _
      exact e q.symm

/-- What a step of the script comes to. -/
def PlayPost (base : Nat) (ρ : Rho) (w : World) (W B : Nat) (e : Ending) (w' : World) : Prop :=
  e = .returned (.bool true) ∧ ∃ ρ' A', WInv base ρ' w' W A' (B + 2) ∧ Ext w ρ ρ' ∧ ∃ S, Fr S w w' ∧ Ours ρ S
theorem PlayPost.quiet {base : Nat} {ρ : Rho} {w w' : World} {W : Nat} {A : WA} {B : Nat} (h : WInv base ρ w W A B) (hf : Fr [] w w') : PlayPost base ρ w W B (.returned (.bool true)) w' :=
  ⟨rfl, ρ, A, (h.keep_nil hf).more (by omega), Ext.refl _ _, [], hf, fun k hk => by cases hk⟩
theorem PlayPost.step {base : Nat} {ρ : Rho} {w w' : World} {W : Nat} {A : WA} {B : Nat} (h : WInv base ρ w W A B) {i : Nat} {s : SideA} (hi : A.sides[i]? = some s) {S : List Nat} (hf : Fr S w w') (hS : ∀ k ∈ S, k ∈ s.blocks ∨ w.heap.size ≤ k) {D' : DA}
    (hd : DevIs w' s.d s.p s.m D') (hr : RefIs w' s.x s.l s.b s.q D') : PlayPost base ρ w W B (.returned (.bool true)) w' := by
  obtain ⟨A', h', T, hT, hO⟩ := h.step hi hf hS hd hr
  exact ⟨rfl, ρ, A', h'.more (by omega), Ext.refl _ _, T, hT, hO⟩

theorem getElem?_flatMap2 {α β : Type} {f : α → List β} (hf : ∀ x, (f x).length = 2) : ∀ (l : List α) (i : Nat) (x : α), l[i]? = some x → ∀ j, j < 2 → (l.flatMap f)[i * 2 + j]? = (f x)[j]?
  | [], _, _, h, _, _ => by simp at h
  | a :: l, 0, x, h, j, hj => by
    simp at h; subst h
    rw [List.flatMap_cons, List.getElem?_append_left (by rw [hf]; omega)]; congr 1; omega
  | a :: l, i + 1, x, h, j, hj => by
    simp at h
    rw [List.flatMap_cons, List.getElem?_append_right (by rw [hf]; omega), hf, ← getElem?_flatMap2 hf l i x h j hj]
    congr 1; omega
theorem side_cells {ρ : Rho} {w : World} {vl : Value} {ss : List SideA} (h : TRow ρ w 40 2 .sides vl ss.length (ss.flatMap SideA.cells)) {i : Nat} {s : SideA} (hi : ss[i]? = some s) :
    ∃ g cap, vl = .slice (some ⟨g, 0, none⟩) ss.length cap ∧ ss.length ≤ cap ∧ cap ≤ maxLen ∧ w.cell? ⟨g, i * 2, none⟩ = some (.pointer (some ⟨s.d, 0, none⟩)) ∧ w.cell? ⟨g, i * 2 + 1, none⟩ = some (.pointer (some ⟨s.x, 0, none⟩)) := by
  have h2 : ∀ x : SideA, x.cells.length = 2 := fun _ => rfl
  obtain ⟨g, cap, e, c0, _⟩ := Row.cell h.1 (i := i * 2 + 0) (x := .pointer (some ⟨s.d, 0, none⟩)) (by rw [getElem?_flatMap2 h2 _ _ _ hi 0 (by omega)]; rfl)
  obtain ⟨g', cap', e', c1, _⟩ := Row.cell h.1 (i := i * 2 + 1) (x := .pointer (some ⟨s.x, 0, none⟩)) (by rw [getElem?_flatMap2 h2 _ _ _ hi 1 (by omega)]; rfl)
  rw [e] at e'
  injection e' with e1 e2 e3
  injection e1 with e1
  injection e1 with e1
  subst e1 e3
  obtain ⟨a, c, q, q1, q2⟩ := h.1.shape
  rw [e] at q
  injection q with _ _ q3
  subst q3
  exact ⟨g, cap, e, q1, q2, c0, c1⟩
theorem same_yes (w : World) (va vb : Value) (l : List ByteArray) (ha : Strs w 9 va l) (hb : Strs w 9 vb l) :
    Calls Try.prog 8 #[va, vb] w fun e w' => e = .returned (.bool true) ∧ Fr [] w w' := by
  refine (same_walk w va vb l l ha hb).mono ?_
  rintro e w' ⟨rfl, n, rfl⟩
  exact ⟨by simp, (Fr.refl _ _).drewN n⟩
theorem sameW_yes (w : World) (va vb : Value) (l : List (Nat × ByteArray)) (ha : Writes w va l) (hb : Writes w vb l) :
    Calls Try.prog 11 #[va, vb] w fun e w' => e = .returned (.bool true) ∧ Fr [] w w' := by
  refine (sameWrites_walk w va vb l l ha hb).mono ?_
  rintro e w' ⟨rfl, n, rfl⟩
  exact ⟨by simp, (Fr.refl _ _).drewN n⟩
theorem pending_bound {D : DA} (h : D.WF) : D.pending.length ≤ 4096 := by
  rw [pending_len]; exact Nat.le_trans (keys_len D) (by rw [h.len]; exact h.hi)
theorem WInv.new {base : Nat} {ρ : Rho} {w : World} {W : Nat} {A : WA} {B : Nat} (h : WInv base ρ w W A B) {k : Nat} (hk : w.heap.size ≤ k) : ρ k = none ∧ base ≤ k :=
  ⟨h.lim k hk, by have := h.base_le; have := h.W_lt; omega⟩
/-- Two lists came out and are kept. -/
theorem PlayPost.lists {base : Nat} {ρ ρ1 ρ2 : Rho} {w w7 w8 w9 : World} {W : Nat} {A A1 A2 : WA} {B : Nat} (_h : WInv base ρ w W A B) (hf : Fr [] w w7) (e1 : Ext w7 ρ ρ1) (h1 : ∃ S, Fr S w7 w8 ∧ Ours ρ S)
    (h2 : WInv base ρ2 w9 W A2 (B + 1 + 1)) (e2 : Ext w8 ρ1 ρ2) (_i1 : WInv base ρ1 w8 W A1 (B + 1)) (h3 : ∃ S, Fr S w8 w9 ∧ Ours ρ1 S) (st : ∀ k, k < w.heap.size → ρ k = none → ρ1 k = none) : PlayPost base ρ w W B (.returned (.bool true)) w9 := by
  obtain ⟨S, hS, oS⟩ := h1
  obtain ⟨T, hT, oT⟩ := h3
  have z1 := hf.size
  have z2 := hS.size
  refine ⟨rfl, ρ2, A2, h2, (Ext.trans (w := w) (fun k t hk ht => e1 k t (by omega) ht) (by omega) e2), (S ++ T).filter (fun k => (ρ k).isSome), ?_, fun k hk => (List.mem_filter.1 hk).2⟩
  refine (((hf.weak (T := S ++ T) (by simp)).trans (hS.weak (T := S ++ T) (fun x hx => by simp [hx])) (fun _ h => .inl h)).trans (hT.weak (T := S ++ T) (fun x hx => by simp [hx])) (fun _ h => .inl h)).mono fun x hx => ?_
  by_cases hx1 : w.heap.size ≤ x
  · exact .inr hx1
  · refine .inl (List.mem_filter.2 ⟨hx, ?_⟩)
    rcases List.mem_append.1 hx with q | q
    · exact oS x q
    · have := oT x q
      cases hr : ρ x with
      | some t => rfl
      | none => rw [st x (by omega) hr] at this; cases this

theorem PlayPost.one {base : Nat} {ρ : Rho} {w wc w5 : World} {W : Nat} {A : WA} {B : Nat} (h : WInv base ρ w W A B) {i : Nat} {s : SideA} (hi : A.sides[i]? = some s) (hf : Fr [] w wc) {S : List Nat} (h5 : Fr S wc w5) (hS : ∀ k ∈ S, k ∈ s.blocks)
    {D' : DA} (hd : DevIs w5 s.d s.p s.m D') (hr : RefIs w5 s.x s.l s.b s.q D') : PlayPost base ρ w W B (.returned (.bool true)) w5 :=
  PlayPost.step h hi ((hf.weak (by simp)).trans h5 (fun _ h => .inl h)) (fun k hk => .inl (hS k hk)) hd hr
/-- What makes and loads leave. -/
def Goes (base : Nat) (ρ : Rho) (w : World) (W B : Nat) (w' : World) : Prop := ∃ ρ' A', WInv base ρ' w' W A' B ∧ Ext w ρ ρ' ∧ (∃ S, Fr S w w' ∧ Ours ρ S)
theorem PlayPost.goes {base : Nat} {ρ : Rho} {w wc w5 : World} {W : Nat} {B : Nat} (hf : Fr [] w wc) (h : Goes base ρ wc W B w5) : PlayPost base ρ w W B (.returned (.bool true)) w5 := by
  obtain ⟨ρ', A', h1, h2, S, h3, h4⟩ := h
  have z := hf.size
  exact ⟨rfl, ρ', A', h1.more (by omega), fun k t hk ht => h2 k t (by omega) ht, S, (hf.weak (by simp)).trans h3 (fun _ h => .inl h), h4⟩
theorem WInv.foreign {base : Nat} {ρ : Rho} {w : World} {W : Nat} {A : WA} {B : Nat} (h : WInv base ρ w W A B) {i : Nat} {s : SideA} (hi : A.sides[i]? = some s) {k : Nat} (hk : ρ k = none) : k ∉ [s.d, s.p, s.m, s.x, s.l, s.b, s.q] := by
  intro hm
  obtain ⟨j, q⟩ := (h.dev i s hi).tagged (k := k) hm
  rw [hk] at q; cases q

theorem SideIs.apart_new {ρ : Rho} {w w2 w3 : World} {i : Nat} {s : SideA} (h : SideIs ρ w i s) (hz : w.heap.size ≤ w2.heap.size) {E : TypeId} {sz : Nat} {vn : Value} {n : Nat} {xs : List Value} (hv : Row w3 E sz vn n xs) (hn : ∀ k, vn.ownBlock = some k → w2.heap.size ≤ k) :
    ∀ a m c, vn = .slice (some a) m c → a.block < w3.heap.size ∧ a.block ∉ [s.d, s.p, s.m, s.x, s.l, s.b, s.q] := by
  rintro a m c rfl
  have hb : (Value.slice (some a) m c).ownBlock = some a.block := rfl
  have h1 := hn _ hb
  refine ⟨hv.lt hb, fun hm => ?_⟩
  have := h.lt (k := a.block) hm
  omega
theorem SideIs.box_later {ρ : Rho} {w w3 w5 : World} {i : Nat} {s : SideA} (h : SideIs ρ w i s) {S : List Nat} (h5 : Fr S w3 w5) (hS : ∀ k ∈ S, k ∈ s.blocks) {a : Addr} {v : Value} (hc : w3.cell? a = some v) (ha : w.heap.size ≤ a.block) : w5.cell? a = some v := by
  refine h5.cell hc fun hm => ?_
  have := h.lt (hS _ hm)
  omega
theorem six_blocks (s : SideA) : ∀ k ∈ [s.d, s.p, s.m, s.x, s.l, s.b], k ∈ s.blocks := by
  intro k hk; simp [SideA.blocks] at hk ⊢; rcases hk with q | q | q | q | q | q <;> simp [q]

theorem SideIs.dev_at {ρ : Rho} {w wc : World} {i : Nat} {s : SideA} (h : SideIs ρ w i s) (hf : Fr [] w wc) : DevIs wc s.d s.p s.m s.D := h.dev.keep hf (by simp) (by simp) (by simp)
theorem SideIs.ref_at {ρ : Rho} {w wc : World} {i : Nat} {s : SideA} (h : SideIs ρ w i s) (hf : Fr [] w wc) : RefIs wc s.x s.l s.b s.q s.D := h.ref.keep hf (by simp) (by simp) (by simp) (by simp)
theorem SideIs.ref_later {ρ : Rho} {w wc w5 : World} {i : Nat} {s : SideA} (h : SideIs ρ w i s) (hf : Fr [] w wc) {S : List Nat} (h5 : Fr S wc w5) (hS : ∀ k ∈ S, k ∈ [s.d, s.p, s.m]) : RefIs w5 s.x s.l s.b s.q s.D := by
  have no : ∀ k ∈ [s.x, s.l, s.b, s.q], k ∉ S := fun k hk hm => h.disj k (hS k hm) hk
  exact (h.ref_at hf).keep h5 (no _ (by simp)) (no _ (by simp)) (no _ (by simp)) (no _ (by simp))
theorem SideIs.cell_later {ρ : Rho} {w wc w5 : World} {i : Nat} {s : SideA} (h : SideIs ρ w i s) {S : List Nat} (h5 : Fr S wc w5) (hS : ∀ k ∈ S, k ∈ [s.d, s.p, s.m]) {a : Addr} {v : Value} (hc : wc.cell? a = some v) (ha : w.heap.size ≤ a.block) : w5.cell? a = some v := by
  refine h5.cell hc fun hm => ?_
  have := h.lt (k := a.block) (by have := hS _ hm; simp [SideA.blocks] at this ⊢; rcases this with q | q | q <;> simp [q])
  omega
theorem PlayPost.both {base : Nat} {ρ : Rho} {w wc w5 w6 : World} {W : Nat} {A : WA} {B : Nat} (h : WInv base ρ w W A B) {i : Nat} {s : SideA} (hi : A.sides[i]? = some s) (hf : Fr [] w wc) {S T : List Nat} (h5 : Fr S wc w5) (hS : ∀ k ∈ S, k ∈ [s.d, s.p, s.m])
    {D' : DA} (hd : DevIs w5 s.d s.p s.m D') (h6 : Fr T w5 w6) (hT : ∀ k ∈ T, k ∈ [s.x, s.l, s.b, s.q]) (hr : RefIs w6 s.x s.l s.b s.q D') : PlayPost base ρ w W B (.returned (.bool true)) w6 := by
  have hs := h.dev i s hi
  have no : ∀ k ∈ [s.d, s.p, s.m], k ∉ T := fun k hk hm => hs.disj k hk (hT k hm)
  refine PlayPost.step (S := s.blocks) h hi (((hf.weak (by simp)).trans (h5.weak (T := s.blocks) ?_) (fun _ h => .inl h)).trans (h6.weak (T := s.blocks) ?_) (fun _ h => .inl h)) (fun k hk => .inl hk) (hd.keep h6 (no _ (by simp)) (no _ (by simp)) (no _ (by simp))) hr
  · intro k hk; have := hS k hk; simp [SideA.blocks] at this ⊢; rcases this with q | q | q <;> simp [q]
  · intro k hk; have := hT k hk; simp [SideA.blocks] at this ⊢; rcases this with q | q | q | q <;> simp [q]
end Go.Proofs.Ytcpealfaaghpiaa
