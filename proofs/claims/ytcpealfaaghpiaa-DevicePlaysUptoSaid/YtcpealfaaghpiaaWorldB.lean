/-
  The law's world: a list that came out is kept. Own work.
-/
import Derived.Test.YtcpealfaaghpiaaWorld
namespace Go.Proofs.Ytcpealfaaghpiaa
open Go Go.RowKit Go.Maps Go.Sort Go.Shelf

theorem WInv.W_lt {base : Nat} {ρ : Rho} {w : World} {W : Nat} {A : WA} {B : Nat} (h : WInv base ρ w W A B) : W < w.heap.size := lt_of_heap h.cW
theorem WInv.base_le {base : Nat} {ρ : Rho} {w : World} {W : Nat} {A : WA} {B : Nat} (h : WInv base ρ w W A B) : base ≤ W := by
  rcases Nat.lt_or_ge W base with q | q
  · have := h.low W q; rw [h.tW] at this; cases this
  · exact q
theorem WInv.ge {base : Nat} {ρ : Rho} {w : World} {W : Nat} {A : WA} {B : Nat} (h : WInv base ρ w W A B) {k : Nat} {t : Tag} (hk : ρ k = some t) : base ≤ k := by
  rcases Nat.lt_or_ge k base with q | q
  · have := h.low k q; rw [hk] at this; cases this
  · exact q
theorem tag_ne {ρ : Rho} {a b : Nat} {s t : Tag} (ha : ρ a = some s) (hb : ρ b = some t) (h : s ≠ t) : a ≠ b := by
  rintro rfl
  rw [ha] at hb
  exact h (Option.some.inj hb)

/-- Four values get their tags. -/
theorem ext4 {w : World} {ρ : Rho} {v1 v2 v3 v4 : Value} {t1 t2 t3 t4 : Tag}
    (h1 : ∀ k, v1.ownBlock = some k → k < w.heap.size → ρ k = some t1) (h2 : ∀ k, v2.ownBlock = some k → k < w.heap.size → ρ k = some t2)
    (h3 : ∀ k, v3.ownBlock = some k → w.heap.size ≤ k) (h4 : ∀ k, v4.ownBlock = some k → ρ k = none) :
    Ext w ρ (updV (updV (updV (updV ρ v1 t1) v2 t2) v3 t3) v4 t4) := by
  intro k t hk ht
  have e4 : v4.ownBlock ≠ some k := fun e => by rw [h4 k e] at ht; cases ht
  have e3 : v3.ownBlock ≠ some k := fun e => by have := h3 k e; omega
  rw [updV_other e4, updV_other e3]
  by_cases e2 : v2.ownBlock = some k
  · rw [updV_self e2, ← h2 k e2 hk, ht]
  · rw [updV_other e2]
    by_cases e1 : v1.ownBlock = some k
    · rw [updV_self e1, ← h1 k e1 hk, ht]
    · rw [updV_other e1]; exact ht

/-- What the two rows of a kept list come to: everything that the proof of the invariant wants. -/
structure Kept (base : Nat) (ρ ρ' : Rho) (w w' : World) (W i j : Nat) (E F : TypeId) (sz : Nat) (t1 t2 t3 : Tag) (vf vw ov vf' vw' ou : Value) (nf n : Nat) (fs ws xs : List Value) (S : List Nat) : Prop where
  ext : Ext w ρ ρ'
  low : ∀ k, k < base → ρ' k = none
  lim : ∀ k, w'.heap.size ≤ k → ρ' k = none
  fr : Fr S w w'
  tags : ∀ k ∈ S, ρ k = some .W ∨ ρ k = some t1 ∨ ρ k = some t2
  one : TRow ρ' w' E 1 t1 vf' (nf + 1) (fs ++ [ov])
  two : TRow ρ' w' E 1 t2 vw' (nf + 1) (ws ++ [ou])
  own : TRow ρ' w' F sz t3 ov n xs
  copy : TRow ρ' w' F sz .ro ou n xs
  cells : ∀ cs T, w.heap[W]? = some (.cells cs T (0, 0)) → w'.heap[W]? = some (.cells ((cs.setIfInBounds i vf').setIfInBounds j vw') T (0, 0))
  stay : ∀ k, k < w.heap.size → ov.ownBlock ≠ some k → ρ k = none → ρ' k = none

theorem keptL_of {base : Nat} {ρ : Rho} {w w' : World} {W i j : Nat} {E F : TypeId} {sz : Nat} {t1 t2 t3 : Tag} {vf vw ov : Value} {nf n : Nat} {fs ws xs : List Value}
    (hl : Listed w w' W i j E F sz vf vw ov nf n fs ws xs) (hW : ρ W = some .W) (hWl : W < w.heap.size) (hb : base ≤ W) (hlow : ∀ k, k < base → ρ k = none) (hlim : ∀ k, w.heap.size ≤ k → ρ k = none)
    (hf : TRow ρ w E 1 t1 vf nf fs) (hw : TRow ρ w E 1 t2 vw nf ws) (ho : Row w F sz ov n xs) (hon : ∀ k, ov.ownBlock = some k → ρ k = none ∧ base ≤ k) :
    ∃ ρ' vf' vw' ou S, Kept base ρ ρ' w w' W i j E F sz t1 t2 t3 vf vw ov vf' vw' ou nf n fs ws xs S := by
  obtain ⟨vf', vw', ou, hs, r1, r2, r3, b1, b2, b3, b4, hfr, hc⟩ := hl.ex
  have g1 : ∀ k, vf'.ownBlock = some k → k < w.heap.size → ρ k = some t1 := by
    intro k hk hkl
    rcases b1 k hk with q | q
    · exact hf.2 k q
    · omega
  have g2 : ∀ k, vw'.ownBlock = some k → k < w.heap.size → ρ k = some t2 := by
    intro k hk hkl
    rcases b2 k hk with q | q
    · exact hw.2 k q
    · omega
  have g3 : ∀ k, ou.ownBlock = some k → w.heap.size ≤ k := fun k hk => (b3 k hk).1
  have g4 : ∀ k, ov.ownBlock = some k → ρ k = none := fun k hk => (hon k hk).1
  have ob : ∀ k, ov.ownBlock = some k → k < w.heap.size := fun k hk => ho.lt hk
  have nof : ∀ k, vf'.ownBlock = some k → ov.ownBlock ≠ some k := by
    intro k hk e
    have := g1 k hk (ob k e)
    rw [g4 k e] at this; cases this
  have now : ∀ k, vw'.ownBlock = some k → ov.ownBlock ≠ some k := by
    intro k hk e
    have := g2 k hk (ob k e)
    rw [g4 k e] at this; cases this
  have nou : ∀ k, ou.ownBlock = some k → ov.ownBlock ≠ some k := by
    intro k hk e
    have := ob k e
    have := g3 k hk
    omega
  have tags : ∀ k ∈ W :: (vf.ownBlock.toList ++ vw.ownBlock.toList), ρ k = some .W ∨ ρ k = some t1 ∨ ρ k = some t2 := by
    intro k hk
    simp at hk
    rcases hk with rfl | hk | hk
    · exact .inl hW
    · exact .inr (.inl (hf.2 k hk))
    · exact .inr (.inr (hw.2 k hk))
  have lowV : ∀ (v : Value) (t : Tag), (∀ k, v.ownBlock = some k → k < w.heap.size → ρ k = some t) → ∀ k b, k < base → v.ownBlock = some b → b ≠ k := by
    rintro v t hv k b hk hvb rfl
    have := hv b hvb (by omega)
    rw [hlow b hk] at this; cases this
  refine ⟨updV (updV (updV (updV ρ vf' t1) vw' t2) ou .ro) ov t3, vf', vw', ou, W :: (vf.ownBlock.toList ++ vw.ownBlock.toList), ?_⟩
  refine ⟨ext4 g1 g2 g3 g4, ?_, ?_, hfr, tags, ⟨r1, ?_⟩, ⟨r2, ?_⟩, ⟨ho.keep hfr ?_, fun k hk => updV_self hk⟩, ⟨r3, ?_⟩, hc, ?_⟩
  · intro k hk
    refine updV_none (updV_none (updV_none (updV_none (hlow k hk) fun b hb' => lowV _ _ g1 k b hk hb') fun b hb' => lowV _ _ g2 k b hk hb') ?_) ?_
    · rintro b hb' rfl; have := g3 b hb'; omega
    · rintro b hb' rfl; have := (hon b hb').2; omega
  · intro k hk
    refine updV_none (updV_none (updV_none (updV_none (hlim k (by omega)) ?_) ?_) ?_) ?_
    · rintro b hb' rfl; have := r1.lt hb'; omega
    · rintro b hb' rfl; have := r2.lt hb'; omega
    · rintro b hb' rfl; have := r3.lt hb'; omega
    · rintro b hb' rfl; have := ob b hb'; omega
  · intro k hk
    rw [updV_other (nof k hk), updV_other (fun e => (b3 k e).2.1 hk), updV_other (b4 k hk), updV_self hk]
  · intro k hk
    rw [updV_other (now k hk), updV_other (fun e => (b3 k e).2.2 hk), updV_self hk]
  · intro k hk hm
    rcases tags k hm with q | q | q <;> (rw [g4 k hk] at q; cases q)
  · intro k hk
    rw [updV_other (nou k hk), updV_self hk]
  · intro k hk hne hn
    refine updV_none (updV_none (updV_none (updV_none hn ?_) ?_) ?_) ?_
    · rintro b hb' rfl; have := g1 b hb' hk; rw [hn] at this; cases this
    · rintro b hb' rfl; have := g2 b hb' hk; rw [hn] at this; cases this
    · rintro b hb' rfl; have := g3 b hb'; omega
    · rintro b hb' rfl; exact hne hb'
theorem getElem?_snoc {α : Type} {l : List α} {x y : α} {i : Nat} (h : (l ++ [x])[i]? = some y) : l[i]? = some y ∨ (i = l.length ∧ y = x) := by
  by_cases hi : i < l.length
  · rw [List.getElem?_append_left hi] at h; exact .inl h
  · rw [List.getElem?_append_right (by omega)] at h
    by_cases e : i = l.length
    · subst e; simp at h; exact .inr ⟨rfl, h.symm⟩
    · rw [List.getElem?_eq_none (by simp; omega)] at h; cases h

/-- Pages came out. -/
theorem wpages_walk {base : Nat} {ρ : Rho} {w : World} {W : Nat} {A : WA} {B : Nat} (h : WInv base ρ w W A B) (hB : B ≤ 200) (ov : Value) (l : List ByteArray)
    (hv : Strs w 9 ov l) (hn : l.length ≤ 4096) (hon : ∀ k, ov.ownBlock = some k → ρ k = none ∧ base ≤ k) :
    Calls Try.prog 29 #[.pointer (some ⟨W, 0, none⟩), ov] w fun e w' => e = .returned (.tuple #[]) ∧
      ∃ ρ' A', WInv base ρ' w' W A' (B + 1) ∧ A'.sides = A.sides ∧ Ext w ρ ρ' ∧ (∃ S, Fr S w w' ∧ Ours ρ S) ∧ (∀ k, k < w.heap.size → ov.ownBlock ≠ some k → ρ k = none → ρ' k = none) := by
  have bG := h.bG
  refine (pages_raw w W ov l A.vl A.vf A.vw A.vg A.vh A.vd A.ve A.vn A.free.length _ _ hv hn h.cW h.free.1 h.was.1 (by omega) ⟨fun e => ?_, fun e => ?_, fun k e1 e2 => ?_⟩ (fun k hk => ⟨?_, ?_, ?_⟩)).mono ?_
  · have := h.free.2 W e; rw [h.tW] at this; cases this
  · have := h.was.2 W e; rw [h.tW] at this; cases this
  · have := h.free.2 k e1; rw [h.was.2 k e2] at this; cases this
  · rintro rfl; have := (hon _ hk).1; rw [h.tW] at this; cases this
  · intro e; have := (hon _ hk).1; rw [h.free.2 k e] at this; cases this
  · intro e; have := (hon _ hk).1; rw [h.was.2 k e] at this; cases this
  rintro e w' ⟨rfl, hl⟩
  refine ⟨rfl, ?_⟩
  obtain ⟨ρ', vf', vw', ou, S, K⟩ := keptL_of (t3 := .sl (A.G + A.free.length)) hl h.tW h.W_lt h.base_le h.low h.lim h.free h.was hv hon
  have no : ∀ t, t ≠ .W → t ≠ .free → t ≠ .was → ∀ k ∈ S, ρ k ≠ some t := by
    intro t a1 a2 a3 k hk e
    rcases K.tags k hk with q | q | q <;> (rw [e] at q; have := Option.some.inj q; contradiction)
  refine ⟨ρ', { A with vf := vf', vw := vw', free := A.free ++ [(ov, l)], was := A.was ++ [ou] }, ?_, rfl, K.ext, ⟨S, K.fr, fun k hk => by rcases K.tags k hk with q | q | q <;> rw [q] <;> rfl⟩, K.stay⟩
  have hlen : (A.free ++ [(ov, l)]).length = A.free.length + 1 := by simp
  constructor
  · exact K.ext _ _ h.W_lt h.tW
  · exact K.cells _ _ h.cW
  · exact K.low
  · exact K.lim
  · exact h.sides.keep K.fr (no _ (by simp) (by simp) (by simp)) K.ext
  · exact h.five
  · exact fun i s hs => (h.dev i s hs).keep K.fr (fun k hk j => no _ (by simp) (by simp) (by simp) k hk) K.ext
  · have := K.one
    simp only [List.map_append, List.map_cons, List.map_nil, hlen]
    exact this
  · simp only [hlen]; exact K.two
  · intro i v l' hi
    rcases getElem?_snoc hi with q | ⟨rfl, q⟩
    · obtain ⟨r1, r2⟩ := h.lfree i v l' q
      exact ⟨r1.keep K.fr (no _ (by simp) (by simp) (by simp)) K.ext, r2⟩
    · injection q with q1 q2
      subst q1 q2
      exact ⟨K.own, hn⟩
  · intro i v l' u hi hu
    have hwl : A.was.length = A.free.length := by have := h.was.1.1; omega
    rcases getElem?_snoc hi with q | ⟨rfl, q⟩
    · rcases getElem?_snoc hu with r | ⟨e, r⟩
      · exact (h.lwas i v l' u q r).keep K.fr (no _ (by simp) (by simp) (by simp)) K.ext
      · have := (List.getElem?_eq_some_iff.1 q).1; omega
    · injection q with q1 q2
      subst q1 q2
      rcases getElem?_snoc hu with r | ⟨e, rfl⟩
      · have := (List.getElem?_eq_some_iff.1 r).1; omega
      · exact K.copy
  · exact h.wfree.keep K.fr (no _ (by simp) (by simp) (by simp)) K.ext
  · exact h.wwas.keep K.fr (no _ (by simp) (by simp) (by simp)) K.ext
  · exact fun i v l' hi => ⟨(h.lwfree i v l' hi).1.keep K.fr (no _ (by simp) (by simp) (by simp)) K.ext, (h.lwfree i v l' hi).2⟩
  · exact fun i v l' u hi hu => (h.lwwas i v l' u hi hu).keep K.fr (no _ (by simp) (by simp) (by simp)) K.ext
  · exact h.done.keep K.fr (no _ (by simp) (by simp) (by simp)) K.ext
  · exact h.dlen
  · exact fun j v n hi => ⟨(h.ldone j v n hi).1.keep K.fr (no _ (by simp) (by simp) (by simp)) K.ext, (h.ldone j v n hi).2⟩
  · exact h.wdone.keep K.fr (no _ (by simp) (by simp) (by simp)) K.ext
  · exact h.wdlen
  · exact fun j v n hi => ⟨(h.lwdone j v n hi).1.keep K.fr (no _ (by simp) (by simp) (by simp)) K.ext, (h.lwdone j v n hi).2⟩
  · obtain ⟨hs, hh⟩ := h.hand
    exact ⟨hs, hh.keep K.fr (no _ (by simp) (by simp) (by simp)) K.ext⟩
  · simp only [hlen]; omega
  · have := h.bH; simp only; omega

/-- Writes came out. -/
theorem wwrites_walk {base : Nat} {ρ : Rho} {w : World} {W : Nat} {A : WA} {B : Nat} (h : WInv base ρ w W A B) (hB : B ≤ 200) (ov : Value) (l : List (Nat × ByteArray))
    (hv : Writes w ov l) (hn : l.length ≤ 4096) (hon : ∀ k, ov.ownBlock = some k → ρ k = none ∧ base ≤ k) :
    Calls Try.prog 28 #[.pointer (some ⟨W, 0, none⟩), ov] w fun e w' => e = .returned (.tuple #[]) ∧
      ∃ ρ' A', WInv base ρ' w' W A' (B + 1) ∧ A'.sides = A.sides ∧ Ext w ρ ρ' ∧ (∃ S, Fr S w w' ∧ Ours ρ S) ∧ (∀ k, k < w.heap.size → ov.ownBlock ≠ some k → ρ k = none → ρ' k = none) := by
  have bH := h.bH
  refine (writes_raw w W ov l A.vl A.vf A.vw A.vg A.vh A.vd A.ve A.vn A.wfree.length _ _ hv hn h.cW h.wfree.1 h.wwas.1 (by omega) ⟨fun e => ?_, fun e => ?_, fun k e1 e2 => ?_⟩ (fun k hk => ⟨?_, ?_, ?_⟩)).mono ?_
  · have := h.wfree.2 W e; rw [h.tW] at this; cases this
  · have := h.wwas.2 W e; rw [h.tW] at this; cases this
  · have := h.wfree.2 k e1; rw [h.wwas.2 k e2] at this; cases this
  · rintro rfl; have := (hon _ hk).1; rw [h.tW] at this; cases this
  · intro e; have := (hon _ hk).1; rw [h.wfree.2 k e] at this; cases this
  · intro e; have := (hon _ hk).1; rw [h.wwas.2 k e] at this; cases this
  rintro e w' ⟨rfl, hl⟩
  refine ⟨rfl, ?_⟩
  obtain ⟨ρ', vf', vw', ou, S, K⟩ := keptL_of (t3 := .wl (A.H + A.wfree.length)) hl h.tW h.W_lt h.base_le h.low h.lim h.wfree h.wwas hv hon
  have no : ∀ t, t ≠ .W → t ≠ .wfree → t ≠ .wwas → ∀ k ∈ S, ρ k ≠ some t := by
    intro t a1 a2 a3 k hk e
    rcases K.tags k hk with q | q | q <;> (rw [e] at q; have := Option.some.inj q; contradiction)
  refine ⟨ρ', { A with vg := vf', vh := vw', wfree := A.wfree ++ [(ov, l)], wwas := A.wwas ++ [ou] }, ?_, rfl, K.ext, ⟨S, K.fr, fun k hk => by rcases K.tags k hk with q | q | q <;> rw [q] <;> rfl⟩, K.stay⟩
  have hlen : (A.wfree ++ [(ov, l)]).length = A.wfree.length + 1 := by simp
  constructor
  · exact K.ext _ _ h.W_lt h.tW
  · exact K.cells _ _ h.cW
  · exact K.low
  · exact K.lim
  · exact h.sides.keep K.fr (no _ (by simp) (by simp) (by simp)) K.ext
  · exact h.five
  · exact fun i s hs => (h.dev i s hs).keep K.fr (fun k hk j => no _ (by simp) (by simp) (by simp) k hk) K.ext
  · exact h.free.keep K.fr (no _ (by simp) (by simp) (by simp)) K.ext
  · exact h.was.keep K.fr (no _ (by simp) (by simp) (by simp)) K.ext
  · exact fun i v l' hi => ⟨(h.lfree i v l' hi).1.keep K.fr (no _ (by simp) (by simp) (by simp)) K.ext, (h.lfree i v l' hi).2⟩
  · exact fun i v l' u hi hu => (h.lwas i v l' u hi hu).keep K.fr (no _ (by simp) (by simp) (by simp)) K.ext
  · have := K.one
    simp only [List.map_append, List.map_cons, List.map_nil, hlen]
    exact this
  · simp only [hlen]; exact K.two
  · intro i v l' hi
    rcases getElem?_snoc hi with q | ⟨rfl, q⟩
    · obtain ⟨r1, r2⟩ := h.lwfree i v l' q
      exact ⟨r1.keep K.fr (no _ (by simp) (by simp) (by simp)) K.ext, r2⟩
    · injection q with q1 q2
      subst q1 q2
      exact ⟨K.own, hn⟩
  · intro i v l' u hi hu
    have hwl : A.wwas.length = A.wfree.length := by have := h.wwas.1.1; omega
    rcases getElem?_snoc hi with q | ⟨rfl, q⟩
    · rcases getElem?_snoc hu with r | ⟨e, r⟩
      · exact (h.lwwas i v l' u q r).keep K.fr (no _ (by simp) (by simp) (by simp)) K.ext
      · have := (List.getElem?_eq_some_iff.1 q).1; omega
    · injection q with q1 q2
      subst q1 q2
      rcases getElem?_snoc hu with r | ⟨e, rfl⟩
      · have := (List.getElem?_eq_some_iff.1 r).1; omega
      · exact K.copy
  · exact h.done.keep K.fr (no _ (by simp) (by simp) (by simp)) K.ext
  · exact h.dlen
  · exact fun j v n hi => ⟨(h.ldone j v n hi).1.keep K.fr (no _ (by simp) (by simp) (by simp)) K.ext, (h.ldone j v n hi).2⟩
  · exact h.wdone.keep K.fr (no _ (by simp) (by simp) (by simp)) K.ext
  · exact h.wdlen
  · exact fun j v n hi => ⟨(h.lwdone j v n hi).1.keep K.fr (no _ (by simp) (by simp) (by simp)) K.ext, (h.lwdone j v n hi).2⟩
  · obtain ⟨hs, hh⟩ := h.hand
    exact ⟨hs, hh.keep K.fr (no _ (by simp) (by simp) (by simp)) K.ext⟩
  · have := h.bG; simp only; omega
  · simp only [hlen]; omega
end Go.Proofs.Ytcpealfaaghpiaa
