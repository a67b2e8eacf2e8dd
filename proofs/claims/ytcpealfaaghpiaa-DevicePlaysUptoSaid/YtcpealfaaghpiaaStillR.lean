/-
  The law's still: from the invariant to the loops and back. Own work.
-/
import Derived.Test.YtcpealfaaghpiaaStillQ
namespace Go.Proofs.Ytcpealfaaghpiaa
open Go Go.RowKit Go.Maps Go.Sort Go.Shelf

/-- Blocks of some tags alone have turned. -/
def Only (P : Tag → Prop) (ρ : Rho) (w w' : World) : Prop := ∃ S, Fr S w w' ∧ ∀ x ∈ S, ∃ t, ρ x = some t ∧ P t
theorem Only.nil {P : Tag → Prop} {ρ : Rho} {w w' : World} (h : Fr [] w w') : Only P ρ w w' := ⟨[], h, fun x hx => by cases hx⟩
theorem Only.trans {P : Tag → Prop} {ρ : Rho} {a b c : World} (h : Only P ρ a b) (k : Only P ρ b c) : Only P ρ a c := by
  obtain ⟨S, h1, h2⟩ := h
  obtain ⟨T, k1, k2⟩ := k
  refine ⟨S ++ T, (h1.weak (fun x hx => by simp [hx])).trans (k1.weak (T := S ++ T) (fun x hx => by simp [hx])) (fun _ h => .inl h), fun x hx => ?_⟩
  rcases List.mem_append.1 hx with q | q
  · exact h2 x q
  · exact k2 x q
theorem Only.weak {P Q : Tag → Prop} {ρ : Rho} {a b : World} (h : Only P ρ a b) (hq : ∀ t, P t → Q t) : Only Q ρ a b := by
  obtain ⟨S, h1, h2⟩ := h
  exact ⟨S, h1, fun x hx => by obtain ⟨t, q, r⟩ := h2 x hx; exact ⟨t, q, hq t r⟩⟩
theorem Only.cell {P : Tag → Prop} {ρ : Rho} {w w' : World} (h : Only P ρ w w') {a : Addr} {v : Value} (hc : w.cell? a = some v) {t : Tag} (ht : ρ a.block = some t) (hp : ¬ P t) : w'.cell? a = some v := by
  obtain ⟨S, h1, h2⟩ := h
  refine h1.cell hc fun hm => ?_
  obtain ⟨t', q, r⟩ := h2 _ hm
  rw [ht] at q
  exact hp ((Option.some.inj q) ▸ r)
theorem Only.size {P : Tag → Prop} {ρ : Rho} {w w' : World} (h : Only P ρ w w') : w.heap.size ≤ w'.heap.size := by obtain ⟨S, h1, _⟩ := h; exact h1.size
theorem Only.row {P : Tag → Prop} {ρ : Rho} {w w' : World} (h : Only P ρ w w') {E : TypeId} {sz : Nat} {t : Tag} {v : Value} {n : Nat} {xs : List Value} (hr : TRow ρ w E sz t v n xs) (hp : ¬ P t) : TRow ρ w' E sz t v n xs := by
  obtain ⟨S, h1, h2⟩ := h
  refine hr.keep h1 (fun k hk e => ?_) (Ext.refl _ _)
  obtain ⟨t', q, r⟩ := h2 _ hk
  rw [e] at q
  exact hp ((Option.some.inj q) ▸ r)
def IsSl (G : Nat) (t : Tag) : Prop := ∃ i, t = .sl (G + i)
def IsWl (H : Nat) (t : Tag) : Prop := ∃ i, t = .wl (H + i)

def sitems (A : WA) : List (Value × Nat × List Value) := A.free.map fun p => (p.1, p.2.length, p.2.map Value.string)
def witems (A : WA) : List (Value × Nat × List Value) := A.wfree.map fun p => (p.1, p.2.length, wcells p.2)
def slens (A : WA) : List (Value × Nat) := A.free.map fun p => (p.1, p.2.length)
def wlens (A : WA) : List (Value × Nat) := A.wfree.map fun p => (p.1, p.2.length)
theorem sitems_at {A : WA} {i : Nat} {v : Value} {n : Nat} {xs : List Value} (h : (sitems A)[i]? = some (v, n, xs)) : ∃ l, A.free[i]? = some (v, l) ∧ n = l.length ∧ xs = l.map Value.string := by
  unfold sitems at h
  rw [List.getElem?_map] at h
  cases e : A.free[i]? with
  | none => rw [e] at h; cases h
  | some p => rw [e] at h; simp at h; obtain ⟨rfl, rfl, rfl⟩ := h; exact ⟨p.2, rfl, rfl, rfl⟩
theorem witems_at {A : WA} {i : Nat} {v : Value} {n : Nat} {xs : List Value} (h : (witems A)[i]? = some (v, n, xs)) : ∃ l, A.wfree[i]? = some (v, l) ∧ n = l.length ∧ xs = wcells l := by
  unfold witems at h
  rw [List.getElem?_map] at h
  cases e : A.wfree[i]? with
  | none => rw [e] at h; cases h
  | some p => rw [e] at h; simp at h; obtain ⟨rfl, rfl, rfl⟩ := h; exact ⟨p.2, rfl, rfl, rfl⟩
theorem sitems_of {A : WA} {i : Nat} {v : Value} {l : List ByteArray} (h : A.free[i]? = some (v, l)) : (sitems A)[i]? = some (v, l.length, l.map Value.string) := by
  unfold sitems; rw [List.getElem?_map, h]; rfl
theorem witems_of {A : WA} {i : Nat} {v : Value} {l : List (Nat × ByteArray)} (h : A.wfree[i]? = some (v, l)) : (witems A)[i]? = some (v, l.length, wcells l) := by
  unfold witems; rw [List.getElem?_map, h]; rfl
theorem smc_len (g : Nat) : (smc g).length = 1 := rfl
theorem wmc_len (g : Nat) : (wmc g).length = 2 := rfl

theorem smstage_start {base : Nat} {ρ : Rho} {w : World} {W : Nat} {A : WA} {B : Nat} (h : WInv base ρ w W A B) : MStage ρ w 9 1 .sl smc A.G (sitems A) 0 0 := by
  intro i v n xs hi
  obtain ⟨l, hl, rfl, rfl⟩ := sitems_at hi
  rw [if_neg (Nat.not_lt_zero i)]
  obtain ⟨h1, h2⟩ := h.lfree i v l hl
  split
  · rw [stg_zero]; exact ⟨h1, h2⟩
  · exact ⟨h1, h2⟩
theorem wmstage_start {base : Nat} {ρ : Rho} {w w' : World} {W : Nat} {A : WA} {B : Nat} (h : WInv base ρ w W A B) (hO : Only (IsSl A.G) ρ w w') : MStage ρ w' 58 2 .wl wmc A.H (witems A) 0 0 := by
  intro i v n xs hi
  obtain ⟨l, hl, rfl, rfl⟩ := witems_at hi
  rw [if_neg (Nat.not_lt_zero i)]
  obtain ⟨h1, h2⟩ := h.lwfree i v l hl
  have h1' := hO.row h1 (by rintro ⟨i, e⟩; cases e)
  split
  · rw [stg_zero]; exact ⟨h1', h2⟩
  · exact ⟨h1', h2⟩
theorem rep_one (n : Nat) (x : Value) : rep n [x] = List.replicate n x := by
  induction n with
  | zero => rfl
  | succ n ih => rw [rep_succ, ih, List.replicate_succ']
theorem WInv.core {base : Nat} {ρ : Rho} {w : World} {W : Nat} {A : WA} {B : Nat} (h : WInv base ρ w W A B) : Core base ρ w W A.vl A.vf A.vw A.vg A.vh A.vd A.ve A.vn A.sides A.hn :=
  ⟨h.tW, h.cW, h.low, h.lim, h.sides, h.five, h.dev, h.hand⟩
theorem PInv.of {base : Nat} {ρ : Rho} {w w' : World} {W : Nat} {A : WA} {B : Nat} (h : WInv base ρ w W A B) (hO : Only (fun t => IsSl A.G t ∨ IsWl A.H t) ρ w w') (hs : MStage ρ w' 9 1 .sl smc A.G (sitems A) A.free.length 0) (hw : MStage ρ w' 58 2 .wl wmc A.H (witems A) A.wfree.length 0) :
    PInv base ρ w ρ w' W A.vl A.vf A.vw A.vg A.vh A.vd A.ve A.vn A.sides A.hn (slens A) (wlens A) A.done A.wdone A.G A.H := by
  have row := fun {E sz t v n xs} (hr : TRow ρ w E sz t v n xs) (hp : ¬ (IsSl A.G t ∨ IsWl A.H t)) => hO.row hr hp
  have e1 : (slens A).map (·.1) = A.free.map (·.1) := by simp [slens]
  have e2 : (wlens A).map (·.1) = A.wfree.map (·.1) := by simp [wlens]
  have l1 : (slens A).length = A.free.length := by simp [slens]
  have l2 : (wlens A).length = A.wfree.length := by simp [wlens]
  obtain ⟨S, hf, hS⟩ := hO
  have hoff : ∀ x ∈ S, ∃ t, ρ x = some t ∧ OffCore t := fun x hx => by
    obtain ⟨t, q, r⟩ := hS x hx
    refine ⟨t, q, ?_⟩
    rcases r with ⟨i, rfl⟩ | ⟨i, rfl⟩ <;> exact ⟨by simp, by simp, by simp⟩
  have hW : W ∉ S := fun hm => by
    obtain ⟨t, q, r⟩ := hS W hm
    rw [h.tW] at q
    have := Option.some.inj q
    subst this
    rcases r with ⟨i, e⟩ | ⟨i, e⟩ <;> cases e
  have nt : ∀ t, (∀ i, t ≠ .sl i) → (∀ i, t ≠ .wl i) → ¬ (IsSl A.G t ∨ IsWl A.H t) := by
    rintro t a b (⟨i, e⟩ | ⟨i, e⟩)
    · exact a _ e
    · exact b _ e
  refine ⟨h.core.go hf hoff (Ext.refl _ _) h.low (fun k hk => h.lim k (Nat.le_trans hf.size hk)) (hf.keep h.cW hW), ⟨?_, ?_⟩, ⟨?_, ?_⟩, ⟨row h.done (nt _ (by simp) (by simp)), ?_⟩, ⟨row h.wdone (nt _ (by simp) (by simp)), ?_⟩, ⟨Ext.refl _ _, fun _ _ h => h, S, hf, fun x hx => by obtain ⟨t, q, _⟩ := hS x hx; rw [q]; rfl⟩⟩
  · rw [e1, l1]; exact row h.free (nt _ (by simp) (by simp))
  · intro i v n hi
    unfold slens at hi
    rw [List.getElem?_map] at hi
    cases e : A.free[i]? with
    | none => rw [e] at hi; cases hi
    | some p =>
      rw [e] at hi
      simp at hi
      obtain ⟨rfl, rfl⟩ := hi
      have := hs i p.1 p.2.length _ (sitems_of (v := p.1) (l := p.2) e)
      rw [if_pos (List.getElem?_eq_some_iff.1 e).1] at this
      exact this
  · rw [e2, l2]; exact row h.wfree (nt _ (by simp) (by simp))
  · intro i v n hi
    unfold wlens at hi
    rw [List.getElem?_map] at hi
    cases e : A.wfree[i]? with
    | none => rw [e] at hi; cases hi
    | some p =>
      rw [e] at hi
      simp at hi
      obtain ⟨rfl, rfl⟩ := hi
      have := hw i p.1 p.2.length _ (witems_of (v := p.1) (l := p.2) e)
      rw [if_pos (List.getElem?_eq_some_iff.1 e).1] at this
      exact this
  · intro j v n hi
    have hj := (List.getElem?_eq_some_iff.1 hi).1
    have hd := h.dlen
    obtain ⟨r1, r2⟩ := h.ldone j v n hi
    rw [smc, rep_one]
    refine ⟨row r1 ?_, r2⟩
    rintro (⟨i, e⟩ | ⟨i, e⟩)
    · have := sl_inj _ _ e; omega
    · cases e
  · intro j v n hi
    have hj := (List.getElem?_eq_some_iff.1 hi).1
    have hd := h.wdlen
    obtain ⟨r1, r2⟩ := h.lwdone j v n hi
    refine ⟨row r1 ?_, r2⟩
    rintro (⟨i, e⟩ | ⟨i, e⟩)
    · cases e
    · have := wl_inj _ _ e; omega

theorem smark_step {ρ : Rho} {w w2 : World} {A : WA} {k j : Nat} (h : MStage ρ w 9 1 .sl smc A.G (sitems A) k j) {v : Value} {l : List ByteArray} (hp : A.free[k]? = some (v, l)) (hj : j < l.length) {g : Nat} (hg : v.ownBlock = some g) (hf : Fr [] w w2) {m : ByteArray} (hm : markS (A.G + k) = m) :
    MStage ρ (w2.setCell ⟨g, j, none⟩ (.string m)) 9 1 .sl smc A.G (sitems A) k (j + 1) ∧ Only (IsSl A.G) ρ w (w2.setCell ⟨g, j, none⟩ (.string m)) := by
  subst hm
  obtain ⟨h1, h2, h3⟩ := h.step sl_inj smc_len (sitems_of hp) hj hg hf
  have e : w2.setCells g (j * 1) (smc (A.G + k)) = w2.setCell ⟨g, j, none⟩ (.string (markS (A.G + k))) := by rw [Nat.mul_one]; rfl
  rw [e] at h1 h2
  exact ⟨h1, [g], (hf.weak (by simp)).trans h2 (fun _ h => .inl h), fun x hx => by simp at hx; subst hx; exact ⟨_, h3, k, rfl⟩⟩
theorem wmark_step {ρ : Rho} {w w2 : World} {A : WA} {k j : Nat} (h : MStage ρ w 58 2 .wl wmc A.H (witems A) k j) {v : Value} {l : List (Nat × ByteArray)} (hp : A.wfree[k]? = some (v, l)) (hj : j < l.length) {g : Nat} (hg : v.ownBlock = some g) (hf : Fr [] w w2) {m : Int} (hm : -1 - ((A.H + k : Nat) : Int) = m) :
    MStage ρ ((w2.setCell ⟨g, j * 2, none⟩ (.int .i64 m)).setCell ⟨g, j * 2 + 1, none⟩ (.string ByteArray.empty)) 58 2 .wl wmc A.H (witems A) k (j + 1) ∧ Only (IsWl A.H) ρ w ((w2.setCell ⟨g, j * 2, none⟩ (.int .i64 m)).setCell ⟨g, j * 2 + 1, none⟩ (.string ByteArray.empty)) := by
  subst hm
  obtain ⟨h1, h2, h3⟩ := h.step wl_inj wmc_len (witems_of hp) hj hg hf
  have e : w2.setCells g (j * 2) (wmc (A.H + k)) = (w2.setCell ⟨g, j * 2, none⟩ (.int .i64 (-1 - ((A.H + k : Nat) : Int)))).setCell ⟨g, j * 2 + 1, none⟩ (.string ByteArray.empty) := rfl
  rw [e] at h1 h2
  exact ⟨h1, [g], (hf.weak (by simp)).trans h2 (fun _ h => .inl h), fun x hx => by simp at hx; subst hx; exact ⟨_, h3, k, rfl⟩⟩
theorem smark_next {ρ : Rho} {w : World} {A : WA} {k : Nat} {v : Value} {l : List ByteArray} (hp : A.free[k]? = some (v, l)) (h : MStage ρ w 9 1 .sl smc A.G (sitems A) k l.length) : MStage ρ w 9 1 .sl smc A.G (sitems A) (k + 1) 0 :=
  MStage.next (sitems_of hp) (by simp) h
theorem wmark_next {ρ : Rho} {w : World} {A : WA} {k : Nat} {v : Value} {l : List (Nat × ByteArray)} (hp : A.wfree[k]? = some (v, l)) (h : MStage ρ w 58 2 .wl wmc A.H (witems A) k l.length) : MStage ρ w 58 2 .wl wmc A.H (witems A) (k + 1) 0 :=
  MStage.next (witems_of hp) (by rw [wcells_len]) h
theorem smark_row {ρ : Rho} {w : World} {A : WA} {k j : Nat} (h : MStage ρ w 9 1 .sl smc A.G (sitems A) k j) {v : Value} {l : List ByteArray} (hp : A.free[k]? = some (v, l)) : ∃ xs, Row w 9 1 v l.length xs ∧ ∀ b, v.ownBlock = some b → ρ b = some (.sl (A.G + k)) := by
  have := (h k v _ _ (sitems_of hp)).1
  exact ⟨_, this.1, this.2⟩
theorem wmark_row {ρ : Rho} {w : World} {A : WA} {k j : Nat} (h : MStage ρ w 58 2 .wl wmc A.H (witems A) k j) {v : Value} {l : List (Nat × ByteArray)} (hp : A.wfree[k]? = some (v, l)) : ∃ xs, Row w 58 2 v l.length xs ∧ ∀ b, v.ownBlock = some b → ρ b = some (.wl (A.H + k)) := by
  have := (h k v _ _ (witems_of hp)).1
  exact ⟨_, this.1, this.2⟩

theorem PInv.back {base : Nat} {ρ0 : Rho} {w0 : World} {ρ : Rho} {w w' : World} {W : Nat} {vl vf vw vg vh vd ve vn : Value} {ss : List SideA} {hn : Nat} {fl wl D E : List (Value × Nat)} {G H B : Nat} (h : PInv base ρ0 w0 ρ w W vl vf vw vg vh vd ve vn ss hn fl wl D E G H)
    {nf nw : Nat} (hD : D.length = 12 * (G + nf)) (hE : E.length = 12 * (H + nw)) (hf : Fr [W] w w') (hc : w'.heap[W]? = some (.cells #[vl, .slice none 0 0, .slice none 0 0, .slice none 0 0, .slice none 0 0, vd, ve, vn] 30 (0, 0))) (bG : G + nf ≤ B) (bH : H + nw ≤ B) :
    WInv base ρ w' W { vl := vl, vf := .slice none 0 0, vw := .slice none 0 0, vg := .slice none 0 0, vh := .slice none 0 0, vd := vd, ve := ve, vn := vn, sides := ss, free := [], was := [], wfree := [], wwas := [], done := D, wdone := E, G := G + nf, H := H + nw, hn := hn } B ∧ Trk ρ0 w0 ρ w' := by
  have no : ∀ s, s ≠ .W → ∀ x ∈ [W], ρ x ≠ some s := fun s hs x hx e => by simp at hx; subst hx; rw [h.core.tW] at e; exact hs (Option.some.inj e).symm
  have hco := h.core.go (vf' := .slice none 0 0) (vw' := .slice none 0 0) (vg' := .slice none 0 0) (vh' := .slice none 0 0) (vd' := vd) (ve' := ve) hf (fun x hx => by simp at hx; subst hx; exact ⟨_, h.core.tW, by simp, by simp, by simp⟩) (Ext.refl _ _) h.core.low (fun k hk => h.core.lim k (Nat.le_trans hf.size hk)) hc
  have nil : ∀ {E : TypeId} {sz : Nat} {t : Tag}, TRow ρ w' E sz t (.slice none 0 0) 0 [] := fun {E sz t} => ⟨⟨by simp, .inl ⟨rfl, rfl⟩⟩, fun k hk => by simp [Value.ownBlock] at hk⟩
  have hg := h.grp.keep hf (fun x hx => ⟨no _ (by simp) x hx, fun i => no _ (by simp) x hx⟩) (Ext.refl _ _)
  have hwg := h.wgrp.keep hf (fun x hx => ⟨no _ (by simp) x hx, fun i => no _ (by simp) x hx⟩) (Ext.refl _ _)
  refine ⟨?_, h.trk.go hf (fun x hx => by simp at hx; subst hx; rw [h.core.tW]; rfl) (Ext.refl _ _) h.trk.back⟩
  constructor
  · exact hco.tW
  · exact hco.cW
  · exact hco.low
  · exact hco.lim
  · exact hco.sides
  · exact hco.five
  · exact hco.dev
  · exact nil
  · exact nil
  · intro i v l hi; simp at hi
  · intro i v l u hi; simp at hi
  · exact nil
  · exact nil
  · intro i v l hi; simp at hi
  · intro i v l u hi; simp at hi
  · exact hg.row
  · exact hD
  · intro j v n hj
    have := hg.each j v n hj
    rw [smc, rep_one] at this
    exact this
  · exact hwg.row
  · exact hE
  · exact fun j v n hj => hwg.each j v n hj
  · exact hco.hand
  · simpa using bG
  · simpa using bH
end Go.Proofs.Ytcpealfaaghpiaa
