/-
  The law's world: Load of pages that are lent. Own work.
-/
import Derived.Test.YtcpealfaaghpiaaLoads
namespace Go.Proofs.Ytcpealfaaghpiaa
open Go Go.RowKit Go.Maps Go.Sort Go.Shelf

/-- The tags of a new device. -/
def devTags (ρ : Rho) (i d p m x y b q : Nat) : Rho := upd (upd (upd (upd (upd (upd (upd ρ d (.dev i 0)) p (.dev i 1)) m (.dev i 2)) x (.dev i 3)) y (.dev i 4)) b (.dev i 5)) q (.dev i 6)
theorem upd_same (ρ : Rho) (k : Nat) (t : Tag) : upd ρ k t k = some t := by simp [upd]
theorem upd_ne {ρ : Rho} {k b : Nat} {t : Tag} (h : b ≠ k) : upd ρ k t b = ρ b := by unfold upd; rw [if_neg h]
theorem devTags_other {ρ : Rho} {i d p m x y b q k : Nat} (h : k ∉ [d, p, m, x, y, b, q]) : devTags ρ i d p m x y b q k = ρ k := by
  simp at h
  unfold devTags
  obtain ⟨h1, h2, h3, h4, h5, h6, h7⟩ := h
  rw [upd_ne h7, upd_ne h6, upd_ne h5, upd_ne h4, upd_ne h3, upd_ne h2, upd_ne h1]

theorem DevIs.apart' {w : World} {d p m : Nat} {D : DA} (h : DevIs w d p m D) : d ≠ p ∧ d ≠ m ∧ p ≠ m := by
  obtain ⟨n1, n2, n3⟩ := h.apart
  refine ⟨?_, ?_, ?_⟩ <;> omega

theorem fresh_side {ρ : Rho} {w : World} {i d p m x y b q : Nat} {l : List ByteArray} (hd : DevIs w d p m (DA.fresh l)) (hr : RefIs w x y b q (DA.fresh l)) (hdis : ∀ i ∈ [d, p, m], ∀ k ∈ [x, y, b, q], i ≠ k) :
    SideIs (devTags ρ i d p m x y b q) w i { d := d, p := p, m := m, x := x, l := y, b := b, q := q, D := DA.fresh l } := by
  obtain ⟨n1, n2, n3⟩ := hd.apart'
  obtain ⟨m1, m2, m3, m4, m5, m6⟩ := hr.apart
  have e := fun i hi k hk => hdis i hi k hk
  have e1 := e d (by simp) x (by simp)
  have e2 := e d (by simp) y (by simp)
  have e3 := e d (by simp) b (by simp)
  have e4 := e d (by simp) q (by simp)
  have e5 := e p (by simp) x (by simp)
  have e6 := e p (by simp) y (by simp)
  have e7 := e p (by simp) b (by simp)
  have e8 := e p (by simp) q (by simp)
  have e9 := e m (by simp) x (by simp)
  have e10 := e m (by simp) y (by simp)
  have e11 := e m (by simp) b (by simp)
  have e12 := e m (by simp) q (by simp)
  clear e
  refine ⟨hd, hr, ?_, ?_, ?_, ?_, ?_, ?_, ?_⟩ <;> unfold devTags <;> simp only
  · rw [upd_ne e4, upd_ne e3, upd_ne e2, upd_ne e1, upd_ne n2, upd_ne n1, upd_same]
  · rw [upd_ne e8, upd_ne e7, upd_ne e6, upd_ne e5, upd_ne n3, upd_same]
  · rw [upd_ne e12, upd_ne e11, upd_ne e10, upd_ne e9, upd_same]
  · rw [upd_ne m3, upd_ne m2, upd_ne m1, upd_same]
  · rw [upd_ne m6, upd_ne m4, upd_same]
  · rw [upd_ne m5, upd_same]
  · rw [upd_same]

/-- The sides and the hand turn; all else stays. -/
theorem WInv.turn {base : Nat} {ρ ρ' : Rho} {w w' : World} {W : Nat} {A : WA} {B : Nat} (h : WInv base ρ w W A B) {S : List Nat} (hf : Fr S w w') (he : Ext w ρ ρ')
    (no : ∀ t, t ≠ .W → t ≠ .hand → t ≠ .sides → (∀ i j, t ≠ .dev i j) → ∀ k ∈ S, ρ k ≠ some t) (vl' vn' : Value) (ss : List SideA) (hn' : Nat)
    (cW : w'.heap[W]? = some (.cells (WA.cells { A with vl := vl', vn := vn' }) 30 (0, 0))) (low : ∀ k, k < base → ρ' k = none) (lim : ∀ k, w'.heap.size ≤ k → ρ' k = none)
    (hs : TRow ρ' w' 40 2 .sides vl' ss.length (ss.flatMap SideA.cells)) (five : ss.length ≤ 5) (dev : ∀ i s, ss[i]? = some s → SideIs ρ' w' i s)
    (hand : ∃ hs, TRow ρ' w' 9 1 .hand vn' hn' hs) : WInv base ρ' w' W { A with vl := vl', vn := vn', sides := ss, hn := hn' } B := by
  constructor
  · exact he _ _ h.W_lt h.tW
  · exact cW
  · exact low
  · exact lim
  · exact hs
  · exact five
  · exact dev
  · exact h.free.keep hf (no _ (by simp) (by simp) (by simp) (by simp)) he
  · exact h.was.keep hf (no _ (by simp) (by simp) (by simp) (by simp)) he
  · exact fun i v l' hi => ⟨(h.lfree i v l' hi).1.keep hf (no _ (by simp) (by simp) (by simp) (by simp)) he, (h.lfree i v l' hi).2⟩
  · exact fun i v l' u hi hu => (h.lwas i v l' u hi hu).keep hf (no _ (by simp) (by simp) (by simp) (by simp)) he
  · exact h.wfree.keep hf (no _ (by simp) (by simp) (by simp) (by simp)) he
  · exact h.wwas.keep hf (no _ (by simp) (by simp) (by simp) (by simp)) he
  · exact fun i v l' hi => ⟨(h.lwfree i v l' hi).1.keep hf (no _ (by simp) (by simp) (by simp) (by simp)) he, (h.lwfree i v l' hi).2⟩
  · exact fun i v l' u hi hu => (h.lwwas i v l' u hi hu).keep hf (no _ (by simp) (by simp) (by simp) (by simp)) he
  · exact h.done.keep hf (no _ (by simp) (by simp) (by simp) (by simp)) he
  · exact h.dlen
  · exact fun j v n hi => ⟨(h.ldone j v n hi).1.keep hf (no _ (by simp) (by simp) (by simp) (by simp)) he, (h.ldone j v n hi).2⟩
  · exact h.wdone.keep hf (no _ (by simp) (by simp) (by simp) (by simp)) he
  · exact h.wdlen
  · exact fun j v n hi => ⟨(h.lwdone j v n hi).1.keep hf (no _ (by simp) (by simp) (by simp) (by simp)) he, (h.lwdone j v n hi).2⟩
  · exact hand
  · exact h.bG
  · exact h.bH

theorem loads_inv {base : Nat} {ρ : Rho} {w w' : World} {W : Nat} {A : WA} {B : Nat} (h : WInv base ρ w W A B) {l : List ByteArray}
    (hl : Loads w w' W A.vl A.vn A.sides.length (A.sides.flatMap SideA.cells) l) : ∃ ρ' A', WInv base ρ' w' W A' B ∧ Ext w ρ ρ' ∧ (∃ S, Fr S w w' ∧ Ours ρ S) := by
  obtain ⟨hc, hh⟩ := h.hand
  obtain ⟨vn', hn', hs', vl', hsz, r1, b1, b2, b3, hfr, hcW, hside⟩ := hl.ex
  have hbW := h.base_le
  have hWl := h.W_lt
  have tags : ∀ k ∈ W :: (A.vn.ownBlock.toList ++ A.vl.ownBlock.toList), ρ k = some .W ∨ ρ k = some .hand ∨ ρ k = some .sides := by
    intro k hk
    simp at hk
    rcases hk with rfl | hk | hk
    · exact .inl h.tW
    · exact .inr (.inl (hh.2 k hk))
    · exact .inr (.inr (h.sides.2 k hk))
  have no : ∀ t, t ≠ .W → t ≠ .hand → t ≠ .sides → ∀ k ∈ W :: (A.vn.ownBlock.toList ++ A.vl.ownBlock.toList), ρ k ≠ some t := by
    intro t a1 a2 a3 k hk e
    rcases tags k hk with q | q | q <;> (rw [e] at q; have := Option.some.inj q; contradiction)
  have ours : Ours ρ (W :: (A.vn.ownBlock.toList ++ A.vl.ownBlock.toList)) := fun k hk => by rcases tags k hk with q | q | q <;> rw [q] <;> rfl
  have g1 : ∀ k, vn'.ownBlock = some k → k < w.heap.size → ρ k = some .hand := by
    intro k hk hkl
    rcases b1 k hk with q | q
    · exact hh.2 k q
    · omega
  have g2 : ∀ k, vl'.ownBlock = some k → k < w.heap.size → ρ k = some .sides := by
    intro k hk hkl
    rcases b2 k hk with q | q
    · exact h.sides.2 k q
    · omega
  -- the two rows' tags
  obtain ⟨ρ1, hρ1⟩ : ∃ ρ1, ρ1 = updV (updV ρ vn' .hand) vl' .sides := ⟨_, rfl⟩
  have e1 : Ext w ρ ρ1 := by
    rw [hρ1]
    refine Ext.trans (Ext.updV fun k hk hkl => .inr (g1 k hk hkl)) (Nat.le_refl _) (Ext.updV fun k hk hkl => ?_)
    right
    rw [updV_other (fun e => b3 k e hk)]; exact g2 k hk hkl
  have t1 : ∀ k, vn'.ownBlock = some k → ρ1 k = some .hand := fun k hk => by rw [hρ1, updV_other (b3 k hk), updV_self hk]
  have t2 : ∀ k, vl'.ownBlock = some k → ρ1 k = some .sides := fun k hk => by rw [hρ1, updV_self hk]
  have low1 : ∀ k, k < base → ρ1 k = none := by
    intro k hk
    rw [hρ1]
    refine updV_none (updV_none (h.low k hk) ?_) ?_
    · rintro c hc' rfl; have := g1 c hc' (by omega); rw [h.low c hk] at this; cases this
    · rintro c hc' rfl; have := g2 c hc' (by omega); rw [h.low c hk] at this; cases this
  have oth : ∀ k, vn'.ownBlock ≠ some k → vl'.ownBlock ≠ some k → ρ1 k = ρ k := fun k a b => by rw [hρ1, updV_other b, updV_other a]
  have no' : ∀ t, t ≠ .W → t ≠ .hand → t ≠ .sides → (∀ i j, t ≠ .dev i j) → ∀ k ∈ W :: (A.vn.ownBlock.toList ++ A.vl.ownBlock.toList), ρ k ≠ some t := fun t a1 a2 a3 _ => no t a1 a2 a3
  have hcW' := hcW _ _ h.cW
  rcases hside with ⟨rfl, hrow⟩ | ⟨h5, d, p, m, x, y, b, q, hrow, hdev, href, hnew, hdis⟩
  · refine ⟨ρ1, _, h.turn hfr e1 no' A.vl vn' A.sides hn' hcW' low1 ?_ ⟨hrow, t2⟩ h.five (fun i s hs => (h.dev i s hs).keep hfr (fun k hk j => no _ (by simp) (by simp) (by simp) k hk) e1) ⟨hs', r1, t1⟩, e1, _, hfr, ours⟩
    intro k hk
    rw [hρ1]
    refine updV_none (updV_none (h.lim k (by omega)) ?_) ?_
    · rintro c hc' rfl; have := r1.lt hc'; omega
    · rintro c hc' rfl; have := hrow.lt hc'; omega
  · have hold : ∀ k, k < w.heap.size → k ∉ [d, p, m, x, y, b, q] := fun k hk hm => by have := (hnew k hm).1; omega
    have e2 : Ext w ρ (devTags ρ1 A.sides.length d p m x y b q) := fun k t hk ht => by rw [devTags_other (hold k hk)]; exact e1 k t hk ht
    refine ⟨devTags ρ1 A.sides.length d p m x y b q, _, h.turn hfr e2 no' vl' vn' (A.sides ++ [{ d := d, p := p, m := m, x := x, l := y, b := b, q := q, D := DA.fresh l }]) hn' hcW' ?_ ?_ ⟨?_, ?_⟩ ?_ ?_ ⟨hs', r1, ?_⟩, e2, _, hfr, ours⟩
    · intro k hk; rw [devTags_other (hold k (by omega))]; exact low1 k hk
    · intro k hk
      obtain ⟨l1, l2, l3⟩ := hdev.lt
      obtain ⟨l4, l5, l6, l7⟩ := href.lt
      rw [devTags_other (by simp; omega), hρ1]
      refine updV_none (updV_none (h.lim k (by omega)) ?_) ?_
      · rintro c hc' rfl; have := r1.lt hc'; omega
      · rintro c hc' rfl; have := hrow.lt hc'; omega
    · rw [List.length_append, List.flatMap_append]; exact hrow
    · intro k hk; rw [devTags_other (fun hm => (hnew k hm).2.2 hk)]; exact t2 k hk
    · rw [List.length_append]; simp; omega
    · intro i s hs
      rcases getElem?_snoc hs with q1 | ⟨rfl, rfl⟩
      · exact (h.dev i s q1).keep hfr (fun k hk j => no _ (by simp) (by simp) (by simp) k hk) e2
      · exact fresh_side hdev href hdis
    · intro k hk; rw [devTags_other (fun hm => (hnew k hm).2.1 hk)]; exact t1 k hk
/-- Pages are lent to Load. -/
theorem wloads_walk {base : Nat} {ρ : Rho} {w : World} {W : Nat} {A : WA} {B : Nat} (h : WInv base ρ w W A B) (lv : Value) (l : List ByteArray)
    (hv : Strs w 9 lv l) (hn : l.length ≤ 4096) (hon : ∀ k, lv.ownBlock = some k → ρ k = none) :
    Calls Try.prog 32 #[.pointer (some ⟨W, 0, none⟩), lv] w fun e w' => e = .returned (.bool true) ∧
      ∃ ρ' A', WInv base ρ' w' W A' B ∧ Ext w ρ ρ' ∧ (∃ S, Fr S w w' ∧ Ours ρ S) := by
  obtain ⟨hc, hh⟩ := h.hand
  refine (loads_in w w rfl W lv l A.vl A.vf A.vw A.vg A.vh A.vd A.ve A.vn A.sides.length A.hn _ hc hv hn h.cW h.sides.1 h.five hh.1 ⟨fun e => ?_, fun e => ?_, fun k e1 e2 => ?_⟩ (fun k hk => ⟨?_, ?_, ?_⟩)).mono ?_
  · have := hh.2 W e; rw [h.tW] at this; cases this
  · have := h.sides.2 W e; rw [h.tW] at this; cases this
  · have := hh.2 k e1; rw [h.sides.2 k e2] at this; cases this
  · rintro rfl; have := hon _ hk; rw [h.tW] at this; cases this
  · intro e; have := hon _ hk; rw [hh.2 k e] at this; cases this
  · intro e; have := hon _ hk; rw [h.sides.2 k e] at this; cases this
  rintro e w' ⟨rfl, hl⟩
  exact ⟨rfl, loads_inv h hl⟩
end Go.Proofs.Ytcpealfaaghpiaa
