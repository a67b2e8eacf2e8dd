/-
  The law's still: lists that are grown, and the whole of the world meanwhile (printed by wip/tools/genstill.py). Own work.
-/
import Derived.Test.YtcpealfaaghpiaaStillP
namespace Go.Proofs.Ytcpealfaaghpiaa
open Go Go.RowKit Go.Maps Go.Sort Go.Shelf

theorem updV_low {base : Nat} {ρ : Rho} {v : Value} {t : Tag} (h : ∀ k, k < base → ρ k = none) (hv : ∀ b, v.ownBlock = some b → base ≤ b) : ∀ k, k < base → updV ρ v t k = none :=
  fun k hk => updV_none (h k hk) fun b hb e => by have := hv b hb; omega
theorem updV_lim {n n' : Nat} {ρ : Rho} {v : Value} {t : Tag} (h : ∀ k, n ≤ k → ρ k = none) (hn : n ≤ n') (hv : ∀ b, v.ownBlock = some b → b < n') : ∀ k, n' ≤ k → updV ρ v t k = none :=
  fun k hk => updV_none (h k (by omega)) fun b hb e => by have := hv b hb; omega
theorem updV_back {n : Nat} {ρ0 ρ : Rho} {v : Value} {t : Tag} (h : ∀ x, x < n → ρ0 x = none → ρ x = none) (hv : ∀ b, v.ownBlock = some b → n ≤ b ∨ (ρ b).isSome = true) : ∀ x, x < n → ρ0 x = none → updV ρ v t x = none := by
  intro x hx h0
  refine updV_none (h x hx h0) fun b hb e => ?_
  subst e
  rcases hv b hb with q | q
  · omega
  · rw [h b hx h0] at q; cases q

section
variable {ρ ρ' : Rho} {w w' : World} {EE E : TypeId} {sz : Nat} {t td : Tag} {tg : Nat → Tag} {mc : Nat → List Value} {G : Nat} {vf vd : Value} {fl D : List (Value × Nat)}
/-- A row no longer than the one that is appended to stays, in the same block too. -/
theorem Row.keep_app {u v v' : Value} {n n' m : Nat} {xs ys news : List Value} (h : Row w E sz u n' ys) (happ : App w w' E sz v v' n m xs news) (hn : n' ≤ n) : Row w' E sz u n' ys := by
  by_cases hu : ∃ g, u.ownBlock = some g ∧ v.ownBlock = some g
  · obtain ⟨g, hu, hv⟩ := hu
    rcases h.2 with ⟨rfl, _⟩ | ⟨g', cap, cur, rfl, hc, h1, h2, h3, h4⟩
    · simp [Value.ownBlock] at hu
    · simp [Value.ownBlock] at hu
      subst hu
      obtain ⟨cur', e1, e2, e3⟩ := happ.old _ _ _ hv hc
      refine ⟨h.1, .inr ⟨g', cap, cur', rfl, e1, h1, h2, by rw [e2]; exact h3, ?_⟩⟩
      rw [← h4]
      apply List.ext_getElem?
      intro i
      rw [List.getElem?_take, List.getElem?_take]
      split
      · rename_i hi
        rw [Array.getElem?_toList, Array.getElem?_toList]
        rcases e3 i with q | ⟨c, _, hc2, _⟩
        · exact q
        · have : n' * sz ≤ n * sz := Nat.mul_le_mul_right _ hn
          omega
      · rfl
  · refine h.keep happ.fr fun k hk hm => hu ⟨k, hk, Option.mem_toList.1 hm⟩
theorem GSt.push {k j c : Nat} {v vd' : Value} {n : Nat} {o : Obj} (h : GSt ρ w EE E sz t td tg mc G vf fl k j c vd D v n) (happ : App (w.alloc o) w' EE 1 vd vd' D.length 1 (D.map (·.1)) [v])
    (d1 : td ≠ t) (d2 : ∀ i, td ≠ tg i) (hj : j < 12) (hc : c ≤ 4110) :
    GSt (updV ρ vd' td) w' EE E sz t td tg mc G vf fl k (j + 1) c vd' (D ++ [(v, n)]) v n ∧ Ext w ρ (updV ρ vd' td) ∧ Fr vd.ownBlock.toList w w' := by
  have hf : Fr vd.ownBlock.toList w w' := ((Fr.refl vd.ownBlock.toList w).alloc o).trans happ.fr (fun _ h => .inl h)
  have hS : ∀ x ∈ vd.ownBlock.toList, ρ x = some td := fun x hx => h.grp.row.2 x (Option.mem_toList.1 hx)
  have he : Ext w ρ (updV ρ vd' td) := by
    refine Ext.updV fun x hx hl => ?_
    rcases happ.blk x hx with q | q
    · exact .inr (h.grp.row.2 x q)
    · simp at q; omega
  have no : ∀ s, s ≠ td → ∀ x ∈ vd.ownBlock.toList, ρ x ≠ some s := fun s hs x hx e => by rw [hS x hx] at e; exact hs (Option.some.inj e).symm
  have hlen : (D ++ [(v, n)]).length = D.length + 1 := by simp
  have hcur := h.cur.keep hf (no _ (fun e => d2 _ e.symm)) he
  have hdl := h.dl
  have hdiv : D.length / 12 = G + k := by omega
  refine ⟨⟨h.lists.keep hf (fun x hx => ⟨no _ (fun e => d1 e.symm) x hx, fun i => no _ (fun e => d2 _ e.symm) x hx⟩) he, ⟨⟨?_, fun x hx => updV_self hx⟩, ?_⟩, by omega, hcur, ?_, h.fk, h.hn⟩, he, hf⟩
  · rw [hlen, List.map_append]; exact happ.row
  · intro i v' n' hi
    rcases getElem?_snoc hi with q | ⟨rfl, q⟩
    · exact ⟨(h.grp.each i v' n' q).1.keep hf (no _ (fun e => d2 _ e.symm)) he, (h.grp.each i v' n' q).2⟩
    · injection q with q1 q2
      subst q1 q2
      rw [hdiv]
      exact ⟨hcur, by have := h.hn; omega⟩
  · intro e v' n' hi hdv
    rcases getElem?_snoc hi with q | ⟨rfl, q⟩
    · exact h.low e v' n' q hdv
    · injection q with q1 q2
      subst q1 q2
      exact Nat.le_refl _
theorem GSt.grow {k j c : Nat} {v v' : Value} {n : Nat} {o : Obj} (h : GSt ρ w EE E sz t td tg mc G vf fl k j c vd D v n) (happ : App (w.alloc o) w' E sz v v' n 1 (rep n (mc (G + k))) (mc (G + k)))
    (d0 : ∀ i, t ≠ tg i) (d2 : ∀ i, td ≠ tg i) (hinj : ∀ a b, tg a = tg b → a = b) :
    GSt (updV ρ v' (tg (G + k))) w' EE E sz t td tg mc G vf fl k j (c + 1) vd D v' (n + 1) ∧ Ext w ρ (updV ρ v' (tg (G + k))) ∧ Fr v.ownBlock.toList w w' := by
  have hfa : Fr [] w (w.alloc o) := (Fr.refl [] w).alloc o
  have hf : Fr v.ownBlock.toList w w' := (hfa.weak (by simp)).trans happ.fr (fun _ h => .inl h)
  have hS : ∀ x ∈ v.ownBlock.toList, ρ x = some (tg (G + k)) := fun x hx => h.cur.2 x (Option.mem_toList.1 hx)
  have he : Ext w ρ (updV ρ v' (tg (G + k))) := by
    refine Ext.updV fun x hx hl => ?_
    rcases happ.blk x hx with q | q
    · exact .inr (h.cur.2 x q)
    · simp at q; omega
  have no : ∀ s, s ≠ tg (G + k) → ∀ x ∈ v.ownBlock.toList, ρ x ≠ some s := fun s hs x hx e => by rw [hS x hx] at e; exact hs (Option.some.inj e).symm
  have same : ∀ {u : Value} {n' : Nat} {ys : List Value}, TRow ρ w E sz (tg (G + k)) u n' ys → n' ≤ n → TRow (updV ρ v' (tg (G + k))) w' E sz (tg (G + k)) u n' ys := fun hr hn' =>
    ⟨(hr.1.keep_nil hfa).keep_app happ hn', fun x hx => he x _ (hr.1.lt hx) (hr.2 x hx)⟩
  have gen : ∀ {i : Nat} {u : Value} {n' : Nat} {ys : List Value}, TRow ρ w E sz (tg i) u n' ys → (i = G + k → n' ≤ n) → TRow (updV ρ v' (tg (G + k))) w' E sz (tg i) u n' ys := by
    intro i u n' ys hr hn'
    by_cases e : i = G + k
    · subst e; exact same hr (hn' rfl)
    · exact hr.keep hf (no _ (fun q => e (hinj _ _ q))) he
  refine ⟨⟨⟨h.lists.row.keep hf (no _ (d0 _)) he, fun i u n' hi => ⟨gen (h.lists.each i u n' hi).1 (fun e => ?_), (h.lists.each i u n' hi).2⟩⟩, ⟨h.grp.row.keep hf (no _ (d2 _)) he, fun i u n' hi => ⟨gen (h.grp.each i u n' hi).1 (fun e => h.low i u n' hi e), (h.grp.each i u n' hi).2⟩⟩,
    h.dl, ⟨?_, fun x hx => updV_self hx⟩, fun e u n' hi hd => Nat.le_succ_of_le (h.low e u n' hi hd), fun u n' hi => Nat.le_succ_of_le (h.fk u n' hi), by have := h.hn; omega⟩, he, hf⟩
  · have : i = k := by omega
    subst this; exact h.fk u n' hi
  · rw [rep_succ]; exact happ.row
end

/-- What the world holds besides the lists. -/
structure Core (base : Nat) (ρ : Rho) (w : World) (W : Nat) (vl vf vw vg vh vd ve vn : Value) (ss : List SideA) (hn : Nat) : Prop where
  tW : ρ W = some .W
  cW : w.heap[W]? = some (.cells #[vl, vf, vw, vg, vh, vd, ve, vn] 30 (0, 0))
  low : ∀ k, k < base → ρ k = none
  lim : ∀ k, w.heap.size ≤ k → ρ k = none
  sides : TRow ρ w 40 2 .sides vl ss.length (ss.flatMap SideA.cells)
  five : ss.length ≤ 5
  dev : ∀ i s, ss[i]? = some s → SideIs ρ w i s
  hand : ∃ hs, TRow ρ w 9 1 .hand vn hn hs
/-- A tag that the core does not bear. -/
def OffCore (t : Tag) : Prop := t ≠ .sides ∧ t ≠ .hand ∧ ∀ i j, t ≠ .dev i j
theorem Core.go {base : Nat} {ρ ρ' : Rho} {w w' : World} {W : Nat} {vl vf vw vg vh vd ve vn vf' vw' vg' vh' vd' ve' : Value} {ss : List SideA} {hn : Nat} (h : Core base ρ w W vl vf vw vg vh vd ve vn ss hn) {S : List Nat} (hf : Fr S w w')
    (hS : ∀ x ∈ S, ∃ t, ρ x = some t ∧ OffCore t) (he : Ext w ρ ρ') (low : ∀ k, k < base → ρ' k = none) (lim : ∀ k, w'.heap.size ≤ k → ρ' k = none) (cW : w'.heap[W]? = some (.cells #[vl, vf', vw', vg', vh', vd', ve', vn] 30 (0, 0))) :
    Core base ρ' w' W vl vf' vw' vg' vh' vd' ve' vn ss hn := by
  have no : ∀ s, ¬ OffCore s → ∀ x ∈ S, ρ x ≠ some s := fun s hs x hx e => by
    obtain ⟨t, q, o⟩ := hS x hx
    rw [e] at q; exact hs ((Option.some.inj q) ▸ o)
  exact ⟨he _ _ (lt_of_heap h.cW) h.tW, cW, low, lim, h.sides.keep hf (no _ (fun o => o.1 rfl)) he, h.five, fun i s hs => (h.dev i s hs).keep hf (fun x hx j => no _ (fun o => o.2.2 i j rfl) x hx) he,
    h.hand.imp fun hs hh => hh.keep hf (no _ (fun o => o.2.1 rfl)) he⟩
theorem Core.base_le {base : Nat} {ρ : Rho} {w : World} {W : Nat} {vl vf vw vg vh vd ve vn : Value} {ss : List SideA} {hn : Nat} (h : Core base ρ w W vl vf vw vg vh vd ve vn ss hn) {k : Nat} {t : Tag} (hk : ρ k = some t) : base ≤ k := by
  rcases Nat.lt_or_ge k base with q | q
  · rw [h.low k q] at hk; cases hk
  · exact q
/-- What has turned since the start. -/
structure Trk (ρ0 : Rho) (w0 : World) (ρ : Rho) (w : World) : Prop where
  ext : Ext w0 ρ0 ρ
  back : ∀ x, x < w0.heap.size → ρ0 x = none → ρ x = none
  fr : ∃ S, Fr S w0 w ∧ Ours ρ0 S
theorem Trk.refl (ρ : Rho) (w : World) : Trk ρ w ρ w := ⟨Ext.refl _ _, fun _ _ h => h, [], Fr.refl _ _, fun x hx => by cases hx⟩
theorem Trk.go {ρ0 ρ ρ' : Rho} {w0 w w' : World} (h : Trk ρ0 w0 ρ w) {S : List Nat} (hf : Fr S w w') (hS : ∀ x ∈ S, (ρ x).isSome = true) (he : Ext w ρ ρ') (hb : ∀ x, x < w0.heap.size → ρ0 x = none → ρ' x = none) : Trk ρ0 w0 ρ' w' := by
  obtain ⟨T, hT, oT⟩ := h.fr
  refine ⟨h.ext.trans hT.size he, hb, (T ++ S).filter (fun k => (ρ0 k).isSome), ?_, fun k hk => (List.mem_filter.1 hk).2⟩
  refine ((hT.weak (T := T ++ S) (fun x hx => by simp [hx])).trans (hf.weak (T := T ++ S) (fun x hx => by simp [hx])) (fun _ h => .inl h)).mono fun x hx => ?_
  by_cases hx1 : w0.heap.size ≤ x
  · exact .inr hx1
  · refine .inl (List.mem_filter.2 ⟨hx, ?_⟩)
    rcases List.mem_append.1 hx with q | q
    · exact oT x q
    · have := hS x q
      cases hr : ρ0 x with
      | some t => rfl
      | none => rw [h.back x (by omega) hr] at this; cases this
theorem Trk.nil {ρ0 ρ : Rho} {w0 w w' : World} (h : Trk ρ0 w0 ρ w) (hf : Fr [] w w') : Trk ρ0 w0 ρ w' := h.go hf (fun x hx => by cases hx) (Ext.refl _ _) h.back

def smc (g : Nat) : List Value := [.string (markS g)]
def wmc (g : Nat) : List Value := [.int .i64 (-1 - (g : Int)), .string ByteArray.empty]
theorem sl_inj : ∀ a b, Tag.sl a = Tag.sl b → a = b := fun a b h => by injection h
theorem wl_inj : ∀ a b, Tag.wl a = Tag.wl b → a = b := fun a b h => by injection h
abbrev SLists (ρ : Rho) (w : World) (G : Nat) (vf : Value) (fl : List (Value × Nat)) : Prop := Lists ρ w 28 9 1 .free .sl smc G vf fl
abbrev WLists (ρ : Rho) (w : World) (G : Nat) (vf : Value) (fl : List (Value × Nat)) : Prop := Lists ρ w 43 58 2 .wfree .wl wmc G vf fl
abbrev SGrp (ρ : Rho) (w : World) (vd : Value) (D : List (Value × Nat)) : Prop := Grp ρ w 28 9 1 .done .sl smc vd D
abbrev WGrp (ρ : Rho) (w : World) (vd : Value) (D : List (Value × Nat)) : Prop := Grp ρ w 43 58 2 .wdone .wl wmc vd D
abbrev SGSt (ρ : Rho) (w : World) (G : Nat) (vf : Value) (fl : List (Value × Nat)) (k j c : Nat) (vd : Value) (D : List (Value × Nat)) (v : Value) (n : Nat) : Prop := GSt ρ w 28 9 1 .free .done .sl smc G vf fl k j c vd D v n
abbrev WGSt (ρ : Rho) (w : World) (G : Nat) (vf : Value) (fl : List (Value × Nat)) (k j c : Nat) (vd : Value) (D : List (Value × Nat)) (v : Value) (n : Nat) : Prop := GSt ρ w 43 58 2 .wfree .wdone .wl wmc G vf fl k j c vd D v n

/-- Between the loops: all that came out is marked. -/
structure PInv (base : Nat) (ρ0 : Rho) (w0 : World) (ρ : Rho) (w : World) (W : Nat) (vl vf vw vg vh vd ve vn : Value) (ss : List SideA) (hn : Nat) (fl wl D E : List (Value × Nat)) (G H : Nat) : Prop where
  core : Core base ρ w W vl vf vw vg vh vd ve vn ss hn
  lists : SLists ρ w G vf fl
  wlists : WLists ρ w H vg wl
  grp : SGrp ρ w vd D
  wgrp : WGrp ρ w ve E
  trk : Trk ρ0 w0 ρ w

/-- While one of the lists is grown. -/
structure GInvS (base : Nat) (ρ0 : Rho) (w0 : World) (ρ : Rho) (w : World) (W : Nat) (vl vf vw vg vh vd ve vn : Value) (ss : List SideA) (hn : Nat) (fl wl D E : List (Value × Nat)) (G H : Nat) (k j c : Nat) (v : Value) (n : Nat) : Prop where
  core : Core base ρ w W vl vf vw vg vh vd ve vn ss hn
  gst : SGSt ρ w G vf fl k j c vd D v n
  olists : WLists ρ w H vg wl
  ogrp : WGrp ρ w ve E
  trk : Trk ρ0 w0 ρ w
section
variable {base : Nat} {ρ0 : Rho} {w0 : World} {ρ : Rho} {w w1 w' : World} {W : Nat} {vl vf vw vg vh vd ve vn : Value} {ss : List SideA} {hn : Nat} {fl wl D E : List (Value × Nat)} {G H k j c : Nat} {v : Value} {n : Nat}
theorem GInvS.nil (h : GInvS base ρ0 w0 ρ w W vl vf vw vg vh vd ve vn ss hn fl wl D E G H k j c v n) (hf : Fr [] w w') : GInvS base ρ0 w0 ρ w' W vl vf vw vg vh vd ve vn ss hn fl wl D E G H k j c v n :=
  ⟨h.core.go hf (fun x hx => by cases hx) (Ext.refl _ _) h.core.low (fun x hx => h.core.lim x (Nat.le_trans hf.size hx)) (hf.keep h.core.cW (by simp)), h.gst.keep hf (fun x hx => by cases hx) (Ext.refl _ _), h.olists.keep hf (fun x hx => by cases hx) (Ext.refl _ _), h.ogrp.keep hf (fun x hx => by cases hx) (Ext.refl _ _), h.trk.nil hf⟩
theorem GInvS.push {o : Obj} {vd' : Value} (h : GInvS base ρ0 w0 ρ w W vl vf vw vg vh vd ve vn ss hn fl wl D E G H k j c v n) (happ : App (w.alloc o) w1 28 1 vd vd' D.length 1 (D.map (·.1)) [v]) (hj : j < 12) (hc : c ≤ 4110) :
    ∃ ρ', GInvS base ρ0 w0 ρ' (w1.setCell ⟨W, 5, none⟩ vd') W vl vf vw vg vh vd' ve vn ss hn fl wl (D ++ [(v, n)]) E G H k (j + 1) c v n := by
  obtain ⟨hg, he, hf⟩ := h.gst.push happ (by simp) (by simp) hj hc
  have hvd : ∀ x ∈ vd.ownBlock.toList, ρ x = some .done := fun x hx => h.gst.grp.row.2 x (Option.mem_toList.1 hx)
  have hW : W ∉ vd.ownBlock.toList := fun hm => by have := hvd W hm; rw [h.core.tW] at this; cases this
  have hWl : W < w.heap.size := lt_of_heap h.core.cW
  have hf2 : Fr [W] w1 (w1.setCell ⟨W, 5, none⟩ vd') := (Fr.refl _ _).setCell (.inl (by simp)) _
  have hf3 : Fr (W :: vd.ownBlock.toList) w (w1.setCell ⟨W, 5, none⟩ vd') := (hf.weak (T := W :: vd.ownBlock.toList) (fun x hx => by simp [hx])).trans (hf2.weak (T := W :: vd.ownBlock.toList) (by simp)) (fun _ h => .inl h)
  have hnew : ∀ b, vd'.ownBlock = some b → ρ b = some .done ∨ w.heap.size ≤ b := fun b hb => by
    rcases happ.blk b hb with q | q
    · exact .inl (h.gst.grp.row.2 b q)
    · simp at q; exact .inr (by omega)
  have hW' : updV ρ vd' .done W = some .W := he _ _ hWl h.core.tW
  have hbW : base ≤ W := h.core.base_le h.core.tW
  have hsz : (w1.setCell ⟨W, 5, none⟩ vd').heap.size = w1.heap.size := by simp
  have t1 : ∀ x ∈ W :: vd.ownBlock.toList, ∃ t, ρ x = some t ∧ (t = .W ∨ t = .done) := fun x hx => by
    simp only [List.mem_cons] at hx
    rcases hx with rfl | hx
    · exact ⟨_, h.core.tW, .inl rfl⟩
    · exact ⟨_, hvd x hx, .inr rfl⟩
  have off : ∀ s, s ≠ .W → s ≠ .done → ∀ x ∈ W :: vd.ownBlock.toList, ρ x ≠ some s := fun s a b x hx e => by
    obtain ⟨t, q, r⟩ := t1 x hx
    rw [e] at q
    have := Option.some.inj q
    subst this
    rcases r with r | r <;> contradiction
  refine ⟨updV ρ vd' .done, ⟨h.core.go hf3 (fun x hx => ?_) he (updV_low h.core.low (fun b hb => ?_)) (updV_lim h.core.lim (by rw [hsz]; exact hf.size) (fun b hb => by rw [hsz]; exact happ.row.lt hb)) ?_,
    hg.keep hf2 (fun x hx => ?_) (Ext.refl _ _), h.olists.keep hf3 (fun x hx => ⟨off _ (by simp) (by simp) x hx, fun i => off _ (by simp) (by simp) x hx⟩) he, h.ogrp.keep hf3 (fun x hx => ⟨off _ (by simp) (by simp) x hx, fun i => off _ (by simp) (by simp) x hx⟩) he,
    h.trk.go hf3 (fun x hx => by obtain ⟨t, q, _⟩ := t1 x hx; rw [q]; rfl) he (updV_back h.trk.back (fun b hb => ?_))⟩⟩
  · obtain ⟨t, q, r⟩ := t1 x hx
    refine ⟨t, q, ?_⟩
    rcases r with rfl | rfl <;> exact ⟨by simp, by simp, by simp⟩
  · rcases hnew b hb with q | q
    · exact h.core.base_le q
    · omega
  · rw [heap_setCell_same _ _ _ _ _ _ (hf.keep h.core.cW hW)]; rfl
  · simp at hx
    subst hx
    rw [hW']
    exact ⟨by simp, by simp, by simp⟩
  · rcases hnew b hb with q | q
    · exact .inr (by rw [q]; rfl)
    · obtain ⟨S, hS, _⟩ := h.trk.fr
      exact .inl (Nat.le_trans hS.size q)
theorem GInvS.grow {o : Obj} {v' : Value} (h : GInvS base ρ0 w0 ρ w W vl vf vw vg vh vd ve vn ss hn fl wl D E G H k j c v n) (happ : App (w.alloc o) w1 9 1 v v' n 1 (rep n (smc (G + k))) (smc (G + k))) :
    ∃ ρ', GInvS base ρ0 w0 ρ' w1 W vl vf vw vg vh vd ve vn ss hn fl wl D E G H k j (c + 1) v' (n + 1) := by
  obtain ⟨hg, he, hf⟩ := h.gst.grow happ (by simp) (by simp) sl_inj
  have hS : ∀ x ∈ v.ownBlock.toList, ρ x = some (Tag.sl (G + k)) := fun x hx => h.gst.cur.2 x (Option.mem_toList.1 hx)
  have off : ∀ s, s ≠ Tag.sl (G + k) → ∀ x ∈ v.ownBlock.toList, ρ x ≠ some s := fun s hs x hx e => by rw [hS x hx] at e; exact hs (Option.some.inj e).symm
  have hnew : ∀ b, v'.ownBlock = some b → ρ b = some (Tag.sl (G + k)) ∨ w.heap.size ≤ b := fun b hb => by
    rcases happ.blk b hb with q | q
    · exact .inl (h.gst.cur.2 b q)
    · simp at q; exact .inr (by omega)
  have hbW : base ≤ W := h.core.base_le h.core.tW
  have hWl : W < w.heap.size := lt_of_heap h.core.cW
  refine ⟨updV ρ v' (Tag.sl (G + k)), ⟨h.core.go hf (fun x hx => ⟨_, hS x hx, by simp, by simp, by simp⟩) he (updV_low h.core.low (fun b hb => ?_)) (updV_lim h.core.lim hf.size (fun b hb => happ.row.lt hb)) (hf.keep h.core.cW (fun hm => off _ (by simp) W hm h.core.tW)),
    hg, h.olists.keep hf (fun x hx => ⟨off _ (by simp) x hx, fun i => off _ (by simp) x hx⟩) he, h.ogrp.keep hf (fun x hx => ⟨off _ (by simp) x hx, fun i => off _ (by simp) x hx⟩) he,
    h.trk.go hf (fun x hx => by rw [hS x hx]; rfl) he (updV_back h.trk.back (fun b hb => ?_))⟩⟩
  · rcases hnew b hb with q | q
    · exact h.core.base_le q
    · omega
  · rcases hnew b hb with q | q
    · exact .inr (by rw [q]; rfl)
    · obtain ⟨S, hS, _⟩ := h.trk.fr
      exact .inl (Nat.le_trans hS.size q)
theorem PInv.startS (h : PInv base ρ0 w0 ρ w W vl vf vw vg vh vd ve vn ss hn fl wl D E G H) (hd : D.length = 12 * (G + k)) (hk : fl[k]? = some (v, n)) : GInvS base ρ0 w0 ρ w W vl vf vw vg vh vd ve vn ss hn fl wl D E G H k 0 4096 v n :=
  ⟨h.core, GSt.start h.lists h.grp hd hk, h.wlists, h.wgrp, h.trk⟩
theorem GInvS.stop (h : GInvS base ρ0 w0 ρ w W vl vf vw vg vh vd ve vn ss hn fl wl D E G H k 12 c v n) : PInv base ρ0 w0 ρ w W vl vf vw vg vh vd ve vn ss hn fl wl D E G H ∧ D.length = 12 * (G + (k + 1)) :=
  ⟨⟨h.core, h.gst.lists, h.olists, h.gst.grp, h.ogrp, h.trk⟩, by have := h.gst.dl; omega⟩
end

/-- While one of the lists is grown. -/
structure GInvW (base : Nat) (ρ0 : Rho) (w0 : World) (ρ : Rho) (w : World) (W : Nat) (vl vf vw vg vh vd ve vn : Value) (ss : List SideA) (hn : Nat) (fl wl D E : List (Value × Nat)) (G H : Nat) (k j c : Nat) (v : Value) (n : Nat) : Prop where
  core : Core base ρ w W vl vf vw vg vh vd ve vn ss hn
  gst : WGSt ρ w H vg wl k j c ve E v n
  olists : SLists ρ w G vf fl
  ogrp : SGrp ρ w vd D
  trk : Trk ρ0 w0 ρ w
section
variable {base : Nat} {ρ0 : Rho} {w0 : World} {ρ : Rho} {w w1 w' : World} {W : Nat} {vl vf vw vg vh vd ve vn : Value} {ss : List SideA} {hn : Nat} {fl wl D E : List (Value × Nat)} {G H k j c : Nat} {v : Value} {n : Nat}
theorem GInvW.nil (h : GInvW base ρ0 w0 ρ w W vl vf vw vg vh vd ve vn ss hn fl wl D E G H k j c v n) (hf : Fr [] w w') : GInvW base ρ0 w0 ρ w' W vl vf vw vg vh vd ve vn ss hn fl wl D E G H k j c v n :=
  ⟨h.core.go hf (fun x hx => by cases hx) (Ext.refl _ _) h.core.low (fun x hx => h.core.lim x (Nat.le_trans hf.size hx)) (hf.keep h.core.cW (by simp)), h.gst.keep hf (fun x hx => by cases hx) (Ext.refl _ _), h.olists.keep hf (fun x hx => by cases hx) (Ext.refl _ _), h.ogrp.keep hf (fun x hx => by cases hx) (Ext.refl _ _), h.trk.nil hf⟩
theorem GInvW.push {o : Obj} {ve' : Value} (h : GInvW base ρ0 w0 ρ w W vl vf vw vg vh vd ve vn ss hn fl wl D E G H k j c v n) (happ : App (w.alloc o) w1 43 1 ve ve' E.length 1 (E.map (·.1)) [v]) (hj : j < 12) (hc : c ≤ 4110) :
    ∃ ρ', GInvW base ρ0 w0 ρ' (w1.setCell ⟨W, 6, none⟩ ve') W vl vf vw vg vh vd ve' vn ss hn fl wl D (E ++ [(v, n)]) G H k (j + 1) c v n := by
  obtain ⟨hg, he, hf⟩ := h.gst.push happ (by simp) (by simp) hj hc
  have hvd : ∀ x ∈ ve.ownBlock.toList, ρ x = some .wdone := fun x hx => h.gst.grp.row.2 x (Option.mem_toList.1 hx)
  have hW : W ∉ ve.ownBlock.toList := fun hm => by have := hvd W hm; rw [h.core.tW] at this; cases this
  have hWl : W < w.heap.size := lt_of_heap h.core.cW
  have hf2 : Fr [W] w1 (w1.setCell ⟨W, 6, none⟩ ve') := (Fr.refl _ _).setCell (.inl (by simp)) _
  have hf3 : Fr (W :: ve.ownBlock.toList) w (w1.setCell ⟨W, 6, none⟩ ve') := (hf.weak (T := W :: ve.ownBlock.toList) (fun x hx => by simp [hx])).trans (hf2.weak (T := W :: ve.ownBlock.toList) (by simp)) (fun _ h => .inl h)
  have hnew : ∀ b, ve'.ownBlock = some b → ρ b = some .wdone ∨ w.heap.size ≤ b := fun b hb => by
    rcases happ.blk b hb with q | q
    · exact .inl (h.gst.grp.row.2 b q)
    · simp at q; exact .inr (by omega)
  have hW' : updV ρ ve' .wdone W = some .W := he _ _ hWl h.core.tW
  have hbW : base ≤ W := h.core.base_le h.core.tW
  have hsz : (w1.setCell ⟨W, 6, none⟩ ve').heap.size = w1.heap.size := by simp
  have t1 : ∀ x ∈ W :: ve.ownBlock.toList, ∃ t, ρ x = some t ∧ (t = .W ∨ t = .wdone) := fun x hx => by
    simp only [List.mem_cons] at hx
    rcases hx with rfl | hx
    · exact ⟨_, h.core.tW, .inl rfl⟩
    · exact ⟨_, hvd x hx, .inr rfl⟩
  have off : ∀ s, s ≠ .W → s ≠ .wdone → ∀ x ∈ W :: ve.ownBlock.toList, ρ x ≠ some s := fun s a b x hx e => by
    obtain ⟨t, q, r⟩ := t1 x hx
    rw [e] at q
    have := Option.some.inj q
    subst this
    rcases r with r | r <;> contradiction
  refine ⟨updV ρ ve' .wdone, ⟨h.core.go hf3 (fun x hx => ?_) he (updV_low h.core.low (fun b hb => ?_)) (updV_lim h.core.lim (by rw [hsz]; exact hf.size) (fun b hb => by rw [hsz]; exact happ.row.lt hb)) ?_,
    hg.keep hf2 (fun x hx => ?_) (Ext.refl _ _), h.olists.keep hf3 (fun x hx => ⟨off _ (by simp) (by simp) x hx, fun i => off _ (by simp) (by simp) x hx⟩) he, h.ogrp.keep hf3 (fun x hx => ⟨off _ (by simp) (by simp) x hx, fun i => off _ (by simp) (by simp) x hx⟩) he,
    h.trk.go hf3 (fun x hx => by obtain ⟨t, q, _⟩ := t1 x hx; rw [q]; rfl) he (updV_back h.trk.back (fun b hb => ?_))⟩⟩
  · obtain ⟨t, q, r⟩ := t1 x hx
    refine ⟨t, q, ?_⟩
    rcases r with rfl | rfl <;> exact ⟨by simp, by simp, by simp⟩
  · rcases hnew b hb with q | q
    · exact h.core.base_le q
    · omega
  · rw [heap_setCell_same _ _ _ _ _ _ (hf.keep h.core.cW hW)]; rfl
  · simp at hx
    subst hx
    rw [hW']
    exact ⟨by simp, by simp, by simp⟩
  · rcases hnew b hb with q | q
    · exact .inr (by rw [q]; rfl)
    · obtain ⟨S, hS, _⟩ := h.trk.fr
      exact .inl (Nat.le_trans hS.size q)
theorem GInvW.grow {o : Obj} {v' : Value} (h : GInvW base ρ0 w0 ρ w W vl vf vw vg vh vd ve vn ss hn fl wl D E G H k j c v n) (happ : App (w.alloc o) w1 58 2 v v' n 1 (rep n (wmc (H + k))) (wmc (H + k))) :
    ∃ ρ', GInvW base ρ0 w0 ρ' w1 W vl vf vw vg vh vd ve vn ss hn fl wl D E G H k j (c + 1) v' (n + 1) := by
  obtain ⟨hg, he, hf⟩ := h.gst.grow happ (by simp) (by simp) wl_inj
  have hS : ∀ x ∈ v.ownBlock.toList, ρ x = some (Tag.wl (H + k)) := fun x hx => h.gst.cur.2 x (Option.mem_toList.1 hx)
  have off : ∀ s, s ≠ Tag.wl (H + k) → ∀ x ∈ v.ownBlock.toList, ρ x ≠ some s := fun s hs x hx e => by rw [hS x hx] at e; exact hs (Option.some.inj e).symm
  have hnew : ∀ b, v'.ownBlock = some b → ρ b = some (Tag.wl (H + k)) ∨ w.heap.size ≤ b := fun b hb => by
    rcases happ.blk b hb with q | q
    · exact .inl (h.gst.cur.2 b q)
    · simp at q; exact .inr (by omega)
  have hbW : base ≤ W := h.core.base_le h.core.tW
  have hWl : W < w.heap.size := lt_of_heap h.core.cW
  refine ⟨updV ρ v' (Tag.wl (H + k)), ⟨h.core.go hf (fun x hx => ⟨_, hS x hx, by simp, by simp, by simp⟩) he (updV_low h.core.low (fun b hb => ?_)) (updV_lim h.core.lim hf.size (fun b hb => happ.row.lt hb)) (hf.keep h.core.cW (fun hm => off _ (by simp) W hm h.core.tW)),
    hg, h.olists.keep hf (fun x hx => ⟨off _ (by simp) x hx, fun i => off _ (by simp) x hx⟩) he, h.ogrp.keep hf (fun x hx => ⟨off _ (by simp) x hx, fun i => off _ (by simp) x hx⟩) he,
    h.trk.go hf (fun x hx => by rw [hS x hx]; rfl) he (updV_back h.trk.back (fun b hb => ?_))⟩⟩
  · rcases hnew b hb with q | q
    · exact h.core.base_le q
    · omega
  · rcases hnew b hb with q | q
    · exact .inr (by rw [q]; rfl)
    · obtain ⟨S, hS, _⟩ := h.trk.fr
      exact .inl (Nat.le_trans hS.size q)
theorem PInv.startW (h : PInv base ρ0 w0 ρ w W vl vf vw vg vh vd ve vn ss hn fl wl D E G H) (hd : E.length = 12 * (H + k)) (hk : wl[k]? = some (v, n)) : GInvW base ρ0 w0 ρ w W vl vf vw vg vh vd ve vn ss hn fl wl D E G H k 0 4096 v n :=
  ⟨h.core, GSt.start h.wlists h.wgrp hd hk, h.lists, h.grp, h.trk⟩
theorem GInvW.stop (h : GInvW base ρ0 w0 ρ w W vl vf vw vg vh vd ve vn ss hn fl wl D E G H k 12 c v n) : PInv base ρ0 w0 ρ w W vl vf vw vg vh vd ve vn ss hn fl wl D E G H ∧ E.length = 12 * (H + (k + 1)) :=
  ⟨⟨h.core, h.olists, h.gst.lists, h.ogrp, h.gst.grp, h.trk⟩, by have := h.gst.dl; omega⟩
end
end Go.Proofs.Ytcpealfaaghpiaa
