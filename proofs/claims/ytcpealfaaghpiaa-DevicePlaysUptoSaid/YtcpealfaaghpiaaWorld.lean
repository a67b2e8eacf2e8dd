/-
  The law's world: what lies where, whose each block is. Own work.
-/
import Derived.Test.YtcpealfaaghpiaaApp
namespace Go.Proofs.Ytcpealfaaghpiaa
open Go Go.RowKit Go.Maps Go.Sort Go.Shelf

/-- Whose a block is. -/
inductive Tag where
  | W | sides | free | was | wfree | wwas | done | wdone | hand | ro
  | dev (i j : Nat) | sl (g : Nat) | wl (g : Nat)
deriving DecidableEq

abbrev Rho := Nat → Option Tag
def upd (ρ : Rho) (k : Nat) (t : Tag) : Rho := fun b => if b = k then some t else ρ b
/-- The value's block, if there is one, gets a tag. -/
def updV (ρ : Rho) (v : Value) (t : Tag) : Rho := match v.ownBlock with | some k => upd ρ k t | none => ρ
/-- Old blocks keep their tags. -/
def Ext (w : World) (ρ ρ' : Rho) : Prop := ∀ k t, k < w.heap.size → ρ k = some t → ρ' k = some t
theorem Ext.refl (w : World) (ρ : Rho) : Ext w ρ ρ := fun _ _ _ h => h
theorem Ext.trans {w w' : World} {a b c : Rho} (h : Ext w a b) (hs : w.heap.size ≤ w'.heap.size) (k : Ext w' b c) : Ext w a c := fun i t hi ht => k i t (by omega) (h i t hi ht)
theorem Ext.updV {w : World} {ρ : Rho} {v : Value} {t : Tag} (h : ∀ k, v.ownBlock = some k → k < w.heap.size → ρ k = none ∨ ρ k = some t) : Ext w ρ (updV ρ v t) := by
  intro k u hk hu
  unfold Proofs.Ytcpealfaaghpiaa.updV
  cases e : v.ownBlock with
  | none => exact hu
  | some b =>
    show upd ρ b t k = _
    unfold upd
    split
    · rename_i hkb
      subst hkb
      rcases h k e hk with q | q
      · rw [q] at hu; cases hu
      · rw [← q, hu]
    · exact hu
theorem updV_none {ρ : Rho} {v : Value} {t : Tag} {k : Nat} (h : ρ k = none) (hv : ∀ b, v.ownBlock = some b → b ≠ k) : updV ρ v t k = none := by
  unfold updV
  cases e : v.ownBlock with
  | none => exact h
  | some b =>
    show upd ρ b t k = _
    unfold upd
    rw [if_neg (fun q => hv b e q.symm)]
    exact h
theorem updV_self {ρ : Rho} {v : Value} {t : Tag} {k : Nat} (h : v.ownBlock = some k) : updV ρ v t k = some t := by
  unfold updV; rw [h]; simp [upd]
theorem updV_other {ρ : Rho} {v : Value} {t : Tag} {k : Nat} (h : v.ownBlock ≠ some k) : updV ρ v t k = ρ k := by
  unfold updV
  cases e : v.ownBlock with
  | none => rfl
  | some b =>
    show upd ρ b t k = _
    unfold upd
    rw [if_neg]
    rintro rfl
    exact h e

/-- A row, and whose it is. -/
def TRow (ρ : Rho) (w : World) (E : TypeId) (sz : Nat) (t : Tag) (v : Value) (n : Nat) (xs : List Value) : Prop :=
  Row w E sz v n xs ∧ ∀ k, v.ownBlock = some k → ρ k = some t
theorem TRow.keep {ρ ρ' : Rho} {w w' : World} {E : TypeId} {sz : Nat} {t : Tag} {v : Value} {n : Nat} {xs : List Value} (h : TRow ρ w E sz t v n xs) {S : List Nat} (hf : Fr S w w') (hS : ∀ k ∈ S, ρ k ≠ some t) (hρ : Ext w ρ ρ') : TRow ρ' w' E sz t v n xs :=
  ⟨h.1.keep hf (fun k hk hm => hS k hm (h.2 k hk)), fun k hk => hρ k _ (h.1.lt hk) (h.2 k hk)⟩

/-- A device and the document's; where they lie. -/
structure SideA where
  (d p m x l b q : Nat)
  D : DA
def SideA.cells (s : SideA) : List Value := [.pointer (some ⟨s.d, 0, none⟩), .pointer (some ⟨s.x, 0, none⟩)]
structure SideIs (ρ : Rho) (w : World) (i : Nat) (s : SideA) : Prop where
  dev : DevIs w s.d s.p s.m s.D
  ref : RefIs w s.x s.l s.b s.q s.D
  td : ρ s.d = some (.dev i 0)
  tp : ρ s.p = some (.dev i 1)
  tm : ρ s.m = some (.dev i 2)
  tx : ρ s.x = some (.dev i 3)
  tl : ρ s.l = some (.dev i 4)
  tb : ρ s.b = some (.dev i 5)
  tq : ρ s.q = some (.dev i 6)
theorem SideIs.keep {ρ ρ' : Rho} {w w' : World} {i : Nat} {s : SideA} (h : SideIs ρ w i s) {S : List Nat} (hf : Fr S w w') (hS : ∀ k ∈ S, ∀ j, ρ k ≠ some (.dev i j)) (hρ : Ext w ρ ρ') : SideIs ρ' w' i s := by
  have no : ∀ {k j}, ρ k = some (.dev i j) → k ∉ S := fun hk hm => hS _ hm _ hk
  obtain ⟨l1, l2, l3⟩ := h.dev.lt
  obtain ⟨l4, l5, l6, l7⟩ := h.ref.lt
  exact ⟨h.dev.keep hf (no h.td) (no h.tp) (no h.tm), h.ref.keep hf (no h.tx) (no h.tl) (no h.tb) (no h.tq),
    hρ _ _ l1 h.td, hρ _ _ l2 h.tp, hρ _ _ l3 h.tm, hρ _ _ l4 h.tx, hρ _ _ l5 h.tl, hρ _ _ l6 h.tb, hρ _ _ l7 h.tq⟩

/-- What the world holds. -/
structure WA where
  (vl vf vw vg vh vd ve vn : Value)
  sides : List SideA
  free : List (Value × List ByteArray)
  was : List Value
  wfree : List (Value × List (Nat × ByteArray))
  wwas : List Value
  done : List (Value × Nat)
  wdone : List (Value × Nat)
  (G H : Nat)
  hn : Nat

def WA.cells (A : WA) : Array Value := #[A.vl, A.vf, A.vw, A.vg, A.vh, A.vd, A.ve, A.vn]
/-- The cells of a list that is marked. -/
def wmarks (n g : Nat) : List Value := (List.replicate n [Value.int .i64 (-1 - (g : Int)), Value.string ByteArray.empty]).flatten

structure WInv (base : Nat) (ρ : Rho) (w : World) (W : Nat) (A : WA) (B : Nat) : Prop where
  tW : ρ W = some .W
  cW : w.heap[W]? = some (.cells A.cells 30 (0, 0))
  low : ∀ k, k < base → ρ k = none
  lim : ∀ k, w.heap.size ≤ k → ρ k = none
  sides : TRow ρ w 40 2 .sides A.vl A.sides.length (A.sides.flatMap SideA.cells)
  five : A.sides.length ≤ 5
  dev : ∀ i s, A.sides[i]? = some s → SideIs ρ w i s
  free : TRow ρ w 28 1 .free A.vf A.free.length (A.free.map (·.1))
  was : TRow ρ w 28 1 .was A.vw A.free.length A.was
  lfree : ∀ (i : Nat) (v : Value) (l : List ByteArray), A.free[i]? = some (v, l) → TRow ρ w 9 1 (.sl (A.G + i)) v l.length (l.map Value.string) ∧ l.length ≤ 4096
  lwas : ∀ (i : Nat) (v : Value) (l : List ByteArray) (u : Value), A.free[i]? = some (v, l) → A.was[i]? = some u → TRow ρ w 9 1 .ro u l.length (l.map Value.string)
  wfree : TRow ρ w 43 1 .wfree A.vg A.wfree.length (A.wfree.map (·.1))
  wwas : TRow ρ w 43 1 .wwas A.vh A.wfree.length A.wwas
  lwfree : ∀ (i : Nat) (v : Value) (l : List (Nat × ByteArray)), A.wfree[i]? = some (v, l) → TRow ρ w 58 2 (.wl (A.H + i)) v l.length (wcells l) ∧ l.length ≤ 4096
  lwwas : ∀ (i : Nat) (v : Value) (l : List (Nat × ByteArray)) (u : Value), A.wfree[i]? = some (v, l) → A.wwas[i]? = some u → TRow ρ w 58 2 .ro u l.length (wcells l)
  done : TRow ρ w 28 1 .done A.vd A.done.length (A.done.map (·.1))
  dlen : A.done.length = 12 * A.G
  ldone : ∀ (j : Nat) (v : Value) (n : Nat), A.done[j]? = some (v, n) → TRow ρ w 9 1 (.sl (j / 12)) v n (List.replicate n (.string (markS (j / 12)))) ∧ n ≤ 4110
  wdone : TRow ρ w 43 1 .wdone A.ve A.wdone.length (A.wdone.map (·.1))
  wdlen : A.wdone.length = 12 * A.H
  lwdone : ∀ (j : Nat) (v : Value) (n : Nat), A.wdone[j]? = some (v, n) → TRow ρ w 58 2 (.wl (j / 12)) v n (wmarks n (j / 12)) ∧ n ≤ 4110
  hand : ∃ hs, TRow ρ w 9 1 .hand A.vn A.hn hs
  bG : A.G + A.free.length ≤ B
  bH : A.H + A.wfree.length ≤ B

/-- What a step of the law may turn: nothing that came in. -/
def Ours (ρ : Rho) (S : List Nat) : Prop := ∀ k ∈ S, (ρ k).isSome = true

theorem infoSS : (Try.prog.info? 28).map (fun i => (i.zero, i.size, i.bytes)) = some (some (.slice none 0 0), 1, 24) := by kernel_rfl
theorem infoWW : (Try.prog.info? 43).map (fun i => (i.zero, i.size, i.bytes)) = some (some (.slice none 0 0), 1, 24) := by kernel_rfl

/-- What a list that came out does to the world: two cells, two rows. -/
structure Listed (w w' : World) (W i j : Nat) (E F : TypeId) (sz : Nat) (vf vw ov : Value) (nf n : Nat) (fs ws xs : List Value) : Prop where
  ex : ∃ vf' vw' ou, w'.heap.size ≥ w.heap.size ∧ Row w' E 1 vf' (nf + 1) (fs ++ [ov]) ∧ Row w' E 1 vw' (nf + 1) (ws ++ [ou]) ∧ Row w' F sz ou n xs ∧
    (∀ k, vf'.ownBlock = some k → vf.ownBlock = some k ∨ w.heap.size ≤ k) ∧ (∀ k, vw'.ownBlock = some k → vw.ownBlock = some k ∨ w.heap.size ≤ k) ∧ (∀ k, ou.ownBlock = some k → w.heap.size ≤ k ∧ vf'.ownBlock ≠ some k ∧ vw'.ownBlock ≠ some k) ∧
    (∀ k, vf'.ownBlock = some k → vw'.ownBlock ≠ some k) ∧
    Fr (W :: (vf.ownBlock.toList ++ vw.ownBlock.toList)) w w' ∧
    ∀ cs T, w.heap[W]? = some (.cells cs T (0, 0)) → w'.heap[W]? = some (.cells ((cs.setIfInBounds i vf').setIfInBounds j vw') T (0, 0))

theorem listed_of {w w2 w3 w4 w5 : World} {W i j : Nat} {E F : TypeId} {sz : Nat} {vf vw ov vf' vw' ou : Value} {nf n : Nat} {fs ws xs : List Value} {o1 o2 : Obj}
    (hW : W < w.heap.size) (hf : Row w E 1 vf nf fs) (hw : Row w E 1 vw nf ws) (hd : vf.ownBlock ≠ some W ∧ vw.ownBlock ≠ some W ∧ ∀ k, vf.ownBlock = some k → vw.ownBlock ≠ some k)
    (happ : App (w.alloc o1) w2 E 1 vf vf' nf 1 fs [ov]) (h3 : w2.setCell ⟨W, i, none⟩ vf' = w3)
    (h4 : Row w4 F sz ou n xs ∧ Fr [] w3.drew w4 ∧ ∀ k, ou.ownBlock = some k → w3.drew.heap.size ≤ k)
    (h5 : App (w4.alloc o2) w5 E 1 vw vw' nf 1 ws [ou]) : Listed w (w5.setCell ⟨W, j, none⟩ vw') W i j E F sz vf vw ov nf n fs ws xs := by
  have s1 : (w.alloc o1).heap.size = w.heap.size + 1 := by simp
  have s2 := happ.fr.size
  have s3 : w3.heap.size = w2.heap.size := by rw [← h3]; simp
  have s3' : w3.drew.heap.size = w3.heap.size := rfl
  have s4 := h4.2.1.size
  have s5 : (w4.alloc o2).heap.size = w4.heap.size + 1 := by simp
  have s6 := h5.fr.size
  have g1 : Fr vf.ownBlock.toList w w2 := ((Fr.refl vf.ownBlock.toList w).alloc _).trans happ.fr (fun _ h => .inl h)
  have g2 : Fr [W] w2 w3.drew := by rw [← h3]; exact ((Fr.refl [W] w2).setCell (.inl (by simp)) _).drew
  have g3 : Fr [] w3.drew (w4.alloc o2) := h4.2.1.alloc _
  have g4 := h5.fr
  have g5 : Fr [W] w5 (w5.setCell ⟨W, j, none⟩ vw') := (Fr.refl _ _).setCell (.inl (by simp)) _
  have bf : ∀ k, vf'.ownBlock = some k → (vf.ownBlock = some k ∧ k < w.heap.size) ∨ w.heap.size + 1 ≤ k := by
    intro k hk
    rcases happ.blk k hk with h | h
    · exact .inl ⟨h, hf.lt h⟩
    · exact .inr (by omega)
  have bw : ∀ k, vw'.ownBlock = some k → (vw.ownBlock = some k ∧ k < w.heap.size) ∨ w4.heap.size + 1 ≤ k := by
    intro k hk
    rcases h5.blk k hk with h | h
    · exact .inl ⟨h, hw.lt h⟩
    · exact .inr (by omega)
  have nfW : ∀ k, vf'.ownBlock = some k → k ≠ W := by
    rintro k hk rfl
    rcases bf k hk with h | h
    · exact hd.1 h.1
    · omega
  have nwW : ∀ k, vw'.ownBlock = some k → k ≠ W := by
    rintro k hk rfl
    rcases bw k hk with h | h
    · exact hd.2.1 h.1
    · omega
  have lf : ∀ k, vf'.ownBlock = some k → k < w2.heap.size := fun k hk => happ.row.lt hk
  have lo : ∀ k, ou.ownBlock = some k → k < w4.heap.size := fun k hk => h4.1.lt hk
  refine ⟨vf', vw', ou, ?_, ?_, ?_, ?_, ?_, ?_, ?_, ?_, ?_, ?_⟩
  · have : (w5.setCell ⟨W, j, none⟩ vw').heap.size = w5.heap.size := by simp
    omega
  · refine ((((happ.row.keep g2 ?_).keep g3 (by simp)).keep g4 ?_).keep g5 ?_)
    · intro k hk hm; simp at hm; exact nfW k hk hm
    · intro k hk hm
      simp at hm
      rcases bf k hk with h | h
      · exact hd.2.2 k h.1 hm
      · have := hw.lt hm; omega
    · intro k hk hm; simp at hm; exact nfW k hk hm
  · refine h5.row.keep g5 ?_
    intro k hk hm; simp at hm; exact nwW k hk hm
  · refine (((h4.1.keep ((Fr.refl [] w4).alloc o2) (by simp)).keep g4 ?_).keep g5 ?_)
    · intro k hk hm
      simp at hm
      have := hw.lt hm
      have := h4.2.2 k hk
      omega
    · intro k hk hm
      simp at hm
      have := h4.2.2 k hk
      omega
  · intro k hk
    rcases bf k hk with h | h
    · exact .inl h.1
    · exact .inr (by omega)
  · intro k hk
    rcases bw k hk with h | h
    · exact .inl h.1
    · exact .inr (by omega)
  · intro k hk
    have h1 := h4.2.2 k hk
    have h2 := lo k hk
    refine ⟨by omega, fun h => ?_, fun h => ?_⟩
    · have := lf k h; omega
    · rcases bw k h with h | h <;> omega
  · intro k hk h
    rcases bf k hk with q | q
    · rcases bw k h with r | r
      · exact hd.2.2 k q.1 r.1
      · omega
    · have := lf k hk
      rcases bw k h with r | r <;> omega
  · refine ((((g1.weak (T := W :: (vf.ownBlock.toList ++ vw.ownBlock.toList)) (by intro x hx; simp [hx])).trans (g2.weak (T := W :: (vf.ownBlock.toList ++ vw.ownBlock.toList)) (by intro x hx; simp at hx; simp [hx])) (fun _ h => .inl h)).trans_nil g3).trans (g4.weak (T := W :: (vf.ownBlock.toList ++ vw.ownBlock.toList)) (by intro x hx; simp [hx])) (fun _ h => .inl h)).trans (g5.weak (T := W :: (vf.ownBlock.toList ++ vw.ownBlock.toList)) (by intro x hx; simp at hx; simp [hx])) (fun _ h => .inl h)
  · intro cs T hc
    have c1 := g1.keep hc (by simpa using hd.1)
    have c2 : w3.drew.heap[W]? = some (.cells (cs.setIfInBounds i vf') T (0, 0)) := by
      show w3.heap[W]? = _
      rw [← h3, heap_setCell_same _ _ _ _ _ _ c1]
    have c3 := g4.keep (g3.keep c2 (by simp)) (by simpa using hd.2.1)
    rw [heap_setCell_same _ _ _ _ _ _ c3]

set_option maxRecDepth 100000 in
theorem pages_raw (w : World) (W : Nat) (ov : Value) (l : List ByteArray) (vl vf vw vg vh vd ve vn : Value) (nf : Nat) (fs ws : List Value)
    (hv : Strs w 9 ov l) (hn : l.length ≤ 4096) (hW : w.heap[W]? = some (.cells #[vl, vf, vw, vg, vh, vd, ve, vn] 30 (0, 0)))
    (hf : Row w 28 1 vf nf fs) (hw : Row w 28 1 vw nf ws) (hnf : nf ≤ 4096) (hd : vf.ownBlock ≠ some W ∧ vw.ownBlock ≠ some W ∧ ∀ k, vf.ownBlock = some k → vw.ownBlock ≠ some k) (hd2 : ∀ k, ov.ownBlock = some k → k ≠ W ∧ vf.ownBlock ≠ some k ∧ vw.ownBlock ≠ some k) :
    Calls Try.prog 29 #[.pointer (some ⟨W, 0, none⟩), ov] w fun e w' => e = .returned (.tuple #[]) ∧
      Listed w w' W 1 2 28 9 1 vf vw ov nf l.length fs ws (l.map Value.string) := by
  obtain ⟨i0, hi, hz0, hz1, hz2⟩ := info_parts infoSS
  obtain ⟨i1, hi1, hz10, hz11, hz12⟩ := info_parts infoS
  have c1 := cell_of_row _ _ 1 _ _ _ hW
  have f1 := frozen_of_row _ _ 1 _ _ hW
  simp at c1
  have hvs := hv.shape
  obtain ⟨n, hnl⟩ : ∃ n, l.length = n := ⟨_, rfl⟩
  rw [hnl] at hvs hn ⊢
  obtain ⟨oa, oc, rfl, h1, h2⟩ := hvs
  unfold maxLen at h2
  obtain ⟨ov, hov⟩ : ∃ ov, Value.slice oa n oc = ov := ⟨_, rfl⟩
  have hf' : Row (w.alloc (.cells #[.slice oa n oc] 28)) 28 1 vf nf fs := hf.keep_nil ((Fr.refl _ _).alloc _)
  have HF' := Lib.hid hf'
  have HW := Lib.hid hW
  have HF0 := Lib.hid hf
  have HVW := Lib.hid hw
  have HV := Lib.hid hv
  have HD := Lib.hid hd
  have HD2 := Lib.hid hd2
  have HNL := Lib.hid hnl
  have HOV := Lib.hid hov
  clear hf' hW hw hv hd hd2 hnl hov
  go_enter Try.func29, Try.ntmps29
  go_wp2_with (at_builtin; refine wpList_append_row rfl _ _ 26 rfl 28 i0 _ 1 24 Try.underlying26 hi hz0 hz1 hz2 rfl (by decide) vf nf fs rfl HF'.out ⟨w.heap.size, 0, none⟩ 1 1 [.slice oa n oc] rfl rfl ?c1 ?c2 ?c3 ?c4 ?_)
  case c1 =>
    intro j u hj
    match j, hj with
    | 0, hj => simp at hj; subst hj; simp [Addr.add, go_sem]
  case c2 => intro u hu; simp at hu; subst hu; rfl
  case c3 => unfold maxLen; omega
  case c4 => omega
  intro v' w2 happ
  obtain ⟨fa, fc, rfl, _, _⟩ := happ.out.row.shape
  have hs1 : (w.alloc (.cells #[.slice oa n oc] 28)).heap.size = w.heap.size + 1 := by simp
  have hs2 := happ.out.fr.size
  have hWl := lt_of_heap HW.out
  have hW2 := happ.out.fr.keep ((((Fr.refl [] w).alloc (.cells #[.slice oa n oc] 28))).keep HW.out (by simp)) (by have := HD.out.1; simpa [Option.mem_toList] using this)
  have c1' := cell_of_row _ _ 1 _ _ _ hW2
  have f1' := frozen_of_row _ _ 1 _ _ hW2
  simp at c1'
  have HW2 := Lib.hid hW2
  obtain ⟨w3, hw3⟩ : ∃ w3, w2.setCell ⟨W, 1, none⟩ (.slice fa (nf + 1) fc) = w3 := ⟨_, rfl⟩
  have hf01 : Fr vf.ownBlock.toList w w2 := ((Fr.refl vf.ownBlock.toList w).alloc _).trans happ.out.fr (fun _ h => .inl h)
  have hf3 : Fr [W] w2 w3 := by rw [← hw3]; exact (Fr.refl _ _).setCell (.inl (by simp)) _
  have hW3 : w3.heap[W]? = some (.cells #[vl, .slice fa (nf + 1) fc, vw, vg, vh, vd, ve, vn] 30 (0, 0)) := by rw [← hw3, heap_setCell_same _ _ _ _ _ _ hW2]; rfl
  clear hW2 hf
  go_wp2_with fail
  have c2 : w3.cell? ⟨W, 2, none⟩ = some vw := by have := cell_of_row _ _ 2 _ _ _ hW3; simpa using this
  have f2 := frozen_of_row _ _ 2 _ _ hW3
  have HV3 : Hid (Strs w3.drew 9 (.slice oa n oc) l) := (HV.out.keep hf01 (fun k hk hm => by have := (HD2.out k hk).2.1; simp at hm; exact this hm)).keep hf3.drew (fun k hk hm => by have := (HD2.out k hk).1; simp at hm; exact this hm)
  have HV3' : Hid (Row w3.drew 9 1 (.slice oa n oc) n (l.map Value.string)) := by have h := HV3.out; unfold Strs at h; rw [HNL.out] at h; exact h
  have HVW3 : Hid (Row w3.drew 28 1 vw nf ws) := (HVW.out.keep hf01 (fun k hk hm => by simp at hm; exact HD.out.2.2 k hm hk)).keep hf3.drew (fun k hk hm => by simp at hm; subst hm; exact HD.out.2.1 hk)
  have HW3 := Lib.hid hW3
  have HW3e := Lib.hid hw3
  have HF3 := Lib.hid hf3
  have HF01 := Lib.hid hf01
  clear hW3 hf3 hf01 HF' HW HV HW2 c1 c1' f1 f1' hw3
  go_region_law (first
    | (refine step_append_copy rfl _ 28 rfl 9 i1 _ 1 16 Try.underlying28 hi1 hz10 hz11 hz12 rfl (by decide) (.slice oa n oc) n (l.map Value.string) rfl HV3'.out (strs_oneCell l) (by unfold maxLen; omega) (by omega) ?_
       intro v4 w4 h4
       obtain ⟨ua, uc, rfl, _, _⟩ := h4.out.1.shape
       have hq1 : w4.cell? ⟨W, 2, none⟩ = some vw := h4.out.2.1.cell (show w3.drew.cell? ⟨W, 2, none⟩ = some vw from c2) (by simp)
       have hq2 : ∀ o : Obj, (w4.alloc o).cell? ⟨W, 2, none⟩ = some vw := fun o => ((Fr.refl [] w4).alloc o).cell hq1 (by simp))
    | (refine step_append_row rfl _ _ 26 rfl 28 i0 _ 1 24 Try.underlying26 hi hz0 hz1 hz2 rfl (by decide) vw nf ws rfl (HVW3.out.keep_nil (h4.out.2.1.alloc _)) _ 1 1 [.slice ua n uc] rfl rfl (fun j u hj => by match j, hj with | 0, hj => simp at hj; subst hj; simp [Addr.add, go_sem]) (fun u hu => by simp at hu; subst hu; rfl) (by unfold maxLen; omega) (by omega) ?_
       intro v5 w5 h5
       obtain ⟨xa, xc, rfl, _, _⟩ := h5.out.row.shape
       have hqW := h5.out.fr.keep (((Fr.refl [] w4).alloc (.cells #[.slice ua n uc] 28)).keep (h4.out.2.1.keep (show w3.drew.heap[W]? = _ from HW3.out) (by simp)) (by simp)) (by have := HD.out.2.1; simpa [Option.mem_toList] using this)
       have hqc := cell_of_row _ _ 2 _ _ _ hqW
       have hqf := frozen_of_row _ _ 2 _ _ hqW
       have HQW := Lib.hid hqW
       simp at hqc
       clear hqW))
  all_goals
    go_end0
    exact ⟨rfl, listed_of hWl HF0.out HVW.out HD.out happ.out HW3e.out h4.out h5.out⟩
theorem wcells_oneCell (l : List (Nat × ByteArray)) : ∀ u ∈ wcells l, u.oneCell' = true := by
  intro u hu
  unfold wcells at hu
  obtain ⟨x, _, hx⟩ := List.mem_flatMap.1 hu
  simp at hx
  rcases hx with rfl | rfl <;> rfl
set_option maxRecDepth 100000 in
theorem writes_raw (w : World) (W : Nat) (ov : Value) (l : List (Nat × ByteArray)) (vl va vb vf vw vd ve vn : Value) (nf : Nat) (fs ws : List Value)
    (hv : Writes w ov l) (hn : l.length ≤ 4096) (hW : w.heap[W]? = some (.cells #[vl, va, vb, vf, vw, vd, ve, vn] 30 (0, 0)))
    (hf : Row w 43 1 vf nf fs) (hw : Row w 43 1 vw nf ws) (hnf : nf ≤ 4096) (hd : vf.ownBlock ≠ some W ∧ vw.ownBlock ≠ some W ∧ ∀ k, vf.ownBlock = some k → vw.ownBlock ≠ some k) (hd2 : ∀ k, ov.ownBlock = some k → k ≠ W ∧ vf.ownBlock ≠ some k ∧ vw.ownBlock ≠ some k) :
    Calls Try.prog 28 #[.pointer (some ⟨W, 0, none⟩), ov] w fun e w' => e = .returned (.tuple #[]) ∧
      Listed w w' W 3 4 43 58 2 vf vw ov nf l.length fs ws (wcells l) := by
  obtain ⟨i0, hi, hz0, hz1, hz2⟩ := info_parts infoWW
  obtain ⟨i1, hi1, hz10, hz11, hz12⟩ := info_parts infoW
  have c1 := cell_of_row _ _ 3 _ _ _ hW
  have f1 := frozen_of_row _ _ 3 _ _ hW
  simp at c1
  have hvs := hv.shape
  obtain ⟨n, hnl⟩ : ∃ n, l.length = n := ⟨_, rfl⟩
  rw [hnl] at hvs hn ⊢
  obtain ⟨oa, oc, rfl, h1, h2⟩ := hvs
  unfold maxLen at h2
  obtain ⟨ov, hov⟩ : ∃ ov, Value.slice oa n oc = ov := ⟨_, rfl⟩
  have hf' : Row (w.alloc (.cells #[.slice oa n oc] 43)) 43 1 vf nf fs := hf.keep_nil ((Fr.refl _ _).alloc _)
  have HF' := Lib.hid hf'
  have HW := Lib.hid hW
  have HF0 := Lib.hid hf
  have HVW := Lib.hid hw
  have HV := Lib.hid hv
  have HD := Lib.hid hd
  have HD2 := Lib.hid hd2
  have HNL := Lib.hid hnl
  have HOV := Lib.hid hov
  clear hf' hW hw hv hd hd2 hnl hov
  go_enter Try.func28, Try.ntmps28
  go_wp2_with (at_builtin; refine wpList_append_row rfl _ _ 27 rfl 43 i0 _ 1 24 Try.underlying27 hi hz0 hz1 hz2 rfl (by decide) vf nf fs rfl HF'.out ⟨w.heap.size, 0, none⟩ 1 1 [.slice oa n oc] rfl rfl ?c1 ?c2 ?c3 ?c4 ?_)
  case c1 =>
    intro j u hj
    match j, hj with
    | 0, hj => simp at hj; subst hj; simp [Addr.add, go_sem]
  case c2 => intro u hu; simp at hu; subst hu; rfl
  case c3 => unfold maxLen; omega
  case c4 => omega
  intro v' w2 happ
  obtain ⟨fa, fc, rfl, _, _⟩ := happ.out.row.shape
  have hs1 : (w.alloc (.cells #[.slice oa n oc] 43)).heap.size = w.heap.size + 1 := by simp
  have hs2 := happ.out.fr.size
  have hWl := lt_of_heap HW.out
  have hW2 := happ.out.fr.keep ((((Fr.refl [] w).alloc (.cells #[.slice oa n oc] 43))).keep HW.out (by simp)) (by have := HD.out.1; simpa [Option.mem_toList] using this)
  have c1' := cell_of_row _ _ 3 _ _ _ hW2
  have f1' := frozen_of_row _ _ 3 _ _ hW2
  simp at c1'
  have HW2 := Lib.hid hW2
  obtain ⟨w3, hw3⟩ : ∃ w3, w2.setCell ⟨W, 3, none⟩ (.slice fa (nf + 1) fc) = w3 := ⟨_, rfl⟩
  have hf01 : Fr vf.ownBlock.toList w w2 := ((Fr.refl vf.ownBlock.toList w).alloc _).trans happ.out.fr (fun _ h => .inl h)
  have hf3 : Fr [W] w2 w3 := by rw [← hw3]; exact (Fr.refl _ _).setCell (.inl (by simp)) _
  have hW3 : w3.heap[W]? = some (.cells #[vl, va, vb, .slice fa (nf + 1) fc, vw, vd, ve, vn] 30 (0, 0)) := by rw [← hw3, heap_setCell_same _ _ _ _ _ _ hW2]; rfl
  clear hW2 hf
  go_wp2_with fail
  have c2 : w3.cell? ⟨W, 4, none⟩ = some vw := by have := cell_of_row _ _ 4 _ _ _ hW3; simpa using this
  have f2 := frozen_of_row _ _ 4 _ _ hW3
  have HV3 : Hid (Writes w3.drew (.slice oa n oc) l) := (HV.out.keep hf01 (fun k hk hm => by have := (HD2.out k hk).2.1; simp at hm; exact this hm)).keep hf3.drew (fun k hk hm => by have := (HD2.out k hk).1; simp at hm; exact this hm)
  have HV3' : Hid (Row w3.drew 58 2 (.slice oa n oc) n (wcells l)) := by have h := HV3.out; unfold Writes at h; rw [HNL.out] at h; exact h
  have HVW3 : Hid (Row w3.drew 43 1 vw nf ws) := (HVW.out.keep hf01 (fun k hk hm => by simp at hm; exact HD.out.2.2 k hm hk)).keep hf3.drew (fun k hk hm => by simp at hm; subst hm; exact HD.out.2.1 hk)
  have HW3 := Lib.hid hW3
  have HW3e := Lib.hid hw3
  have HF3 := Lib.hid hf3
  have HF01 := Lib.hid hf01
  clear hW3 hf3 hf01 HF' HW HV HW2 c1 c1' f1 f1' hw3
  go_region_law (first
    | (refine step_append_copy rfl _ 43 rfl 58 i1 _ 2 24 Try.underlying43 hi1 hz10 hz11 hz12 rfl (by decide) (.slice oa n oc) n (wcells l) rfl HV3'.out (wcells_oneCell l) (by unfold maxLen; omega) (by omega) ?_
       intro v4 w4 h4
       obtain ⟨ua, uc, rfl, _, _⟩ := h4.out.1.shape
       have hq1 : w4.cell? ⟨W, 4, none⟩ = some vw := h4.out.2.1.cell (show w3.drew.cell? ⟨W, 4, none⟩ = some vw from c2) (by simp)
       have hq2 : ∀ o : Obj, (w4.alloc o).cell? ⟨W, 4, none⟩ = some vw := fun o => ((Fr.refl [] w4).alloc o).cell hq1 (by simp))
    | (refine step_append_row rfl _ _ 27 rfl 43 i0 _ 1 24 Try.underlying27 hi hz0 hz1 hz2 rfl (by decide) vw nf ws rfl (HVW3.out.keep_nil (h4.out.2.1.alloc _)) _ 1 1 [.slice ua n uc] rfl rfl (fun j u hj => by match j, hj with | 0, hj => simp at hj; subst hj; simp [Addr.add, go_sem]) (fun u hu => by simp at hu; subst hu; rfl) (by unfold maxLen; omega) (by omega) ?_
       intro v5 w5 h5
       obtain ⟨xa, xc, rfl, _, _⟩ := h5.out.row.shape
       have hqW := h5.out.fr.keep (((Fr.refl [] w4).alloc (.cells #[.slice ua n uc] 43)).keep (h4.out.2.1.keep (show w3.drew.heap[W]? = _ from HW3.out) (by simp)) (by simp)) (by have := HD.out.2.1; simpa [Option.mem_toList] using this)
       have hqc := cell_of_row _ _ 4 _ _ _ hqW
       have hqf := frozen_of_row _ _ 4 _ _ hqW
       have HQW := Lib.hid hqW
       simp at hqc
       clear hqW))
  all_goals
    go_end0
    exact ⟨rfl, listed_of hWl HF0.out HVW.out HD.out happ.out HW3e.out h4.out h5.out⟩
end Go.Proofs.Ytcpealfaaghpiaa
