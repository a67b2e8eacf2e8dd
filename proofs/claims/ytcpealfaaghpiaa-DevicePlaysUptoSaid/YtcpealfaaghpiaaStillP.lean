/-
  The law's still: what its loops do to rows (plain facts on worlds). Own work.
-/
import Derived.Test.YtcpealfaaghpiaaPlay
namespace Go.Proofs.Ytcpealfaaghpiaa
open Go Go.RowKit Go.Maps Go.Sort Go.Shelf

/-- m, n times. -/
def rep (n : Nat) (m : List Value) : List Value := (List.replicate n m).flatten
theorem rep_len (n : Nat) (m : List Value) : (rep n m).length = n * m.length := by simp [rep]
theorem rep_succ (n : Nat) (m : List Value) : rep (n + 1) m = rep n m ++ m := by
  unfold rep; rw [List.replicate_succ']; simp
theorem rep_zero (m : List Value) : rep 0 m = [] := rfl
theorem rep_get {m : List Value} {sz : Nat} (hm : m.length = sz) : ∀ (n t j : Nat), t < n → j < sz → (rep n m)[t * sz + j]? = m[j]?
  | 0, _, _, h, _ => by omega
  | n + 1, t, j, h, hj => by
    rw [rep_succ]
    by_cases e : t = n
    · subst e
      rw [List.getElem?_append_right (by rw [rep_len, hm]; omega), rep_len, hm]; congr 1; omega
    · have h1 : t * sz + j < n * sz := by
        have : (t + 1) * sz ≤ n * sz := Nat.mul_le_mul_right _ (by omega)
        rw [Nat.add_mul] at this; omega
      rw [List.getElem?_append_left (by rw [rep_len, hm]; exact h1)]
      exact rep_get hm n t j (by omega) hj

/-- One element of a row is written. -/
theorem Row.write {w : World} {E : TypeId} {sz : Nat} {v : Value} {n : Nat} {xs : List Value} (h : Row w E sz v n xs) {g : Nat} (hg : v.ownBlock = some g) {j : Nat} (hj : j < n) {m : List Value} (hm : m.length = sz) :
    Row (w.setCells g (j * sz) m) E sz v n (xs.take (j * sz) ++ m ++ xs.drop ((j + 1) * sz)) ∧ Fr [g] w (w.setCells g (j * sz) m) := by
  have hb : (j + 1) * sz ≤ n * sz := Nat.mul_le_mul_right _ (by omega)
  have hb' : (j + 1) * sz = j * sz + sz := by rw [Nat.add_mul, Nat.one_mul]
  rcases h.2 with ⟨rfl, _⟩ | ⟨g', cap, cur, rfl, hc, h1, h2, h3, h4⟩
  · simp [Value.ownBlock] at hg
  · simp [Value.ownBlock] at hg
    subst hg
    have hcs : n * sz ≤ cur.size := Nat.le_trans (Nat.mul_le_mul_right _ h1) h3
    obtain ⟨c2, e1, e2, e3, e4, e5⟩ := setCells_heap m (j * sz) w cur hc
    have hx := h.1
    have hlt : (xs.take (j * sz)).length = j * sz := by rw [List.length_take]; omega
    have hld : (xs.drop ((j + 1) * sz)).length = n * sz - (j + 1) * sz := by rw [List.length_drop, hx]
    have hla : (xs.take (j * sz) ++ m).length = j * sz + sz := by rw [List.length_append, hlt, hm]
    have hll : (xs.take (j * sz) ++ m ++ xs.drop ((j + 1) * sz)).length = n * sz := by rw [List.length_append, hla, hld]; omega
    refine ⟨⟨hll, .inr ⟨g', cap, c2, rfl, e1, h1, h2, by rw [e2]; exact h3, ?_⟩⟩, e5⟩
    apply List.ext_getElem?
    intro t
    rw [List.getElem?_take, Array.getElem?_toList]
    by_cases ht : t < n * sz
    · rw [if_pos ht]
      have hold : cur[t]? = xs[t]? := by rw [← h4, List.getElem?_take, if_pos ht, Array.getElem?_toList]
      by_cases a : t < j * sz
      · rw [e3 t (.inl a), hold, List.getElem?_append_left (by omega), List.getElem?_append_left (by omega), List.getElem?_take, if_pos a]
      · by_cases b : t < j * sz + sz
        · have := e4 (t - j * sz) (by omega) (by omega)
          rw [show j * sz + (t - j * sz) = t by omega] at this
          rw [this, List.getElem?_append_left (by omega), List.getElem?_append_right (by omega), hlt]
        · rw [e3 t (.inr (by omega)), hold, List.getElem?_append_right (by omega), List.getElem?_drop]
          congr 1; omega
    · rw [if_neg ht, List.getElem?_eq_none (by omega)]
theorem Row.there {w : World} {E : TypeId} {sz : Nat} {v : Value} {n : Nat} {xs : List Value} (h : Row w E sz v n xs) {j : Nat} (hj : j < n) :
    ∃ g cap, v = .slice (some ⟨g, 0, none⟩) n cap ∧ n ≤ cap ∧ cap ≤ maxLen ∧ ∀ c, c < sz → ∃ x, w.cell? ⟨g, j * sz + c, none⟩ = some x ∧ w.frozen? ⟨g, j * sz + c, none⟩ = false := by
  have hb : (j + 1) * sz ≤ n * sz := Nat.mul_le_mul_right _ (by omega)
  have hb' : (j + 1) * sz = j * sz + sz := by rw [Nat.add_mul, Nat.one_mul]
  rcases h.2 with ⟨_, rfl⟩ | ⟨g, cap, cur, rfl, hc, h1, h2, h3, h4⟩
  · omega
  · have hcs : n * sz ≤ cur.size := Nat.le_trans (Nat.mul_le_mul_right _ h1) h3
    refine ⟨g, cap, rfl, h1, h2, fun c hcz => ⟨cur[j * sz + c]'(by omega), ?_, frozen_of_row _ _ _ _ _ hc⟩⟩
    rw [cell_of_row _ _ _ _ _ _ hc]; simp

/-- The content while it is marked: the first j are. -/
def stg (m : List Value) (sz j : Nat) (xs : List Value) : List Value := rep j m ++ xs.drop (j * sz)
theorem stg_zero (m : List Value) (sz : Nat) (xs : List Value) : stg m sz 0 xs = xs := by simp [stg, rep]
theorem stg_all {m : List Value} {sz n : Nat} {xs : List Value} (hx : xs.length = n * sz) : stg m sz n xs = rep n m := by
  unfold stg; rw [List.drop_of_length_le (by omega), List.append_nil]
theorem stg_step {m : List Value} {sz j : Nat} {xs : List Value} (hm : m.length = sz) : (stg m sz j xs).take (j * sz) ++ m ++ (stg m sz j xs).drop ((j + 1) * sz) = stg m sz (j + 1) xs := by
  unfold stg
  have hb' : (j + 1) * sz = j * sz + sz := by rw [Nat.add_mul, Nat.one_mul]
  have hl : (rep j m).length = j * sz := by rw [rep_len, hm]
  rw [List.take_append_of_le_length (by omega), List.take_of_length_le (by omega), rep_succ, List.drop_append, hl, List.drop_of_length_le (by omega), List.nil_append, List.drop_drop]
  congr 2
  omega

/-- The lists that came out, while they are marked: those ahead of k are, the first j of the k-th. -/
def MStage (ρ : Rho) (w : World) (E : TypeId) (sz : Nat) (tg : Nat → Tag) (mc : Nat → List Value) (G : Nat) (items : List (Value × Nat × List Value)) (k j : Nat) : Prop :=
  ∀ (i : Nat) (v : Value) (n : Nat) (xs : List Value), items[i]? = some (v, n, xs) →
    TRow ρ w E sz (tg (G + i)) v n (if i < k then rep n (mc (G + i)) else if i = k then stg (mc (G + i)) sz j xs else xs) ∧ n ≤ 4096
theorem MStage.keep {ρ : Rho} {w w' : World} {E : TypeId} {sz : Nat} {tg : Nat → Tag} {mc : Nat → List Value} {G : Nat} {items : List (Value × Nat × List Value)} {k j : Nat} (h : MStage ρ w E sz tg mc G items k j) {S : List Nat} (hf : Fr S w w') (hS : ∀ x ∈ S, ∀ i, ρ x ≠ some (tg i)) : MStage ρ w' E sz tg mc G items k j :=
  fun i v n xs hi => ⟨(h i v n xs hi).1.keep hf (fun x hx => hS x hx _) (Ext.refl _ _), (h i v n xs hi).2⟩
theorem MStage.step {ρ : Rho} {w w2 : World} {E : TypeId} {sz : Nat} {tg : Nat → Tag} {mc : Nat → List Value} {G : Nat} {items : List (Value × Nat × List Value)} {k j : Nat} (h : MStage ρ w E sz tg mc G items k j) (hinj : ∀ a b, tg a = tg b → a = b) (hmc : ∀ g, (mc g).length = sz)
    {v : Value} {n : Nat} {xs : List Value} (hi : items[k]? = some (v, n, xs)) (hj : j < n) {g : Nat} (hg : v.ownBlock = some g) (hf : Fr [] w w2) :
    MStage ρ (w2.setCells g (j * sz) (mc (G + k))) E sz tg mc G items k (j + 1) ∧ Fr [g] w2 (w2.setCells g (j * sz) (mc (G + k))) ∧ ρ g = some (tg (G + k)) := by
  have hk := h k v n xs hi
  rw [if_neg (Nat.lt_irrefl k), if_pos rfl] at hk
  have hr := hk.1.1.keep_nil hf
  obtain ⟨hw, hfw⟩ := hr.write hg hj (hmc (G + k))
  have htg := hk.1.2 g hg
  refine ⟨fun i v' n' xs' hi' => ?_, hfw, htg⟩
  by_cases e : i = k
  · subst e
    rw [hi] at hi'
    injection hi' with hi'
    injection hi' with q1 q2
    injection q2 with q2 q3
    subst q1 q2 q3
    rw [if_neg (Nat.lt_irrefl i), if_pos rfl, ← stg_step (hmc (G + i))]
    exact ⟨⟨hw, hk.1.2⟩, hk.2⟩
  · have hi2 := h i v' n' xs' hi'
    rw [if_neg e] at hi2 ⊢
    refine ⟨(hi2.1.keep hf (by simp) (Ext.refl _ _)).keep hfw (fun x hx => ?_) (Ext.refl _ _), hi2.2⟩
    simp at hx
    subst hx
    rw [htg]
    intro q
    have := hinj _ _ (Option.some.inj q)
    omega
theorem MStage.next {ρ : Rho} {w : World} {E : TypeId} {sz : Nat} {tg : Nat → Tag} {mc : Nat → List Value} {G : Nat} {items : List (Value × Nat × List Value)} {k : Nat} {v : Value} {n : Nat} {xs : List Value} (hi : items[k]? = some (v, n, xs)) (hx : xs.length = n * sz) (h : MStage ρ w E sz tg mc G items k n) :
    MStage ρ w E sz tg mc G items (k + 1) 0 := by
  intro i v' n' xs' hi'
  have hi2 := h i v' n' xs' hi'
  by_cases e : i = k
  · subst e
    rw [hi] at hi'
    injection hi' with hi'
    injection hi' with q1 q2
    injection q2 with q2 q3
    subst q1 q2 q3
    rw [if_pos (Nat.lt_succ_self i)]
    rw [if_neg (Nat.lt_irrefl i), if_pos rfl, stg_all hx] at hi2
    exact hi2
  · by_cases a : i < k
    · rw [if_pos (by omega)]; rw [if_pos a] at hi2; exact hi2
    · rw [if_neg (by omega)]
      rw [if_neg a, if_neg e] at hi2
      split
      · rw [stg_zero]; exact hi2
      · exact hi2
/-- The lists that came out, all marked. -/
structure Lists (ρ : Rho) (w : World) (EE E : TypeId) (sz : Nat) (t : Tag) (tg : Nat → Tag) (mc : Nat → List Value) (G : Nat) (vf : Value) (fl : List (Value × Nat)) : Prop where
  row : TRow ρ w EE 1 t vf fl.length (fl.map (·.1))
  each : ∀ (i : Nat) (v : Value) (n : Nat), fl[i]? = some (v, n) → TRow ρ w E sz (tg (G + i)) v n (rep n (mc (G + i))) ∧ n ≤ 4096
/-- All lists that were grown. -/
structure Grp (ρ : Rho) (w : World) (EE E : TypeId) (sz : Nat) (td : Tag) (tg : Nat → Tag) (mc : Nat → List Value) (vd : Value) (D : List (Value × Nat)) : Prop where
  row : TRow ρ w EE 1 td vd D.length (D.map (·.1))
  each : ∀ (j : Nat) (v : Value) (n : Nat), D[j]? = some (v, n) → TRow ρ w E sz (tg (j / 12)) v n (rep n (mc (j / 12))) ∧ n ≤ 4110
section
variable {ρ ρ' : Rho} {w w' : World} {EE E : TypeId} {sz : Nat} {t td : Tag} {tg : Nat → Tag} {mc : Nat → List Value} {G : Nat} {vf vd : Value} {fl D : List (Value × Nat)}
theorem Lists.keep (h : Lists ρ w EE E sz t tg mc G vf fl) {S : List Nat} (hf : Fr S w w') (hS : ∀ x ∈ S, ρ x ≠ some t ∧ ∀ i, ρ x ≠ some (tg i)) (he : Ext w ρ ρ') : Lists ρ' w' EE E sz t tg mc G vf fl :=
  ⟨h.row.keep hf (fun x hx => (hS x hx).1) he, fun i v n hi => ⟨(h.each i v n hi).1.keep hf (fun x hx => (hS x hx).2 _) he, (h.each i v n hi).2⟩⟩
theorem Grp.keep (h : Grp ρ w EE E sz td tg mc vd D) {S : List Nat} (hf : Fr S w w') (hS : ∀ x ∈ S, ρ x ≠ some td ∧ ∀ i, ρ x ≠ some (tg i)) (he : Ext w ρ ρ') : Grp ρ' w' EE E sz td tg mc vd D :=
  ⟨h.row.keep hf (fun x hx => (hS x hx).1) he, fun i v n hi => ⟨(h.each i v n hi).1.keep hf (fun x hx => (hS x hx).2 _) he, (h.each i v n hi).2⟩⟩

/-- While the k-th list is grown: D has j of it; (v, n) is what it has grown to. -/
structure GSt (ρ : Rho) (w : World) (EE E : TypeId) (sz : Nat) (t td : Tag) (tg : Nat → Tag) (mc : Nat → List Value) (G : Nat) (vf : Value) (fl : List (Value × Nat)) (k j c : Nat) (vd : Value) (D : List (Value × Nat)) (v : Value) (n : Nat) : Prop where
  lists : Lists ρ w EE E sz t tg mc G vf fl
  grp : Grp ρ w EE E sz td tg mc vd D
  dl : D.length = 12 * (G + k) + j
  cur : TRow ρ w E sz (tg (G + k)) v n (rep n (mc (G + k)))
  low : ∀ (e : Nat) (v' : Value) (n' : Nat), D[e]? = some (v', n') → e / 12 = G + k → n' ≤ n
  fk : ∀ (v' : Value) (n' : Nat), fl[k]? = some (v', n') → n' ≤ n
  hn : n ≤ c
theorem GSt.start (hl : Lists ρ w EE E sz t tg mc G vf fl) (hg : Grp ρ w EE E sz td tg mc vd D) {k : Nat} (hd : D.length = 12 * (G + k)) {v : Value} {n : Nat} (hk : fl[k]? = some (v, n)) : GSt ρ w EE E sz t td tg mc G vf fl k 0 4096 vd D v n :=
  ⟨hl, hg, by omega, (hl.each k v n hk).1, fun e v' n' he h => by have := (List.getElem?_eq_some_iff.1 he).1; omega, fun v' n' h => by rw [hk] at h; injection h with h; injection h with _ h; omega, (hl.each k v n hk).2⟩
theorem GSt.keep {k j c : Nat} {v : Value} {n : Nat} (h : GSt ρ w EE E sz t td tg mc G vf fl k j c vd D v n) {S : List Nat} (hf : Fr S w w') (hS : ∀ x ∈ S, ρ x ≠ some t ∧ ρ x ≠ some td ∧ ∀ i, ρ x ≠ some (tg i)) (he : Ext w ρ ρ') : GSt ρ' w' EE E sz t td tg mc G vf fl k j c vd D v n :=
  ⟨h.lists.keep hf (fun x hx => ⟨(hS x hx).1, (hS x hx).2.2⟩) he, h.grp.keep hf (fun x hx => ⟨(hS x hx).2.1, (hS x hx).2.2⟩) he, h.dl, h.cur.keep hf (fun x hx => (hS x hx).2.2 _) he, h.low, h.fk, h.hn⟩
end
end Go.Proofs.Ytcpealfaaghpiaa
