/-
  append onto a row that lies anywhere in its block, as an equation and as a step of the walk. Own work.
-/
import Derived.Deep.RegionLaw
import Derived.Test.YtcpealfaaghpiaaSide
namespace Go.Proofs.Ytcpealfaaghpiaa
open Go Go.RowKit Go.Maps Go.Sort Go.Shelf

theorem setCells_heap {b : Nat} {T : TypeId} : ∀ (vs : List Value) (o : Nat) (w : World) (cur : Array Value), w.heap[b]? = some (.cells cur T (0, 0)) →
    ∃ cur', (w.setCells b o vs).heap[b]? = some (.cells cur' T (0, 0)) ∧ cur'.size = cur.size ∧ (∀ j, (j < o ∨ o + vs.length ≤ j) → cur'[j]? = cur[j]?) ∧ (∀ j, j < vs.length → o + j < cur.size → cur'[o + j]? = vs[j]?) ∧ Fr [b] w (w.setCells b o vs)
  | [], o, w, cur, h => ⟨cur, h, rfl, fun _ _ => rfl, fun j hj => by simp at hj, Fr.refl _ _⟩
  | v :: r, o, w, cur, h => by
    obtain ⟨c2, e1, e2, e3, e4, e5⟩ := setCells_heap r (o + 1) (w.setCell ⟨b, o, none⟩ v) _ (heap_setCell_same _ _ _ _ _ _ h)
    refine ⟨c2, e1, by simpa using e2, fun j hj => ?_, fun j hj hs => ?_, ((Fr.refl [b] w).setCell (.inl (by simp)) v).trans e5 (fun _ hx => .inl hx)⟩
    · have : j ≠ o := by simp at hj; omega
      rw [e3 j (by simp at hj; omega), Array.getElem?_setIfInBounds, if_neg (by omega)]
    · cases j with
      | zero =>
        rw [e3 (o + 0) (by omega), Array.getElem?_setIfInBounds, if_pos (by omega), if_pos (by omega)]
        rfl
      | succ j =>
        have := e4 j (by simp at hj; omega) (by simp; omega)
        rw [show o + (j + 1) = o + 1 + j by omega, this]
        rfl

/-- Behind an append: the new row; what has turned. -/
structure App (w w' : World) (E : TypeId) (sz : Nat) (v v' : Value) (n m : Nat) (xs news : List Value) : Prop where
  row : Row w' E sz v' (n + m) (xs ++ news)
  fr : Fr v.ownBlock.toList w w'
  blk : ∀ k, v'.ownBlock = some k → v.ownBlock = some k ∨ w.heap.size ≤ k
  old : ∀ g cur T, v.ownBlock = some g → w.heap[g]? = some (.cells cur T (0, 0)) → ∃ cur', w'.heap[g]? = some (.cells cur' T (0, 0)) ∧ cur'.size = cur.size ∧ ∀ j, cur'[j]? = cur[j]? ∨ ∃ i, i < news.length ∧ j = n * sz + i ∧ cur'[j]? = news[i]?

theorem run_append_row {P : Program} (w : World) (t ty e : TypeId) (i : TypeInfo) (z : Value) (size bytes : Nat) (ht : P.underlying t = some (.slice e)) (hi : P.info? e = some i) (hz : i.zero = some z)
    (hsize : i.size = size) (hby : i.bytes = bytes) (hzs : z.cells.size = size) (hsz : 0 < size)
    (v : Value) (n : Nat) (xs : List Value) (hr : Row w e size v n xs)
    (a : Addr) (m c : Nat) (news : List Value) (hl : news.length = m * size) (hnews : ∀ j u, news[j]? = some u → w.cell? (a.add j) = some u) (h1 : ∀ u ∈ news, u.oneCell' = true)
    (h63 : n + m ≤ maxLen) (hbytes : (n + m) * bytes ≤ 140737488355328) :
    ∃ v' w', (Builtin.append_ #[t, t] ty #[v, .slice (some a) m c]).run P w = .ok v' w' ∧ App w w' e size v v' n m xs news := by
  rcases hr.2 with ⟨rfl, rfl⟩ | ⟨g, cap, cur, rfl, hg, hn, hcm, hcs, htk⟩
  · have hx : xs = [] := List.eq_nil_of_length_eq_zero (by rw [hr.1]; simp)
    subst hx
    obtain ⟨v', w', hrun, hown, hgrow, _⟩ := run_append_own (P := P) w w.heap.size t ty e i z size bytes ht hi hz hsize hby hzs hsz _ 0 [] (World.ownsRow_nil w _ _ _) a m c news hl hnews h1 h63 hbytes (Nat.le_refl _)
    refine ⟨v', w', hrun, Row.ofOwn hown, (Fr.refl _ w).grown hgrow (fun k hk => by cases hk), fun k hk => .inr (hown.lt k hk).1, ?_⟩
    intro g cur T hg; cases hg
  · have hxs : ∀ j u, xs[j]? = some u → w.cell? ((⟨g, 0, none⟩ : Addr).add j) = some u := by
      intro j u hj
      rw [Addr.add_lit, Nat.zero_add, cell_of_row _ _ _ _ _ _ hg]
      rw [← htk, List.getElem?_take] at hj
      split at hj
      · simpa using hj
      · cases hj
    by_cases hroom : n + m ≤ cap
    · have hb : n * size + m * size ≤ cur.size := by rw [← Nat.add_mul]; exact Nat.le_trans (Nat.mul_le_mul_right _ hroom) hcs
      subst hsize
      have hcell : ∀ j, j < news.length → (w.cell? ⟨g, 0 + n * i.size + j, none⟩).isSome = true := by
        intro j hj
        rw [cell_of_row _ _ _ _ _ _ hg]
        simp; omega
      have hfz : ∀ j, j < news.length → w.frozen? ⟨g, 0 + n * i.size + j, none⟩ = false := fun j _ => frozen_of_row _ _ _ _ _ hg
      have hrun := run_append_room_cells (P := P) w t ty e i ht hi g 0 n cap a m c news hl hnews h1 hroom hcell hfz
      obtain ⟨c2, e1, e2, e3, e4, e5⟩ := setCells_heap news (0 + n * i.size) w cur hg
      refine ⟨_, _, hrun, ⟨by rw [List.length_append, hr.1, hl, Nat.add_mul], .inr ⟨g, cap, c2, rfl, e1, hroom, hcm, by rw [e2]; exact hcs, ?_⟩⟩, e5, fun k hk => .inl hk, ?_⟩
      · apply List.ext_getElem?
        intro j
        rw [List.getElem?_take]
        have hxl := hr.1
        split
        · rename_i hj
          rw [Array.getElem?_toList]
          rw [Nat.add_mul] at hj
          by_cases hj2 : j < n * i.size
          · rw [e3 j (by omega), List.getElem?_append_left (by omega), ← htk, List.getElem?_take, if_pos hj2, Array.getElem?_toList]
          · have := e4 (j - n * i.size) (by omega) (by omega)
            rw [show 0 + n * i.size + (j - n * i.size) = j by omega] at this
            rw [this, List.getElem?_append_right (by omega), hxl]
        · rename_i hj
          rw [Nat.add_mul] at hj
          rw [List.getElem?_eq_none]
          rw [List.length_append, hxl, hl]; omega
      · intro g' cur' T hg' hc'
        simp [Value.ownBlock] at hg'
        subst hg'
        rw [hg] at hc'
        injection hc' with hc'
        injection hc' with q1 q2 q3
        subst q1 q2
        refine ⟨c2, e1, e2, fun j => ?_⟩
        by_cases hj : j < 0 + n * i.size ∨ 0 + n * i.size + news.length ≤ j
        · exact .inl (e3 j hj)
        · refine .inr ⟨j - n * i.size, by omega, by omega, ?_⟩
          have := e4 (j - n * i.size) (by omega) (by omega)
          rw [show 0 + n * i.size + (j - n * i.size) = j by omega] at this
          exact this
    · obtain ⟨v', w', hrun, hown, hgrow⟩ := run_append_arg_grows (P := P) w t ty e i z size bytes ht hi hz hsize hby hzs hsz ⟨g, 0, none⟩ n cap xs hr.1 hxs a m c news hl hnews (by omega) h63 hbytes
      have hf : Fr [] w w' := (Fr.refl _ w).grown hgrow (fun k hk => by cases hk)
      refine ⟨v', w', hrun, Row.ofOwn hown, hf.weak (by simp), fun k hk => .inr (hown.lt k hk).1, ?_⟩
      intro g' cur' T hg' hc'
      exact ⟨cur', hf.keep hc' (by simp), rfl, fun j => .inl rfl⟩

theorem run_append_nil_nil {P : Program} (w : World) (t ty e : TypeId) (i : TypeInfo) (ht : P.underlying t = some (.slice e)) (hi : P.info? e = some i) :
    (Builtin.append_ #[t, t] ty #[.slice none 0 0, .slice none 0 0]).run P w = .ok (.slice none 0 0) w := by
  simp [Builtin.append_, run_underlying ht, sizeOf, typeInfo, hi, Builtin.lenOf, Builtin.firstCells]

/-- A row appended to nothing: a copy of it. -/
theorem run_append_copy {P : Program} (w : World) (t ty e : TypeId) (i : TypeInfo) (z : Value) (size bytes : Nat) (ht : P.underlying t = some (.slice e)) (hi : P.info? e = some i) (hz : i.zero = some z)
    (hsize : i.size = size) (hby : i.bytes = bytes) (hzs : z.cells.size = size) (hsz : 0 < size)
    (x : Value) (n : Nat) (xs : List Value) (hr : Row w e size x n xs) (h1 : ∀ u ∈ xs, u.oneCell' = true)
    (h63 : n ≤ maxLen) (hbytes : n * bytes ≤ 140737488355328) :
    ∃ v' w', (Builtin.append_ #[t, t] ty #[.slice none 0 0, x]).run P w = .ok v' w' ∧ Row w' e size v' n xs ∧ Fr [] w w' ∧ (∀ k, v'.ownBlock = some k → w.heap.size ≤ k) := by
  rcases hr.2 with ⟨rfl, rfl⟩ | ⟨g, cap, cur, rfl, hg, hn, hcm, hcs, htk⟩
  · exact ⟨_, _, run_append_nil_nil w t ty e i ht hi, hr, Fr.refl _ _, by simp [Value.ownBlock]⟩
  · have hxs : ∀ j u, xs[j]? = some u → w.cell? ((⟨g, 0, none⟩ : Addr).add j) = some u := by
      intro j u hj
      rw [Addr.add_lit, Nat.zero_add, cell_of_row _ _ _ _ _ _ hg]
      rw [← htk, List.getElem?_take] at hj
      split at hj
      · simpa using hj
      · cases hj
    obtain ⟨v', w', hrun, hown, hgrow, _⟩ := run_append_own (P := P) w w.heap.size t ty e i z size bytes ht hi hz hsize hby hzs hsz _ 0 [] (World.ownsRow_nil w _ _ _) ⟨g, 0, none⟩ n cap xs hr.1 hxs h1 (by omega) (by simpa using hbytes) (Nat.le_refl _)
    refine ⟨v', w', hrun, ?_, (Fr.refl _ w).grown hgrow (fun k hk => by cases hk), fun k hk => (hown.lt k hk).1⟩
    have := Row.ofOwn hown
    simpa using this
theorem step_append_copy {P : Program} {ops : Array Oper} {o : Oper} {a : Act} {w : World} {K : Act → World → Prop} {Q : Exit → Act → World → Prop} {E : Prop}
    (hg : o.guard = none) (x : Operand) (t : TypeId) (hop : o.op = Op.call { callee := Callee.builtin Builtin.append, args := #[.const (.slice none 0 0), x], argTypes := #[t, t] })
    (e : TypeId) (i : TypeInfo) (z : Value) (size bytes : Nat) (ht : P.underlying t = some (.slice e)) (hi : P.info? e = some i) (hz : i.zero = some z)
    (hsize : i.size = size) (hby : i.bytes = bytes) (hzs : z.cells.size = size) (hsz : 0 < size)
    (v : Value) (n : Nat) (xs : List Value) (hx : a.eval x = v) (hr : Row w e size v n xs) (h1 : ∀ u ∈ xs, u.oneCell' = true)
    (h63 : n ≤ maxLen) (hbytes : n * bytes ≤ 140737488355328)
    (h : ∀ v' w', Hid (Row w' e size v' n xs ∧ Fr [] w w' ∧ (∀ k, v'.ownBlock = some k → w.heap.size ≤ k)) → K (a.put o.dst v') w') :
    if Region.wanted o (yielded ops a.tmps) = true then Oper.wp P o a w K Q else E := by
  have hw : Region.wanted o (yielded ops a.tmps) = true := by simp [Region.wanted, hg]
  rw [if_pos hw]
  obtain ⟨v', w', hrun, happ⟩ := run_append_copy (P := P) w t o.type e i z size bytes ht hi hz hsize hby hzs hsz v n xs hr h1 h63 hbytes
  unfold Oper.wp
  have hs : a.eval (.const (.slice none 0 0)) = .slice none 0 0 := rfl
  simp [execOp, hop, resolve, invoke, builtin, hs, hx, hrun, Result.andThen]
  exact h v' w' happ
/-- .. for the walk. -/
theorem wpList_append_row {P : Program} {w : World} {ops : Array Oper} {rest : List Oper} {o : Oper} {a : Act} {Q : Exit → Act → World → Prop}
    (hg : o.guard = none) (s x : Operand) (t : TypeId) (hop : o.op = Op.call { callee := Callee.builtin Builtin.append, args := #[s, x], argTypes := #[t, t] })
    (e : TypeId) (i : TypeInfo) (z : Value) (size bytes : Nat) (ht : P.underlying t = some (.slice e)) (hi : P.info? e = some i) (hz : i.zero = some z)
    (hsize : i.size = size) (hby : i.bytes = bytes) (hzs : z.cells.size = size) (hsz : 0 < size)
    (v : Value) (n : Nat) (xs : List Value) (hs : a.eval s = v) (hr : Row w e size v n xs)
    (ad : Addr) (m c : Nat) (news : List Value) (hx : a.eval x = .slice (some ad) m c) (hl : news.length = m * size) (hnews : ∀ j u, news[j]? = some u → w.cell? (ad.add j) = some u) (h1 : ∀ u ∈ news, u.oneCell' = true)
    (h63 : n + m ≤ maxLen) (hbytes : (n + m) * bytes ≤ 140737488355328)
    (h : ∀ v' w', Hid (App w w' e size v v' n m xs news) → wpList P ops Q rest (a.put o.dst v') w') :
    wpList P ops Q (o :: rest) a w := by
  refine wpList_plain hg fun K hK => ?_
  obtain ⟨v', w', hrun, happ⟩ := run_append_row (P := P) w t o.type e i z size bytes ht hi hz hsize hby hzs hsz v n xs hr ad m c news hl hnews h1 h63 hbytes
  unfold Oper.wp
  simp [execOp, hop, resolve, invoke, builtin, hs, hx, hrun, Result.andThen]
  exact hK _ _ (h v' w' happ)
/-- .. for a region that draws its order. -/
theorem step_append_row {P : Program} {ops : Array Oper} {o : Oper} {a : Act} {w : World} {K : Act → World → Prop} {Q : Exit → Act → World → Prop} {E : Prop}
    (hg : o.guard = none) (s x : Operand) (t : TypeId) (hop : o.op = Op.call { callee := Callee.builtin Builtin.append, args := #[s, x], argTypes := #[t, t] })
    (e : TypeId) (i : TypeInfo) (z : Value) (size bytes : Nat) (ht : P.underlying t = some (.slice e)) (hi : P.info? e = some i) (hz : i.zero = some z)
    (hsize : i.size = size) (hby : i.bytes = bytes) (hzs : z.cells.size = size) (hsz : 0 < size)
    (v : Value) (n : Nat) (xs : List Value) (hs : a.eval s = v) (hr : Row w e size v n xs)
    (ad : Addr) (m c : Nat) (news : List Value) (hx : a.eval x = .slice (some ad) m c) (hl : news.length = m * size) (hnews : ∀ j u, news[j]? = some u → w.cell? (ad.add j) = some u) (h1 : ∀ u ∈ news, u.oneCell' = true)
    (h63 : n + m ≤ maxLen) (hbytes : (n + m) * bytes ≤ 140737488355328)
    (h : ∀ v' w', Hid (App w w' e size v v' n m xs news) → K (a.put o.dst v') w') :
    if Region.wanted o (yielded ops a.tmps) = true then Oper.wp P o a w K Q else E := by
  have hw : Region.wanted o (yielded ops a.tmps) = true := by simp [Region.wanted, hg]
  rw [if_pos hw]
  obtain ⟨v', w', hrun, happ⟩ := run_append_row (P := P) w t o.type e i z size bytes ht hi hz hsize hby hzs hsz v n xs hr ad m c news hl hnews h1 h63 hbytes
  unfold Oper.wp
  simp [execOp, hop, resolve, invoke, builtin, hs, hx, hrun, Result.andThen]
  exact h v' w' happ
end Go.Proofs.Ytcpealfaaghpiaa
