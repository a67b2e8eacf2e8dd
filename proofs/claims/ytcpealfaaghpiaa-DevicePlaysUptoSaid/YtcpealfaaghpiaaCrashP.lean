/-
  Crash in plain Lean; and a map from int to int. Own work.
-/
import Derived.Test.YtcpealfaaghpiaaFlushB
namespace Go.Proofs.Ytcpealfaaghpiaa
open Go Go.RowKit Go.Maps Go.Sort Go.Shelf

/-- What a list of keeps says of a place. -/
def staysOf (l : List (Int × Int)) (i : Int) : Option Int := (l.find? fun x => x.1 == i).map (·.2)
def KRange (m : Nat) (x : Int × Int) : Prop := 0 ≤ x.1 ∧ x.1 < (m : Int) ∧ 0 ≤ x.2 ∧ x.2 ≤ 256
instance (m : Nat) (x : Int × Int) : Decidable (KRange m x) := by unfold KRange; exact inferInstance
/-- The keeps are right. -/
def KOk (m : Nat) (l : List (Int × Int)) : Prop := (∀ x ∈ l, KRange m x) ∧ (l.map (·.1)).Nodup
instance (m : Nat) (l : List (Int × Int)) : Decidable (KOk m l) := by unfold KOk; exact inferInstance
theorem staysOf_none {l : List (Int × Int)} {i : Int} : staysOf l i = none ↔ i ∉ l.map (·.1) := by
  unfold staysOf
  rw [Option.map_eq_none_iff, List.find?_eq_none]
  simp only [List.mem_map, not_exists, not_and, beq_iff_eq]
theorem staysOf_snoc {l : List (Int × Int)} {x : Int × Int} (h : staysOf l x.1 = none) (i : Int) : staysOf (l ++ [x]) i = if i = x.1 then some x.2 else staysOf l i := by
  unfold staysOf at *
  rw [List.find?_append]
  by_cases e : i = x.1
  · subst e
    rw [if_pos rfl]
    rw [Option.map_eq_none_iff] at h
    rw [h]; simp
  · rw [if_neg e]
    have : ([x].find? fun y => y.1 == i) = none := by simp; exact fun h => e h.symm
    rw [this]; simp
theorem KOk_nil (m : Nat) : KOk m [] := ⟨by simp, by simp⟩
theorem KOk_snoc {m : Nat} {l : List (Int × Int)} {x : Int × Int} (h : KOk m l) : KOk m (l ++ [x]) ↔ KRange m x ∧ staysOf l x.1 = none := by
  unfold KOk at *
  constructor
  · rintro ⟨h1, h2⟩
    refine ⟨h1 x (by simp), staysOf_none.2 ?_⟩
    rw [List.map_append, List.nodup_append] at h2
    intro hm
    exact h2.2.2 _ hm _ (by simp) rfl
  · rintro ⟨h1, h2⟩
    refine ⟨?_, ?_⟩
    · intro y hy
      rcases List.mem_append.1 hy with hy | hy
      · exact h.1 y hy
      · simp at hy; subst hy; exact h1
    · rw [List.map_append, List.nodup_append]
      refine ⟨h.2, by simp, ?_⟩
      intro a ha b hb e
      simp at hb
      subst hb
      rw [e] at ha
      exact staysOf_none.1 h2 ha
theorem KOk_take {m : Nat} {l : List (Int × Int)} (h : KOk m l) (k : Nat) : KOk m (l.take k) :=
  ⟨fun x hx => h.1 x (List.mem_of_mem_take hx), by rw [List.map_take]; exact h.2.sublist (List.take_sublist _ _)⟩
theorem staysOf_range {m : Nat} {l : List (Int × Int)} (h : KOk m l) {i v : Int} (hv : staysOf l i = some v) : 0 ≤ v ∧ v ≤ 256 := by
  unfold staysOf at hv
  rw [Option.map_eq_some_iff] at hv
  obtain ⟨x, hx, rfl⟩ := hv
  have := h.1 x (List.mem_of_find?_eq_some hx)
  exact ⟨this.2.2.1, this.2.2.2⟩

/-- How many bytes of the place's write stay. -/
def kept (ks : List (Int × Int)) (j : Nat) : Nat := ((staysOf ks (j : Int)).getD 0).toNat
theorem kept_le {m : Nat} {ks : List (Int × Int)} (h : KOk m ks) (j : Nat) : kept ks j ≤ 256 := by
  unfold kept
  cases e : staysOf ks (j : Int) with
  | none => simp
  | some v => have := staysOf_range h e; simp; omega
/-- What is in a page behind a crash. -/
def DA.cdata (D : DA) (ks : List (Int × Int)) (x : Nat) : ByteArray :=
  ((D.at_ x).getD ByteArray.empty).extract 0 (kept ks (D.keys.idxOf x)) ++ (D.L.getD x ByteArray.empty).extract (kept ks (D.keys.idxOf x)) 256
def DA.cL (D : DA) (ks : List (Int × Int)) (l : List Nat) : List ByteArray := l.foldl (fun L i => L.set i (D.cdata ks i)) D.L
def DA.crash (D : DA) (ks : List (Int × Int)) : Int × DA :=
  if KOk D.keys.length ks then (0, { L := D.cL ks D.keys, P := D.P.map fun _ => none, dead := false, left := 0 }) else (92, D)
theorem cL_len (D : DA) (ks : List (Int × Int)) (l : List Nat) : (D.cL ks l).length = D.L.length := foldl_set_len _ _ _
theorem cL_snoc (D : DA) (ks : List (Int × Int)) (l : List Nat) (x : Nat) : D.cL ks (l ++ [x]) = (D.cL ks l).set x (D.cdata ks x) := by simp [DA.cL]
theorem keys_idx {D : DA} {k x : Nat} (hx : D.keys[k]? = some x) : D.keys.idxOf x = k := by
  obtain ⟨hk, he⟩ := List.getElem?_eq_some_iff.1 hx
  have hnd : D.keys.Nodup := (keys_pairwise D).imp (by intro a b h; omega)
  rw [← he]
  exact hnd.idxOf_getElem k hk
theorem keys_fresh {D : DA} {k x : Nat} (hx : D.keys[k]? = some x) : x ∉ D.keys.take k := by
  intro hm
  obtain ⟨j, hj, he⟩ := List.getElem_of_mem hm
  rw [List.length_take] at hj
  rw [List.getElem_take] at he
  obtain ⟨hk, he2⟩ := List.getElem?_eq_some_iff.1 hx
  have := (List.pairwise_iff_getElem.1 (keys_pairwise D)) j k (by omega) hk (by omega)
  omega
theorem cL_get {D : DA} (ks : List (Int × Int)) {k x : Nat} (hx : D.keys[k]? = some x) : (D.cL ks (D.keys.take k))[x]? = D.L[x]? := by
  unfold DA.cL
  rw [foldl_set_get (fun i => D.cdata ks i), if_neg]
  exact fun h => keys_fresh hx h.1
theorem cdata_size {D : DA} (h : D.WF) {ks : List (Int × Int)} (hk : KOk D.keys.length ks) {x : Nat} (hx : x ∈ D.keys) : (D.cdata ks x).size = 256 := by
  have hxl := keys_lt D hx
  have hs := (mem_keys D x).1 hx
  unfold DA.cdata
  have hn := kept_le hk (D.keys.idxOf x)
  have hL : (D.L.getD x ByteArray.empty).size = 256 := by
    have : x < D.L.length := by rw [← h.len]; exact hxl
    rw [show D.L.getD x ByteArray.empty = D.L[x] by simp [List.getD, this]]
    exact h.szL _ (List.getElem_mem _)
  have hP : ((D.at_ x).getD ByteArray.empty).size = 256 := by
    unfold DA.at_ at hs ⊢
    have h2 : D.P[x]? = some (D.P[x]) := by simp [hxl]
    rw [h2] at hs ⊢
    cases hp : D.P[x] with
    | none => rw [hp] at hs; simp at hs
    | some t => exact h.szP t (by rw [← hp]; exact List.getElem_mem _)
  rw [ByteArray.size_append, ByteArray.size_extract, ByteArray.size_extract, hL, hP]
  omega

theorem cL_sz {D : DA} (h : D.WF) {ks : List (Int × Int)} (hk : KOk D.keys.length ks) : ∀ s ∈ D.cL ks D.keys, s.size = 256 := by
  intro s hs
  obtain ⟨j, hj⟩ := List.getElem?_of_mem hs
  unfold DA.cL at hj
  rw [foldl_set_get (fun i => D.cdata ks i)] at hj
  split at hj
  · rename_i hc
    obtain rfl := Option.some.inj hj
    exact cdata_size h hk hc.1
  · exact h.szL _ (List.mem_of_getElem? hj)

/-! ### a map from int to int -/
structure NumIs (M : DataW Unit) (f : Int → Option Int) : Prop where
  has : ∀ k : Int, Maps.has M (.int .i64 k) = (f k).isSome
  at_ : ∀ (k v : Int), f k = some v → ∀ z, M.atKey (.int .i64 k) z = .lit (.int .i64 v)
def MapN (w : World) (b n : Nat) (f : Int → Option Int) : Prop :=
  ∃ M : DataW Unit, w.ownsMap Try.prog 3 (plainElem Try.prog 3) b n M ∧ NumIs M f
theorem uMN : Try.prog.underlying 105 = some (.map 3 3) := Try.underlying105
theorem zeroI (w : World) : (zeroValue 3).run Try.prog w = .ok (.int .i64 0) w := by kernel_rfl
theorem MapN.keep {w w' : World} {b n : Nat} {f : Int → Option Int} (h : MapN w b n f) {S : List Nat} (hf : Fr S w w') (hb : b ∉ S) : MapN w' b n f := by
  obtain ⟨M, ⟨es, clk, hh, r⟩, hp⟩ := h
  exact ⟨M, ⟨es, clk, hf.keep hh hb, r⟩, hp⟩
theorem MapN.lt {w : World} {b n : Nat} {f : Int → Option Int} (h : MapN w b n f) : b < w.heap.size := h.choose_spec.1.lt
theorem NumIs.zero {M : DataW Unit} {f : Int → Option Int} (h : NumIs M f) (k : Int) : M.atKey (.int .i64 k) (.lit (.int .i64 0)) = .lit (.int .i64 ((f k).getD 0)) := by
  cases e : f k with
  | none => rw [Maps.atKey_of_not_has (by rw [h.has, e]; rfl)]; rfl
  | some s => rw [h.at_ k s e]; rfl
theorem MapN.look_ok {w : World} {b n : Nat} {f : Int → Option Int} (h : MapN w b n f) {k : Int} (hk : (Lit.int .i64 k).wf = true) :
    (Instr.lookup 105 (.map (some b)) (.int .i64 k) true).run Try.prog w = .ok (.tuple #[.int .i64 ((f k).getD 0), .bool (f k).isSome]) w := by
  obtain ⟨M, ho, hp⟩ := h
  obtain ⟨v, ps, hrun, hv⟩ := ho.look_ok keyI uMN (zeroI w) (plainElem_int uI (by decide)) (Maps.keyOf_int_mk uI hk)
  obtain ⟨s, rfl, hz, _⟩ := plainElem_int_inv uI hv
  rw [hrun, hp.has]
  rw [hp.zero] at hz
  rw [(Lit.int.inj (DataW.lit.inj (Prod.mk.inj hz).1)).2]
theorem MapN.look {w : World} {b n : Nat} {f : Int → Option Int} (h : MapN w b n f) {k : Int} (hk : (Lit.int .i64 k).wf = true) :
    (Instr.lookup 105 (.map (some b)) (.int .i64 k) false).run Try.prog w = .ok (.int .i64 ((f k).getD 0)) w := by
  obtain ⟨M, ho, hp⟩ := h
  obtain ⟨v, ps, hrun, hv⟩ := ho.lookup keyI uMN (zeroI w) (plainElem_int uI (by decide)) (Maps.keyOf_int_mk uI hk)
  obtain ⟨s, rfl, hz, _⟩ := plainElem_int_inv uI hv
  rw [hrun]
  rw [hp.zero] at hz
  rw [(Lit.int.inj (DataW.lit.inj (Prod.mk.inj hz).1)).2]
theorem MapN.store {w : World} {b n : Nat} {f : Int → Option Int} (h : MapN w b n f) (hn : n < maxLen) {k v : Int} (hk : (Lit.int .i64 k).wf = true) (hv : (Lit.int .i64 v).wf = true) :
    ∃ w', (Instr.mapUpdate 105 (.map (some b)) (.int .i64 k) (.int .i64 v)).run Try.prog w = .ok () w' ∧ MapN w' b (n + 1) (fun i => if i = k then some v else f i) ∧ Fr [b] w w' := by
  obtain ⟨M, ho, hp⟩ := h
  have hkey := Maps.keyOf_int_mk uI hk
  obtain ⟨w', hrun, ho', ht⟩ := ho.store keyI uMN hn hkey (plainElem_int uI hv)
  refine ⟨w', hrun, ⟨_, ho', ⟨fun i => ?_, fun i t hi z => ?_⟩⟩, mapTurned_fr ht⟩
  · by_cases e : i = k
    · subst e; rw [if_pos rfl, Maps.has_put_same ho.isMap (by trivial)]; rfl
    · rw [if_neg e, Maps.has_put_other (lit_ne e), hp.has]
  · by_cases e : i = k
    · subst e; rw [if_pos rfl] at hi; obtain rfl := Option.some.inj hi; exact Maps.atKey_put_same ho.isMap (by trivial) _ _
    · rw [if_neg e] at hi; rw [Maps.atKey_put_other (lit_ne e)]; exact hp.at_ i t hi z
theorem MapN.made (w : World) : MapN (w.alloc (.map #[] 0)) w.heap.size 0 (fun _ => none) :=
  ⟨.map [], World.ownsMap_made _ _ _ _, ⟨fun _ => rfl, fun _ _ h => by cases h⟩⟩
end Go.Proofs.Ytcpealfaaghpiaa
