/-
  The program's device: rising (the keys of what is pending, sorted). Own work.
-/
import Derived.Test.YtcpealfaaghpiaaShelf
import Derived.Test.YtcpealfaaghpiaaDevB
namespace Go.Proofs.Ytcpealfaaghpiaa
open Go Go.RowKit Go.Maps Go.Sort Go.Shelf

theorem sorts (m : Nat) : AnyZI.SortsIn Try.prog Try.sortedA_ren Fence.wide m :=
  ⟨fun blk off cap ss W hH hblk hsz => callsIn_wide.2 (AnyM.slices_Sort_int Try.sortA blk off cap ss W hH hblk hsz),
   fun p cap W => callsIn_wide.2 (AnyM.slices_Sort_int_none Try.sortA p cap W)⟩

set_option maxHeartbeats 1000000 in
theorem rising_raw (d b nn : Nat) (M : DataW Unit) (R : Value → Option (DataW Unit × List MemPlace)) (w : World) (c1 : w.cell? ⟨d, 1, none⟩ = some (.map (some b))) (hown : w.ownsMap Try.prog 3 R b nn M) (hmax : Maps.size M ≤ maxLen) (hbytes : Maps.size M * 8 ≤ 140737488355328) :
    Calls Try.prog 36 #[.pointer (some ⟨d, 0, none⟩)] w fun e w' => ∃ (v : Value) (ss : List Int), e = .returned v ∧ ss.Perm (intKeys M) ∧
      w'.ownsRow w.heap.size 3 1 v ss.length ((ss.mergeSort (fun x y => decide (x ≤ y))).map encZ) ∧ Below w.heap.size w w' := by
  refine (callsIn_wide (n := 6)).1 ?_
  have hbl := hown.lt
  have hseq : SeqGives Fence.wide 2 Try.prog 63 #[.pointer (some ⟨w.heap.size, 0, none⟩)] encZ (fun ss => ss.Perm (intKeys M)) (Maps.size M) (w.alloc (.cells #[.map (some b)] 70)) :=
    AnyZI.keys_gives (ρ := Try.keysA_ren) { Try.keysA with } Fence.wide _ trivial rfl (by omega) w.heap.size b nn M _ (by simp) (by simp) (by
      obtain ⟨es, clock, hb, Ft, hs, hD⟩ := hown
      exact ⟨es, clock, (Below.heap_alloc _ _ b hbl).trans hb, Ft, hs, hD⟩)
  have cK : ∀ mb W, CallsIn Fence.wide 5 Try.prog 51 #[.map mb] W fun e w' => e = .returned (.func (.func 63) #[] #[.pointer (some ⟨W.heap.size, 0, none⟩)]) ∧ w' = W.alloc (.cells #[.map mb] 70) := fun mb W => AnyZI.keys_in Try.keysA Fence.wide 5 trivial rfl mb W
  have cS := AnyZI.sorted_in Try.sortedA Fence.wide 5 trivial trivial trivial trivial rfl (by omega) (sorts _) (enters_of Try.func62 (by kernel_rfl) rfl) 63 #[.pointer (some ⟨w.heap.size, 0, none⟩)] trivial (enters_of Try.func63 (by kernel_rfl) rfl) _ _ hmax hbytes _ hseq
  change CallsIn _ _ Try.prog 50 _ _ _ at cS
  have hfK : Fence.wide.fn 51 := trivial
  have hfS : Fence.wide.fn 50 := trivial
  refine callsIn_of_wp Try.func36 rfl trivial ?_ rfl
  simp only [Try.ntmps36, List.size_toArray, List.length_cons, List.length_nil, Nat.reduceAdd, Nat.reduceSub, Array.replicate_succ, Array.replicate_zero, List.push_toArray, List.append_toArray, List.nil_append, List.cons_append]
  gi_wp2_with (first
    | (gi_at_call 51; refine (cK _ _).mono ?_; rintro e w' ⟨rfl, rfl⟩)
    | (gi_at_call 50; refine cS.mono ?_; rintro e w' ⟨v, ss, rfl, hS, hrow, hnil, hb⟩))
  go_ret
  exact ⟨v, ss, rfl, hS, ownsRow_base_a hrow (by simp), ((Below.refl _ w).alloc (Nat.le_refl _) _).trans (hb.mono (by simp))⟩

/-- A slice of ints. -/
def Ints (w : World) (v : Value) (l : List Nat) : Prop := Row w 3 1 v l.length (l.map fun (i : Nat) => Value.int .i64 (i : Int))
theorem Row.ofOwn {w : World} {base : Nat} {E : TypeId} {sz : Nat} {v : Value} {n : Nat} {xs : List Value} (h : w.ownsRow base E sz v n xs) : Row w E sz v n xs := by
  refine ⟨h.1, ?_⟩
  rcases h.2 with hn | ⟨g, cap, cur, rfl, _, hg, h1, h2, h3, h4⟩
  · exact .inl hn
  · exact .inr ⟨g, cap, cur, rfl, hg, h1, h2, by omega, h4⟩
theorem Ints.at {w : World} {v : Value} {l : List Nat} (h : Ints w v l) {i x : Nat} (hi : l[i]? = some x) :
    ∃ g cap, v = .slice (some ⟨g, 0, none⟩) l.length cap ∧ w.cell? ⟨g, i, none⟩ = some (.int .i64 (x : Int)) ∧ w.frozen? ⟨g, i, none⟩ = false :=
  Row.cell h (by simp [hi])

theorem rising_walk (w : World) (d p m : Nat) (D : DA) (h : DevIs w d p m D) :
    Calls Try.prog 36 #[.pointer (some ⟨d, 0, none⟩)] w fun e w' => ∃ v, e = .returned v ∧ Ints w' v D.keys ∧ Fr [] w w' ∧ (∀ k, v.ownBlock = some k → w.heap.size ≤ k) := by
  obtain ⟨cap, armed, c0, c1, c2, c3, _⟩ := h.cells
  obtain ⟨M, ho, hp⟩ := h.pend
  have hsz := ho.size_le
  have hb : D.P.length ≤ 4096 := by rw [h.wf.len]; exact h.wf.hi
  refine (rising_raw d m _ M _ w c1 ho (by unfold maxLen; omega) (by omega)).mono ?_
  rintro e w' ⟨v, ss, rfl, hS, hrow, hbl⟩
  obtain ⟨es', hM, hpw, _⟩ := ho.entries keyI
  obtain ⟨es'', hM', hko⟩ := ho.keysOf
  obtain rfl : es' = es'' := by rw [hM] at hM'; simpa using hM'
  have hk : ∀ p ∈ es', ∃ x, p.1 = .int .i64 x := fun p hp => by obtain ⟨v, hv⟩ := hko p hp; obtain ⟨x, _, hx, _⟩ := Maps.keyOf_i64 uI hv; exact ⟨x, hx⟩
  have hsorted := sorted_keys hp hM hpw hk hS
  have hlen : ss.length = D.keys.length := by
    have := congrArg List.length hsorted
    rwa [List.length_mergeSort, List.length_map] at this
  refine ⟨v, rfl, ?_, Fr.ofBelow hbl, fun k hk => (hrow.lt k hk).1⟩
  have hr := Row.ofOwn hrow
  rw [hlen] at hr
  have e : (ss.mergeSort (fun x y => decide (x ≤ y))).map encZ = D.keys.map fun (i : Nat) => Value.int .i64 (i : Int) := by
    rw [show (ss.mergeSort (fun x y => decide (x ≤ y))) = ss.mergeSort leI from rfl, hsorted, List.map_map]; rfl
  rw [e] at hr
  exact hr
end Go.Proofs.Ytcpealfaaghpiaa
