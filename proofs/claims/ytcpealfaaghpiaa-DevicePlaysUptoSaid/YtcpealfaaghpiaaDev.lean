/-
  The program's device in memory; its small calls. Own work.
-/
import Derived.Maps.OwnSet
import Derived.Maps.StringElems
import Derived.Test.YtcpealfaaghpiaaRows
import Derived.Test.YtcpealfaaghpiaaBase
import Derived.Test.YtcpealfaaghpiaaPlain
namespace Go.Proofs.Ytcpealfaaghpiaa
open Go Go.RowKit

theorem uS : Try.prog.underlying 9 = some .string := Try.underlying9
theorem uI : Try.prog.underlying 3 = some (.int .i64) := Try.underlying3
theorem uM : Try.prog.underlying 70 = some (.map 3 9) := Try.underlying70
theorem keyI : Maps.Keyed Try.prog 3 := Maps.int_keyed Try.underlying3
theorem zeroS (w : World) : (zeroValue 9).run Try.prog w = .ok (.string ByteArray.empty) w := by kernel_rfl

/-- The map of pending writes lies in block m. -/
def MapP (w : World) (m : Nat) (P : List (Option ByteArray)) : Prop :=
  ∃ M : DataW Unit, w.ownsMap Try.prog 3 (plainElem Try.prog 9) m P.length M ∧ PendIs M P

/-- The program's device lies in the blocks d (its fields), p (its pages), m (what is pending). -/
structure DevIs (w : World) (d p m : Nat) (D : DA) : Prop where
  wf : D.WF
  fields : ∃ cap armed, w.heap[d]? = some (.cells #[.slice (some ⟨p, 0, none⟩) D.L.length cap, .map (some m), .bool D.dead, .int .i64 armed] 72 (0, 0)) ∧
    D.L.length ≤ cap ∧ cap ≤ maxLen ∧ (D.dead = false → armed = D.left) ∧ 0 ≤ armed ∧ armed ≤ 9223372036854775807
  pages : ∃ cur, w.heap[p]? = some (.cells cur 9 (0, 0)) ∧ D.L.length ≤ cur.size ∧ ∀ (i : Nat) (s : ByteArray), D.L[i]? = some s → cur[i]? = some (Value.string s)
  pend : MapP w m D.P

theorem MapP.keep {w w' : World} {m : Nat} {P : List (Option ByteArray)} (h : MapP w m P) {S : List Nat} (hf : Fr S w w') (hm : m ∉ S) : MapP w' m P := by
  obtain ⟨M, ⟨es, clk, hb, r⟩, hp⟩ := h
  exact ⟨M, ⟨es, clk, hf.keep hb hm, r⟩, hp⟩
theorem DevIs.keep {w w' : World} {d p m : Nat} {D : DA} (h : DevIs w d p m D) {S : List Nat} (hf : Fr S w w') (hd : d ∉ S) (hp : p ∉ S) (hm : m ∉ S) : DevIs w' d p m D := by
  obtain ⟨cap, armed, hb, r⟩ := h.fields
  obtain ⟨cur, hc, r2⟩ := h.pages
  exact ⟨h.wf, ⟨cap, armed, hf.keep hb hd, r⟩, ⟨cur, hf.keep hc hp, r2⟩, h.pend.keep hf hm⟩
theorem MapP.drewN {w : World} {m : Nat} {P : List (Option ByteArray)} (h : MapP w m P) (n : Nat) : MapP (w.drewN n) m P := h
theorem DevIs.drewN {w : World} {d p m : Nat} {D : DA} (h : DevIs w d p m D) (n : Nat) : DevIs (w.drewN n) d p m D := ⟨h.wf, h.fields, h.pages, h.pend⟩
theorem DevIs.lt {w : World} {d p m : Nat} {D : DA} (h : DevIs w d p m D) : d < w.heap.size ∧ p < w.heap.size ∧ m < w.heap.size := by
  obtain ⟨_, _, hb, _⟩ := h.fields
  obtain ⟨_, hc, _⟩ := h.pages
  obtain ⟨_, hm, _⟩ := h.pend
  exact ⟨lt_of_heap hb, lt_of_heap hc, hm.lt⟩
theorem DevIs.apart {w : World} {d p m : Nat} {D : DA} (h : DevIs w d p m D) : d ≠ p ∧ d ≠ m ∧ p ≠ m := by
  obtain ⟨_, _, hb, _⟩ := h.fields
  obtain ⟨_, hc, _⟩ := h.pages
  obtain ⟨_, ⟨_, _, hm, _⟩, _⟩ := h.pend
  refine ⟨?_, ?_, ?_⟩
  · rintro rfl; rw [hb] at hc; simp at hc
  · rintro rfl; rw [hb] at hm; simp at hm
  · rintro rfl; rw [hc] at hm; simp at hm
theorem DevIs.cells {w : World} {d p m : Nat} {D : DA} (h : DevIs w d p m D) : ∃ cap armed, w.cell? ⟨d, 0, none⟩ = some (.slice (some ⟨p, 0, none⟩) D.L.length cap) ∧ w.cell? ⟨d, 1, none⟩ = some (.map (some m)) ∧
    w.cell? ⟨d, 2, none⟩ = some (.bool D.dead) ∧ w.cell? ⟨d, 3, none⟩ = some (.int .i64 armed) ∧ (D.dead = false → armed = D.left) ∧ 0 ≤ armed ∧ armed ≤ 9223372036854775807 := by
  obtain ⟨cap, armed, hb, _, _, r⟩ := h.fields
  exact ⟨cap, armed, cell_of_row _ _ _ _ _ _ hb, cell_of_row _ _ _ _ _ _ hb, cell_of_row _ _ _ _ _ _ hb, cell_of_row _ _ _ _ _ _ hb, r⟩
theorem DevIs.page {w : World} {d p m : Nat} {D : DA} (h : DevIs w d p m D) {i : Nat} {s : ByteArray} (hi : D.L[i]? = some s) : w.cell? ⟨p, i, none⟩ = some (.string s) ∧ w.frozen? ⟨p, i, none⟩ = false := by
  obtain ⟨cur, hc, _, hp⟩ := h.pages
  exact ⟨by rw [cell_of_row _ _ _ _ _ _ hc]; exact hp i s hi, frozen_of_row _ _ _ _ _ hc⟩

theorem wfI {i : Nat} (hi : i < 4096) : (Lit.int .i64 (i : Int)).wf = true := WalkArith.wf_i64 (by omega)
theorem bytes_mk {s : ByteArray} {l : List UInt8} (h : s.data.toList = l) : s = ⟨l.toArray⟩ := by subst h; simp
theorem bytes_of {s t : ByteArray} (h : s.data.toList = t.data.toList) : s = t := by rw [bytes_mk h]
theorem PendIs.zero {M : DataW Unit} {P : List (Option ByteArray)} (h : PendIs M P) (i : Nat) :
    M.atKey (.int .i64 (i : Int)) (.lit (.string ByteArray.empty.data.toList)) = .lit (.string (((P[i]?).join).getD ByteArray.empty).data.toList) := by
  cases e : (P[i]?).join with
  | none => rw [Maps.atKey_of_not_has (by rw [h.has, lookP_nat, e]; rfl)]; rfl
  | some s => rw [h.at_ i s (by rw [lookP_nat, e])]; rfl
/-- 'm[k]', with ok. -/
theorem MapP.look_ok {w : World} {m : Nat} {P : List (Option ByteArray)} (h : MapP w m P) {i : Nat} (hi : i < 4096) :
    (Instr.lookup 70 (.map (some m)) (.int .i64 (i : Int)) true).run Try.prog w = .ok (.tuple #[.string (((P[i]?).join).getD ByteArray.empty), .bool ((P[i]?).join).isSome]) w := by
  obtain ⟨M, ho, hp⟩ := h
  obtain ⟨v, ps, hrun, hv⟩ := ho.look_ok keyI uM (zeroS w) (plainElem_string uS (by simp)) (Maps.keyOf_int_mk uI (wfI hi))
  obtain ⟨s, rfl, hz, _⟩ := plainElem_string_inv uS hv
  rw [hrun, hp.has, lookP_nat]
  rw [hp.zero] at hz
  rw [bytes_of (Lit.string.inj (DataW.lit.inj (Prod.mk.inj hz).1)).symm]
/-- 'm[k]'. -/
theorem MapP.look {w : World} {m : Nat} {P : List (Option ByteArray)} (h : MapP w m P) {i : Nat} (hi : i < 4096) :
    (Instr.lookup 70 (.map (some m)) (.int .i64 (i : Int)) false).run Try.prog w = .ok (.string (((P[i]?).join).getD ByteArray.empty)) w := by
  obtain ⟨M, ho, hp⟩ := h
  obtain ⟨v, ps, hrun, hv⟩ := ho.lookup keyI uM (zeroS w) (plainElem_string uS (by simp)) (Maps.keyOf_int_mk uI (wfI hi))
  obtain ⟨s, rfl, hz, _⟩ := plainElem_string_inv uS hv
  rw [hrun]
  rw [hp.zero] at hz
  rw [bytes_of (Lit.string.inj (DataW.lit.inj (Prod.mk.inj hz).1)).symm]
theorem mapTurned_fr {w w' : World} {b : Nat} (h : w.mapTurned w' b) : Fr [b] w w' := by
  have hg := h.grown
  exact (Fr.refl [b] w).grown hg (fun k hk => by injection hk with hk; subst hk; simp)
theorem MapP.isMap {w : World} {m : Nat} {M : DataW Unit} {n : Nat} (h : w.ownsMap Try.prog 3 (plainElem Try.prog 9) m n M) : Maps.IsMap M := h.isMap
/-- Of keys that are pending pages there are no more than pages. -/
theorem ownsMap_size {w : World} {m n : Nat} {M : DataW Unit} {P : List (Option ByteArray)} (h : w.ownsMap Try.prog 3 (plainElem Try.prog 9) m n M) (hp : PendIs M P) : w.ownsMap Try.prog 3 (plainElem Try.prog 9) m P.length M := by
  obtain ⟨es', hM, hpw, _⟩ := h.entries keyI
  obtain ⟨es'', hM', hko⟩ := h.keysOf
  obtain rfl : es' = es'' := by rw [hM] at hM'; simpa using hM'
  have hk : ∀ p ∈ es', ∃ x, p.1 = .int .i64 x := fun p hp => by obtain ⟨v, hv⟩ := hko p hp; obtain ⟨x, _, hx, _⟩ := Maps.keyOf_i64 uI hv; exact ⟨x, hx⟩
  have hperm := sorted_keys (D := ⟨[], P, false, 0⟩) hp hM hpw hk (List.Perm.refl _)
  have hlen : (intKeys M).length ≤ P.length := by
    have h1 : ((intKeys M).mergeSort leI).length = (intKeys M).length := List.length_mergeSort _
    rw [← h1, hperm, List.length_map]; exact keys_len _
  obtain ⟨es, clk, hb, F, hs, hD⟩ := h
  refine ⟨es, clk, hb, F, ?_, hD⟩
  subst hD
  simpa [intKeys, length_sorted] using hlen
/-- 'm[k] = v'. -/
theorem MapP.store {w : World} {m : Nat} {P : List (Option ByteArray)} (h : MapP w m P) {i : Nat} (hi : i < P.length) (hP : P.length ≤ 4096) (s : ByteArray) (hs : s.size ≤ maxLen) :
    ∃ w', (Instr.mapUpdate 70 (.map (some m)) (.int .i64 (i : Int)) (.string s)).run Try.prog w = .ok () w' ∧ MapP w' m (P.set i (some s)) ∧ Fr [m] w w' := by
  obtain ⟨M, ho, hp⟩ := h
  have hkey := Maps.keyOf_int_mk uI (wfI (show i < 4096 by omega))
  obtain ⟨w', hrun, ho', ht⟩ := ho.store keyI uM (by unfold maxLen; omega) hkey (plainElem_string uS hs)
  have hp' := hp.put ho.isMap hi s (by trivial)
  exact ⟨w', hrun, ⟨_, ownsMap_size ho' hp', hp'⟩, mapTurned_fr ht⟩
/-- 'delete(m, k)'. -/
theorem MapP.drop {w : World} {m : Nat} {P : List (Option ByteArray)} (h : MapP w m P) {i : Nat} (hi : i < P.length) (hP : P.length ≤ 4096) (ty : TypeId) :
    ∃ w', (Builtin.delete_ #[70, 3] ty #[.map (some m), .int .i64 (i : Int)]).run Try.prog w = .ok (.tuple #[]) w' ∧ MapP w' m (P.set i none) ∧ Fr [m] w w' := by
  obtain ⟨M, ho, hp⟩ := h
  have hkey := Maps.keyOf_int_mk uI (wfI (show i < 4096 by omega))
  obtain ⟨w', hrun, ho', ht⟩ := ho.drop keyI uM hkey ty
  have hp' := hp.del hi
  exact ⟨w', hrun, ⟨_, ownsMap_size ho' hp', hp'⟩, mapTurned_fr ht⟩
end Go.Proofs.Ytcpealfaaghpiaa
