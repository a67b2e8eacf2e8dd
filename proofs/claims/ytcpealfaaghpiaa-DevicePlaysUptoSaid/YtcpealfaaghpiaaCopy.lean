/-
  copy and make over elements of several cells. Own work.
-/
import Derived.Laws.CopyOwn
import Derived.StillTailTactics
import Derived.Test.YtcpealfaaghpiaaLaw2
namespace Go.Proofs.Ytcpealfaaghpiaa
open Go Go.RowKit Go.Maps Go.Sort Go.Shelf

theorem run_copy_sz {P : Program} (w : World) (dT sT ty elem : TypeId) (sz g dLen dCap : Nat) (a : Addr) (sLen sCap : Nat) (cur : Array Value) (t : TypeId) (cs : List Value)
    (hu : P.underlying dT = some (.slice elem)) (hs : (P.info? elem).map (·.size) = some sz)
    (hg : w.heap[g]? = some (.cells cur t (0, 0))) (hn : cs.length = Nat.min sLen dLen * sz)
    (hsrc : ∀ j v, cs[j]? = some v → w.cell? (a.add j) = some v) (hfit : cs.length ≤ cur.size) (h1 : ∀ v ∈ cs, v.oneCell' = true) :
    (Builtin.copy_ #[dT, sT] ty #[.slice (some ⟨g, 0, none⟩) dLen dCap, .slice (some a) sLen sCap]).run P w =
      .ok (goInt (Nat.min sLen dLen)) (w.setRow g (cs ++ cur.toList.drop cs.length).toArray) := by
  have hl := run_loadCells_list (P := P) w a cs hsrc
  have hst := run_storeCells_at P g 0 t cs 0 cur w hg (by simpa using hfit) h1
  simp only [Nat.zero_add, Nat.add_zero, List.take_zero, List.nil_append] at hst
  cases hq : P.info? elem with
  | none => simp [hq] at hs
  | some i =>
    have hi : i.size = sz := by simpa [hq] using hs
    rw [hn] at hl
    simp [Builtin.copy_, run_underlying hu, Builtin.lenOf, Builtin.firstCells, sizeOf, typeInfo, hq, hi, hl, hst]

theorem wpList_copy_sz {P : Program} {w : World} {ops : Array Oper} {rest : List Oper} {o : Oper} {a : Act} {Q : Exit → Act → World → Prop} (hgd : o.guard = none) (d s : Operand) (dT sT : TypeId)
    (ho : o.op = .call { callee := .builtin .copy, args := #[d, s], argTypes := #[dT, sT] }) (elem : TypeId) (sz : Nat) (hu : P.underlying dT = some (.slice elem)) (hsz : (P.info? elem).map (·.size) = some sz)
    (g dLen dCap : Nat) (sp : Option Addr) (sLen sCap : Nat) (hd : a.eval d = .slice (some ⟨g, 0, none⟩) dLen dCap) (hs : a.eval s = .slice sp sLen sCap)
    (cur : Array Value) (t : TypeId) (hg : w.heap[g]? = some (.cells cur t (0, 0))) (cs : List Value) (hn : cs.length = Nat.min sLen dLen * sz)
    (hnil : sp = none → sLen = 0 ∧ sCap = 0)
    (hsrc : ∀ ad, sp = some ad → ∀ j v, cs[j]? = some v → w.cell? (ad.add j) = some v) (hfit : cs.length ≤ cur.size) (h1 : ∀ v ∈ cs, v.oneCell' = true)
    (h : ∀ w', Hid (w'.heap[g]? = some (.cells (cs ++ cur.toList.drop cs.length).toArray t (0, 0))) → Hid (Fr [g] w w') → wpList P ops Q rest (a.put o.dst (goInt (Nat.min sLen dLen))) w') :
    wpList P ops Q (o :: rest) a w := by
  refine wpList_plain hgd fun K hK => ?_
  have hw : (w.setRow g (cs ++ cur.toList.drop cs.length).toArray).heap[g]? = some (.cells (cs ++ cur.toList.drop cs.length).toArray t (0, 0)) := setRow_heap w g cur _ t _ hg
  have hf : Fr [g] w (w.setRow g (cs ++ cur.toList.drop cs.length).toArray) := ⟨rfl, rfl, rfl, by simp [World.setRow], fun k _ hk => setRow_other w g k _ (by simpa using hk)⟩
  cases sp with
  | none =>
    obtain ⟨rfl, rfl⟩ := hnil rfl
    have hrun := run_copy_nil (P := P) w dT sT o.type elem ⟨g, 0, none⟩ dLen dCap hu (by rw [hsz]; rfl)
    have hz : cs = [] := List.eq_nil_of_length_eq_zero (by rw [hn]; simp)
    subst hz
    have hself : w.setRow g ([] ++ cur.toList.drop ([] : List Value).length).toArray = w := by simpa using setRow_self w g cur t (0, 0) hg
    rw [hself] at hw hf
    unfold Oper.wp
    simp [execOp, ho, resolve, invoke, builtin, hd, hs, hrun, Result.andThen]
    exact hK _ _ (by simpa using h w hw hf)
  | some ad =>
    have hrun := run_copy_sz (P := P) w dT sT o.type elem sz g dLen dCap ad sLen sCap cur t cs hu hsz hg hn (hsrc ad rfl) hfit h1
    unfold Oper.wp
    simp only [execOp, ho, resolve, invoke, builtin]
    simp [hd, hs, hrun, Result.andThen]
    exact hK _ _ (h _ hw hf)

theorem run_make_keeps (W : World) (n : Nat) (hn : n ≤ 1099511627776) : (Instr.makeSlice 33 (.int .i64 (n : Int)) (.int .i64 (n : Int))).run Try.prog W = .ok (.slice (some ⟨W.heap.size, 0, none⟩) n n) (W.alloc (.cells (madeCells #[.int .i64 0, .int .i64 0] (n * 2)) 84)) := by
  obtain ⟨i, hi, hz, hs, hb⟩ := info_parts infoK
  have := run_make (P := Try.prog) W 33 84 i _ Try.underlying33 hi hz .i64 .i64 n n (by omega) (Int.le_refl _) (by rw [hb]; omega) (by omega)
  simp only [Int.toNat_natCast, hs] at this
  exact this
theorem madeK_at (n j : Nat) (h : j < n * 2) : (madeCells #[.int .i64 0, .int .i64 0] (n * 2))[j]? = some (.int .i64 0) := by
  unfold madeCells
  simp [h]
  rcases Nat.mod_two_eq_zero_or_one j with e | e <;> simp [e]
end Go.Proofs.Ytcpealfaaghpiaa
