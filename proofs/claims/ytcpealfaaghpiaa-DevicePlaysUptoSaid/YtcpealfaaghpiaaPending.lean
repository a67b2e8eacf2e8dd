/-
  The program's device: Pending. Own work.
-/
import Derived.Test.YtcpealfaaghpiaaPages
namespace Go.Proofs.Ytcpealfaaghpiaa
open Go Go.RowKit Go.Maps Go.Sort Go.Shelf

/-- The cells of a list of writes. -/
def wcells (l : List (Nat × ByteArray)) : List Value := l.flatMap fun x => [Value.int .i64 (x.1 : Int), Value.string x.2]
theorem wcells_snoc (l : List (Nat × ByteArray)) (x : Nat × ByteArray) : wcells (l ++ [x]) = wcells l ++ [Value.int .i64 (x.1 : Int), Value.string x.2] := by simp [wcells]
theorem wcells_len (l : List (Nat × ByteArray)) : (wcells l).length = l.length * 2 := by
  induction l with
  | nil => rfl
  | cons a l ih => simp [wcells] at ih ⊢; omega
/-- A slice of writes. -/
def Writes (w : World) (v : Value) (l : List (Nat × ByteArray)) : Prop := Row w 58 2 v l.length (wcells l)

theorem infoW : (Try.prog.info? 58).map (fun i => (i.zero, i.size, i.bytes)) = some (some (.agg #[.int .i64 0, .string ByteArray.empty]), 2, 24) := by kernel_rfl

theorem pend_step {D : DA} {k x : Nat} (hx : D.keys[k]? = some x) : D.pending.take (k + 1) = D.pending.take k ++ [(x, (D.at_ x).getD ByteArray.empty)] := by
  rw [List.take_add_one]
  congr 1
  simp [DA.pending, hx]
theorem pending_len (D : DA) : D.pending.length = D.keys.length := by simp [DA.pending]

set_option maxHeartbeats 400000 in
theorem pending_walk (w : World) (d p m : Nat) (D : DA) (h : DevIs w d p m D) :
    Calls Try.prog 12 #[.pointer (some ⟨d, 0, none⟩)] w fun e w' => ∃ v, e = .returned v ∧ Writes w' v D.pending ∧ Fr [] w w' ∧ (∀ k, v.ownBlock = some k → w.heap.size ≤ k) := by
  have hr := rising_walk w d p m D h
  have hkb : D.keys.length ≤ 4096 := Nat.le_trans (keys_len D) (by rw [h.wf.len]; exact h.wf.hi)
  obtain ⟨n, hn⟩ : ∃ n, D.keys.length = n := ⟨_, rfl⟩
  rw [hn] at hkb
  obtain ⟨i0, hi, hz0, hz1, hz2⟩ := info_parts infoW
  have HH := Lib.hid h
  have HN := Lib.hid hn
  have HR := Lib.hid hr
  clear h hn hr
  go_enter Try.func12, Try.ntmps12
  go_wp2_with fail
  refine HR.out.mono ?_
  rintro e w1 ⟨v, rfl, hints, hf1, -⟩
  have hs := Row.shape hints
  rw [HN.out] at hs
  obtain ⟨a, cp, rfl, h1, h2⟩ := hs
  have HI := Lib.hid hints
  have HF := Lib.hid hf1
  clear hints hf1
  go_wp2_with fail
  go_loopw [3, 9] (fun out i wr => ∃ k : Nat, k ≤ n ∧ i = .int .i64 k ∧ wr.ownsRow w1.heap.size 58 2 out k (wcells (D.pending.take k)) ∧ Fr [] w1 wr) (fun _ i _ => n - (intOf i).toNat)
  case atStart => exact ⟨0, Nat.zero_le _, rfl, by simpa [wcells] using World.ownsRow_nil w1 _ _ _, Fr.refl _ _⟩
  case round =>
    obtain ⟨k, hk, rfl, hown, hfr⟩ := hrel
    have HFR := Lib.hid hfr
    have hsz := hfr.size
    clear hfr
    by_cases hlt : k < n
    · obtain ⟨x, hx⟩ := get_of_lt HN.out hlt
      have hD2 : DevIs wr d p m D := (HH.out.keep HF.out (by simp) (by simp) (by simp)).keep HFR.out (by simp) (by simp) (by simp)
      obtain ⟨g, cg, ea, hc1, _⟩ := (Ints.at HI.out hx)
      injection ea with ea1 ea2 ea3
      subst ea1
      have hc1' := HFR.out.cell hc1 (by simp)
      have hxl : x < 4096 := by have := keys_lt D (List.mem_of_getElem? hx); have := HH.out.wf.hi; have := HH.out.wf.len; omega
      have hlook := hD2.pend.look hxl
      obtain ⟨_, _, _, hcm, _⟩ := hD2.cells
      obtain ⟨s, hs⟩ : ∃ s, ((D.P[x]?).join).getD ByteArray.empty = s := ⟨_, rfl⟩
      rw [hs] at hlook
      have hstep := pend_step hx
      unfold DA.at_ at hstep
      rw [hs] at hstep
      have HST := Lib.hid hstep
      have HX := Lib.hid hx
      clear hstep hx hs hD2 ea2 ea3 hc1
      go_wp2_with (at_builtin; refine wpList_append_own _ rfl _ _ 43 rfl w1.heap.size 58 i0 _ 2 24 Try.underlying43 hi hz0 hz1 hz2 rfl (by decide) _ _ _ rfl (hown.alloc _) ⟨wr.heap.size, 0, none⟩ 1 1 [.int .i64 x, .string s] rfl rfl ?c1 ?c2 ?c3 ?c4 ?c5 ?_)
      case c1 => exact cell_two_new _ _ _ _
      case c2 => intro u hu; simp at hu; rcases hu with rfl | rfl <;> rfl
      case c3 => unfold maxLen; omega
      case c4 => omega
      case c5 => simp; omega
      intro v' w2 hown' hgrow _
      have hfr2 : Fr [] w1 w2 := (HFR.out.alloc _).grown hgrow (fun j hj => .inr ((hown.alloc (.cells #[Value.int .i64 (x : Int), Value.string s] 58)).lt j hj).1)
      have HO := Lib.hid hown'
      have HF2 := Lib.hid hfr2
      clear hown' hfr2 hgrow hown
      go_wp2
      go_roundw
      case rel =>
        refine ⟨k + 1, by omega, by go_num, ?_, HF2.out⟩
        rw [HST.out, wcells_snoc]
        exact HO.out
      case measure => simp [intOf]; omega
    · obtain rfl : k = n := by omega
      have hown2 := hown
      rw [List.take_of_length_le (by rw [pending_len, HN.out]; exact Nat.le_refl _)] at hown2
      have hr := Row.ofOwn hown2
      have hr3 : Row wr 58 2 u3 D.pending.length (wcells D.pending) := by rw [pending_len, HN.out]; exact hr
      obtain ⟨a', c', rfl, h3, h4⟩ := hr.shape
      unfold maxLen at h4
      have HR3 := Lib.hid hr3
      have HO := Lib.hid hown
      clear hr3 hown hown2 hr
      go_wp2_with fail
      refine (clipW_walk wr a' k c' h3 (by omega)).mono ?_
      rintro e w2 ⟨rfl, rfl⟩
      go_wp2_with fail
      go_ret
      refine ⟨_, rfl, ?_, HF.out.trans_nil HFR.out, fun j hj => Nat.le_trans HF.out.size (HO.out.lt j (own_clip hj)).1⟩
      have e : D.pending.length = k := by rw [pending_len, HN.out]
      have hh := HR3.out
      rw [e] at hh
      unfold Writes
      rw [e]
      exact hh.clip
end Go.Proofs.Ytcpealfaaghpiaa
