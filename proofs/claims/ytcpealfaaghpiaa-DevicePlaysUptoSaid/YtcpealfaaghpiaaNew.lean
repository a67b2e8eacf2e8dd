/-
  The program's device: New. Own work.
-/
import Derived.Test.YtcpealfaaghpiaaLoad
namespace Go.Proofs.Ytcpealfaaghpiaa
open Go Go.RowKit Go.Maps Go.Sort Go.Shelf

/-- A page of noughts. -/
def zpage : ByteArray := ⟨(List.replicate 256 (0 : UInt8)).toArray⟩
theorem zpage_size : zpage.size = 256 := by
  show (List.replicate 256 (0 : UInt8)).toArray.size = 256
  rw [List.size_toArray, List.length_replicate]
theorem repeat_zero : ∀ c, Lib.repeatL [0] c = List.replicate c 0
  | 0 => rfl
  | c + 1 => by rw [Lib.repeatL, repeat_zero c, List.replicate_succ]; rfl
theorem repeat_zp : (⟨(Lib.repeatL (ByteArray.mk #[0]).data.toList 256).toArray⟩ : ByteArray) = zpage := by
  have e : (ByteArray.mk #[0]).data.toList = [0] := rfl
  rw [e, repeat_zero]; rfl
theorem infoS : (Try.prog.info? 9).map (fun i => (i.zero, i.size, i.bytes)) = some (some (.string ByteArray.empty), 1, 16) := by kernel_rfl

/-- A row, of which the first k cells are known. -/
def Filled (w : World) (g n k : Nat) (x : Value) : Prop := ∃ cur, w.heap[g]? = some (.cells cur 9 (0, 0)) ∧ cur.size = n ∧ ∀ i, i < k → cur[i]? = some x
theorem Filled.set {w : World} {g n k : Nat} {x : Value} (h : Filled w g n k x) (hk : k < n) : Filled (w.setCell ⟨g, k, none⟩ x) g n (k + 1) x := by
  obtain ⟨cur, hc, hs, hr⟩ := h
  refine ⟨_, heap_setCell_same _ _ _ _ _ _ hc, by simpa using hs, fun i hi => ?_⟩
  rw [Array.getElem?_setIfInBounds]
  by_cases e : k = i
  · subst e; rw [if_pos rfl, if_pos (by omega)]
  · rw [if_neg e]; exact hr i (by omega)
theorem Filled.keep {w w' : World} {g n k : Nat} {x : Value} (h : Filled w g n k x) {S : List Nat} (hf : Fr S w w') (hg : g ∉ S) : Filled w' g n k x := by
  obtain ⟨cur, hc, r⟩ := h; exact ⟨cur, hf.keep hc hg, r⟩

def newErr (n : Int) : Int := if 4 ≤ n ∧ n ≤ 4096 then 0 else 1
def zpages (n : Nat) : List ByteArray := List.replicate n zpage
def NewPost (n : Int) (w : World) (e : Ending) (w' : World) : Prop :=
  Fr [] w w' ∧ ((newErr n ≠ 0 ∧ e = .returned (.tuple #[.pointer none, .int .i64 (newErr n)])) ∨
    (newErr n = 0 ∧ ∃ d p m, e = .returned (.tuple #[.pointer (some ⟨d, 0, none⟩), .int .i64 0]) ∧ DevIs w' d p m (DA.fresh (zpages n.toNat)) ∧ w.heap.size ≤ d ∧ w.heap.size ≤ p ∧ w.heap.size ≤ m))

set_option maxRecDepth 100000 in
set_option maxHeartbeats 400000 in
theorem new_walk (w : World) (n : Int) : Calls Try.prog 15 #[.int .i64 n] w (NewPost n w) := by
  by_cases hn : 4 ≤ n ∧ n ≤ 4096
  · obtain ⟨q, rfl⟩ := Int.eq_ofNat_of_zero_le (show 0 ≤ n by omega)
    have hq1 : 4 ≤ q := by omega
    have hq2 : q ≤ 4096 := by omega
    have e0 : newErr (q : Int) = 0 := by unfold newErr; rw [if_pos hn]
    have HE := Lib.hid e0
    obtain ⟨i0, hi, hz0, hz1, hz2⟩ := info_parts infoS
    clear hn e0
    have hrep : ∀ W : World, Calls Try.prog 38 #[.string (ByteArray.mk #[0]), .int .i64 256] W fun e w' => e = .returned (.string zpage) ∧ Below W.heap.size W w' := fun W => by
      have h := Try.strings_Repeat (ByteArray.mk #[0]) 256 W (by omega) (by decide)
      rw [repeat_zp] at h
      exact h
    have HREP := Lib.hid hrep
    clear hrep
    obtain ⟨zp, hzp⟩ : ∃ z, zpage = z := ⟨_, rfl⟩
    rw [hzp] at HREP
    have HZ := Lib.hid hzp
    clear hzp
    go_enter Try.func15, Try.ntmps15
    go_wp2_with (at_make; refine wpList_make_full _ rfl _ _ 28 rfl w.heap.size 9 i0 _ 1 Try.underlying28 hi hz0 hz1 .i64 .i64 (q : Int) (q : Int) q rfl rfl rfl rfl ?b2 ?b3 (Nat.le_refl _) ?_)
    case b2 => rw [hz2]; omega
    case b3 => unfold maxLen; omega
    intro w1 hown hgrow
    have hf1 : Fr [] w w1 := (Fr.refl [] w).grown hgrow (fun k hk => by cases hk)
    have hfl : Filled w1 w.heap.size q 0 (.string zp) := by
      rcases hown.2 with ⟨hv, _⟩ | ⟨g, cap, cur, hv, _, hg, _, _, hs, _⟩
      · cases hv
      · injection hv with hv1 hv2 hv3
        injection hv1 with hv1
        injection hv1 with hv1
        subst hv1 hv3
        exact ⟨cur, hg, by omega, fun i hi => by omega⟩
    have hsz1 : w.heap.size < w1.heap.size := (hown.lt _ rfl).2
    clear hown hgrow
    go_wp2_with fail
    go_loopw [16] (fun i wr => ∃ k : Nat, k ≤ q ∧ i = .int .i64 k ∧ Filled wr w.heap.size q k (.string zp) ∧ Fr [] w wr) (fun i _ => q - (intOf i).toNat)
    case atStart => exact ⟨0, Nat.zero_le _, rfl, hfl, hf1⟩
    case round =>
      clear hfl hf1
      obtain ⟨k, hk, rfl, hfl, hfr⟩ := hrel
      by_cases hlt : k < q
      · have HFL := Lib.hid hfl
        have HFR := Lib.hid hfr
        clear hfl hfr
        go_wp2_with fail
        refine (HREP.out wr).mono ?_
        rintro e w2 ⟨rfl, hb⟩
        have hf2 := Fr.ofBelow hb
        have hfl2 := HFL.out.keep hf2 (by simp)
        have HS := Lib.hid (hfl2.set hlt)
        obtain ⟨cur, hc, hcs, _⟩ := hfl2
        have hcell : w2.cell? ⟨w.heap.size, k, none⟩ = some (cur[k]'(by omega)) := by rw [cell_of_row _ _ _ _ _ _ hc]; simp [hcs, hlt]
        have hfz := frozen_of_row _ _ k _ _ hc
        have HFR2 : Hid (Fr [] w (w2.setCell ⟨w.heap.size, k, none⟩ (.string zp))) := (HFR.out.trans_nil hf2).setCell (.inr (Nat.le_refl _)) _
        obtain ⟨old, ho⟩ : ∃ o, (cur[k]'(by omega)) = o := ⟨_, rfl⟩
        rw [ho] at hcell
        clear hb hf2 hc hcs ho
        go_wp2
        go_roundw
        case rel => exact ⟨k + 1, by omega, by go_num, HS.out, HFR2.out⟩
        case measure => simp [intOf]; omega
      · obtain rfl : k = q := by omega
        have hst : Strs wr 9 (.slice (some ⟨w.heap.size, 0, none⟩) k k) (zpages k) := by
          obtain ⟨cur, hc, hcs, hr⟩ := hfl
          refine ⟨by simp [zpages], .inr ⟨w.heap.size, k, cur, by simp [zpages], hc, by simp [zpages], by unfold maxLen; omega, by omega, ?_⟩⟩
          apply List.ext_getElem?
          intro i
          rw [List.getElem?_take]
          by_cases hi : i < k
          · rw [if_pos (by simp [zpages]; omega), Array.getElem?_toList, hr i hi]
            simp [zpages, hi, HZ.out]
          · rw [if_neg (by simp [zpages]; omega)]
            simp [zpages, hi]
        have hl := load_walk wr _ _ hst
        have HL := Lib.hid hl
        have HFR := Lib.hid hfr
        clear hl hst hfl hfr
        go_wp2_with fail
        refine HL.out.mono ?_
        rintro e w2 ⟨hf, hpost⟩
        have e1 : loadErr (zpages k) = 0 := by
          unfold loadErr
          rw [if_pos (by simp [zpages]; omega), if_pos]
          intro s hs
          rw [List.eq_of_mem_replicate hs, zpage_size]
        rcases hpost with ⟨hne, _⟩ | ⟨_, d, p, m, rfl, hdev, hd, hp, hm⟩
        · exact absurd e1 hne
        · have HF := Lib.hid hf
          have HD := Lib.hid hdev
          have hs := HFR.out.size
          clear hf hdev
          go_wp2_with fail
          go_ret2
          exact ⟨HFR.out.trans_nil HF.out, .inr ⟨HE.out, d, p, m, rfl, HD.out, by omega, by omega, by omega⟩⟩
  · have e0 : newErr n = 1 := by unfold newErr; rw [if_neg hn]
    have HE := Lib.hid e0
    have hcases : n < 4 ∨ (4 ≤ n ∧ 4096 < n) := by omega
    clear hn e0
    rcases hcases with q | ⟨q1, q2⟩
    all_goals
      go_enter Try.func15, Try.ntmps15
      go_wp2_with fail
      go_ret2
      exact ⟨Fr.refl _ _, .inl ⟨by rw [HE.out]; decide, by rw [HE.out]; rfl⟩⟩
end Go.Proofs.Ytcpealfaaghpiaa
