/-
  The document's New; the law's small functions: page, mark, pick. Own work.
-/
import Derived.Test.YtcpealfaaghpiaaRefD
namespace Go.Proofs.Ytcpealfaaghpiaa
open Go Go.RowKit Go.Maps Go.Sort Go.Shelf

/-- The string of some bytes. -/
def strOf (ns : List Int) : ByteArray := ns.foldl (fun r n => r.push (UInt8.ofNat n.toNat)) ByteArray.empty
theorem strOf_snoc (ns : List Int) (n : Int) : strOf (ns ++ [n]) = (strOf ns).push (UInt8.ofNat n.toNat) := by simp [strOf]
theorem strOf_size (ns : List Int) : (strOf ns).size = ns.length := by
  unfold strOf
  have key : ∀ (ns : List Int) (r : ByteArray), (ns.foldl (fun r n => r.push (UInt8.ofNat n.toNat)) r).size = r.size + ns.length := by
    intro ns
    induction ns with
    | nil => intro r; rfl
    | cons n ns ih => intro r; rw [List.foldl_cons, ih, ByteArray.size_push, List.length_cons]; omega
  rw [key]; simp
theorem run_string {w : World} {g n cap : Nat} {ns : List Int} (hl : ns.length = n) (h : ∀ j u, (ns.map (Value.int .u8))[j]? = some u → w.cell? ⟨g, j, none⟩ = some u) :
    (convert 59 9 (.slice (some ⟨g, 0, none⟩) n cap)).run Try.prog w = .ok (.string (strOf ns)) w := by
  rw [run_convert_bytes_string w _ _ 5 _ _ _ Try.underlying59 Try.underlying5 Try.underlying9]
  refine run_bytesToString w ⟨g, 0, none⟩ n cap ns ?_
  have := run_loadCells_list (P := Try.prog) (w := w) ⟨g, 0, none⟩ (ns.map (Value.int .u8)) (fun j u hj => by rw [Addr.add_lit, Nat.zero_add]; exact h j u hj)
  rw [List.length_map, hl] at this
  exact this

/-- A row of 256 noughts, under a name of its own. -/
def zrow : Array Value := madeCells #[.int .u8 0] 256
theorem zrow_get {j : Nat} (h : j < 256) : zrow[j]? = some (.int .u8 0) := by
  unfold zrow
  rw [← Array.getElem?_toList, toList_madeCells_one, List.getElem?_replicate, if_pos h]
theorem zrow_size : zrow.size = 256 := size_madeCells _ _
theorem infoU8 : (Try.prog.info? 5).map (fun i => (i.zero, i.size, i.bytes)) = some (some (.int .u8 0), 1, 1) := by kernel_rfl
theorem run_zrow (W : World) : (Instr.makeSlice 59 (.int .i64 256) (.int .i64 256)).run Try.prog W = .ok (.slice (some ⟨W.heap.size, 0, none⟩) 256 256) (W.alloc (.cells zrow 5)) :=
  run_make_row' (P := Try.prog) 59 5 (.int .u8 0) 1 Try.underlying59 infoU8 rfl .i64 .i64 256 (by omega) (by omega) W
theorem strOf_zero : strOf (List.replicate 256 0) = zpage := by
  have key : ∀ n, strOf (List.replicate n 0) = ⟨(List.replicate n (0 : UInt8)).toArray⟩ := by
    intro n
    induction n with
    | zero => rfl
    | succ n ih =>
      rw [List.replicate_succ', strOf_snoc, ih]
      show ByteArray.push _ _ = _
      rw [List.replicate_succ']
      show (⟨(List.replicate n (0 : UInt8)).toArray.push (UInt8.ofNat (Int.toNat 0))⟩ : ByteArray) = _
      congr 1
      apply Array.toList_inj.1
      simp
  exact key 256
theorem run_zstring (W : World) : (convert 59 9 (.slice (some ⟨W.heap.size, 0, none⟩) 256 256)).run Try.prog (W.alloc (.cells zrow 5)) = .ok (.string zpage) (W.alloc (.cells zrow 5)) := by
  rw [← strOf_zero]
  refine run_string (by rw [List.length_replicate]) ?_
  intro j u hj
  rw [List.getElem?_map, List.getElem?_replicate] at hj
  rw [cell_of_row _ _ _ _ _ _ (heap_alloc_new W _)]
  split at hj
  · rename_i hlt; rw [zrow_get hlt]; exact hj
  · cases hj

def RNewPost (n : Int) (w : World) (e : Ending) (w' : World) : Prop :=
  Fr [] w w' ∧ ((newErr n ≠ 0 ∧ e = .returned (.tuple #[.pointer none, .int .i64 (newErr n)])) ∨
    (newErr n = 0 ∧ ∃ x p b q, e = .returned (.tuple #[.pointer (some ⟨x, 0, none⟩), .int .i64 0]) ∧ RefIs w' x p b q (DA.fresh (zpages n.toNat)) ∧ w.heap.size ≤ x ∧ w.heap.size ≤ p ∧ w.heap.size ≤ b ∧ w.heap.size ≤ q))
theorem zpages_snoc (k : Nat) : (zpages (k + 1)).map Value.string = (zpages k).map Value.string ++ [Value.string zpage] := by
  unfold zpages
  rw [List.replicate_succ']; simp
theorem good_zpages (k : Nat) : Good (zpages k) := by
  intro s hs
  rw [List.eq_of_mem_replicate hs, zpage_size]

set_option maxRecDepth 100000 in
set_option maxHeartbeats 400000 in
theorem rnew_walk (w : World) (n : Int) : Calls Try.prog 43 #[.int .i64 n] w (RNewPost n w) := by
  by_cases hn : 4 ≤ n ∧ n ≤ 4096
  · obtain ⟨q, rfl⟩ := Int.eq_ofNat_of_zero_le (show 0 ≤ n by omega)
    have hq1 : 4 ≤ q := by omega
    have hq2 : q ≤ 4096 := by omega
    have e0 : newErr (q : Int) = 0 := by unfold newErr; rw [if_pos hn]
    have HE := Lib.hid e0
    obtain ⟨i0, hi, hz0, hz1, hz2⟩ := info_parts infoS
    clear hn e0
    have hmk := run_zrow
    have hcv := run_zstring
    obtain ⟨zp, hzp⟩ : ∃ z, zpage = z := ⟨_, rfl⟩
    obtain ⟨zr, hzr⟩ : ∃ z, zrow = z := ⟨_, rfl⟩
    rw [hzr] at hmk hcv
    rw [hzp] at hcv
    have HZ := Lib.hid hzp
    clear hzp hzr
    go_enter Try.func43, Try.ntmps43
    go_wp2_with fail
    go_loopw [4, 5] (fun l i wr => ∃ k : Nat, k ≤ q ∧ i = .int .i64 k ∧ wr.ownsRow w.heap.size 9 1 l k ((zpages k).map Value.string) ∧ Fr [] w wr) (fun _ i _ => q - (intOf i).toNat)
    case atStart => exact ⟨0, Nat.zero_le _, rfl, World.ownsRow_nil w _ _ _, Fr.refl _ _⟩
    case round =>
      obtain ⟨k, hk, rfl, hown, hfr⟩ := hrel
      by_cases hlt : k < q
      · have hsz := hfr.size
        have HFR := Lib.hid hfr
        clear hfr
        go_wp2_with (at_builtin; refine wpList_append_own _ rfl _ _ 28 rfl w.heap.size 9 i0 _ 1 16 Try.underlying28 hi hz0 hz1 hz2 rfl (by decide) _ _ _ rfl ((hown.alloc _).alloc _) ⟨wr.heap.size + 1, 0, none⟩ 1 1 [.string zp] rfl rfl ?c1 ?c2 ?c3 ?c4 ?c5 ?_)
        case c1 =>
          intro j u hj
          match j, hj with
          | 0, hj => simp at hj; subst hj; simp [Addr.add, go_sem]
        case c2 => intro u hu; simp at hu; subst hu; rfl
        case c3 => unfold maxLen; omega
        case c4 => omega
        case c5 => simp; omega
        intro v' w2 hown' hgrow _
        have hfr2 : Fr [] w w2 := ((HFR.out.alloc _).alloc _).grown hgrow (fun j hj => .inr (hown.lt j hj).1)
        have HO := Lib.hid hown'
        have HF2 := Lib.hid hfr2
        clear hown' hfr2 hgrow hown
        go_wp2
        go_roundw
        case rel =>
          refine ⟨k + 1, by omega, by go_num, ?_, HF2.out⟩
          rw [zpages_snoc, HZ.out]
          exact HO.out
        case measure => simp [intOf]; omega
      · obtain rfl : k = q := by omega
        have hst : Strs wr 9 u4 (zpages k) := by
          have := Row.ofOwn hown
          unfold Strs
          rw [show (zpages k).length = k by simp [zpages]]
          exact this
        have hl := rload_walk wr _ _ hst
        have HL := Lib.hid hl
        have HFR := Lib.hid hfr
        clear hl hst hfr hown
        go_wp2_with fail
        refine HL.out.mono ?_
        rintro e w2 ⟨hf, hpost⟩
        have e1 : loadErr (zpages k) = 0 := by
          unfold loadErr
          rw [if_pos (by simp [zpages]; omega), if_pos (good_zpages k)]
        rcases hpost with ⟨hne, _⟩ | ⟨_, x, p, b, q, rfl, hdev, hx, hp, hb, hq⟩
        · exact absurd e1 hne
        · have HF := Lib.hid hf
          have HD := Lib.hid hdev
          have hs := HFR.out.size
          clear hf hdev
          go_wp2_with fail
          go_ret2
          exact ⟨HFR.out.trans_nil HF.out, .inr ⟨HE.out, x, p, b, q, rfl, HD.out, by omega, by omega, by omega, by omega⟩⟩
  · have e0 : newErr n = 1 := by unfold newErr; rw [if_neg hn]
    have HE := Lib.hid e0
    have hcases : n < 4 ∨ (4 ≤ n ∧ 4096 < n) := by omega
    clear hn e0
    rcases hcases with q | ⟨q1, q2⟩
    all_goals
      go_enter Try.func43, Try.ntmps43
      go_wp2_with fail
      go_ret2
      exact ⟨Fr.refl _ _, .inl ⟨by rw [HE.out]; decide, by rw [HE.out]; rfl⟩⟩

/-! ### pick, mark, page -/
/-- Which of n things a raw number speaks of. -/
def pickN (c : Int) (n : Nat) : Nat := ((if c < 0 then -(c + 1) else c).toNat) % n
theorem pickN_lt (c : Int) {n : Nat} (h : 0 < n) : pickN c n < n := Nat.mod_lt _ h
theorem pick_walk (w : World) (c : Int) (n : Nat) (hn : 0 < n) (hn2 : (n : Int) ≤ 9223372036854775807) (h1 : -9223372036854775808 ≤ c) (h2 : c ≤ 9223372036854775807) :
    Calls Try.prog 6 #[.int .i64 c, .int .i64 n] w fun e w' => e = .returned (.int .i64 (pickN c n)) ∧ w = w' := by
  have hb : ((n : Int) == 0) = false := by simp; omega
  by_cases h : c < 0
  · have e : (pickN c n : Int) = (-(c + 1)) % (n : Int) := by
      unfold pickN; rw [if_pos h]
      rw [Int.natCast_emod, Int.toNat_of_nonneg (by omega)]
    rw [e]
    go_enter Try.func6, Try.ntmps6
    go_wp2
    go_ret
    exact ⟨ret_int (by rw [← Int.neg_tmod, Int.tmod_eq_emod_of_nonneg (by omega)]), rfl⟩
  · have e : (pickN c n : Int) = c % (n : Int) := by
      unfold pickN; rw [if_neg h]
      rw [Int.natCast_emod, Int.toNat_of_nonneg (by omega)]
    rw [e]
    go_enter Try.func6, Try.ntmps6
    go_wp2
    go_ret
    exact ⟨rfl, rfl⟩

/-- The mark of the n-th list. -/
def markS (n : Nat) : ByteArray := (ByteArray.mk #[109, 97, 114, 107]) ++ strOf [(n : Int) % 256, (n : Int) / 256 % 256]
set_option maxRecDepth 100000 in
theorem mark_walk (w : World) (n : Nat) :
    Calls Try.prog 33 #[.int .i64 n] w fun e w' => e = .returned (.string (markS n)) ∧ Fr [] w w' := by
  have hcv : (convert 59 9 (.slice (some ⟨w.heap.size, 0, none⟩) 2 2)).run Try.prog (w.alloc (.cells #[.int .u8 ((n : Int) % 256), .int .u8 ((n : Int) / 256 % 256)] 5)) = .ok (.string (strOf [(n : Int) % 256, (n : Int) / 256 % 256])) (w.alloc (.cells #[.int .u8 ((n : Int) % 256), .int .u8 ((n : Int) / 256 % 256)] 5)) := by
    refine run_string rfl ?_
    intro j u hj
    rw [cell_of_row _ _ _ _ _ _ (heap_alloc_new w _)]
    simpa using hj
  have hm : markS n = (ByteArray.mk #[109, 97, 114, 107]) ++ strOf [(n : Int) % 256, (n : Int) / 256 % 256] := rfl
  obtain ⟨s, hs⟩ : ∃ s, strOf [(n : Int) % 256, (n : Int) / 256 % 256] = s := ⟨_, rfl⟩
  have hss : s.size = 2 := by rw [← hs, strOf_size]; rfl
  rw [hs] at hcv hm
  obtain ⟨m, hm2⟩ : ∃ m, markS n = m := ⟨_, rfl⟩
  rw [hm2] at hm ⊢
  have HM := Lib.hid hm
  clear hs hm hm2
  go_enter Try.func33, Try.ntmps33
  go_wp2
  go_ret
  exact ⟨by rw [HM.out]; rfl, (Fr.refl _ _).alloc _⟩
/-- A row of bytes, of which the first k are known. -/
def Bytes (w : World) (g n k : Nat) (f : Nat → Int) : Prop := ∃ cur, w.heap[g]? = some (.cells cur 5 (0, 0)) ∧ cur.size = n ∧ ∀ i, i < k → cur[i]? = some (Value.int .u8 (f i))
theorem Bytes.set {w : World} {g n k : Nat} {f : Nat → Int} (h : Bytes w g n k f) (hk : k < n) {b : Int} (hb : b = f k) : Bytes (w.setCell ⟨g, k, none⟩ (.int .u8 b)) g n (k + 1) f := by
  obtain ⟨cur, hc, hs, hr⟩ := h
  subst hb
  refine ⟨_, heap_setCell_same _ _ _ _ _ _ hc, by simpa using hs, fun i hi => ?_⟩
  rw [Array.getElem?_setIfInBounds]
  by_cases e : k = i
  · subst e; rw [if_pos rfl, if_pos (by omega)]
  · rw [if_neg e]; exact hr i (by omega)
theorem Bytes.old {w : World} {g n k : Nat} {f : Nat → Int} (h : Bytes w g n k f) {j : Nat} (hj : j < n) : ∃ o, w.cell? ⟨g, j, none⟩ = some o ∧ w.frozen? ⟨g, j, none⟩ = false := by
  obtain ⟨cur, hc, hs, hr⟩ := h
  exact ⟨cur[j]'(by omega), by rw [cell_of_row _ _ _ _ _ _ hc]; simp, frozen_of_row _ _ _ _ _ hc⟩
def pageB (c : Int) (i : Nat) : Int := wrap64 (c + (i : Int) / 16) % 256
/-- 256 bytes, of a raw number. -/
def pageS (c : Int) : ByteArray := strOf ((List.range 256).map (pageB c))
theorem pageS_size (c : Int) : (pageS c).size = 256 := by
  unfold pageS; rw [strOf_size, List.length_map, List.length_range]
set_option maxRecDepth 100000 in
theorem page_walk (w : World) (c : Int) :
    Calls Try.prog 17 #[.int .i64 c] w fun e w' => e = .returned (.string (pageS c)) ∧ Fr [] w w' := by
  obtain ⟨ps, hps⟩ : ∃ s, pageS c = s := ⟨_, rfl⟩
  rw [hps]
  have HPS := Lib.hid hps
  clear hps
  have hmk := run_zrow
  obtain ⟨zr, hzr⟩ : ∃ z, zrow = z := ⟨_, rfl⟩
  rw [hzr] at hmk
  have HZ := Lib.hid hzr
  clear hzr
  have h0 : Bytes (w.alloc (.cells zr 5)) w.heap.size 256 0 (pageB c) := ⟨zr, heap_alloc_new w _, by rw [← HZ.out]; exact zrow_size, fun i hi => by omega⟩
  have hf0 : Fr [] w (w.alloc (.cells zr 5)) := (Fr.refl _ _).alloc _
  go_enter Try.func17, Try.ntmps17
  go_wp2
  go_loopw [4] (fun i wr => ∃ k : Nat, k ≤ 256 ∧ i = .int .i64 k ∧ Bytes wr w.heap.size 256 k (pageB c) ∧ Fr [] w wr) (fun i _ => 256 - (intOf i).toNat)
  case atStart => exact ⟨0, Nat.zero_le _, rfl, h0, hf0⟩
  case round =>
    clear h0 hf0
    obtain ⟨k, hk, rfl, hb, hfr⟩ := hrel
    by_cases hlt : k < 256
    · obtain ⟨o, ho, hfz⟩ := hb.old hlt
      have HB := Lib.hid hb
      have HFR := Lib.hid hfr
      clear hb hfr
      go_wp2
      go_roundw
      case rel => exact ⟨k + 1, by omega, by go_num, HB.out.set hlt rfl, HFR.out.setCell (.inr (Nat.le_refl _)) _⟩
      case measure => simp [intOf]; omega
    · obtain rfl : k = 256 := by omega
      have hcv : (convert 59 9 (.slice (some ⟨w.heap.size, 0, none⟩) 256 256)).run Try.prog wr = .ok (.string ps) wr := by
        rw [← HPS.out]
        refine run_string (by rw [List.length_map, List.length_range]) ?_
        intro j u hj
        obtain ⟨cur, hc, _, hr⟩ := hb
        rw [cell_of_row _ _ _ _ _ _ hc]
        rw [List.getElem?_map, List.getElem?_map] at hj
        by_cases hlt : j < 256
        · rw [hr j hlt]
          rw [List.getElem?_range hlt] at hj
          exact hj
        · rw [List.getElem?_eq_none (by rw [List.length_range]; omega)] at hj; cases hj
      have HFR := Lib.hid hfr
      clear hb hfr
      go_wp2
      go_ret
      exact ⟨rfl, HFR.out⟩
end Go.Proofs.Ytcpealfaaghpiaa
