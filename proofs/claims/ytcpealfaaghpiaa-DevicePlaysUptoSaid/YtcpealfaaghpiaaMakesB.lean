/-
  The law: makes over the invariant. Own work.
-/
import Derived.Deep.RegionWith
import Derived.Deep.DeepCutAuto
import Derived.Test.YtcpealfaaghpiaaMakes
namespace Go.Proofs.Ytcpealfaaghpiaa
open Go Go.RowKit Go.Maps Go.Sort Go.Shelf

theorem WInv.keep_new {base : Nat} {ρ : Rho} {w w' : World} {W : Nat} {A : WA} {B : Nat} (h : WInv base ρ w W A B) {S : List Nat} (hf : Fr S w w') (hS : ∀ k ∈ S, ρ k = none) : WInv base ρ w' W A B := by
  have no : ∀ t, ∀ k ∈ S, ρ k ≠ some t := fun t k hk => by rw [hS k hk]; simp
  exact h.turn hf (Ext.refl _ _) (fun t _ _ _ _ => no t) A.vl A.vn A.sides A.hn (hf.keep h.cW (fun hm => no _ _ hm h.tW)) h.low (fun k hk => h.lim k (Nat.le_trans hf.size hk)) (h.sides.keep hf (no _) (Ext.refl _ _)) h.five
    (fun i s hs => (h.dev i s hs).keep hf (fun k hk j => no _ k hk) (Ext.refl _ _)) (h.hand.imp fun hs hh => hh.keep hf (no _) (Ext.refl _ _))
theorem WInv.keep_nil {base : Nat} {ρ : Rho} {w w' : World} {W : Nat} {A : WA} {B : Nat} (h : WInv base ρ w W A B) (hf : Fr [] w w') : WInv base ρ w' W A B :=
  h.turn hf (Ext.refl _ _) (fun _ _ _ _ _ k hk => by cases hk) A.vl A.vn A.sides A.hn (hf.keep h.cW (by simp)) h.low (fun k hk => h.lim k (Nat.le_trans hf.size hk)) (h.sides.keep hf (fun k hk => by cases hk) (Ext.refl _ _)) h.five
    (fun i s hs => (h.dev i s hs).keep hf (fun k hk => by cases hk) (Ext.refl _ _)) (h.hand.imp fun hs hh => hh.keep hf (fun k hk => by cases hk) (Ext.refl _ _))
theorem Row.setAt {w : World} {E : TypeId} {g n cap : Nat} {xs : List Value} (h : Row w E 1 (.slice (some ⟨g, 0, none⟩) n cap) n xs) (i : Nat) (u : Value) : Row (w.setCell ⟨g, i, none⟩ u) E 1 (.slice (some ⟨g, 0, none⟩) n cap) n (xs.set i u) := by
  rcases h.2 with ⟨e, _⟩ | ⟨g', cap', cur, e, hg, h1, h2, h3, h4⟩
  · cases e
  · injection e with e _ e2
    injection e with e
    injection e with e
    subst e e2
    refine ⟨by simpa using h.1, .inr ⟨g, cap, _, rfl, heap_setCell_same _ _ _ _ _ _ hg, h1, h2, by simpa using h3, ?_⟩⟩
    rw [Array.toList_setIfInBounds, ← h4, List.take_set]

theorem own_keep {w w' : World} {b : Nat} {E : TypeId} {sz : Nat} {v : Value} {n : Nat} {xs : List Value} (h : w.ownsRow b E sz v n xs) (hf : Fr [] w w') : w'.ownsRow b E sz v n xs := by
  refine ⟨h.1, ?_⟩
  rcases h.2 with q | ⟨g, cap, cur, e, hb, hg, r⟩
  · exact .inl q
  · exact .inr ⟨g, cap, cur, e, hb, hf.keep hg (by simp), r⟩
def pagesL (k : Nat) : List ByteArray := (List.range k).map fun (i : Nat) => pageS (i : Int)
theorem pagesL_snoc (k : Nat) : (pagesL (k + 1)).map Value.string = (pagesL k).map Value.string ++ [Value.string (pageS (k : Int))] := by
  unfold pagesL; rw [List.range_succ]; simp
theorem pagesL_len (k : Nat) : (pagesL k).length = k := by simp [pagesL]

theorem wmakesNew {base : Nat} {ρ : Rho} {w : World} {W : Nat} {A : WA} {B : Nat} (h : WInv base ρ w W A B) (on n : Int) (s : ByteArray) (ka : Option Addr) (kn kc : Nat) :
    Calls Try.prog 20 #[.pointer (some ⟨W, 0, none⟩), .agg #[.int .i64 12, .int .i64 on, .int .i64 n, .string s, .slice ka kn kc]] w fun e w' => e = .returned (.tuple #[.bool true, .bool true]) ∧
      ∃ ρ' A', WInv base ρ' w' W A' B ∧ Ext w ρ ρ' ∧ (∃ S, Fr S w w' ∧ Ours ρ S) := by
  obtain ⟨hc, hh⟩ := h.hand
  refine (makesNew_raw w W on n s ka kn kc A.vl A.vf A.vw A.vg A.vh A.vd A.ve A.vn A.sides.length A.hn _ hc h.cW h.sides.1 h.five hh.1 ⟨fun e => ?_, fun e => ?_, fun k e1 e2 => ?_⟩).mono ?_
  · have := hh.2 W e; rw [h.tW] at this; cases this
  · have := h.sides.2 W e; rw [h.tW] at this; cases this
  · have := hh.2 k e1; rw [h.sides.2 k e2] at this; cases this
  rintro e w' ⟨rfl, hl⟩
  exact ⟨rfl, loads_inv h hl⟩

set_option maxRecDepth 100000 in
theorem makes_other (w : World) (W : Nat) (kind on n : Int) (s : ByteArray) (ka : Option Addr) (kn kc : Nat) (h11 : ¬ kind = 11) (h12 : ¬ kind = 12) :
    Calls Try.prog 20 #[.pointer (some ⟨W, 0, none⟩), .agg #[.int .i64 kind, .int .i64 on, .int .i64 n, .string s, .slice ka kn kc]] w fun e w' => e = .returned (.tuple #[.bool true, .bool false]) ∧ Fr [] w w' := by
  have b1 : (kind == 11) = false := by simpa using h11
  have b2 : (kind == 12) = false := by simpa using h12
  go_enter Try.func20, Try.ntmps20
  go_wp2_with fail
  go_ret2
  exact ⟨rfl, (Fr.refl _ _).alloc _⟩

set_option maxRecDepth 100000 in
set_option maxHeartbeats 400000 in
theorem wmakesLoad {base : Nat} {ρ : Rho} {w : World} {W : Nat} {A : WA} {B : Nat} (h : WInv base ρ w W A B) (on n : Int) (s : ByteArray) (ka : Option Addr) (kn kc : Nat)
    (hon1 : -9223372036854775808 ≤ on) (hon2 : on ≤ 9223372036854775807) (hn1 : -9223372036854775808 ≤ n) (hn2 : n ≤ 9223372036854775807) :
    Calls Try.prog 20 #[.pointer (some ⟨W, 0, none⟩), .agg #[.int .i64 11, .int .i64 on, .int .i64 n, .string s, .slice ka kn kc]] w fun e w' => e = .returned (.tuple #[.bool true, .bool true]) ∧
      ∃ ρ' A', WInv base ρ' w' W A' B ∧ Ext w ρ ρ' ∧ (∃ S, Fr S w w' ∧ Ours ρ S) := by
  obtain ⟨wa, hwa⟩ : ∃ wa, w.alloc (.cells #[.int .i64 11, .int .i64 on, .int .i64 n, .string s, .slice ka kn kc] 35) = wa := ⟨_, rfl⟩
  have hfa : Fr [] w wa := by rw [← hwa]; exact (Fr.refl _ _).alloc _
  have hbox : wa.heap[w.heap.size]? = some (.cells #[.int .i64 11, .int .i64 on, .int .i64 n, .string s, .slice ka kn kc] 35 (0, 0)) := by rw [← hwa]; exact heap_alloc_new w _
  have b0 := cell_of_row _ _ 0 _ _ _ hbox
  have b1 := cell_of_row _ _ 1 _ _ _ hbox
  have b2 := cell_of_row _ _ 2 _ _ _ hbox
  have b3 := cell_of_row _ _ 3 _ _ _ hbox
  simp at b0 b1 b2 b3
  have hsa : w.heap.size < wa.heap.size := lt_of_heap hbox
  obtain ⟨i0, hi, hz0, hz1, hz2⟩ := info_parts infoS
  obtain ⟨m, hm⟩ : ∃ m, pickN n 9 = m := ⟨_, rfl⟩
  have hm9 : m < 9 := by rw [← hm]; exact pickN_lt n (by omega)
  have HI := Lib.hid h
  have HFA := Lib.hid hfa
  have HB := Lib.hid hbox
  have HM := Lib.hid hm
  clear h hfa hbox hm
  go_enter Try.func20, Try.ntmps20
  go_wp2_with fail
  go_loopw [10, 11] (fun l i wr => ∃ k : Nat, k ≤ m ∧ i = .int .i64 k ∧ wr.ownsRow wa.heap.size 9 1 l k ((pagesL k).map Value.string) ∧ Fr [] wa wr) (fun _ i _ => m - (intOf i).toNat)
  case atStart => exact ⟨0, Nat.zero_le _, rfl, World.ownsRow_nil wa _ _ _, Fr.refl _ _⟩
  case round =>
    obtain ⟨k, hk, rfl, hown, hfr⟩ := hrel
    have b1' := hfr.cell b1 (by simp)
    have b2' := hfr.cell b2 (by simp)
    have b3' := hfr.cell b3 (by simp)
    have hsz := hfr.size
    have HFR := Lib.hid hfr
    have HO := Lib.hid hown
    clear hfr hown
    go_wp2_with fail
    refine (pick_walk wr n 9 (by omega) (by omega) hn1 hn2).mono ?_
    rintro e wr' ⟨rfl, rfl⟩
    rw [HM.out]
    by_cases hlt : k < m
    · go_wp2_with fail
      refine (page_walk wr (k : Int)).mono ?_
      rintro e w2 ⟨rfl, hf2⟩
      obtain ⟨ps, hps⟩ : ∃ ps, pageS (k : Int) = ps := ⟨_, rfl⟩
      rw [hps]
      have hown2 : w2.ownsRow wa.heap.size 9 1 u10 k ((pagesL k).map Value.string) := own_keep HO.out hf2
      have hs2 := hf2.size
      have HPS := Lib.hid hps
      have HF2 := Lib.hid (HFR.out.trans_nil hf2)
      clear hps hf2
      go_wp2_with (at_builtin; refine wpList_append_own _ rfl _ _ 28 rfl wa.heap.size 9 i0 _ 1 16 Try.underlying28 hi hz0 hz1 hz2 rfl (by decide) _ _ _ rfl (hown2.alloc _) ⟨w2.heap.size, 0, none⟩ 1 1 [.string ps] rfl rfl ?c1 ?c2 ?c3 ?c4 ?c5 ?_)
      case c1 =>
        intro j u hj
        match j, hj with
        | 0, hj => simp at hj; subst hj; simp [Addr.add, go_sem]
      case c2 => intro u hu; simp at hu; subst hu; rfl
      case c3 => unfold maxLen; omega
      case c4 => omega
      case c5 => simp; omega
      intro v' w3 hown' hgrow _
      have hfr2 : Fr [] wa w3 := (HF2.out.alloc _).grown hgrow (fun j hj => .inr ((hown2.alloc (.cells #[.string ps] 9)).lt j hj).1)
      have HO2 := Lib.hid hown'
      have HF3 := Lib.hid hfr2
      clear hown' hfr2 hgrow hown2
      go_wp2_with fail
      go_roundw
      case rel =>
        refine ⟨k + 1, by omega, by go_num, ?_, HF3.out⟩
        rw [pagesL_snoc, HPS.out]
        exact HO2.out
      case measure => simp [intOf]; omega
    · obtain rfl : k = m := by omega
      have hrow := Row.ofOwn HO.out
      have hnew : ∀ j, u10.ownBlock = some j → wa.heap.size ≤ j := fun j hj => (HO.out.lt j hj).1
      obtain ⟨la, lc, rfl, h5, h6⟩ := hrow.shape
      unfold maxLen at h6
      have HR := Lib.hid hrow
      have HNew := Lib.hid hnew
      clear hrow hnew
      by_cases h0 : k = 0
      · subst h0
        have hSt : Strs wr 9 (.slice la 0 lc) [] := HR.out
        have hwl := wloads_walk (HI.out.keep_nil (HFA.out.trans_nil HFR.out)) _ [] hSt (by simp) (fun j hj => HI.out.lim j (by have := HNew.out j hj; omega))
        have HWL := Lib.hid hwl
        clear hwl hSt
        go_wp2_with fail
        refine HWL.out.mono ?_
        rintro e w9 ⟨rfl, ρ', A', hI', hE', S, hS, hO⟩
        have HP := Lib.hid (And.intro hI' (And.intro hE' (And.intro hS hO)))
        clear hI' hE' hS hO
        go_wp2_with fail
        go_ret2
        obtain ⟨hI', hE', hS, hO⟩ := HP.out
        have hf := HFA.out.trans_nil HFR.out
        exact ⟨rfl, ρ', A', hI', fun k t hk ht => hE' k t (Nat.lt_of_lt_of_le hk hf.size) ht, S, (hf.weak (by simp)).trans hS (fun _ h => .inl h), hO⟩
      · have hk0 : 0 < k := by omega
        obtain ⟨xo, hxo⟩ : ∃ xo, pickN on k = xo := ⟨_, rfl⟩
        have hxk : xo < k := by rw [← hxo]; exact pickN_lt on hk0
        obtain ⟨so, hso⟩ := get_of_lt (pagesL_len k) hxk
        obtain ⟨g, cap, eg, hcell, hfz⟩ := Row.cell (i := xo) HR.out (by rw [List.getElem?_map, hso]; rfl)
        injection eg with eg1 eg2 eg3
        subst eg1
        have HXO := Lib.hid hxo
        clear hxo hso eg2 eg3
        go_upto_region 15 with fail
        go_cut [81] (fun _ wx => Fr [g] wr wx ∧ Row wx 9 1 (.slice (some ⟨g, 0, none⟩) k lc) k (((pagesL k).map Value.string).set xo (.string s)))
        case first =>
          go_region_with (go_at_call 6; refine (pick_walk _ on k (by omega) (by omega) hon1 hon2).mono ?_; rintro e w' ⟨rfl, rfl⟩; rw [HXO.out])
          all_goals
            go_wp2_with fail
            go_meet
            exact ⟨(Fr.refl [g] wr).drew.setCell (.inl (by simp)) _, (HR.out.keep_nil (Fr.refl [] wr).drew).setAt xo _⟩
        case rest =>
          obtain ⟨hfx, hrx⟩ := hcut
          have hSt : Strs wc 9 (.slice (some ⟨g, 0, none⟩) k lc) ((pagesL k).set xo s) := by
            unfold Strs
            rw [List.length_set, pagesL_len, List.map_set]
            exact hrx
          have hgn : wa.heap.size ≤ g := HNew.out g rfl
          have hwc : Fr [g] w wc := ((HFA.out.trans_nil HFR.out).weak (by simp)).trans hfx (fun _ h => .inl h)
          have hwl := wloads_walk (HI.out.keep_new hwc (fun j hj => by simp at hj; subst hj; exact HI.out.lim j (by omega))) _ _ hSt (by rw [List.length_set, pagesL_len]; omega) (fun j hj => by simp [Value.ownBlock] at hj; subst hj; exact HI.out.lim _ (by omega))
          have HWL := Lib.hid hwl
          have HWC := Lib.hid hwc
          have HGN := Lib.hid hgn
          clear hwl hSt hfx hrx hwc hgn
          go_wp2_with fail
          refine HWL.out.mono ?_
          rintro e w9 ⟨rfl, ρ', A', hI', hE', S, hS, hO⟩
          have HP := Lib.hid (And.intro hI' (And.intro hE' (And.intro hS hO)))
          clear hI' hE' hS hO
          go_wp2_with fail
          go_ret2
          obtain ⟨hI', hE', hS, hO⟩ := HP.out
          have hf := HWC.out
          have hgl := HGN.out
          have hf0 : Fr [] w wc := hf.mono (fun x hx => by simp at hx; subst hx; exact .inr (by omega))
          exact ⟨rfl, ρ', A', hI', fun k t hk ht => hE' k t (Nat.lt_of_lt_of_le hk hf.size) ht, S, (hf0.weak (by simp)).trans hS (fun _ h => .inl h), hO⟩
end Go.Proofs.Ytcpealfaaghpiaa
