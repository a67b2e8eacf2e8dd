/-
  The program's device: Crash. Own work.
-/
import Derived.BigRegion
import Derived.Test.YtcpealfaaghpiaaCrashP
namespace Go.Proofs.Ytcpealfaaghpiaa
open Go Go.RowKit Go.Maps Go.Sort Go.Shelf

/-- The cells of a list of keeps. -/
def kcells (l : List (Int × Int)) : List Value := l.flatMap fun x => [Value.int .i64 x.1, Value.int .i64 x.2]
theorem kcells_len (l : List (Int × Int)) : (kcells l).length = l.length * 2 := by
  induction l with
  | nil => rfl
  | cons a l ih => simp [kcells] at ih ⊢; omega
theorem kcells_at : ∀ (l : List (Int × Int)) (k : Nat) (x : Int × Int), l[k]? = some x → (kcells l)[k * 2]? = some (.int .i64 x.1) ∧ (kcells l)[k * 2 + 1]? = some (.int .i64 x.2)
  | [], k, x, h => by simp at h
  | a :: l, 0, x, h => by simp at h; subst h; exact ⟨rfl, rfl⟩
  | a :: l, k + 1, x, h => by
    have := kcells_at l k x (by simpa using h)
    have e : kcells (a :: l) = Value.int .i64 a.1 :: Value.int .i64 a.2 :: kcells l := rfl
    rw [e, show (k + 1) * 2 = k * 2 + 1 + 1 by omega, show k * 2 + 1 + 1 + 1 = (k * 2 + 1) + 1 + 1 by omega]
    simpa using this
/-- A slice of keeps. -/
def Keeps (w : World) (v : Value) (l : List (Int × Int)) : Prop := Row w 84 2 v l.length (kcells l)
def KWf (l : List (Int × Int)) : Prop := ∀ x ∈ l, -9223372036854775808 ≤ x.1 ∧ x.1 ≤ 9223372036854775807 ∧ -9223372036854775808 ≤ x.2 ∧ x.2 ≤ 9223372036854775807

set_option maxRecDepth 100000 in
set_option maxHeartbeats 1000000 in
theorem crash_walk (w : World) (d p m : Nat) (D : DA) (ks : List (Int × Int)) (vk : Value) (h : DevIs w d p m D) (hk : Keeps w vk ks) (hwf : KWf ks) (hmax : ks.length < maxLen) (hap : ∀ k, vk.ownBlock = some k → k ≠ d ∧ k ≠ p ∧ k ≠ m) :
    Calls Try.prog 47 #[.pointer (some ⟨d, 0, none⟩), vk] w fun e w' => e = .returned (.int .i64 (D.crash ks).1) ∧ DevIs w' d p m (D.crash ks).2 ∧ Fr [d, p, m] w w' := by
  obtain ⟨r, hr1⟩ : ∃ r, (D.crash ks).1 = r := ⟨_, rfl⟩
  obtain ⟨D', hr2⟩ : ∃ D', (D.crash ks).2 = D' := ⟨_, rfl⟩
  rw [hr1, hr2]
  have HR1 := Lib.hid hr1
  have HR2 := Lib.hid hr2
  clear hr1 hr2
  have hr := rising_walk w d p m D h
  have hmm := @run_makeMap Try.prog
  obtain ⟨n, hn⟩ : ∃ n, D.keys.length = n := ⟨_, rfl⟩
  obtain ⟨nk, hnk⟩ : ∃ nk, ks.length = nk := ⟨_, rfl⟩
  have hkb : D.keys.length ≤ 4096 := Nat.le_trans (keys_len D) (by rw [h.wf.len]; exact h.wf.hi)
  have hks := hk.shape
  rw [hn] at hkb
  rw [hnk] at hks hmax
  obtain ⟨ak, ck, rfl, hk1, hk2⟩ := hks
  unfold maxLen at hk2 hmax
  have HH := Lib.hid h
  have HN := Lib.hid hn
  have HNK := Lib.hid hnk
  have HR := Lib.hid hr
  have HK := Lib.hid hk
  have HA := Lib.hid hap
  have HW := Lib.hid hwf
  clear h hn hr hk hnk hap hwf
  go_enter Try.func47, Try.ntmps47
  go_wp2_with fail
  refine HR.out.mono ?_
  rintro e w1 ⟨v, rfl, hints, hf1, hnew⟩
  have hs := Row.shape hints
  rw [HN.out] at hs
  obtain ⟨a, cp, rfl, h1, h2⟩ := hs
  unfold maxLen at h2
  have HI := Lib.hid hints
  have HF := Lib.hid hf1
  have HNew := Lib.hid hnew
  clear hints hf1 hnew
  go_wp2_with fail
  have hmade : MapN (w1.alloc (.map #[] 0)) w1.heap.size 0 (staysOf []) := MapN.made w1
  have hfm : Fr [] w1 (w1.alloc (.map #[] 0)) := (Fr.refl _ _).alloc _
  go_loopw [19] (fun i wr => ∃ k : Nat, k ≤ nk ∧ i = .int .i64 k ∧ KOk n (ks.take k) ∧ MapN wr w1.heap.size k (staysOf (ks.take k)) ∧ Fr [] w1 wr) (fun i _ => nk - (intOf i).toNat)
  case atStart => exact ⟨0, Nat.zero_le _, rfl, KOk_nil _, hmade, hfm⟩
  case round =>
    clear hmade hfm
    obtain ⟨k, hk, rfl, hok, hmn, hfr⟩ := hrel
    by_cases hlt : k < nk
    · obtain ⟨x, hx⟩ := get_of_lt HNK.out hlt
      obtain ⟨N, B⟩ := x
      obtain ⟨hx1, hx2⟩ := kcells_at ks k _ hx
      obtain ⟨g, cg, ea, hc1, _⟩ := Row.cell HK.out hx1
      obtain ⟨g', cg', eb, hc2, _⟩ := Row.cell HK.out hx2
      injection ea with ea1 ea2 ea3
      subst ea1
      injection eb with eb1 eb2 eb3
      injection eb1 with eb1
      injection eb1 with eb1
      subst eb1
      have hc1' := hfr.cell (HF.out.cell hc1 (by simp)) (by simp)
      have hc2' := hfr.cell (HF.out.cell hc2 (by simp)) (by simp)
      obtain ⟨hN1, hN2, hB1, hB2⟩ := HW.out (N, B) (List.mem_of_getElem? hx)
      simp only at hN1 hN2 hB1 hB2
      have hmn2 : MapN (wr.alloc (.cells #[.int .i64 N, .int .i64 B] 84)) w1.heap.size k (staysOf (ks.take k)) := hmn.keep ((Fr.refl [] _).alloc _) (by simp)
      have hlook := hmn2.look_ok (WalkArith.wf_i64 (n := N) (by omega))
      have htk : ks.take (k + 1) = ks.take k ++ [(N, B)] := by rw [List.take_add_one, hx]; rfl
      clear ea2 ea3 eb2 eb3 hc1 hc2
      have hsz := hfr.size
      have hlt1 := hmn.lt
      have HX := Lib.hid hx
      have HOK := Lib.hid hok
      have HFR := Lib.hid hfr
      have HTK := Lib.hid htk
      have HERR : Hid ((¬ KRange n (N, B) ∨ ¬ staysOf (ks.take k) N = none) → r = 92 ∧ D' = D) := by
        intro hbad
        have hno : ¬ KOk D.keys.length ks := by
          rw [HN.out]
          intro hall
          have h1 := KOk_take hall (k + 1)
          rw [htk, KOk_snoc hok] at h1
          rcases hbad with hb | hb
          · exact hb h1.1
          · exact hb h1.2
        have e1 := HR1.out
        have e2 := HR2.out
        unfold DA.crash at e1 e2
        rw [if_neg hno] at e1 e2
        exact ⟨e1.symm, e2.symm⟩
      have HEND : Hid (∀ o : Obj, DevIs (wr.alloc o) d p m D ∧ Fr [d, p, m] w (wr.alloc o)) := by
        intro o
        have hfo : Fr [] w (wr.alloc o) := (HF.out.trans_nil HFR.out).alloc o
        exact ⟨HH.out.keep hfo (by simp) (by simp) (by simp), hfo.weak (by simp)⟩
      clear hx hok hmn hfr hx1 hx2 htk
      by_cases hst : staysOf (ks.take k) N = none
      · have hst2 := hst
        rw [hst] at hlook
        simp only [Option.getD_none, Option.isSome_none] at hlook
        have HST := Lib.hid hst2
        by_cases hrg : KRange n (N, B)
        · obtain ⟨w3, hrun, hmn3, hf3⟩ := hmn2.store (by unfold maxLen; omega) (WalkArith.wf_i64 (n := N) (by omega)) (WalkArith.wf_i64 (n := B) (by omega))
          have hrel3 : KOk n (ks.take (k + 1)) ∧ MapN w3 w1.heap.size (k + 1) (staysOf (ks.take (k + 1))) ∧ Fr [] w1 w3 := by
            rw [HTK.out]
            refine ⟨(KOk_snoc HOK.out).2 ⟨hrg, hst⟩, ?_, ((HFR.out.alloc _).trans hf3 (fun x hx => .inr (by simp at hx; omega)))⟩
            have e : staysOf (ks.take k ++ [(N, B)]) = fun i => if i = N then some B else staysOf (ks.take k) i := funext fun i => staysOf_snoc (x := (N, B)) hst i
            rw [e]; exact hmn3
          have HREL := Lib.hid hrel3
          obtain ⟨r1, r2, r3, r4⟩ := hrg
          simp only at r1 r2 r3 r4
          clear hst hst2 hmn2 hmn3 hf3 hrel3
          go_wp2_with fail
          go_roundw
          case rel => exact ⟨k + 1, by omega, by go_num, HREL.out⟩
          case measure => simp [intOf]; omega
        · obtain ⟨rfl, rfl⟩ := HERR.out (.inl hrg)
          have hcases : N < 0 ∨ (0 ≤ N ∧ (n : Int) ≤ N) ∨ (0 ≤ N ∧ N < n ∧ B < 0) ∨ (0 ≤ N ∧ N < n ∧ 0 ≤ B ∧ 256 < B) := by
            unfold KRange at hrg; simp only at hrg; omega
          clear hst hst2 hmn2 hrg HERR
          rcases hcases with q | ⟨q1, q2⟩ | ⟨q1, q2, q3⟩ | ⟨q1, q2, q3, q4⟩
          all_goals
            go_wp2_with fail
            go_ret
            exact ⟨rfl, (HEND.out _).1, (HEND.out _).2⟩
      · obtain ⟨rfl, rfl⟩ := HERR.out (.inr hst)
        have hsome : (staysOf (ks.take k) N).isSome = true := by cases e : staysOf (ks.take k) N with | none => exact absurd e hst | some _ => rfl
        rw [hsome] at hlook
        clear hst hmn2 HERR hsome
        go_wp2_with fail
        go_ret
        exact ⟨rfl, (HEND.out _).1, (HEND.out _).2⟩
    · obtain rfl : k = nk := by omega
      have hall : ks.take k = ks := List.take_of_length_le (by rw [HNK.out]; exact Nat.le_refl _)
      rw [hall] at hok hmn
      have hsz1 := hfr.size
      have HOK := Lib.hid hok
      have HMN := Lib.hid hmn
      have HFR := Lib.hid hfr
      clear hok hmn hfr hall hlt
      obtain ⟨w2, rfl⟩ : ∃ w2, w2 = wr := ⟨_, rfl⟩
      go_wp2_with fail
      go_loopw [61] (fun i wr => ∃ k : Nat, k ≤ n ∧ i = .int .i64 k ∧ PagesAt wr p (D.cL ks (D.keys.take k)) ∧ MapP wr m (D.fP (D.keys.take k)) ∧ Fr [p, m] w2 wr) (fun i _ => n - (intOf i).toNat)
      case atStart =>
        refine ⟨0, Nat.zero_le _, rfl, ?_, ?_, Fr.refl _ _⟩
        · exact PagesAt.keep (show PagesAt w p D.L from HH.out.pages) (HF.out.trans_nil HFR.out) (by simp)
        · exact MapP.keep HH.out.pend (HF.out.trans_nil HFR.out) (by simp)
      case round =>
        obtain ⟨j, hj, rfl, hpg, hmp, hfr⟩ := hrel
        by_cases hlt : j < n
        · obtain ⟨x, hx⟩ := get_of_lt HN.out hlt
          obtain ⟨g, cg, ea, hc1, _⟩ := (Ints.at HI.out hx)
          injection ea with ea1 ea2 ea3
          subst ea1
          have hge : w.heap.size ≤ g := HNew.out g rfl
          have hlt2 := HH.out.lt
          have hsz0 := HF.out.size
          have hc1' := hfr.cell (HFR.out.cell hc1 (by simp)) (by simp; omega)
          have hxl := keys_lt D (List.mem_of_getElem? hx)
          have hPb : D.P.length ≤ 4096 := by rw [HH.out.wf.len]; exact HH.out.wf.hi
          have hlook := (show MapP wr.drew m _ from hmp).look (show x < 4096 by omega)
          have hget := fP_get D hx
          rw [hget] at hlook
          obtain ⟨s, hs⟩ : ∃ s, ((D.P[x]?).join).getD ByteArray.empty = s := ⟨_, rfl⟩
          rw [hs] at hlook
          have hxL : x < D.L.length := by rw [← HH.out.wf.len]; exact hxl
          obtain ⟨hcp, hfz⟩ := hpg.cell (x := x) (by rw [cL_len]; exact hxL)
          obtain ⟨t, ht⟩ : ∃ t, D.L.getD x ByteArray.empty = t := ⟨_, rfl⟩
          have hcg : (D.cL ks (D.keys.take j)).getD x ByteArray.empty = t := by rw [List.getD, cL_get ks hx, ← ht]; rfl
          rw [hcg] at hcp
          obtain ⟨cap, armed, c0, c1, _⟩ := HH.out.cells
          obtain ⟨n1, n2, n3⟩ := HH.out.apart
          have c0' := hfr.cell (HFR.out.cell (HF.out.cell c0 (by simp)) (by simp)) (by simp; omega)
          have c1' := hfr.cell (HFR.out.cell (HF.out.cell c1 (by simp)) (by simp)) (by simp; omega)
          have hlk := (HMN.out.keep hfr (by simp; omega)).look (WalkArith.wf_i64 (n := (j : Int)) (by omega))
          have hkl := kept_le HOK.out j
          obtain ⟨cn, hcn⟩ : ∃ cn, kept ks j = cn := ⟨_, rfl⟩
          have hcI : (staysOf ks (j : Int)).getD 0 = (cn : Int) := by
            rw [← hcn]
            unfold kept
            cases e : staysOf ks (j : Int) with
            | none => rfl
            | some v => have := staysOf_range HOK.out e; simp; omega
          rw [hcI] at hlk
          rw [hcn] at hkl
          have hss : s.size = 256 := by
            have hsm := (mem_keys D x).1 (List.mem_of_getElem? hx)
            unfold DA.at_ at hsm
            have h2 : D.P[x]? = some (D.P[x]) := by simp [hxl]
            rw [h2] at hs hsm
            cases hp : D.P[x] with
            | none => rw [hp] at hsm; simp at hsm
            | some u => rw [hp] at hs; rw [← hs]; exact HH.out.wf.szP u (by rw [← hp]; exact List.getElem_mem _)
          have hts : t.size = 256 := by
            rw [← ht, show D.L.getD x ByteArray.empty = D.L[x] by simp [List.getD, hxL]]
            exact HH.out.wf.szL _ (List.getElem_mem _)
          have hcd : D.cdata ks x = s.extract 0 cn ++ t.extract cn 256 := by
            unfold DA.cdata DA.at_
            rw [keys_idx hx, hcn, hs, ht]
          have HCD := Lib.hid hcd
          obtain ⟨np, hnp⟩ : ∃ np, D.L.length = np := ⟨_, rfl⟩
          rw [hnp] at c0' hxL
          have HX := Lib.hid hx
          have HS := Lib.hid hs
          have HT := Lib.hid ht
          have HFR2 := Lib.hid hfr
          have HPG := Lib.hid hpg
          have HMP := Lib.hid hmp
          clear hx hs ht hfr hpg hmp hnp hget c0 c1 hc1 ea2 ea3 hcn hcI hcg hcd
          obtain ⟨W2, hW2⟩ : ∃ W2, (wr.setCell ⟨p, x, none⟩ (.string (s.extract 0 cn ++ t.extract cn 256))).drew = W2 := ⟨_, rfl⟩
          have hf2 : Fr [p] wr W2 := by rw [← hW2]; exact ((Fr.refl _ _).setCell (.inl (by simp)) _).drew
          obtain ⟨w3, hdrop, hmp3, hf3⟩ := (HMP.out.keep hf2 (by simp; omega)).drop (i := x) (by rw [fP_len]; exact hxl) (by rw [fP_len]; exact hPb) 0
          have hpg3 : PagesAt w3 p ((D.cL ks (D.keys.take j)).set x (s.extract 0 cn ++ t.extract cn 256)) := by
            refine PagesAt.keep ?_ hf3 (by simp; omega)
            rw [← hW2]
            exact HPG.out.set x _
          have hfr3 : Fr [p, m] w2 w3 := (HFR2.out.trans (hf2.weak (T := [p, m]) (by simp)) (fun _ h => .inl h)).trans (hf3.weak (T := [p, m]) (by simp)) (fun _ h => .inl h)
          have hc12 := hf2.cell c1' (by simp; omega)
          have HPG3 := Lib.hid hpg3
          have HMP3 := Lib.hid hmp3
          have HFR3 := Lib.hid hfr3
          have HW2 := Lib.hid hW2
          clear hpg3 hmp3 hfr3 hW2 hf2 hf3
          go_wp2
          go_region
          rw [HW2.out]
          go_wp2
          go_roundw
          case rel =>
            have e : D.keys.take (j + 1) = D.keys.take j ++ [x] := by rw [List.take_add_one, HX.out]; rfl
            refine ⟨j + 1, by omega, by go_num, ?_, ?_, HFR3.out⟩
            · rw [e, cL_snoc, HCD.out]; exact HPG3.out
            · rw [e, fP_snoc]; exact HMP3.out
          case measure => simp [intOf]; omega
        · obtain rfl : j = n := by omega
          have hall : D.keys.take j = D.keys := List.take_of_length_le (by rw [HN.out]; exact Nat.le_refl _)
          rw [hall] at hpg hmp
          rw [fP_all] at hmp
          obtain ⟨cap, armed, hb, hc1, hc2, _⟩ := HH.out.fields
          obtain ⟨n1, n2, n3⟩ := HH.out.apart
          have hlt2 := HH.out.lt
          have hb' := hfr.keep (HFR.out.keep (HF.out.keep hb (by simp)) (by simp)) (by simp; omega)
          have c2 := cell_of_row _ _ 2 _ _ _ hb'
          have c3 := cell_of_row _ _ 3 _ _ _ hb'
          have f2 := frozen_of_row _ _ 2 _ _ hb'
          have f3 := frozen_of_row _ _ 3 _ _ hb'
          have e1 := HR1.out
          have e2 := HR2.out
          unfold DA.crash at e1 e2
          rw [if_pos (by rw [HN.out]; exact HOK.out)] at e1 e2
          subst e1 e2
          have HFR2 := Lib.hid hfr
          have HPG := Lib.hid hpg
          have HMP := Lib.hid hmp
          have HB := Lib.hid hb'
          clear hfr hpg hmp hall hb hb'
          simp at c2 c3
          go_wp2
          go_ret
          have hfa : Fr [d] wr ((wr.setCell ⟨d, 2, none⟩ (.bool false)).setCell ⟨d, 3, none⟩ (.int .i64 0)) := ((Fr.refl [d] wr).setCell (.inl (by simp)) _).setCell (.inl (by simp)) _
          refine ⟨rfl, ⟨⟨?_, ?_, ?_, ?_, ?_, by simp, by simp⟩, ⟨cap, 0, ?_, ?_, hc2, fun _ => rfl, by simp, by simp⟩, HPG.out.keep hfa (by simp; omega), HMP.out.keep hfa (by simp; omega)⟩, ?_⟩
          · show (D.P.map fun _ => none).length = (D.cL ks D.keys).length; rw [List.length_map, cL_len]; exact HH.out.wf.len
          · show 4 ≤ (D.cL ks D.keys).length; rw [cL_len]; exact HH.out.wf.lo
          · show (D.cL ks D.keys).length ≤ 4096; rw [cL_len]; exact HH.out.wf.hi
          · exact cL_sz HH.out.wf (by rw [HN.out]; exact HOK.out)
          · intro t ht; simp at ht
          · show _ = some (Obj.cells #[.slice (some ⟨p, 0, none⟩) (D.cL ks D.keys).length cap, _, _, _] _ _)
            rw [cL_len, heap_setCell_same _ _ _ _ _ _ (heap_setCell_same _ _ _ _ _ _ HB.out)]; rfl
          · show (D.cL ks D.keys).length ≤ cap; rw [cL_len]; exact hc1
          · exact (((HF.out.trans_nil HFR.out).weak (T := [d, p, m]) (by simp)).trans (HFR2.out.weak (T := [d, p, m]) (by simp)) (fun _ h => .inl h)).trans (hfa.weak (T := [d, p, m]) (by simp)) (fun _ h => .inl h)
end Go.Proofs.Ytcpealfaaghpiaa
