/-
  The document's device: Pages, Pending, Flush. Own work.
-/
import Derived.Test.YtcpealfaaghpiaaRefB
namespace Go.Proofs.Ytcpealfaaghpiaa
open Go Go.RowKit Go.Maps Go.Sort Go.Shelf

theorem strs_oneCell (l : List ByteArray) : ∀ u ∈ l.map Value.string, u.oneCell' = true := by
  intro u hu
  obtain ⟨_, _, rfl⟩ := List.mem_map.1 hu
  rfl
theorem pages_cells {w : World} {p : Nat} {L : List ByteArray} (h : PagesAt w p L) : ∀ j u, (L.map Value.string)[j]? = some u → w.cell? ((⟨p, 0, none⟩ : Addr).add j) = some u := by
  intro j u hj
  rw [List.getElem?_map] at hj
  cases e : L[j]? with
  | none => rw [e] at hj; cases hj
  | some s =>
    rw [e] at hj
    obtain rfl := Option.some.inj hj
    obtain ⟨cur, hc, _, r⟩ := h
    rw [Addr.add_lit, Nat.zero_add, cell_of_row _ _ _ _ _ _ hc, r j s e]

set_option maxHeartbeats 400000 in
theorem rpages_walk (w : World) (x l b q : Nat) (D : DA) (h : RefIs w x l b q D) :
    Calls Try.prog 10 #[.pointer (some ⟨x, 0, none⟩)] w fun e w' => ∃ v, e = .returned v ∧ Strs w' 9 v D.L ∧ Fr [] w w' ∧ (∀ k, v.ownBlock = some k → w.heap.size ≤ k) := by
  obtain ⟨cl, cb, cq, c0, _⟩ := h.cells
  have hn := h.wf.hi
  obtain ⟨n, hn'⟩ : ∃ n, D.L.length = n := ⟨_, rfl⟩
  obtain ⟨i0, hi, hz0, hz1, hz2⟩ := info_parts infoS
  have hc := pages_cells h.pages
  have h1 := strs_oneCell D.L
  have hlen : (D.L.map Value.string).length = n := by simp [hn']
  unfold Strs
  obtain ⟨xs, hxs⟩ : ∃ xs, D.L.map Value.string = xs := ⟨_, rfl⟩
  rw [hxs] at hc h1 hlen ⊢
  rw [hn'] at c0 hn ⊢
  clear hxs hn' h
  have HC := Lib.hid hc
  have H1 := Lib.hid h1
  have HL := Lib.hid hlen
  clear hc h1 hlen
  go_enter Try.func10, Try.ntmps10
  go_wp2_with (at_builtin; refine wpList_append_own _ rfl _ _ 28 rfl w.heap.size 9 i0 _ 1 16 Try.underlying28 hi hz0 hz1 hz2 rfl (by decide) _ _ _ rfl (World.ownsRow_nil _ _ _ _) ⟨l, 0, none⟩ n cl xs rfl ?c0 ?c1 ?c2 ?c3 ?c4 ?c5 ?_)
  case c0 => rw [HL.out]; omega
  case c1 => exact HC.out
  case c2 => exact H1.out
  case c3 => unfold maxLen; omega
  case c4 => omega
  case c5 => exact Nat.le_refl _
  intro v' w2 hown hgrow _
  have HO := Lib.hid hown
  have HG := Lib.hid hgrow
  clear hown hgrow
  go_wp2
  go_ret
  exact ⟨_, rfl, Row.ofOwn HO.out, (Fr.refl [] w).grown HG.out (fun k hk => by cases hk), fun k hk => (HO.out.lt k hk).1⟩

theorem pk_take (P : List (Option ByteArray)) (k : Nat) : pkUpto P (k + 1) = pkUpto P k ++ (if ((P[k]?).join).isSome then [k] else []) := pkUpto_succ P k
def DA.pendUpto (D : DA) (k : Nat) : List (Nat × ByteArray) := (pkUpto D.P k).map fun i => (i, (D.at_ i).getD ByteArray.empty)
theorem pendUpto_yes {D : DA} {k : Nat} {s : ByteArray} (h : (D.P[k]?).join = some s) : D.pendUpto (k + 1) = D.pendUpto k ++ [(k, s)] := by
  unfold DA.pendUpto DA.at_
  rw [pkUpto_succ, h]; simp [h]
theorem pendUpto_no {D : DA} {k : Nat} (h : (D.P[k]?).join = none) : D.pendUpto (k + 1) = D.pendUpto k := by
  unfold DA.pendUpto
  rw [pkUpto_succ, h]; simp
theorem pendUpto_all (D : DA) : D.pendUpto D.P.length = D.pending := rfl
theorem pendUpto_len (D : DA) (k : Nat) : (D.pendUpto k).length ≤ k := by
  unfold DA.pendUpto pkUpto
  rw [List.length_map]
  exact Nat.le_trans (List.length_filter_le _ _) (by simp)

set_option maxHeartbeats 400000 in
theorem rpending_walk (w : World) (x l b q : Nat) (D : DA) (h : RefIs w x l b q D) :
    Calls Try.prog 13 #[.pointer (some ⟨x, 0, none⟩)] w fun e w' => ∃ v, e = .returned v ∧ Writes w' v D.pending ∧ Fr [] w w' ∧ (∀ k, v.ownBlock = some k → w.heap.size ≤ k) := by
  obtain ⟨cl, cb, cq, c0, c1, c2, _⟩ := h.cells
  have hnb := h.wf.hi
  obtain ⟨n, hn⟩ : ∃ n, D.L.length = n := ⟨_, rfl⟩
  have hnP : D.P.length = n := by rw [h.wf.len, hn]
  obtain ⟨i0, hi, hz0, hz1, hz2⟩ := info_parts infoW
  rw [hn] at c0 c1 c2 hnb
  have HH := Lib.hid h
  have HP := Lib.hid hnP
  clear h hn hnP
  go_enter Try.func13, Try.ntmps13
  go_wp2
  go_loopw [3, 4] (fun out i wr => ∃ k : Nat, k ≤ n ∧ i = .int .i64 k ∧ wr.ownsRow w.heap.size 58 2 out (D.pendUpto k).length (wcells (D.pendUpto k)) ∧ Fr [] w wr) (fun _ i _ => n - (intOf i).toNat)
  case atStart => exact ⟨0, Nat.zero_le _, rfl, World.ownsRow_nil w _ _ _, Fr.refl _ _⟩
  case round =>
    obtain ⟨k, hk, rfl, hown, hfr⟩ := hrel
    have c0' := hfr.cell c0 (by simp)
    have c1' := hfr.cell c1 (by simp)
    have c2' := hfr.cell c2 (by simp)
    have hsz := hfr.size
    have HFR := Lib.hid hfr
    clear hfr
    by_cases hlt : k < n
    · have hR := HH.out.keep HFR.out (by simp) (by simp) (by simp) (by simp)
      obtain ⟨cf, _⟩ := hR.flags.cell (i := k) (by rw [HP.out]; exact hlt)
      have hpl := pendUpto_len D k
      cases ho : (D.P[k]?).join with
      | none =>
        rw [ho] at cf
        simp only [Option.isSome_none] at cf
        have e := pendUpto_no ho
        have HE := Lib.hid e
        have HO := Lib.hid hown
        clear hR ho e hown
        go_wp2
        go_roundw
        case rel => exact ⟨k + 1, by omega, by go_num, by rw [HE.out]; exact HO.out, HFR.out⟩
        case measure => simp [intOf]; omega
      | some s =>
        have cd := hR.data.cell ho
        rw [ho] at cf
        simp only [Option.isSome_some] at cf
        have e := pendUpto_yes ho
        have HE := Lib.hid e
        obtain ⟨pl, hpl2⟩ : ∃ pl, (D.pendUpto k).length = pl := ⟨_, rfl⟩
        rw [hpl2] at hown hpl
        have HPL := Lib.hid hpl2
        clear hR ho e hpl2
        go_wp2_with (at_builtin; refine wpList_append_own _ rfl _ _ 43 rfl w.heap.size 58 i0 _ 2 24 Try.underlying43 hi hz0 hz1 hz2 rfl (by decide) _ _ _ rfl (hown.alloc _) ⟨wr.heap.size, 0, none⟩ 1 1 [.int .i64 k, .string s] rfl rfl ?c1 ?c2 ?c3 ?c4 ?c5 ?_)
        case c1 => exact cell_two_new _ _ _ _
        case c2 => intro u hu; simp at hu; rcases hu with rfl | rfl <;> rfl
        case c3 => unfold maxLen; omega
        case c4 => omega
        case c5 => simp; omega
        intro v' w2 hown' hgrow _
        have hfr2 : Fr [] w w2 := (HFR.out.alloc _).grown hgrow (fun j hj => .inr ((hown.alloc (.cells #[Value.int .i64 (k : Int), Value.string s] 58)).lt j hj).1)
        have HO := Lib.hid hown'
        have HF2 := Lib.hid hfr2
        clear hown' hfr2 hgrow hown
        go_wp2
        go_roundw
        case rel =>
          refine ⟨k + 1, by omega, by go_num, ?_, HF2.out⟩
          rw [HE.out, wcells_snoc, List.length_append, HPL.out]
          exact HO.out
        case measure => simp [intOf]; omega
    · obtain rfl : k = n := by omega
      have hown2 := hown
      rw [← HP.out, pendUpto_all] at hown2
      have HO := Lib.hid hown2
      clear hown hown2
      go_wp2
      go_ret
      exact ⟨_, rfl, Row.ofOwn HO.out, HFR.out, fun j hj => (HO.out.lt j hj).1⟩

theorem pkUpto_notin (P : List (Option ByteArray)) (k : Nat) : k ∉ pkUpto P k := by
  unfold pkUpto
  intro h
  have := List.mem_range.1 (List.mem_filter.1 h).1
  omega
theorem fP_upto (D : DA) (k : Nat) : (D.fP (pkUpto D.P k))[k]? = D.P[k]? := by
  unfold DA.fP
  rw [foldl_set_get (fun _ => none), if_neg]
  exact fun h => pkUpto_notin _ _ h.1

theorem rflush_dead (w : World) (x : Nat) (c4 : w.cell? ⟨x, 4, none⟩ = some (.bool true)) :
    Calls Try.prog 25 #[.pointer (some ⟨x, 0, none⟩)] w fun e w' => e = .returned (.int .i64 2) ∧ w' = w := by
  go_enter Try.func25, Try.ntmps25
  go_wp2
  go_ret
  exact ⟨rfl, rfl⟩
theorem rflush_dies (w : World) (x : Nat) (R : World → Prop) (c4 : w.cell? ⟨x, 4, none⟩ = some (.bool false))
    (hact : Calls Try.prog 45 #[.pointer (some ⟨x, 0, none⟩)] w fun e w' => e = .returned (.bool true) ∧ R w') :
    Calls Try.prog 25 #[.pointer (some ⟨x, 0, none⟩)] w fun e w' => e = .returned (.int .i64 2) ∧ R w' := by
  have HC := Lib.hid hact
  clear hact
  go_enter Try.func25, Try.ntmps25
  go_wp2_with fail
  refine HC.out.mono ?_
  rintro e w' ⟨rfl, hR⟩
  have HR := Lib.hid hR
  clear hR
  go_wp2
  go_ret
  exact ⟨rfl, HR.out⟩

set_option maxHeartbeats 400000 in
theorem rflush_lives (w : World) (x l b q : Nat) (D : DA) (hdead : w.cell? ⟨x, 4, none⟩ = some (.bool false))
    (hact : Calls Try.prog 45 #[.pointer (some ⟨x, 0, none⟩)] w fun e w' => e = .returned (.bool false) ∧ RefIs w' x l b q D ∧ Fr [x] w w') :
    Calls Try.prog 25 #[.pointer (some ⟨x, 0, none⟩)] w fun e w' => e = .returned (.int .i64 0) ∧ RefIs w' x l b q { D with L := flushed D.L D.P, P := D.P.map fun _ => none } ∧ Fr [x, l, b] w w' := by
  have HC := Lib.hid hact
  clear hact
  go_enter Try.func25, Try.ntmps25
  go_wp2_with fail
  refine HC.out.mono ?_
  rintro e w1 ⟨rfl, h, hf1⟩
  obtain ⟨cl, cb, cq, c0, c1, c2, _⟩ := h.cells
  obtain ⟨n1, n2, n3, n4, n5, n6⟩ := h.apart
  have hnb := h.wf.hi
  obtain ⟨n, hn⟩ : ∃ n, D.L.length = n := ⟨_, rfl⟩
  have hnP : D.P.length = n := by rw [h.wf.len, hn]
  rw [hn] at c0 c1 c2 hnb
  have HH := Lib.hid h
  have HN := Lib.hid hn
  have HP := Lib.hid hnP
  have HF := Lib.hid hf1
  clear h hn hnP hf1
  go_wp2_with fail
  go_loopw [4] (fun i wr => ∃ k : Nat, k ≤ n ∧ i = .int .i64 k ∧ PagesAt wr l (D.fL (pkUpto D.P k)) ∧ FlagsAt wr b (D.fP (pkUpto D.P k)) ∧ DataAt wr q (D.fP (pkUpto D.P k)) ∧ Fr [l, b] w1 wr) (fun i _ => n - (intOf i).toNat)
  case atStart => exact ⟨0, Nat.zero_le _, rfl, HH.out.pages, HH.out.flags, HH.out.data, Fr.refl _ _⟩
  case round =>
    obtain ⟨k, hk, rfl, hpg, hfl, hdt, hfr⟩ := hrel
    have c0' := hfr.cell c0 (by simp; omega)
    have c1' := hfr.cell c1 (by simp; omega)
    have c2' := hfr.cell c2 (by simp; omega)
    by_cases hlt : k < n
    · obtain ⟨cf, ff⟩ := hfl.cell (i := k) (by rw [fP_len, HP.out]; exact hlt)
      rw [fP_upto] at cf
      cases ho : (D.P[k]?).join with
      | none =>
        rw [ho] at cf
        simp only [Option.isSome_none] at cf
        have e : pkUpto D.P (k + 1) = pkUpto D.P k := by rw [pkUpto_succ, ho]; simp
        have HE := Lib.hid e
        have HR := Lib.hid (And.intro hpg (And.intro hfl (And.intro hdt hfr)))
        clear ho e hpg hfl hdt hfr
        go_wp2
        go_roundw
        case rel => exact ⟨k + 1, by omega, by go_num, by rw [HE.out]; exact HR.out⟩
        case measure => simp [intOf]; omega
      | some s =>
        have cd := hdt.cell (i := k) (s := s) (by rw [fP_upto]; exact ho)
        rw [ho] at cf
        simp only [Option.isSome_some] at cf
        obtain ⟨cp, fp⟩ := hpg.cell (x := k) (by rw [fL_len, HN.out]; exact hlt)
        obtain ⟨old, hold⟩ : ∃ old, (D.fL (pkUpto D.P k)).getD k ByteArray.empty = old := ⟨_, rfl⟩
        rw [hold] at cp
        have e : pkUpto D.P (k + 1) = pkUpto D.P k ++ [k] := by rw [pkUpto_succ, ho]; simp
        have g1 : Fr [l] wr (wr.setCell ⟨l, k, none⟩ (.string s)) := (Fr.refl _ _).setCell (.inl (by simp)) _
        have g2 : Fr [b] (wr.setCell ⟨l, k, none⟩ (.string s)) ((wr.setCell ⟨l, k, none⟩ (.string s)).setCell ⟨b, k, none⟩ (.bool false)) := (Fr.refl _ _).setCell (.inl (by simp)) _
        have hrel' : PagesAt ((wr.setCell ⟨l, k, none⟩ (.string s)).setCell ⟨b, k, none⟩ (.bool false)) l (D.fL (pkUpto D.P (k + 1))) ∧ FlagsAt ((wr.setCell ⟨l, k, none⟩ (.string s)).setCell ⟨b, k, none⟩ (.bool false)) b (D.fP (pkUpto D.P (k + 1))) ∧
            DataAt ((wr.setCell ⟨l, k, none⟩ (.string s)).setCell ⟨b, k, none⟩ (.bool false)) q (D.fP (pkUpto D.P (k + 1))) ∧ Fr [l, b] w1 ((wr.setCell ⟨l, k, none⟩ (.string s)).setCell ⟨b, k, none⟩ (.bool false)) := by
          rw [e, fL_snoc, fP_snoc, show (D.at_ k).getD ByteArray.empty = s by unfold DA.at_; rw [ho]; rfl]
          exact ⟨(hpg.set k s).keep g2 (by simp; omega), (hfl.keep g1 (by simp; omega)).set k none, ((hdt.keep g1 (by simp; omega)).keep g2 (by simp; omega)).setNone k, (hfr.trans (g1.weak (T := [l, b]) (by simp)) (fun _ h => .inl h)).trans (g2.weak (T := [l, b]) (by simp)) (fun _ h => .inl h)⟩
        have HR := Lib.hid hrel'
        clear ho e hpg hfl hdt hfr hold hrel' g1 g2
        go_wp2
        go_region
        go_wp2
        go_roundw
        case rel =>
          refine ⟨k + 1, by omega, by go_num, ?_⟩
          obtain ⟨r1, r2, r3, r4⟩ := HR.out
          exact ⟨r1, r2, r3, r4.os, r4.tape, r4.output, r4.size, r4.block⟩
        case measure => simp [intOf]; omega
    · obtain rfl : k = n := by omega
      have e : pkUpto D.P k = D.keys := by unfold DA.keys; rw [HP.out]
      rw [e, fL_all D HH.out.wf.len] at hpg
      rw [e, fP_all] at hfl hdt
      have HR := Lib.hid (And.intro hpg (And.intro hfl (And.intro hdt hfr)))
      clear hpg hfl hdt hfr e
      go_wp2
      go_ret
      obtain ⟨r1, r2, r3, r4⟩ := HR.out
      obtain ⟨cl', cb', cq', hh, m1, m2⟩ := HH.out.fields
      have hL := flushed_len HH.out.wf
      refine ⟨rfl, ⟨⟨by rw [hL, List.length_map]; exact HH.out.wf.len, by rw [hL]; exact HH.out.wf.lo, by rw [hL]; exact HH.out.wf.hi, flushed_sz HH.out.wf, by intro t ht; simp at ht, HH.out.wf.left0, HH.out.wf.left1⟩, ⟨cl', cb', cq', ?_, by rw [hL]; exact m1, m2⟩, r1, r2, r3, HH.out.lq⟩, ?_⟩
      · rw [hL]; exact r4.keep hh (by simp; omega)
      · exact (HF.out.weak (T := [x, l, b]) (by simp)).trans (r4.weak (T := [x, l, b]) (by simp)) (fun _ h => .inl h)

theorem rflush_walk (w : World) (x l b q : Nat) (D : DA) (h : RefIs w x l b q D) :
    Calls Try.prog 25 #[.pointer (some ⟨x, 0, none⟩)] w fun e w' => e = .returned (.int .i64 D.flush.1) ∧ RefIs w' x l b q D.flush.2 ∧ Fr [x, l, b] w w' := by
  obtain ⟨cl, cb, cq, c0, c1, c2, c3, c4, _⟩ := h.cells
  unfold DA.flush
  cases hdead : D.dead
  · rw [if_neg (by simp)]
    rw [hdead] at c4
    have hact := ract_walk w x l b q D h hdead
    cases hd : D.dies
    · rw [if_neg (by simp)]
      rw [hd] at hact
      simp only [Bool.false_eq_true, if_false] at hact
      exact rflush_lives w x l b q D.acted c4 hact
    · rw [if_pos rfl]
      rw [hd] at hact
      simp only [if_true] at hact
      refine (rflush_dies w x _ c4 hact).mono ?_
      rintro e w' ⟨rfl, hR, hf⟩
      exact ⟨rfl, hR, hf.weak (by simp)⟩
  · rw [if_pos rfl]
    rw [hdead] at c4
    refine (rflush_dead w x c4).mono ?_
    rintro e w' ⟨rfl, rfl⟩
    exact ⟨rfl, h, Fr.refl _ _⟩
end Go.Proofs.Ytcpealfaaghpiaa
