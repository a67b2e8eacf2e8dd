/-
  Keeps that lie wherever; the document's device: Crash. Own work.
-/
import Derived.Test.YtcpealfaaghpiaaLaw1
namespace Go.Proofs.Ytcpealfaaghpiaa
open Go Go.RowKit Go.Maps Go.Sort Go.Shelf

theorem block_add (a : Addr) (n : Nat) : (a.add n).block = a.block := by unfold Addr.add; split <;> rfl
/-- Keeps, in whatever memory. -/
def KeepsIn (w : World) (v : Value) (l : List (Int × Int)) : Prop :=
  (v = .slice none 0 0 ∧ l = []) ∨ ∃ a cap, v = .slice (some a) l.length cap ∧ l.length ≤ cap ∧ cap ≤ maxLen ∧
    ∀ k x, l[k]? = some x → w.cell? (a.add (k * 2)) = some (.int .i64 x.1) ∧ w.cell? ⟨(a.add (k * 2)).block, (a.add (k * 2)).off + 1, none⟩ = some (.int .i64 x.2)
theorem KeepsIn.keep {w w' : World} {v : Value} {l : List (Int × Int)} (h : KeepsIn w v l) {S : List Nat} (hf : Fr S w w') (hS : ∀ a n cap, v = .slice (some a) n cap → 0 < n → a.block ∉ S) : KeepsIn w' v l := by
  rcases h with h | ⟨a, cap, rfl, h1, h2, h3⟩
  · exact .inl h
  · refine .inr ⟨a, cap, rfl, h1, h2, fun k x hx => ?_⟩
    have := hS a _ _ rfl (by have := (List.getElem?_eq_some_iff.1 hx).1; omega)
    obtain ⟨c1, c2⟩ := h3 k x hx
    exact ⟨hf.cell c1 (by rw [block_add]; exact this), hf.cell c2 (by show (a.add (k * 2)).block ∉ S; rw [block_add]; exact this)⟩
theorem KeepsIn.shape {w : World} {v : Value} {l : List (Int × Int)} (h : KeepsIn w v l) : ∃ a cap, v = .slice a l.length cap ∧ l.length ≤ cap ∧ cap ≤ maxLen := by
  rcases h with ⟨rfl, rfl⟩ | ⟨a, cap, rfl, h1, h2, _⟩
  · exact ⟨none, 0, rfl, Nat.le_refl _, by unfold maxLen; omega⟩
  · exact ⟨some a, cap, rfl, h1, h2⟩
theorem KeepsIn.at {w : World} {v : Value} {l : List (Int × Int)} (h : KeepsIn w v l) {k : Nat} {x : Int × Int} (hx : l[k]? = some x) :
    ∃ a cap, v = .slice (some a) l.length cap ∧ w.cell? (a.add (k * 2)) = some (.int .i64 x.1) ∧ w.cell? ⟨(a.add (k * 2)).block, (a.add (k * 2)).off + 1, none⟩ = some (.int .i64 x.2) := by
  rcases h with ⟨rfl, rfl⟩ | ⟨a, cap, rfl, h1, h2, h3⟩
  · simp at hx
  · exact ⟨a, cap, rfl, h3 k x hx⟩
theorem Keeps.toIn {w : World} {v : Value} {l : List (Int × Int)} (h : Keeps w v l) : KeepsIn w v l := by
  have h0 := h
  rcases h.2 with ⟨rfl, h1⟩ | ⟨g, cap, cur, rfl, hg, h1, h2, _⟩
  · exact .inl ⟨rfl, List.length_eq_zero_iff.1 h1⟩
  · refine .inr ⟨⟨g, 0, none⟩, cap, rfl, h1, h2, fun k x hx => ?_⟩
    obtain ⟨e1, e2⟩ := kcells_at l k x hx
    obtain ⟨g1, _, q1, c1, _⟩ := Row.cell h0 e1
    obtain ⟨g2, _, q2, c2, _⟩ := Row.cell h0 e2
    injection q1 with q1; injection q1 with q1; injection q1 with q1; subst q1
    injection q2 with q2; injection q2 with q2; injection q2 with q2; subst q2
    rw [Addr.add_lit, Nat.zero_add]
    exact ⟨c1, c2⟩

theorem wcells_at : ∀ (l : List (Nat × ByteArray)) (k : Nat) (x : Nat × ByteArray), l[k]? = some x → (wcells l)[k * 2]? = some (.int .i64 (x.1 : Int)) ∧ (wcells l)[k * 2 + 1]? = some (.string x.2)
  | [], k, x, h => by simp at h
  | a :: l, 0, x, h => by simp at h; subst h; exact ⟨rfl, rfl⟩
  | a :: l, k + 1, x, h => by
    have := wcells_at l k x (by simpa using h)
    have e : wcells (a :: l) = Value.int .i64 (a.1 : Int) :: Value.string a.2 :: wcells l := rfl
    rw [e, show (k + 1) * 2 = k * 2 + 1 + 1 by omega, show k * 2 + 1 + 1 + 1 = (k * 2 + 1) + 1 + 1 by omega]
    simpa using this
/-- The pages that keeps speak of. -/
def DA.kpages (D : DA) (ks : List (Int × Int)) : List Nat := ks.map fun x => D.keys.getD x.1.toNat 0
theorem staysOf_mem {l : List (Int × Int)} (hnd : (l.map (·.1)).Nodup) {x : Int × Int} (hx : x ∈ l) : staysOf l x.1 = some x.2 := by
  induction l with
  | nil => simp at hx
  | cons a l ih =>
    unfold staysOf at *
    rw [List.map_cons, List.nodup_cons] at hnd
    rw [List.find?_cons]
    rcases List.mem_cons.1 hx with rfl | hx
    · simp
    · have hne : ¬ a.1 = x.1 := fun e => hnd.1 (by rw [e]; exact List.mem_map.2 ⟨x, hx, rfl⟩)
      rw [show (a.1 == x.1) = false by simpa using hne]
      exact ih hnd.2 hx
theorem kpage_at {D : DA} {N : Int} (h0 : 0 ≤ N) (h1 : N < (D.keys.length : Int)) : D.keys[N.toNat]? = some (D.keys.getD N.toNat 0) := by
  rw [List.getD, List.getElem?_eq_getElem (by omega)]; rfl
theorem keys_inj {D : DA} {i j x : Nat} (hi : D.keys[i]? = some x) (hj : D.keys[j]? = some x) : i = j := by
  rw [← keys_idx hi, ← keys_idx hj]
theorem kpages_fresh {D : DA} {ks : List (Int × Int)} (h : KOk D.keys.length ks) {k : Nat} {x : Int × Int} (hx : ks[k]? = some x) : D.keys.getD x.1.toNat 0 ∉ D.kpages (ks.take k) := by
  intro hm
  unfold DA.kpages at hm
  obtain ⟨y, hy, e⟩ := List.mem_map.1 hm
  have hxm := List.mem_of_getElem? hx
  have hym := List.mem_of_mem_take hy
  obtain ⟨x0, x1, _, _⟩ := h.1 x hxm
  obtain ⟨y0, y1, _, _⟩ := h.1 y hym
  have h1 := kpage_at (D := D) x0 x1
  have h2 := kpage_at (D := D) y0 y1
  rw [e] at h2
  have h3 := keys_inj h1 h2
  have h4 : y.1 = x.1 := by omega
  obtain ⟨j, hj, e2⟩ := List.getElem_of_mem hy
  rw [List.getElem_take] at e2
  rw [List.length_take] at hj
  obtain ⟨hk, e3⟩ := List.getElem?_eq_some_iff.1 hx
  have hnd := h.2
  have := (List.pairwise_iff_getElem.1 (show (ks.map (·.1)).Pairwise (· ≠ ·) from hnd)) j k (by simp; omega) (by simpa using hk) (by omega)
  apply this
  rw [List.getElem_map, List.getElem_map, e2, e3, h4]
theorem cL_get' (D : DA) (ks : List (Int × Int)) (l : List Nat) (j : Nat) : (D.cL ks l)[j]? = if j ∈ l ∧ j < D.L.length then some (D.cdata ks j) else D.L[j]? := by
  unfold DA.cL
  rw [foldl_set_get (fun i => D.cdata ks i)]
theorem cL_kpages {D : DA} (hw : D.WF) {ks : List (Int × Int)} (h : KOk D.keys.length ks) : D.cL ks (D.kpages ks) = D.cL ks D.keys := by
  apply List.ext_getElem?
  intro j
  rw [cL_get' D ks D.keys, cL_get' D ks (D.kpages ks)]
  by_cases hl : j < D.L.length
  · by_cases hj : j ∈ D.keys
    · rw [if_pos (c := j ∈ D.keys ∧ j < D.L.length) ⟨hj, hl⟩]
      by_cases hm : j ∈ D.kpages ks
      · rw [if_pos (c := j ∈ D.kpages ks ∧ j < D.L.length) ⟨hm, hl⟩]
      · rw [if_neg (c := j ∈ D.kpages ks ∧ j < D.L.length) (fun q => hm q.1)]
        have hst : staysOf ks (D.keys.idxOf j : Int) = none := by
          rw [staysOf_none]
          intro hin
          apply hm
          obtain ⟨x, hx, e⟩ := List.mem_map.1 hin
          refine List.mem_map.2 ⟨x, hx, ?_⟩
          rw [e, Int.toNat_natCast, List.getD, List.getElem?_eq_getElem (List.idxOf_lt_length_iff.2 hj)]
          simp
        have hk0 : kept ks (D.keys.idxOf j) = 0 := by unfold kept; rw [hst]; rfl
        unfold DA.cdata
        rw [hk0]
        have hs : (D.L[j]).size = 256 := hw.szL _ (List.getElem_mem _)
        rw [show D.L.getD j ByteArray.empty = D.L[j] by simp [List.getD, hl], List.getElem?_eq_getElem hl]
        congr 1
        rw [show ((D.at_ j).getD ByteArray.empty).extract 0 0 = ByteArray.empty by simp]
        rw [ByteArray.empty_append, ← hs, ByteArray.extract_zero_size]
    · rw [if_neg (c := j ∈ D.keys ∧ j < D.L.length) (fun q => hj q.1)]
      have hm : j ∉ D.kpages ks := by
        intro hm
        obtain ⟨x, hx, e⟩ := List.mem_map.1 hm
        obtain ⟨x0, x1, _, _⟩ := h.1 x hx
        have := kpage_at (D := D) x0 x1
        rw [e] at this
        exact hj (List.mem_of_getElem? this)
      rw [if_neg (c := j ∈ D.kpages ks ∧ j < D.L.length) (fun q => hm q.1)]
  · rw [if_neg (c := j ∈ D.kpages ks ∧ j < D.L.length) (fun q => hl q.2), if_neg (c := j ∈ D.keys ∧ j < D.L.length) (fun q => hl q.2)]
theorem cL_kget {D : DA} {ks : List (Int × Int)} (h : KOk D.keys.length ks) {k : Nat} {x : Int × Int} (hx : ks[k]? = some x) : (D.cL ks (D.kpages (ks.take k)))[D.keys.getD x.1.toNat 0]? = D.L[D.keys.getD x.1.toNat 0]? := by
  unfold DA.cL
  rw [foldl_set_get (fun i => D.cdata ks i), if_neg]
  exact fun q => kpages_fresh h hx q.1
theorem kpages_snoc {D : DA} {ks : List (Int × Int)} {k : Nat} {x : Int × Int} (hx : ks[k]? = some x) : D.kpages (ks.take (k + 1)) = D.kpages (ks.take k) ++ [D.keys.getD x.1.toNat 0] := by
  unfold DA.kpages
  rw [List.take_add_one, hx]; simp
theorem kept_of {D : DA} {ks : List (Int × Int)} (h : KOk D.keys.length ks) {k : Nat} {x : Int × Int} (hx : ks[k]? = some x) : kept ks (D.keys.idxOf (D.keys.getD x.1.toNat 0)) = x.2.toNat := by
  have hxm := List.mem_of_getElem? hx
  obtain ⟨x0, x1, _, _⟩ := h.1 x hxm
  rw [keys_idx (kpage_at x0 x1)]
  unfold kept
  rw [Int.toNat_of_nonneg x0, staysOf_mem h.2 hxm]; rfl
/-- No earlier keep speaks of the same place. -/
theorem stays_none_of {ks : List (Int × Int)} {i : Nat} {N : Int} : staysOf (ks.take i) N = none ↔ ∀ (k : Nat) (x : Int × Int), k < i → ks[k]? = some x → x.1 ≠ N := by
  rw [staysOf_none]
  constructor
  · intro h k x hk hx e
    apply h
    refine List.mem_map.2 ⟨x, ?_, e⟩
    exact List.mem_of_getElem? (i := k) (by rw [List.getElem?_take, if_pos hk]; exact hx)
  · intro h hm
    obtain ⟨x, hx, e⟩ := List.mem_map.1 hm
    obtain ⟨k, hk⟩ := List.getElem?_of_mem hx
    rw [List.getElem?_take] at hk
    split at hk
    · exact h k x ‹_› hk e
    · cases hk

set_option maxRecDepth 100000 in
set_option maxHeartbeats 1000000 in
theorem rcrash_walk (w : World) (x l b q : Nat) (D : DA) (ks : List (Int × Int)) (vk : Value) (h : RefIs w x l b q D) (hk : KeepsIn w vk ks) (hwf : KWf ks) (hap : ∀ a n cap, vk = .slice (some a) n cap → 0 < n → a.block < w.heap.size ∧ a.block ≠ x ∧ a.block ≠ l ∧ a.block ≠ b) :
    Calls Try.prog 48 #[.pointer (some ⟨x, 0, none⟩), vk] w fun e w' => e = .returned (.int .i64 (D.crash ks).1) ∧ RefIs w' x l b q (D.crash ks).2 ∧ Fr [x, l, b] w w' := by
  obtain ⟨r, hr1⟩ : ∃ r, (D.crash ks).1 = r := ⟨_, rfl⟩
  obtain ⟨D', hr2⟩ : ∃ D', (D.crash ks).2 = D' := ⟨_, rfl⟩
  rw [hr1, hr2]
  have HR1 := Lib.hid hr1
  have HR2 := Lib.hid hr2
  clear hr1 hr2
  have hr := rpending_walk w x l b q D h
  obtain ⟨n, hn⟩ : ∃ n, D.pending.length = n := ⟨_, rfl⟩
  obtain ⟨nk, hnk⟩ : ∃ nk, ks.length = nk := ⟨_, rfl⟩
  have hkn : D.keys.length = n := by rw [← hn]; unfold DA.pending; rw [List.length_map]
  have hkb : D.keys.length ≤ 4096 := Nat.le_trans (keys_len D) (by rw [h.wf.len]; exact h.wf.hi)
  rw [hkn] at hkb
  have hks := hk.shape
  rw [hnk] at hks
  obtain ⟨ak, ck, rfl, hk1, hk2⟩ := hks
  unfold maxLen at hk2
  have HH := Lib.hid h
  have HN := Lib.hid hn
  have HKN := Lib.hid hkn
  have HNK := Lib.hid hnk
  have HR := Lib.hid hr
  have HK := Lib.hid hk
  have HA := Lib.hid hap
  have HW := Lib.hid hwf
  clear h hn hr hk hnk hap hwf hkn
  go_enter Try.func48, Try.ntmps48
  go_wp2_with fail
  refine HR.out.mono ?_
  rintro e w1 ⟨v, rfl, hints, hf1, hnew⟩
  have hs := Row.shape hints
  rw [HN.out] at hs
  obtain ⟨a, cp, rfl, h1, h2⟩ := hs
  unfold maxLen at h2
  have HI := Lib.hid hints
  have HF := Lib.hid hf1
  have HNew := Lib.hid hnew
  clear hints hf1 hnew
  have hki : KeepsIn w1 (.slice ak nk ck) ks := HK.out.keep HF.out (by simp)
  have HKI := Lib.hid hki
  clear hki
  have HERR : Hid (∀ (k : Nat) (N B : Int), ks[k]? = some (N, B) → KOk n (ks.take k) → (¬ KRange n (N, B) ∨ ¬ staysOf (ks.take k) N = none) → r = 92 ∧ D' = D) := by
    intro k N B hx hok hbad
    have htk : ks.take (k + 1) = ks.take k ++ [(N, B)] := by rw [List.take_add_one, hx]; rfl
    have hno : ¬ KOk D.keys.length ks := by
      rw [HKN.out]
      intro hall
      have h1 := KOk_take hall (k + 1)
      rw [htk, KOk_snoc hok] at h1
      rcases hbad with hb | hb
      · exact hb h1.1
      · exact hb h1.2
    have e1 := HR1.out
    have e2 := HR2.out
    unfold DA.crash at e1 e2
    rw [if_neg hno] at e1 e2
    exact ⟨e1.symm, e2.symm⟩
  have HEND : Hid (∀ i : Nat, RefIs (w1.drewN i) x l b q D ∧ Fr [x, l, b] w (w1.drewN i)) := by
    intro i
    have hfo : Fr [] w (w1.drewN i) := HF.out.drewN i
    exact ⟨HH.out.keep hfo (by simp) (by simp) (by simp) (by simp), hfo.weak (by simp)⟩
  have HEND2 : Hid (∀ i j : Nat, RefIs ((w1.drewN i).drewN j) x l b q D ∧ Fr [x, l, b] w ((w1.drewN i).drewN j)) := by
    intro i j
    obtain ⟨m, e⟩ := drewN2 w1 i j
    rw [e]; exact HEND.out m
  go_wp2_with fail
  go_loopw [6] (fun i wr => ∃ k m : Nat, k ≤ nk ∧ i = .int .i64 k ∧ KOk n (ks.take k) ∧ wr = w1.drewN m) (fun i _ => nk - (intOf i).toNat)
  case atStart => exact ⟨0, 0, Nat.zero_le _, rfl, KOk_nil _, rfl⟩
  case round =>
    obtain ⟨k, m, hk, rfl, hok, rfl⟩ := hrel
    by_cases hlt : k < nk
    · obtain ⟨X, hx⟩ := get_of_lt HNK.out hlt
      obtain ⟨N, B⟩ := X
      obtain ⟨g, cg, ea, hc1, hc2⟩ := HKI.out.at hx
      injection ea with ea1 ea2 ea3
      subst ea1
      simp only at hc1 hc2
      have HX := Lib.hid hx
      have HOK := Lib.hid hok
      clear hx hok ea2 ea3
      by_cases hrg : KRange n (N, B)
      · have HRG := Lib.hid hrg
        obtain ⟨r1, r2, r3, r4⟩ := hrg
        simp only at r1 r2 r3 r4
        go_wp2_with fail
        go_loopw [7] (fun i wr => ∃ j t : Nat, j ≤ k ∧ i = .int .i64 j ∧ (∀ (u : Nat) (y : Int × Int), u < j → ks[u]? = some y → y.1 ≠ N) ∧ wr = w1.drewN t) (fun i _ => k - (intOf i).toNat)
        case atStart => exact ⟨0, _, Nat.zero_le _, rfl, fun u y hu => by omega, rfl⟩
        case round =>
          obtain ⟨j, t, hj, rfl, hno, rfl⟩ := hrel
          by_cases hlt2 : j < k
          · obtain ⟨Y, hy⟩ := get_of_lt HNK.out (show j < nk by omega)
            obtain ⟨N2, B2⟩ := Y
            obtain ⟨g2, cg2, eb, hd1, _⟩ := HKI.out.at hy
            injection eb with eb1 eb2 eb3
            injection eb1 with eb1
            subst eb1
            simp only at hd1
            have HY := Lib.hid hy
            have HNO := Lib.hid hno
            clear hy hno eb2 eb3
            by_cases he : N2 = N
            · subst he
              obtain ⟨rfl, rfl⟩ := HERR.out k N2 B HX.out HOK.out (.inr (fun e => stays_none_of.1 e j _ hlt2 HY.out rfl))
              go_wp2_with fail
              go_quiet (fail)
              go_wp2_with fail
              go_ret
              exact ⟨rfl, HEND2.out _ _⟩
            · go_wp2_with fail
              go_quiet (fail)
              go_wp2_with fail
              go_roundw
              case rel =>
                refine ⟨j + 1, _, by omega, by go_num, fun u y hu hyu => ?_, rfl⟩
                by_cases e : u = j
                · subst e; rw [HY.out] at hyu; obtain rfl := Option.some.inj hyu; exact he
                · exact HNO.out u y (by omega) hyu
              case measure => simp [intOf]; omega
          · obtain rfl : j = k := by omega
            have hst := stays_none_of.2 hno
            have htk : ks.take (j + 1) = ks.take j ++ [(N, B)] := by rw [List.take_add_one, HX.out]; rfl
            have hok2 : KOk n (ks.take (j + 1)) := by rw [htk]; exact (KOk_snoc HOK.out).2 ⟨HRG.out, hst⟩
            have HOK2 := Lib.hid hok2
            clear hst htk hno hok2
            go_wp2_with fail
            go_roundw
            case rel => exact ⟨j + 1, _, by omega, by go_num, HOK2.out, rfl⟩
            case measure => simp [intOf]; omega
      · obtain ⟨rfl, rfl⟩ := HERR.out k N B HX.out HOK.out (.inl hrg)
        have hcases : N < 0 ∨ (0 ≤ N ∧ (n : Int) ≤ N) ∨ (0 ≤ N ∧ N < n ∧ B < 0) ∨ (0 ≤ N ∧ N < n ∧ 0 ≤ B ∧ 256 < B) := by
          unfold KRange at hrg; simp only at hrg; omega
        clear hrg
        rcases hcases with q | ⟨q1, q2⟩ | ⟨q1, q2, q3⟩ | ⟨q1, q2, q3, q4⟩
        all_goals
          go_wp2_with fail
          go_ret
          exact ⟨rfl, HEND.out _⟩
    · obtain rfl : k = nk := by omega
      have hall : ks.take k = ks := List.take_of_length_le (by rw [HNK.out]; exact Nat.le_refl _)
      rw [hall] at hok
      have hokD : KOk D.keys.length ks := by rw [HKN.out]; exact hok
      have HOK := Lib.hid hokD
      have e1 := HR1.out
      have e2 := HR2.out
      unfold DA.crash at e1 e2
      rw [if_pos hokD] at e1 e2
      subst e1 e2
      clear hok hall hlt hokD HR1 HR2
      obtain ⟨w2, hw2⟩ : ∃ w2, w1.drewN m = w2 := ⟨_, rfl⟩
      have hF2 : Fr [] w w2 := by rw [← hw2]; exact HF.out.drewN m
      have hI2 : Writes w2 (.slice a n cp) D.pending := by rw [← hw2]; exact HI.out.keep_nil ((Fr.refl _ _).drewN m)
      have HF2 := Lib.hid hF2
      have HI2 := Lib.hid hI2
      have hK2 : KeepsIn w2 (.slice ak k ck) ks := by rw [← hw2]; exact HKI.out.keep ((Fr.refl [] _).drewN m) (by simp)
      have HK2 := Lib.hid hK2
      rw [hw2]
      clear hK2 HKI
      clear hF2 hI2 hw2 HERR HEND HEND2 HF HI
      go_wp2_with fail
      go_loopw [8] (fun i wr => ∃ j : Nat, j ≤ k ∧ i = .int .i64 j ∧ PagesAt wr l (D.cL ks (D.kpages (ks.take j))) ∧ Fr [l] w2 wr) (fun i _ => k - (intOf i).toNat)
      case atStart => exact ⟨0, Nat.zero_le _, rfl, PagesAt.keep (show PagesAt w l D.L from HH.out.pages) HF2.out (by simp), Fr.refl _ _⟩
      case round =>
        obtain ⟨j, hj, rfl, hpg, hfr⟩ := hrel
        by_cases hlt : j < k
        · obtain ⟨X, hx⟩ := get_of_lt HNK.out hlt
          obtain ⟨N, B⟩ := X
          obtain ⟨g, cg, ea, hc1, hc2⟩ := HK2.out.at hx
          injection ea with ea1 ea2 ea3
          subst ea1
          simp only at hc1 hc2
          obtain ⟨hgb, hg1, hg2, hg3⟩ := HA.out g _ _ rfl (by omega)
          have hc1' := hfr.cell hc1 (by rw [block_add]; simp; omega)
          have hc2' := hfr.cell hc2 (by show (g.add (j * 2)).block ∉ [l]; rw [block_add]; simp; omega)
          obtain ⟨r1, r2, r3, r4⟩ := HOK.out.1 _ (List.mem_of_getElem? hx)
          simp only at r1 r2 r3 r4
          have hpx := kpage_at r1 r2
          rw [HKN.out] at r2
          have hcd : D.cdata ks (D.keys.getD N.toNat 0) = ((D.at_ (D.keys.getD N.toNat 0)).getD ByteArray.empty).extract 0 B.toNat ++ (D.L.getD (D.keys.getD N.toNat 0) ByteArray.empty).extract B.toNat 256 := by
            unfold DA.cdata; rw [kept_of HOK.out hx]
          have hget := cL_kget HOK.out hx
          have hsn := kpages_snoc (D := D) hx
          simp only at hget hsn
          obtain ⟨pg, hpg2⟩ : ∃ pg, D.keys.getD N.toNat 0 = pg := ⟨_, rfl⟩
          rw [hpg2] at hcd hget hsn hpx
          obtain ⟨Nn, rfl⟩ := Int.eq_ofNat_of_zero_le r1
          obtain ⟨Bn, rfl⟩ := Int.eq_ofNat_of_zero_le r3
          simp only [Int.toNat_natCast] at hcd hpx
          have hpm : pg ∈ D.keys := List.mem_of_getElem? hpx
          have hxl := keys_lt D hpm
          have hxL : pg < D.L.length := by rw [← HH.out.wf.len]; exact hxl
          obtain ⟨s, hs⟩ : ∃ s, (D.at_ pg).getD ByteArray.empty = s := ⟨_, rfl⟩
          obtain ⟨t, ht⟩ : ∃ t, D.L.getD pg ByteArray.empty = t := ⟨_, rfl⟩
          have hpend : D.pending[Nn]? = some (pg, s) := by unfold DA.pending; rw [List.getElem?_map, hpx, ← hs]; rfl
          obtain ⟨hw1, hw2⟩ := wcells_at _ _ _ hpend
          obtain ⟨ga, ca, eb, hd1, _⟩ := Row.cell HI2.out hw1
          obtain ⟨ga', ca', ec, hd2, _⟩ := Row.cell HI2.out hw2
          injection eb with eb1 eb2 eb3
          subst eb1
          injection ec with ec1 ec2 ec3
          injection ec1 with ec1
          injection ec1 with ec1
          subst ec1
          have hga : w.heap.size ≤ ga := HNew.out ga rfl
          have hlx := HH.out.lt
          have hd1' := hfr.cell hd1 (by simp; omega)
          have hd2' := hfr.cell hd2 (by simp; omega)
          have hss : s.size = 256 := by
            have hsm := (mem_keys D pg).1 hpm
            unfold DA.at_ at hsm hs
            have h2 : D.P[pg]? = some (D.P[pg]) := by simp [hxl]
            rw [h2] at hs hsm
            cases hp : D.P[pg] with
            | none => rw [hp] at hsm; simp at hsm
            | some u => rw [hp] at hs; rw [← hs]; exact HH.out.wf.szP u (by rw [← hp]; exact List.getElem_mem _)
          have hts : t.size = 256 := by
            rw [← ht, show D.L.getD pg ByteArray.empty = D.L[pg] by simp [List.getD, hxL]]
            exact HH.out.wf.szL _ (List.getElem_mem _)
          rw [hs, ht] at hcd
          obtain ⟨cl, cb, cq, c0, _⟩ := HH.out.cells
          obtain ⟨n1, n2, n3, n4, n5, n6⟩ := HH.out.apart
          have hLb := HH.out.wf.hi
          obtain ⟨np, hnp⟩ : ∃ np, D.L.length = np := ⟨_, rfl⟩
          rw [hnp] at c0 hxL hLb
          obtain ⟨wA, hwA⟩ : ∃ wA, wr.alloc (.cells #[.int .i64 pg, .string s] 58) = wA := ⟨_, rfl⟩
          have hfA : Fr [] wr wA := by rw [← hwA]; exact (Fr.refl _ _).alloc _
          have a6 := hfA.cell hc2' (by simp)
          rw [← hwA] at a6
          have a1 : wA.cell? ⟨wr.heap.size, 0, none⟩ = some (.int .i64 pg) := by rw [← hwA, cell_of_row _ _ _ _ _ _ (heap_alloc_new wr _)]; rfl
          have a2 : wA.cell? ⟨wr.heap.size, 1, none⟩ = some (.string s) := by rw [← hwA, cell_of_row _ _ _ _ _ _ (heap_alloc_new wr _)]; rfl
          have a3 := hfA.cell (hfr.cell (HF2.out.cell c0 (by simp)) (by simp; omega)) (by simp)
          have hcv := (hpg.keep hfA (by simp)).cell (x := pg) (by rw [cL_len, hnp]; exact hxL)
          have hcg : (D.cL ks (D.kpages (ks.take j))).getD pg ByteArray.empty = t := by rw [List.getD, hget, ← ht]; rfl
          rw [hcg] at hcv
          obtain ⟨a4, a5⟩ := hcv
          have hst := (hpg.keep hfA (by simp)).set pg (s.extract 0 Bn ++ t.extract Bn 256)
          rw [← hcd, ← cL_snoc, ← hsn] at hst
          have hfr3 : Fr [l] w2 (wA.setCell ⟨l, pg, none⟩ (.string (s.extract 0 Bn ++ t.extract Bn 256))) := (hfr.trans_nil hfA).setCell (.inl (by simp)) _
          rw [← hcd] at hfr3
          have HST := Lib.hid hst
          have HFR3 := Lib.hid hfr3
          have HCD := Lib.hid hcd
          have HwA := Lib.hid hwA
          clear hx hpg hfr hc1 hc2 hd1 hd2 hw1 hw2 hpend hpx hpm hs ht hget hsn hpg2 hcd hnp hcg hst hfr3 hfA hwA ea2 ea3 eb2 eb3 ec2 ec3 c0
          go_wp2_with fail
          rw [HwA.out]
          go_region
          rw [← HCD.out]
          go_wp2_with fail
          go_roundw
          case rel =>
            obtain ⟨c1, c2, c3⟩ := HST.out
            exact ⟨j + 1, by omega, by go_num, ⟨c1, c2, c3⟩, HFR3.out.drew⟩
          case measure => simp [intOf]; omega
        · obtain rfl : j = k := by omega
          have hall : ks.take j = ks := List.take_of_length_le (by rw [HNK.out]; exact Nat.le_refl _)
          rw [hall, cL_kpages HH.out.wf HOK.out] at hpg
          obtain ⟨n1, n2, n3, n4, n5, n6⟩ := HH.out.apart
          have hlx := HH.out.lt
          obtain ⟨np, hnp⟩ : ∃ np, D.L.length = np := ⟨_, rfl⟩
          have hLb := HH.out.wf.hi
          have hnP : D.P.length = np := by rw [HH.out.wf.len, hnp]
          rw [hnp] at hLb
          have HPG := Lib.hid hpg
          have HFR := Lib.hid hfr
          have HNP := Lib.hid hnp
          have HPP := Lib.hid hnP
          obtain ⟨w3, rfl⟩ : ∃ w3, w3 = wr := ⟨_, rfl⟩
          clear hpg hfr hnp hnP hall hlt HN HKN HNew HI2 HK2 HA
          go_wp2_with fail
          go_loopw [11] (fun i wq => ∃ c : Nat, c ≤ np ∧ i = .int .i64 c ∧ FlagsAt wq b (D.fP (List.range c)) ∧ Fr [b] w3 wq) (fun i _ => np - (intOf i).toNat)
          case atStart =>
            refine ⟨0, Nat.zero_le _, rfl, ?_, Fr.refl _ _⟩
            exact ((show FlagsAt w b D.P from HH.out.flags).keep HF2.out (by simp)).keep HFR.out (by simp; omega)
          case round =>
            obtain ⟨c, hc, rfl, hfl, hfr⟩ := hrel
            obtain ⟨cl, cb, cq, hh, m1, m2⟩ := HH.out.fields
            have hh2 := hfr.keep (HFR.out.keep (HF2.out.keep hh (by simp)) (by simp; omega)) (by simp; omega)
            rw [HNP.out] at hh2 m1
            have c0 := cell_of_row _ _ 0 _ _ _ hh2
            have c1 := cell_of_row _ _ 1 _ _ _ hh2
            have c3 := cell_of_row _ _ 3 _ _ _ hh2
            have c4 := cell_of_row _ _ 4 _ _ _ hh2
            have f3 := frozen_of_row _ _ 3 _ _ hh2
            have f4 := frozen_of_row _ _ 4 _ _ hh2
            simp at c0 c1 c3 c4
            by_cases hlt : c < np
            · obtain ⟨cf, ff⟩ := hfl.cell (i := c) (by rw [fP_len, HPP.out]; exact hlt)
              have hst : FlagsAt (wr.setCell ⟨b, c, none⟩ (.bool false)) b (D.fP (List.range (c + 1))) := by
                rw [List.range_succ, fP_snoc]
                exact hfl.set c none
              have HST := Lib.hid hst
              have HFR4 := Lib.hid hfr
              clear hfl hfr hst hh hh2
              go_wp2_with fail
              go_roundw
              case rel => exact ⟨c + 1, by omega, by go_num, HST.out, HFR4.out.setCell (.inl (by simp)) _⟩
              case measure => simp [intOf]; omega
            · obtain rfl : c = np := by omega
              have HFL := Lib.hid hfl
              have HFR4 := Lib.hid hfr
              have HH2 := Lib.hid hh2
              clear hfl hfr hh hh2
              go_wp2_with fail
              go_ret
              have hfa : Fr [x] wr ((wr.setCell ⟨x, 3, none⟩ (.int .i64 0)).setCell ⟨x, 4, none⟩ (.bool false)) := ((Fr.refl [x] wr).setCell (.inl (by simp)) _).setCell (.inl (by simp)) _
              have hPmap : ∀ (i : Nat) (p : Option ByteArray), (D.P.map fun _ => (none : Option ByteArray))[i]? = some p → p = none := by
                intro i p hp
                rw [List.getElem?_map] at hp
                cases e : D.P[i]? with
                | none => rw [e] at hp; cases hp
                | some _ => rw [e] at hp; exact (Option.some.inj hp).symm
              refine ⟨rfl, ⟨⟨?_, ?_, ?_, ?_, ?_, by simp, by simp⟩, ⟨cl, cb, cq, ?_, ?_, m2⟩, ?_, ?_, ?_, HH.out.lq⟩, ?_⟩
              · show (D.P.map fun _ => none).length = (D.cL ks D.keys).length; rw [List.length_map, cL_len]; exact HH.out.wf.len
              · show 4 ≤ (D.cL ks D.keys).length; rw [cL_len]; exact HH.out.wf.lo
              · show (D.cL ks D.keys).length ≤ 4096; rw [cL_len]; exact HH.out.wf.hi
              · exact cL_sz HH.out.wf HOK.out
              · intro t ht; simp at ht
              · show _ = some (Obj.cells #[.slice (some ⟨l, 0, none⟩) (D.cL ks D.keys).length cl, .slice (some ⟨b, 0, none⟩) (D.cL ks D.keys).length cb, .slice (some ⟨q, 0, none⟩) (D.cL ks D.keys).length cq, .int .i64 0, .bool false] _ _)
                rw [cL_len, HNP.out, heap_setCell_same _ _ _ _ _ _ (heap_setCell_same _ _ _ _ _ _ HH2.out)]; rfl
              · show (D.cL ks D.keys).length ≤ cl; rw [cL_len, HNP.out]; exact m1
              · exact (HPG.out.keep HFR4.out (by simp; omega)).keep hfa (by simp; omega)
              · obtain ⟨cur, e1, e2, e3⟩ := HFL.out.keep hfa (by simp; omega)
                refine ⟨cur, e1, ?_, fun i p hp => ?_⟩
                · rw [fP_len] at e2; rw [List.length_map]; exact e2
                · obtain rfl := hPmap i p hp
                  have hi : i < c := by
                    have := (List.getElem?_eq_some_iff.1 hp).1
                    rw [List.length_map, HPP.out] at this; exact this
                  refine e3 i none ?_
                  unfold DA.fP
                  rw [foldl_set_get (fun _ => none), if_pos ⟨List.mem_range.2 hi, by rw [HPP.out]; exact hi⟩]
              · obtain ⟨cur, e1, e2, e3⟩ := ((((show DataAt w q D.P from HH.out.data).keep HF2.out (by simp)).keep HFR.out (by simp; omega)).keep HFR4.out (by simp; omega)).keep hfa (by simp; omega)
                refine ⟨cur, e1, by rw [List.length_map]; exact e2, fun i s hp => ?_⟩
                cases hPmap i _ hp
              · exact (((HF2.out.weak (T := [x, l, b]) (by simp)).trans (HFR.out.weak (T := [x, l, b]) (by simp)) (fun _ h => .inl h)).trans (HFR4.out.weak (T := [x, l, b]) (by simp)) (fun _ h => .inl h)).trans (hfa.weak (T := [x, l, b]) (by simp)) (fun _ h => .inl h)
end Go.Proofs.Ytcpealfaaghpiaa
