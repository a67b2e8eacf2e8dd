/-
  The program's device: Flush. Own work.
-/
import Derived.StillTailTactics
import Derived.Test.YtcpealfaaghpiaaPending
namespace Go.Proofs.Ytcpealfaaghpiaa
open Go Go.RowKit Go.Maps Go.Sort Go.Shelf

/-- Pages in block p. -/
def PagesAt (w : World) (p : Nat) (L : List ByteArray) : Prop :=
  ∃ cur, w.heap[p]? = some (.cells cur 9 (0, 0)) ∧ L.length ≤ cur.size ∧ ∀ (i : Nat) (s : ByteArray), L[i]? = some s → cur[i]? = some (Value.string s)
theorem PagesAt.keep {w w' : World} {p : Nat} {L : List ByteArray} (h : PagesAt w p L) {S : List Nat} (hf : Fr S w w') (hp : p ∉ S) : PagesAt w' p L := by
  obtain ⟨cur, hc, r⟩ := h; exact ⟨cur, hf.keep hc hp, r⟩
theorem PagesAt.set {w : World} {p : Nat} {L : List ByteArray} (h : PagesAt w p L) (x : Nat) (s : ByteArray) : PagesAt (w.setCell ⟨p, x, none⟩ (.string s)) p (L.set x s) := by
  obtain ⟨cur, hc, hl, r⟩ := h
  refine ⟨_, heap_setCell_same _ _ _ _ _ _ hc, by simpa using hl, fun i t hi => ?_⟩
  rw [Array.getElem?_setIfInBounds]
  by_cases e : x = i
  · subst e
    have hx : x < L.length := by
      have := (List.getElem?_eq_some_iff.1 hi).1; simpa using this
    rw [List.getElem?_set_self hx] at hi
    injection hi with hi
    subst hi
    rw [if_pos rfl, if_pos (by omega)]
  · rw [List.getElem?_set_ne e] at hi
    rw [if_neg e]
    exact r i t hi
theorem PagesAt.cell {w : World} {p : Nat} {L : List ByteArray} (h : PagesAt w p L) {x : Nat} (hx : x < L.length) : w.cell? ⟨p, x, none⟩ = some (.string (L.getD x ByteArray.empty)) ∧ w.frozen? ⟨p, x, none⟩ = false := by
  obtain ⟨cur, hc, hl, r⟩ := h
  refine ⟨?_, frozen_of_row _ _ _ _ _ hc⟩
  rw [cell_of_row _ _ _ _ _ _ hc, r x (L.getD x ByteArray.empty) (by simp [List.getD, hx])]

/-- What lasts, when the pages of ks are flushed. -/
def DA.fL (D : DA) (ks : List Nat) : List ByteArray := ks.foldl (fun L i => L.set i ((D.at_ i).getD ByteArray.empty)) D.L
def DA.fP (D : DA) (ks : List Nat) : List (Option ByteArray) := ks.foldl (fun P i => P.set i none) D.P
theorem fL_snoc (D : DA) (ks : List Nat) (x : Nat) : D.fL (ks ++ [x]) = (D.fL ks).set x ((D.at_ x).getD ByteArray.empty) := by simp [DA.fL]
theorem fP_snoc (D : DA) (ks : List Nat) (x : Nat) : D.fP (ks ++ [x]) = (D.fP ks).set x none := by simp [DA.fP]
theorem foldl_set_len {α : Type} (f : Nat → α) : ∀ (ks : List Nat) (L : List α), (ks.foldl (fun L i => L.set i (f i)) L).length = L.length
  | [], _ => rfl
  | k :: ks, L => by rw [List.foldl_cons, foldl_set_len f ks]; simp
theorem foldl_set_get {α : Type} (f : Nat → α) : ∀ (ks : List Nat) (L : List α) (j : Nat), (ks.foldl (fun L i => L.set i (f i)) L)[j]? = if j ∈ ks ∧ j < L.length then some (f j) else L[j]?
  | [], L, j => by simp
  | k :: ks, L, j => by
    rw [List.foldl_cons, foldl_set_get f ks]
    by_cases hj : j < L.length
    · by_cases h1 : j ∈ ks
      · simp [h1, hj]
      · by_cases h2 : j = k
        · subst h2; simp [h1, hj]
        · have h3 : ¬ k = j := fun e => h2 e.symm
          simp [h1, h2, h3]
    · simp [hj]
theorem fL_len (D : DA) (ks : List Nat) : (D.fL ks).length = D.L.length := foldl_set_len _ _ _
theorem fP_len (D : DA) (ks : List Nat) : (D.fP ks).length = D.P.length := foldl_set_len (fun _ => none) _ _
theorem fL_all (D : DA) (h : D.P.length = D.L.length) : D.fL D.keys = flushed D.L D.P := by
  apply List.ext_getElem?
  intro j
  unfold DA.fL flushed
  rw [foldl_set_get, List.getElem?_zipWith]
  by_cases hj : j < D.L.length
  · simp only [mem_keys]
    have h1 : D.L[j]? = some D.L[j] := by simp [hj]
    have h2 : D.P[j]? = some (D.P[j]'(by omega)) := by simp [h, hj]
    unfold DA.at_
    rw [h1, h2]
    cases hp : D.P[j]'(by omega) <;> simp [hj]
  · simp [hj]
theorem fP_all (D : DA) : D.fP D.keys = D.P.map fun _ => none := by
  apply List.ext_getElem?
  intro j
  unfold DA.fP
  rw [foldl_set_get (fun _ => none), List.getElem?_map]
  by_cases hj : j < D.P.length
  · simp only [mem_keys]
    have h2 : D.P[j]? = some (D.P[j]) := by simp [hj]
    unfold DA.at_
    rw [h2]
    cases hp : D.P[j] <;> simp [hj]
  · simp [hj]
/-- A page that is to come is what it was. -/
theorem fP_get (D : DA) {k x : Nat} (hx : D.keys[k]? = some x) : (D.fP (D.keys.take k))[x]? = D.P[x]? := by
  unfold DA.fP
  rw [foldl_set_get (fun _ => none), if_neg]
  rintro ⟨hm, _⟩
  obtain ⟨j, hj, he⟩ := List.getElem_of_mem hm
  rw [List.length_take] at hj
  rw [List.getElem_take] at he
  obtain ⟨hk, he2⟩ := List.getElem?_eq_some_iff.1 hx
  have := (List.pairwise_iff_getElem.1 (keys_pairwise D)) j k (by omega) hk (by omega)
  omega

set_option maxHeartbeats 400000 in
theorem flush1_walk (w : World) (d p m bd : Nat) (D : DA) (h : DevIs w d p m D) (cB : w.cell? ⟨bd, 0, none⟩ = some (.pointer (some ⟨d, 0, none⟩))) (hbp : bd ≠ p) :
    Calls Try.prog 46 #[.pointer (some ⟨bd, 0, none⟩)] w fun e w' => e = .returned (.tuple #[]) ∧ PagesAt w' p (flushed D.L D.P) ∧ MapP w' m (D.P.map fun _ => none) ∧ Fr [p, m] w w' := by
  have hr := rising_walk w d p m D h
  have hlen := h.wf.len
  have hPb : D.P.length ≤ 4096 := by rw [hlen]; exact h.wf.hi
  have hkb : D.keys.length ≤ 4096 := Nat.le_trans (keys_len D) hPb
  obtain ⟨n1, n2, n3⟩ := h.apart
  obtain ⟨n, hn⟩ : ∃ n, D.keys.length = n := ⟨_, rfl⟩
  rw [hn] at hkb
  have hbm : bd ≠ m := by
    rintro rfl
    obtain ⟨_, ⟨_, _, hb, _⟩, _⟩ := h.pend
    simp [World.cell?, hb] at cB
  have HH := Lib.hid h
  have HN := Lib.hid hn
  have HR := Lib.hid hr
  have HL := Lib.hid hlen
  clear h hn hr hlen
  go_enter Try.func46, Try.ntmps46
  go_wp2_with fail
  refine HR.out.mono ?_
  rintro e w1 ⟨v, rfl, hints, hf1, hnew⟩
  have hs := Row.shape hints
  rw [HN.out] at hs
  obtain ⟨a, cp, rfl, h1, h2⟩ := hs
  have HI := Lib.hid hints
  have HF := Lib.hid hf1
  have HNew := Lib.hid hnew
  clear hints hf1 hnew
  go_wp2_with fail
  go_loopw [6] (fun i wr => ∃ k : Nat, k ≤ n ∧ i = .int .i64 k ∧ PagesAt wr p (D.fL (D.keys.take k)) ∧ MapP wr m (D.fP (D.keys.take k)) ∧ Fr [p, m] w1 wr) (fun i _ => n - (intOf i).toNat)
  case atStart =>
    refine ⟨0, Nat.zero_le _, rfl, ?_, ?_, Fr.refl _ _⟩
    · exact PagesAt.keep (show PagesAt w p D.L from HH.out.pages) HF.out (by simp)
    · exact MapP.keep HH.out.pend HF.out (by simp)
  case round =>
    obtain ⟨k, hk, rfl, hpg, hmp, hfr⟩ := hrel
    by_cases hlt : k < n
    · obtain ⟨x, hx⟩ := get_of_lt HN.out hlt
      obtain ⟨g, cg, ea, hc1, _⟩ := (Ints.at HI.out hx)
      injection ea with ea1 ea2 ea3
      subst ea1
      have hge : w.heap.size ≤ g := HNew.out g rfl
      have hlt2 := HH.out.lt
      have hc1' := hfr.cell hc1 (by simp; omega)
      have hxl := keys_lt D (List.mem_of_getElem? hx)
      have hlook := (show MapP wr.drew m _ from hmp).look (show x < 4096 by omega)
      have hget := fP_get D hx
      rw [hget] at hlook
      obtain ⟨s, hs⟩ : ∃ s, ((D.P[x]?).join).getD ByteArray.empty = s := ⟨_, rfl⟩
      rw [hs] at hlook
      obtain ⟨hcp, hfz⟩ := hpg.cell (x := x) (by rw [fL_len, ← HL.out]; exact hxl)
      have cB' := hfr.cell (HF.out.cell cB (by simp)) (by simp; omega)
      obtain ⟨cap, armed, c0, c1, _⟩ := HH.out.cells
      have c0' := hfr.cell (HF.out.cell c0 (by simp)) (by simp; omega)
      have c1' := hfr.cell (HF.out.cell c1 (by simp)) (by simp; omega)
      obtain ⟨np, hnp⟩ : ∃ np, D.L.length = np := ⟨_, rfl⟩
      rw [hnp] at c0'
      have hxn : x < np := by rw [← hnp, ← HL.out]; exact hxl
      have HX := Lib.hid hx
      have HS := Lib.hid hs
      have HFR := Lib.hid hfr
      have HPG := Lib.hid hpg
      have HMP := Lib.hid hmp
      clear hx hs hfr hpg hmp hnp hget c0 c1 hc1 ea2 ea3
      obtain ⟨W2, hW2⟩ : ∃ W2, (wr.setCell ⟨p, x, none⟩ (.string s)).drew = W2 := ⟨_, rfl⟩
      have hf2 : Fr [p] wr W2 := by rw [← hW2]; exact ((Fr.refl _ _).setCell (.inl (by simp)) _).drew
      obtain ⟨w3, hdrop, hmp3, hf3⟩ := (HMP.out.keep hf2 (by simp; omega)).drop (i := x) (by rw [fP_len]; exact hxl) (by rw [fP_len]; exact hPb) 0
      have hpg3 : PagesAt w3 p ((D.fL (D.keys.take k)).set x s) := by
        refine PagesAt.keep ?_ hf3 (by simp; omega)
        rw [← hW2]
        exact HPG.out.set x s
      have hfr3 : Fr [p, m] w1 w3 := (HFR.out.trans (hf2.weak (T := [p, m]) (by simp)) (fun _ h => .inl h)).trans (hf3.weak (T := [p, m]) (by simp)) (fun _ h => .inl h)
      have hcB2 := hf2.cell cB' (by simp; omega)
      have hc12 := hf2.cell c1' (by simp; omega)
      have HPG3 := Lib.hid hpg3
      have HMP3 := Lib.hid hmp3
      have HFR3 := Lib.hid hfr3
      have HW2 := Lib.hid hW2
      clear hpg3 hmp3 hfr3 hW2 hf2 hf3
      go_wp2
      go_region
      rw [HW2.out]
      go_wp2
      go_roundw
      case rel =>
        have e : D.keys.take (k + 1) = D.keys.take k ++ [x] := by rw [List.take_add_one, HX.out]; rfl
        refine ⟨k + 1, by omega, by go_num, ?_, ?_, HFR3.out⟩
        · rw [e, fL_snoc, DA.at_, HS.out]; exact HPG3.out
        · rw [e, fP_snoc]; exact HMP3.out
      case measure => simp [intOf]; omega
    · obtain rfl : k = n := by omega
      have hall : D.keys.take k = D.keys := List.take_of_length_le (by rw [HN.out]; exact Nat.le_refl _)
      rw [hall, fL_all D HL.out] at hpg
      rw [hall, fP_all] at hmp
      have HFR := Lib.hid hfr
      have HPG := Lib.hid hpg
      have HMP := Lib.hid hmp
      clear hfr hpg hmp hall
      go_wp2
      go_end0
      exact ⟨rfl, HPG.out, HMP.out, (HF.out.weak (T := [p, m]) (by simp)).trans HFR.out (fun _ h => .inl h)⟩
end Go.Proofs.Ytcpealfaaghpiaa
