/-
  The law: Load of pages that are lent (raw). Own work.
-/
import Derived.Test.YtcpealfaaghpiaaWorldB
import Derived.Test.YtcpealfaaghpiaaSame
namespace Go.Proofs.Ytcpealfaaghpiaa
open Go Go.RowKit Go.Maps Go.Sort Go.Shelf

def spare : ByteArray := ⟨#[115, 112, 97, 114, 101]⟩
def lent (l : List ByteArray) (j : Nat) : ByteArray := if j < l.length then l.getD j ByteArray.empty else spare
/-- A row of strings, of which the first m are known. -/
def Known (w : World) (g cap m : Nat) (f : Nat → ByteArray) : Prop := ∃ cur, w.heap[g]? = some (.cells cur 9 (0, 0)) ∧ cap ≤ cur.size ∧ ∀ j, j < m → cur[j]? = some (Value.string (f j))
theorem Known.keep {w w' : World} {g cap m : Nat} {f : Nat → ByteArray} (h : Known w g cap m f) {S : List Nat} (hf : Fr S w w') (hg : g ∉ S) : Known w' g cap m f := by
  obtain ⟨cur, hc, r⟩ := h; exact ⟨cur, hf.keep hc hg, r⟩
theorem Known.set {w : World} {g cap k : Nat} {f : Nat → ByteArray} (h : Known w g cap k f) (hk : k < cap) {s : ByteArray} (hs : s = f k) : Known (w.setCell ⟨g, k, none⟩ (.string s)) g cap (k + 1) f := by
  obtain ⟨cur, hc, hl, r⟩ := h
  subst hs
  refine ⟨_, heap_setCell_same _ _ _ _ _ _ hc, by simpa using hl, fun j hj => ?_⟩
  rw [Array.getElem?_setIfInBounds]
  by_cases e : k = j
  · subst e; rw [if_pos rfl, if_pos (by omega)]
  · rw [if_neg e]; exact r j (by omega)
theorem Known.over {w : World} {g cap : Nat} {f : Nat → ByteArray} (h : Known w g cap 0 f) (k : Nat) (v : Value) : Known (w.setCell ⟨g, k, none⟩ v) g cap 0 f := by
  obtain ⟨cur, hc, hl, r⟩ := h
  exact ⟨_, heap_setCell_same _ _ _ _ _ _ hc, by simpa using hl, fun j hj => by omega⟩
theorem Known.less {w : World} {g cap m m' : Nat} {f : Nat → ByteArray} (h : Known w g cap m f) (hm : m' ≤ m) : Known w g cap m' f := by
  obtain ⟨cur, hc, hl, r⟩ := h; exact ⟨cur, hc, hl, fun j hj => r j (by omega)⟩
theorem Known.cell {w : World} {g cap m : Nat} {f : Nat → ByteArray} (h : Known w g cap m f) {j : Nat} (hj : j < m) : w.cell? ⟨g, j, none⟩ = some (.string (f j)) := by
  obtain ⟨cur, hc, hl, r⟩ := h
  rw [cell_of_row _ _ _ _ _ _ hc, r j hj]
theorem Known.old {w : World} {g cap m : Nat} {f : Nat → ByteArray} (h : Known w g cap m f) {j : Nat} (hj : j < cap) : ∃ o, w.cell? ⟨g, j, none⟩ = some o ∧ w.frozen? ⟨g, j, none⟩ = false := by
  obtain ⟨cur, hc, hs, r⟩ := h
  exact ⟨cur[j]'(by omega), by rw [cell_of_row _ _ _ _ _ _ hc]; simp, frozen_of_row _ _ _ _ _ hc⟩
theorem Known.lt {w : World} {g cap m : Nat} {f : Nat → ByteArray} (h : Known w g cap m f) : g < w.heap.size := by
  obtain ⟨cur, hc, _⟩ := h; exact lt_of_heap hc
theorem Known.strs {w : World} {g cap m : Nat} {l : List ByteArray} (h : Known w g cap m (lent l)) (hm : l.length ≤ m) (hc : l.length ≤ cap) (hcap : cap ≤ maxLen) : Strs w 9 (.slice (some ⟨g, 0, none⟩) l.length cap) l := by
  obtain ⟨cur, hg, hs, r⟩ := h
  refine ⟨by simp, .inr ⟨g, cap, cur, rfl, hg, hc, hcap, by omega, ?_⟩⟩
  apply List.ext_getElem?
  intro j
  rw [List.getElem?_take, Array.getElem?_toList, List.getElem?_map]
  split
  · rw [r j (by omega)]
    unfold lent
    rw [if_pos (by omega), List.getD, List.getElem?_eq_getElem (by omega)]; rfl
  · rw [List.getElem?_eq_none (by omega)]; rfl

theorem run_copy_any {P : Program} (w : World) (dT sT ty elem : TypeId) (sz : Nat) (hu : P.underlying dT = some (.slice elem)) (hsz : (P.info? elem).map (·.size) = some sz)
    (g dLen dCap : Nat) (sp : Option Addr) (sLen sCap : Nat) (cur : Array Value) (t : TypeId) (hg : w.heap[g]? = some (.cells cur t (0, 0))) (cs : List Value) (hn : cs.length = Nat.min sLen dLen * sz)
    (hnil : sp = none → sLen = 0 ∧ sCap = 0)
    (hsrc : ∀ ad, sp = some ad → ∀ j v, cs[j]? = some v → w.cell? (ad.add j) = some v) (hfit : cs.length ≤ cur.size) (h1 : ∀ v ∈ cs, v.oneCell' = true) :
    ∃ w', (Builtin.copy_ #[dT, sT] ty #[.slice (some ⟨g, 0, none⟩) dLen dCap, .slice sp sLen sCap]).run P w = .ok (goInt (Nat.min sLen dLen)) w' ∧ w'.heap[g]? = some (.cells (cs ++ cur.toList.drop cs.length).toArray t (0, 0)) ∧ Fr [g] w w' := by
  have hw : (w.setRow g (cs ++ cur.toList.drop cs.length).toArray).heap[g]? = some (.cells (cs ++ cur.toList.drop cs.length).toArray t (0, 0)) := setRow_heap w g cur _ t _ hg
  have hf : Fr [g] w (w.setRow g (cs ++ cur.toList.drop cs.length).toArray) := ⟨rfl, rfl, rfl, by simp [World.setRow], fun k _ hk => setRow_other w g k _ (by simpa using hk)⟩
  cases sp with
  | none =>
    obtain ⟨rfl, rfl⟩ := hnil rfl
    have hrun := run_copy_nil (P := P) w dT sT ty elem ⟨g, 0, none⟩ dLen dCap hu (by rw [hsz]; rfl)
    have hz : cs = [] := List.eq_nil_of_length_eq_zero (by rw [hn]; simp)
    subst hz
    have hself : w.setRow g ([] ++ cur.toList.drop ([] : List Value).length).toArray = w := by simpa using setRow_self w g cur t (0, 0) hg
    rw [hself] at hw hf
    exact ⟨w, by simpa using hrun, hw, hf⟩
  | some ad => exact ⟨_, run_copy_sz (P := P) w dT sT ty elem sz g dLen dCap ad sLen sCap cur t cs hu hsz hg hn (hsrc ad rfl) hfit h1, hw, hf⟩

/-- What a load does to the world. -/
structure Loads (w w' : World) (W : Nat) (vl vn : Value) (ns : Nat) (sc : List Value) (l : List ByteArray) : Prop where
  ex : ∃ vn' hn' hs' vl', w.heap.size ≤ w'.heap.size ∧ Row w' 9 1 vn' hn' hs' ∧ (∀ k, vn'.ownBlock = some k → vn.ownBlock = some k ∨ w.heap.size ≤ k) ∧ (∀ k, vl'.ownBlock = some k → vl.ownBlock = some k ∨ w.heap.size ≤ k) ∧
    (∀ k, vn'.ownBlock = some k → vl'.ownBlock ≠ some k) ∧ Fr (W :: (vn.ownBlock.toList ++ vl.ownBlock.toList)) w w' ∧
    (∀ cs T, w.heap[W]? = some (.cells cs T (0, 0)) → w'.heap[W]? = some (.cells ((cs.setIfInBounds 7 vn').setIfInBounds 0 vl') T (0, 0))) ∧
    ((vl' = vl ∧ Row w' 40 2 vl ns sc) ∨
      (ns < 5 ∧ ∃ d p m x y b q, Row w' 40 2 vl' (ns + 1) (sc ++ [.pointer (some ⟨d, 0, none⟩), .pointer (some ⟨x, 0, none⟩)]) ∧ DevIs w' d p m (DA.fresh l) ∧ RefIs w' x y b q (DA.fresh l) ∧
        (∀ k ∈ [d, p, m, x, y, b, q], w.heap.size ≤ k ∧ vn'.ownBlock ≠ some k ∧ vl'.ownBlock ≠ some k) ∧ (∀ i ∈ [d, p, m], ∀ k ∈ [x, y, b, q], i ≠ k)))

theorem infoSide : (Try.prog.info? 40).map (fun i => (i.zero, i.size, i.bytes)) = some (some (.agg #[.pointer none, .pointer none]), 2, 16) := by kernel_rfl

theorem Known.row {w : World} {g cap m n : Nat} {f : Nat → ByteArray} (h : Known w g cap m f) (hn : n ≤ cap) (hc : cap ≤ maxLen) : ∃ hs, Row w 9 1 (.slice (some ⟨g, 0, none⟩) n cap) n hs := by
  obtain ⟨cur, hg, hs, _⟩ := h
  refine ⟨cur.toList.take n, ?_, .inr ⟨g, cap, cur, rfl, hg, hn, hc, by omega, by rw [Nat.mul_one]⟩⟩
  rw [List.length_take, Array.length_toList]; omega
/-- The hand's part of a load. -/
theorem hand_end {w w2 w3 w6 wr : World} {W g hl cap hcap hn : Nat} {ha : Option Addr} {f : Nat → ByteArray} {vl vf vw vg vh vd ve : Value}
    (hgv : (Value.slice ha hn hcap).ownBlock = some g ∨ w.heap.size ≤ g) (hgW : g ≠ W) (hcl : hl ≤ cap) (hcm : cap ≤ 2 ^ 63 - 1)
    (hF2 : Fr [W, g] w w2) (hFR : Fr [g] w2 w3) (hF36 : Fr [] w3 w6) (hFR2 : Fr [g] w6 wr) (hk : Known wr g cap 0 f)
    (hW2 : w2.heap[W]? = some (.cells #[vl, vf, vw, vg, vh, vd, ve, .slice (some ⟨g, 0, none⟩) hl cap] 30 (0, 0))) :
    (∃ hs, Row wr 9 1 (.slice (some ⟨g, 0, none⟩) hl cap) hl hs) ∧ Fr (W :: (Value.slice ha hn hcap).ownBlock.toList) w wr ∧
      wr.heap[W]? = some (.cells #[vl, vf, vw, vg, vh, vd, ve, .slice (some ⟨g, 0, none⟩) hl cap] 30 (0, 0)) ∧ Fr [g] w2 wr := by
  have hf : Fr [g] w2 wr := (hFR.trans_nil hF36).trans hFR2 (fun _ h => .inl h)
  refine ⟨hk.row hcl (by unfold maxLen; omega), ?_, hf.keep hW2 (by simp; omega), hf⟩
  have h1 : Fr [W, g] w wr := hF2.trans hf (fun x hx => .inl (by simp at hx; simp [hx]))
  refine h1.mono fun x hx => ?_
  simp at hx
  rcases hx with rfl | rfl
  · exact .inl (by simp)
  · rcases hgv with q | q
    · exact .inl (by simp [q])
    · exact .inr q

theorem loads_same {w wr : World} {W g hl cap ns : Nat} {vn vl vf vw vg vh vd ve : Value} {sc : List Value} {l : List ByteArray} (hW : w.heap[W]? = some (.cells #[vl, vf, vw, vg, vh, vd, ve, vn] 30 (0, 0))) (hgv : vn.ownBlock = some g ∨ w.heap.size ≤ g)
    (hd : vn.ownBlock ≠ some W ∧ vl.ownBlock ≠ some W ∧ ∀ k, vn.ownBlock = some k → vl.ownBlock ≠ some k) (hS0 : Row w 40 2 vl ns sc)
    (hrow : ∃ hs, Row wr 9 1 (.slice (some ⟨g, 0, none⟩) hl cap) hl hs) (hfa : Fr (W :: vn.ownBlock.toList) w wr)
    (hWr : wr.heap[W]? = some (.cells #[vl, vf, vw, vg, vh, vd, ve, .slice (some ⟨g, 0, none⟩) hl cap] 30 (0, 0))) (hS : Row wr 40 2 vl ns sc) : Loads w wr W vl vn ns sc l := by
  obtain ⟨hs, hr⟩ := hrow
  refine ⟨_, hl, hs, vl, hfa.size, hr, fun k hk => ?_, fun k hk => .inl hk, fun k hk h => ?_, hfa.weak (by intro x hx; simp at hx ⊢; rcases hx with h | h <;> simp [h]), fun cs T hc => ?_, .inl ⟨rfl, hS⟩⟩
  · simp [Value.ownBlock] at hk; subst hk; exact hgv
  · simp [Value.ownBlock] at hk
    subst hk
    rcases hgv with q | q
    · exact hd.2.2 _ q h
    · have := hS0.lt h; omega
  · rw [hW] at hc
    injection hc with hc
    injection hc with q1 q2 q3
    subst q1 q2
    rw [hWr]; rfl
theorem loads_more {w w3 w4 w5 w6 wr w7 : World} {W g hl cap ns : Nat} {vn vl vl' vf vw vg vh vd ve : Value} {sc : List Value} {l : List ByteArray} {o : Obj} {d p m x y b q : Nat} (hW : w.heap[W]? = some (.cells #[vl, vf, vw, vg, vh, vd, ve, vn] 30 (0, 0))) (hgv : vn.ownBlock = some g ∨ w.heap.size ≤ g)
    (hd : vn.ownBlock ≠ some W ∧ vl.ownBlock ≠ some W ∧ ∀ k, vn.ownBlock = some k → vl.ownBlock ≠ some k) (hS0 : Row w 40 2 vl ns sc)
    (hrow : ∃ hs, Row wr 9 1 (.slice (some ⟨g, 0, none⟩) hl cap) hl hs) (hfa : Fr (W :: vn.ownBlock.toList) w wr)
    (hWr : wr.heap[W]? = some (.cells #[vl, vf, vw, vg, vh, vd, ve, .slice (some ⟨g, 0, none⟩) hl cap] 30 (0, 0)))
    (hg3 : g < w3.heap.size) (h03 : w.heap.size ≤ w3.heap.size) (h34 : Fr [] w3 w4) (h45 : Fr [] w4 w5) (h56 : Fr [] w5 w6) (h6r : Fr [g] w6 wr)
    (hdv : DevIs w4 d p m (DA.fresh l) ∧ w3.heap.size ≤ d ∧ w3.heap.size ≤ p ∧ w3.heap.size ≤ m) (hrf : RefIs w5 x y b q (DA.fresh l) ∧ w4.heap.size ≤ x ∧ w4.heap.size ≤ y ∧ w4.heap.size ≤ b ∧ w4.heap.size ≤ q)
    (h5 : ns < 5) (happ : App (wr.alloc o) w7 40 2 vl vl' ns 1 sc [.pointer (some ⟨d, 0, none⟩), .pointer (some ⟨x, 0, none⟩)]) :
    Loads w (w7.setCell ⟨W, 0, none⟩ vl') W vl vn ns sc l := by
  obtain ⟨hs, hr⟩ := hrow
  have hWl : W < w.heap.size := lt_of_heap hW
  have s1 := h34.size
  have s2 := h45.size
  have s3 := h56.size
  have s4 := h6r.size
  have s5 : (wr.alloc o).heap.size = wr.heap.size + 1 := by simp
  have s6 := happ.fr.size
  have s7 : (w7.setCell ⟨W, 0, none⟩ vl').heap.size = w7.heap.size := by simp
  have g1 : Fr vl.ownBlock.toList wr w7 := ((Fr.refl vl.ownBlock.toList wr).alloc o).trans happ.fr (fun _ h => .inl h)
  have g2 : Fr [W] w7 (w7.setCell ⟨W, 0, none⟩ vl') := (Fr.refl _ _).setCell (.inl (by simp)) _
  have bl : ∀ k, vl'.ownBlock = some k → (vl.ownBlock = some k ∧ k < w.heap.size) ∨ wr.heap.size < k := by
    intro k hk
    rcases happ.blk k hk with h | h
    · exact .inl ⟨h, hS0.lt h⟩
    · exact .inr (by omega)
  have gW : g ≠ W := by
    rintro rfl
    rcases hgv with e | e
    · exact hd.1 e
    · omega
  have gvl : ∀ k, vl.ownBlock = some k → k ≠ g := by
    rintro k hk rfl
    rcases hgv with e | e
    · exact hd.2.2 _ e hk
    · have := hS0.lt hk; omega
  have glr : g < wr.heap.size := hr.lt rfl
  obtain ⟨l1, l2, l3⟩ := hdv.1.lt
  obtain ⟨l4, l5, l6, l7⟩ := hrf.1.lt
  have new : ∀ k ∈ [d, p, m, x, y, b, q], w3.heap.size ≤ k ∧ k < w5.heap.size := by
    intro k hk
    obtain ⟨_, a1, a2, a3⟩ := hdv
    obtain ⟨_, b1, b2, b3, b4⟩ := hrf
    simp at hk
    rcases hk with rfl | rfl | rfl | rfl | rfl | rfl | rfl <;> constructor <;> omega
  have keepD : ∀ k ∈ [d, p, m, x, y, b, q], k ∉ [g] ∧ k ∉ vl.ownBlock.toList ∧ k ∉ [W] := by
    intro k hk
    obtain ⟨n1, n2⟩ := new k hk
    refine ⟨by simp; omega, fun hm => ?_, by simp; omega⟩
    have := hS0.lt (Option.mem_toList.1 hm); omega
  have kd := fun k hk => (keepD k hk).1
  have kv := fun k hk => (keepD k hk).2.1
  have kw := fun k hk => (keepD k hk).2.2
  have D1 := ((((hdv.1.keep h45 (by simp) (by simp) (by simp)).keep h56 (by simp) (by simp) (by simp)).keep h6r (kd _ (by simp)) (kd _ (by simp)) (kd _ (by simp))).keep g1 (kv _ (by simp)) (kv _ (by simp)) (kv _ (by simp))).keep g2 (kw _ (by simp)) (kw _ (by simp)) (kw _ (by simp))
  have R1 := (((hrf.1.keep h56 (by simp) (by simp) (by simp) (by simp)).keep h6r (kd _ (by simp)) (kd _ (by simp)) (kd _ (by simp)) (kd _ (by simp))).keep g1 (kv _ (by simp)) (kv _ (by simp)) (kv _ (by simp)) (kv _ (by simp))).keep g2 (kw _ (by simp)) (kw _ (by simp)) (kw _ (by simp)) (kw _ (by simp))
  refine ⟨_, hl, hs, vl', ?_, (hr.keep g1 ?_).keep g2 ?_, fun k hk => ?_, fun k hk => ?_, fun k hk h => ?_, ?_, fun cs T hc => ?_, .inr ⟨h5, d, p, m, x, y, b, q, happ.row.keep g2 ?_, D1, R1, ?_, ?_⟩⟩
  · have := hfa.size; omega
  · intro k hk hm; simp [Value.ownBlock] at hk; subst hk; exact gvl _ (Option.mem_toList.1 hm) rfl
  · intro k hk hm; simp [Value.ownBlock] at hk; subst hk; simp at hm; exact gW hm
  · simp [Value.ownBlock] at hk; subst hk; exact hgv
  · rcases bl k hk with e | e
    · exact .inl e.1
    · have := hfa.size; exact .inr (by omega)
  · simp [Value.ownBlock] at hk
    subst hk
    rcases bl _ h with e | e
    · exact gvl _ e.1 rfl
    · omega
  · refine ((hfa.weak (T := W :: (vn.ownBlock.toList ++ vl.ownBlock.toList)) ?_).trans (g1.weak (T := W :: (vn.ownBlock.toList ++ vl.ownBlock.toList)) ?_) (fun _ h => .inl h)).trans (g2.weak (T := W :: (vn.ownBlock.toList ++ vl.ownBlock.toList)) ?_) (fun _ h => .inl h)
    · intro x hx; simp at hx ⊢; rcases hx with h | h <;> simp [h]
    · intro x hx; simp at hx ⊢; simp [hx]
    · intro x hx; simp at hx ⊢; simp [hx]
  · rw [hW] at hc
    injection hc with hc
    injection hc with q1 q2 q3
    subst q1 q2
    rw [heap_setCell_same _ _ _ _ _ _ (g1.keep hWr (fun hm => hd.2.1 (Option.mem_toList.1 hm)))]; rfl
  · intro k hk hm
    simp at hm
    subst hm
    rcases bl _ hk with e | e
    · exact hd.2.1 e.1
    · have := hfa.size; omega
  · intro k hk
    obtain ⟨n1, n2⟩ := new k hk
    refine ⟨by omega, fun e => ?_, fun e => ?_⟩
    · simp [Value.ownBlock] at e; omega
    · rcases bl k e with e | e <;> omega
  · intro i hi k hk
    obtain ⟨_, b1, b2, b3, b4⟩ := hrf
    simp at hi hk
    rcases hi with rfl | rfl | rfl <;> rcases hk with rfl | rfl | rfl | rfl <;> omega

set_option maxRecDepth 100000 in
set_option maxHeartbeats 1000000 in
theorem loads_in (w w1 : World) (hE : w = w1) (W : Nat) (lv : Value) (l : List ByteArray) (vl vf vw vg vh vd ve vn : Value) (ns hn : Nat) (sc hc : List Value)
    (hv : Strs w 9 lv l) (hl : l.length ≤ 4096) (hW : w.heap[W]? = some (.cells #[vl, vf, vw, vg, vh, vd, ve, vn] 30 (0, 0)))
    (hs : Row w 40 2 vl ns sc) (hns : ns ≤ 5) (hh : Row w 9 1 vn hn hc)
    (hd : vn.ownBlock ≠ some W ∧ vl.ownBlock ≠ some W ∧ ∀ k, vn.ownBlock = some k → vl.ownBlock ≠ some k) (hd2 : ∀ k, lv.ownBlock = some k → k ≠ W ∧ vn.ownBlock ≠ some k ∧ vl.ownBlock ≠ some k) :
    Calls Try.prog 32 #[.pointer (some ⟨W, 0, none⟩), lv] w1 fun e w' => e = .returned (.bool true) ∧ Loads w w' W vl vn ns sc l := by
  have hmkS := fun (m : Nat) (hm : m ≤ 5000) (W : World) => run_make_row' (P := Try.prog) 28 9 (.string ByteArray.empty) 16 Try.underlying28 infoS rfl .i64 .i64 m (by omega) (by omega) W
  obtain ⟨n, hnl⟩ : ∃ n, l.length = n := ⟨_, rfl⟩
  have hvs := hv.shape
  have hhs := hh.shape
  rw [hnl] at hvs hl
  obtain ⟨la, lc, rfl, h1, h2⟩ := hvs
  obtain ⟨ha, hcap, rfl, h3, h4⟩ := hhs
  unfold maxLen at h2 h4
  have hss := hs.shape
  obtain ⟨va, vc, rfl, h5, h6⟩ := hss
  unfold maxLen at h6
  have hmk : ∀ W : World, (Instr.makeSlice 28 (.int .i64 ((n : Int) + 30)) (.int .i64 ((n : Int) + 30))).run Try.prog W = .ok (.slice (some ⟨W.heap.size, 0, none⟩) (n + 30) (n + 30)) (W.alloc (.cells (madeCells #[.string ByteArray.empty] (n + 30)) 9)) := fun W => hmkS (n + 30) (by omega) W
  have c7 := cell_of_row _ _ 7 _ _ _ hW
  have f7 := frozen_of_row _ _ 7 _ _ hW
  simp at c7
  have HW := Lib.hid hW
  have HV := Lib.hid hv
  have HS := Lib.hid hs
  have HHn := Lib.hid hh
  have HD := Lib.hid hd
  have HD2 := Lib.hid hd2
  have HNL := Lib.hid hnl
  clear hmkS hW hv hs hh hd hd2 hnl
  have hcases := Nat.lt_or_ge hn (n + 8)
  rcases hcases with hlt | hlt
  case' inl =>
    subst hE
    obtain ⟨g, hg⟩ : ∃ g, w.heap.size = g := ⟨_, rfl⟩
    obtain ⟨cap, hcp⟩ : ∃ cap, n + 30 = cap := ⟨_, rfl⟩
    obtain ⟨hl', hhl⟩ : ∃ hl', cap = hl' := ⟨_, rfl⟩
    have hmk1 := hmk w
    rw [hg, hcp] at hmk1
    obtain ⟨zc, hzc⟩ : ∃ zc, madeCells #[.string ByteArray.empty] cap = zc := ⟨_, rfl⟩
    rw [hzc] at hmk1
    obtain ⟨w1, hw1⟩ : ∃ w1, (w.alloc (.cells zc 9)).setCell ⟨W, 7, none⟩ (.slice (some ⟨g, 0, none⟩) cap cap) = w1 := ⟨_, rfl⟩
    have hfa : Fr [] w (w.alloc (.cells zc 9)) := (Fr.refl _ _).alloc _
    have c7a := hfa.cell c7 (by simp)
    have f7a := (hfa.frozen (show (⟨W, 7, none⟩ : Addr).block < w.heap.size from lt_of_heap HW.out) (by simp)).trans f7
    have hWa := hfa.keep HW.out (by simp)
    have hgW : g ≠ W := by have := lt_of_heap HW.out; omega
    have hF1 : Fr [W] w w1 := by rw [← hw1]; exact (hfa.weak (by simp)).setCell (.inl (by simp)) _
    have hKc : w1.heap[g]? = some (.cells zc 9 (0, 0)) := by
      rw [← hw1, heap_setCell_other _ _ _ _ (by simpa using hgW), ← hg]; exact heap_alloc_new w _
    have hW1 : w1.heap[W]? = some (.cells #[.slice va ns vc, vf, vw, vg, vh, vd, ve, .slice (some ⟨g, 0, none⟩) hl' cap] 30 (0, 0)) := by
      rw [← hw1, heap_setCell_same _ _ _ _ _ _ hWa, hhl]; rfl
    have hcs : cap ≤ zc.size := by rw [← hzc, size_madeCells]; exact Nat.le_refl _
    have hgo : (Value.slice ha hn hcap).ownBlock = some g ∨ w.heap.size ≤ g := .inr (by omega)
    have hc8 : n + 8 ≤ cap := by omega
    have hcl : hl' ≤ cap := by omega
    have hcm : cap ≤ 2 ^ 63 - 1 := by omega
    subst hhl
    have c71 := cell_of_row _ _ 7 _ _ _ hW1
    simp at c71
    clear hmk hcp hzc hfa hWa hg
  case' inr =>
    have hr := HHn.out
    rcases hr.2 with ⟨e, e2⟩ | ⟨g, cap, zc, e, hKc, q1, q2, hcs, _⟩
    case' inl => exfalso; omega
    injection e with e1 e2 e3
    subst e1 e3
    have hw1 := hE
    have hgW : g ≠ W := by rintro rfl; exact HD.out.1 rfl
    have hF1 : Fr [W] w w1 := by rw [← hw1]; exact Fr.refl _ _
    obtain ⟨hl', hhl⟩ : ∃ hl', hn = hl' := ⟨_, rfl⟩
    obtain ⟨cap, hcp⟩ : ∃ cap, hcap = cap := ⟨_, rfl⟩
    have hW1 : w1.heap[W]? = some (.cells #[.slice va ns vc, vf, vw, vg, vh, vd, ve, .slice (some ⟨g, 0, none⟩) hl' cap] 30 (0, 0)) := by
      rw [← hw1, ← hhl, ← hcp]; exact HW.out
    have hgo : (Value.slice (some ⟨g, 0, none⟩) hn hcap).ownBlock = some g ∨ w.heap.size ≤ g := .inl rfl
    have hc8 : n + 8 ≤ cap := by omega
    have hcl : hl' ≤ cap := by omega
    have hcm : cap ≤ 2 ^ 63 - 1 := by omega
    rw [hw1] at hKc
    rw [hcp] at hcs
    rw [Nat.mul_one] at hcs
    have c71 : w1.cell? ⟨W, 7, none⟩ = some (.slice (some ⟨g, 0, none⟩) hl' cap) := by rw [← hw1, ← hhl, ← hcp]; exact c7
    rw [hhl] at hlt
    clear hmk hr e2 q1 q2 hw1 hE c7 f7 hhl hcp
  all_goals
    have HW1 := Lib.hid hW1
    have HF1 := Lib.hid hF1
    have HKc := Lib.hid hKc
    clear hW1 hF1 hKc
    have hV1 : Strs w1 9 (.slice la n lc) l := HV.out.keep HF1.out (fun k hk hm => by simp at hm; exact (HD2.out k hk).1 hm)
    have hsS : (Try.prog.info? 9).map (·.size) = some 1 := by kernel_rfl
    have hlm : (l.map Value.string).length = n := by simp [HNL.out]
    have h1c := strs_oneCell l
    have hlk : ∀ j, j < n → (l.map Value.string)[j]? = some (.string (lent l j)) := by
      intro j hj
      unfold lent
      rw [if_pos (by rw [HNL.out]; exact hj), List.getElem?_map, List.getD, List.getElem?_eq_getElem (by rw [HNL.out]; exact hj)]; rfl
    obtain ⟨xs, hxs⟩ : ∃ xs, l.map Value.string = xs := ⟨_, rfl⟩
    have hsrc := hV1.cells rfl
    have hnil : la = none → n = 0 ∧ lc = 0 := by
      rintro rfl
      rcases hV1.2 with ⟨e, e2⟩ | ⟨_, _, _, e, _⟩
      · injection e with _ e3 e4; exact ⟨e3, e4⟩
      · cases e
    rw [hxs] at hlm h1c hlk hsrc
    have HSRC := Lib.hid hsrc
    have HLM := Lib.hid hlm
    have H1C := Lib.hid h1c
    have HLK := Lib.hid hlk
    have HNIL := Lib.hid hnil
    clear hV1 hsrc hlm h1c hlk hxs hnil
    obtain ⟨w2, hrun, hg2, hf2⟩ := run_copy_any (P := Try.prog) w1 28 28 3 9 1 Try.underlying28 hsS g (n + 8) cap la n lc zc 9 HKc.out xs (HLM.out.trans (by simp)) HNIL.out HSRC.out (by rw [HLM.out]; omega) H1C.out
    have hK2 : Known w2 g cap n (lent l) := by
      refine ⟨_, hg2, ?_, fun j hj => ?_⟩
      · have := HLM.out
        simp; omega
      · rw [List.getElem?_toArray, List.getElem?_append_left (by rw [HLM.out]; exact hj)]
        exact HLK.out j hj
    have hF2 : Fr [W, g] w w2 := (HF1.out.weak (T := [W, g]) (by simp)).trans (hf2.weak (T := [W, g]) (by simp)) (fun _ h => .inl h)
    have hW2 := hf2.keep HW1.out (by simp; omega)
    have HK2 := Lib.hid hK2
    have HF2 := Lib.hid hF2
    have HW2 := Lib.hid hW2
    have HRUN := Lib.hid hrun
    clear hK2 hF2 hW2 hg2 hf2 HF1 HW1 HKc hrun
    go_enter Try.func32, Try.ntmps32
    go_wp2_with fail
    rw [HRUN.out]
    go_wp2_with fail
    go_loopw [6] (fun i wr => ∃ k : Nat, n ≤ k ∧ k ≤ n + 8 ∧ i = .int .i64 k ∧ Known wr g cap k (lent l) ∧ Fr [g] w2 wr) (fun i _ => n + 8 - (intOf i).toNat)
    case' atStart => exact ⟨n, Nat.le_refl _, by omega, rfl, HK2.out, Fr.refl _ _⟩
    case' round =>
      obtain ⟨k, hk0, hk, rfl, hkn, hfr⟩ := hrel
      by_cases hlt2 : k < n + 8
      · obtain ⟨o, ho, hfz⟩ := hkn.old (show k < cap by omega)
        have hst := hkn.set (show k < cap by omega) (s := spare) (by unfold lent; rw [if_neg (by rw [HNL.out]; omega)])
        have hf' := hfr.setCell (.inl (show (⟨g, k, none⟩ : Addr).block ∈ [g] by simp)) (.string spare)
        unfold spare at hst hf'
        have HST := Lib.hid hst
        have HF' := Lib.hid hf'
        clear hkn hfr hst hf'
        go_wp2_with fail
        go_roundw
        case rel => exact ⟨k + 1, by omega, by omega, by go_num, HST.out, HF'.out⟩
        case measure => simp [intOf]; omega
      · obtain rfl : k = n + 8 := by omega
        obtain ⟨w3, rfl⟩ : ∃ w3, w3 = wr := ⟨_, rfl⟩
        have hlg : ∀ k, (Value.slice la n lc).ownBlock = some k → k ≠ W ∧ k ≠ g := by
          intro k hk
          refine ⟨(HD2.out k hk).1, ?_⟩
          rintro rfl
          rcases hgo with e | e
          · exact (HD2.out _ hk).2.1 e
          · have := HV.out.lt hk; omega
        have hS3 : Strs w3 9 (.slice (some ⟨g, 0, none⟩) n cap) l := by
          have := hkn.strs (by rw [HNL.out]; omega) (by rw [HNL.out]; omega) (by unfold maxLen; omega)
          rw [HNL.out] at this; exact this
        have hV3 : Strs w3 9 (.slice la n lc) l := (HV.out.keep HF2.out (fun k hk hm => by have := hlg k hk; simp at hm; omega)).keep hfr (fun k hk hm => by have := hlg k hk; simp at hm; omega)
        have hload := load_walk w3 _ l hS3
        have HKN := Lib.hid hkn
        have HFR := Lib.hid hfr
        have HS3 := Lib.hid hS3
        have HV3 := Lib.hid hV3
        have HLOAD := Lib.hid hload
        clear hkn hfr hS3 hV3 hload hlg
        go_wp2_with fail
        refine HLOAD.out.mono ?_
        rintro e w4 ⟨hf4, hpost⟩
        have hpo : ∃ da, e = .returned (.tuple #[.pointer da, .int .i64 (loadErr l)]) ∧ ((loadErr l ≠ 0 ∧ da = none) ∨ (loadErr l = 0 ∧ ∃ d p m, da = some ⟨d, 0, none⟩ ∧ DevIs w4 d p m (DA.fresh l) ∧ w3.heap.size ≤ d ∧ w3.heap.size ≤ p ∧ w3.heap.size ≤ m)) := by
          rcases hpost with ⟨h0, he⟩ | ⟨h0, d, p, m, he, hh⟩
          · exact ⟨none, he, .inl ⟨h0, rfl⟩⟩
          · exact ⟨some ⟨d, 0, none⟩, by rw [h0]; exact he, .inr ⟨h0, d, p, m, rfl, hh⟩⟩
        obtain ⟨da, rfl, hda⟩ := hpo
        have hrl := rload_walk w4 _ l (HV3.out.keep_nil hf4)
        have HF4 := Lib.hid hf4
        have HDA := Lib.hid hda
        have HRL := Lib.hid hrl
        clear hf4 hda hrl hpost
        obtain ⟨r, hr⟩ : ∃ r, loadErr l = r := ⟨_, rfl⟩
        rw [hr]
        go_wp2_with fail
        refine HRL.out.mono ?_
        rintro e w5 ⟨hf5, hpost⟩
        have hpo : ∃ xa, e = .returned (.tuple #[.pointer xa, .int .i64 r]) ∧ ((r ≠ 0 ∧ xa = none) ∨ (r = 0 ∧ ∃ x y b q, xa = some ⟨x, 0, none⟩ ∧ RefIs w5 x y b q (DA.fresh l) ∧ w4.heap.size ≤ x ∧ w4.heap.size ≤ y ∧ w4.heap.size ≤ b ∧ w4.heap.size ≤ q)) := by
          rw [hr] at hpost
          rcases hpost with ⟨h0, he⟩ | ⟨h0, x, y, b, q, he, hh⟩
          · exact ⟨none, he, .inl ⟨h0, rfl⟩⟩
          · exact ⟨some ⟨x, 0, none⟩, by rw [h0]; exact he, .inr ⟨h0, x, y, b, q, rfl, hh⟩⟩
        obtain ⟨xa, rfl, hxa⟩ := hpo
        have hf35 : Fr [] w3 w5 := HF4.out.trans_nil hf5
        have hsm := same_walk w5 _ _ l l (HS3.out.keep_nil hf35) (HV3.out.keep_nil hf35)
        rw [decide_eq_true rfl] at hsm
        have HR := Lib.hid hr
        have HF5 := Lib.hid hf5
        have HXA := Lib.hid hxa
        have HSM := Lib.hid hsm
        have HF35 := Lib.hid hf35
        clear hr hf5 hxa hsm hf35 hpost
        go_wp2_with fail
        refine HSM.out.mono ?_
        rintro e w6 ⟨rfl, q6, rfl⟩
        have hk5 : Known (w5.drewN q6) g cap (n + 8) (lent l) := HKN.out.keep (HF35.out.drewN q6) (by simp)
        have hf36 := HF35.out.drewN q6
        obtain ⟨w6, hw6⟩ : ∃ w6, w5.drewN q6 = w6 := ⟨_, rfl⟩
        have hf56 : Fr [] w5 w6 := by rw [← hw6]; exact (Fr.refl _ _).drewN q6
        rw [hw6] at hk5 hf36 ⊢
        have HK6 := Lib.hid hk5
        have HF36 := Lib.hid hf36
        have HF56 := Lib.hid hf56
        clear hk5 hf36 hf56 hw6 HSM HRL HLOAD HRUN
        go_wp2_with fail
        go_loopw [11, 12] (fun b i wr => ∃ k : Nat, n ≤ k ∧ k ≤ n + 8 ∧ b = .bool true ∧ i = .int .i64 k ∧ wr = w6) (fun _ i _ => n + 8 - (intOf i).toNat)
        case atStart => exact ⟨n, Nat.le_refl _, by omega, rfl, rfl, rfl⟩
        case round =>
          obtain ⟨k, hk0, hk, rfl, rfl, hww⟩ := hrel
          obtain rfl := hww.symm
          by_cases hlt3 : k < n + 8
          · have hcc := HK6.out.cell hlt3
            have hls : lent l k = ⟨#[115, 112, 97, 114, 101]⟩ := by unfold lent; rw [if_neg (by rw [HNL.out]; omega)]; rfl
            rw [hls] at hcc
            clear hls
            go_wp2_with fail
            go_roundw
            case rel => exact ⟨k + 1, by omega, by omega, rfl, by go_num, by first | rfl | trivial⟩
            case measure => simp [intOf]; omega
          · obtain rfl : k = n + 8 := by omega
            go_wp2_with fail
            go_loopw [13] (fun i wq => ∃ k : Nat, k ≤ n + 8 ∧ i = .int .i64 k ∧ Known wq g cap 0 (lent l) ∧ Fr [g] w6 wq) (fun i _ => n + 8 - (intOf i).toNat)
            case atStart => exact ⟨0, Nat.zero_le _, rfl, HK6.out.less (Nat.zero_le _), Fr.refl _ _⟩
            case round =>
              obtain ⟨k, hk, rfl, hkn, hfr⟩ := hrel
              by_cases hlt4 : k < n + 8
              · obtain ⟨o, ho, hfz⟩ := hkn.old (show k < cap by omega)
                have hst := hkn.over k (.string ⟨#[111, 118, 101, 114]⟩)
                have hf' := hfr.setCell (.inl (show (⟨g, k, none⟩ : Addr).block ∈ [g] by simp)) (.string ⟨#[111, 118, 101, 114]⟩)
                have HST := Lib.hid hst
                have HF' := Lib.hid hf'
                clear hkn hfr hst hf'
                go_wp2_with fail
                go_roundw
                case rel => exact ⟨k + 1, by omega, by go_num, HST.out, HF'.out⟩
                case measure => simp [intOf]; omega
              · obtain rfl : k = n + 8 := by omega
                have HKN2 := Lib.hid hkn
                have HFR2 := Lib.hid hfr
                clear hkn hfr
                obtain ⟨hrow, hfa, hWr, hf2r⟩ := hand_end hgo hgW hcl hcm HF2.out HFR.out HF36.out HFR2.out HKN2.out HW2.out
                have d0 := cell_of_row _ _ 0 _ _ _ hWr
                have g0 := frozen_of_row _ _ 0 _ _ hWr
                simp at d0
                have hSr := HS.out.keep hfa (fun k hk hm => by
                  rcases List.mem_cons.1 hm with rfl | hm
                  · exact HD.out.2.1 hk
                  · exact HD.out.2.2 k (Option.mem_toList.1 hm) hk)
                have HROW := Lib.hid hrow
                have HFA := Lib.hid hfa
                have HWR := Lib.hid hWr
                have HSR := Lib.hid hSr
                clear hrow hfa hWr hf2r hSr
                have hg3 := HKN.out.lt
                have h03 := Nat.le_trans HF2.out.size HFR.out.size
                have hda := HDA.out
                have hxa := HXA.out
                rw [HR.out] at hda
                rcases hda with ⟨r0, rfl⟩ | ⟨r0, d, p, m, rfl, hdd⟩
                · rcases hxa with ⟨_, rfl⟩ | ⟨r1, _⟩
                  · go_wp2_with fail
                    go_ret
                    exact ⟨rfl, loads_same HW.out hgo HD.out HS.out HROW.out HFA.out HWR.out HSR.out⟩
                  · exact absurd r1 r0
                · rcases hxa with ⟨r1, _⟩ | ⟨_, x, y, b, q, rfl, hxx⟩
                  · exact absurd r0 r1
                  · subst r0
                    have HDD := Lib.hid hdd
                    have HXX := Lib.hid hxx
                    clear hdd hxx HDA HXA
                    by_cases hfive : ns < 5
                    · have hSra := HSR.out.keep_nil ((Fr.refl [] wr).alloc (.cells #[.pointer (some ⟨d, 0, none⟩), .pointer (some ⟨x, 0, none⟩)] 40))
                      have HSRA := Lib.hid hSra
                      obtain ⟨is, hi, hz0, hz1, hz2⟩ := info_parts infoSide
                      clear hSra
                      go_wp2_with (at_builtin; refine wpList_append_row rfl _ _ 25 rfl 40 is _ 2 16 Try.underlying25 hi hz0 hz1 hz2 rfl (by decide) (.slice va ns vc) ns sc rfl HSRA.out ⟨wr.heap.size, 0, none⟩ 1 1 [.pointer (some ⟨d, 0, none⟩), .pointer (some ⟨x, 0, none⟩)] rfl rfl (cell_two_new _ _ _ _) (by intro u hu; simp at hu; rcases hu with rfl | rfl <;> rfl) (by unfold maxLen; omega) (by omega) ?_)
                      intro v' w7 happ
                      have hend := loads_more HW.out hgo HD.out HS.out HROW.out HFA.out HWR.out hg3 h03 HF4.out HF5.out HF56.out HFR2.out HDD.out HXX.out hfive happ.out
                      have hW7 := happ.out.fr.keep (((Fr.refl [] wr).alloc (.cells #[.pointer (some ⟨d, 0, none⟩), .pointer (some ⟨x, 0, none⟩)] 40)).keep HWR.out (by simp)) (fun hm => HD.out.2.1 (Option.mem_toList.1 hm))
                      obtain ⟨fa, fc, rfl, _, _⟩ := happ.out.row.shape
                      have d7 := cell_of_row _ _ 0 _ _ _ hW7
                      have g7 := frozen_of_row _ _ 0 _ _ hW7
                      simp at d7
                      have HEND := Lib.hid hend
                      clear hend hW7
                      go_wp2_with fail
                      go_ret
                      exact ⟨rfl, HEND.out⟩
                    · go_wp2_with fail
                      go_ret
                      exact ⟨rfl, loads_same HW.out hgo HD.out HS.out HROW.out HFA.out HWR.out HSR.out⟩
end Go.Proofs.Ytcpealfaaghpiaa
