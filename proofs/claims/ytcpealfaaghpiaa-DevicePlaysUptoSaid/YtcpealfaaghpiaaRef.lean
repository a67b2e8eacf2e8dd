/-
  The document's device in memory; its small calls. Own work.
-/
import Derived.Test.YtcpealfaaghpiaaNew
namespace Go.Proofs.Ytcpealfaaghpiaa
open Go Go.RowKit Go.Maps Go.Sort Go.Shelf

/-- Is something pending? -/
def FlagsAt (w : World) (b : Nat) (P : List (Option ByteArray)) : Prop :=
  ∃ cur, w.heap[b]? = some (.cells cur 4 (0, 0)) ∧ P.length ≤ cur.size ∧ ∀ (i : Nat) (p : Option ByteArray), P[i]? = some p → cur[i]? = some (Value.bool p.isSome)
/-- What is pending. -/
def DataAt (w : World) (q : Nat) (P : List (Option ByteArray)) : Prop :=
  ∃ cur, w.heap[q]? = some (.cells cur 9 (0, 0)) ∧ P.length ≤ cur.size ∧ ∀ (i : Nat) (s : ByteArray), P[i]? = some (some s) → cur[i]? = some (Value.string s)
theorem FlagsAt.keep {w w' : World} {b : Nat} {P : List (Option ByteArray)} (h : FlagsAt w b P) {S : List Nat} (hf : Fr S w w') (hb : b ∉ S) : FlagsAt w' b P := by
  obtain ⟨cur, hc, r⟩ := h; exact ⟨cur, hf.keep hc hb, r⟩
theorem DataAt.keep {w w' : World} {q : Nat} {P : List (Option ByteArray)} (h : DataAt w q P) {S : List Nat} (hf : Fr S w w') (hq : q ∉ S) : DataAt w' q P := by
  obtain ⟨cur, hc, r⟩ := h; exact ⟨cur, hf.keep hc hq, r⟩
theorem FlagsAt.cell {w : World} {b : Nat} {P : List (Option ByteArray)} (h : FlagsAt w b P) {i : Nat} (hi : i < P.length) : w.cell? ⟨b, i, none⟩ = some (.bool ((P[i]?).join).isSome) ∧ w.frozen? ⟨b, i, none⟩ = false := by
  obtain ⟨cur, hc, hl, r⟩ := h
  refine ⟨?_, frozen_of_row _ _ _ _ _ hc⟩
  have h2 : P[i]? = some (P[i]) := by simp [hi]
  rw [cell_of_row _ _ _ _ _ _ hc, r i _ h2, h2]; rfl
theorem DataAt.cell {w : World} {q : Nat} {P : List (Option ByteArray)} (h : DataAt w q P) {i : Nat} {s : ByteArray} (hi : (P[i]?).join = some s) : w.cell? ⟨q, i, none⟩ = some (.string s) := by
  obtain ⟨cur, hc, hl, r⟩ := h
  rw [cell_of_row _ _ _ _ _ _ hc, r i s]
  cases e : P[i]? with
  | none => rw [e] at hi; cases hi
  | some p => rw [e] at hi; rw [← hi]; rfl
theorem DataAt.old {w : World} {q : Nat} {P : List (Option ByteArray)} (h : DataAt w q P) {i : Nat} (hi : i < P.length) : ∃ o, w.cell? ⟨q, i, none⟩ = some o ∧ w.frozen? ⟨q, i, none⟩ = false := by
  obtain ⟨cur, hc, hl, r⟩ := h
  exact ⟨cur[i]'(by omega), by rw [cell_of_row _ _ _ _ _ _ hc]; simp, frozen_of_row _ _ _ _ _ hc⟩
theorem FlagsAt.set {w : World} {b : Nat} {P : List (Option ByteArray)} (h : FlagsAt w b P) (i : Nat) (p : Option ByteArray) : FlagsAt (w.setCell ⟨b, i, none⟩ (.bool p.isSome)) b (P.set i p) := by
  obtain ⟨cur, hc, hl, r⟩ := h
  refine ⟨_, heap_setCell_same _ _ _ _ _ _ hc, by simpa using hl, fun j t hj => ?_⟩
  rw [Array.getElem?_setIfInBounds]
  by_cases e : i = j
  · subst e
    have hx : i < P.length := by have := (List.getElem?_eq_some_iff.1 hj).1; simpa using this
    rw [List.getElem?_set_self hx] at hj
    obtain rfl := Option.some.inj hj
    rw [if_pos rfl, if_pos (by omega)]
  · rw [List.getElem?_set_ne e] at hj
    rw [if_neg e]; exact r j t hj
theorem DataAt.setSome {w : World} {q : Nat} {P : List (Option ByteArray)} (h : DataAt w q P) (i : Nat) (s : ByteArray) : DataAt (w.setCell ⟨q, i, none⟩ (.string s)) q (P.set i (some s)) := by
  obtain ⟨cur, hc, hl, r⟩ := h
  refine ⟨_, heap_setCell_same _ _ _ _ _ _ hc, by simpa using hl, fun j t hj => ?_⟩
  rw [Array.getElem?_setIfInBounds]
  by_cases e : i = j
  · subst e
    have hx : i < P.length := by have := (List.getElem?_eq_some_iff.1 hj).1; simpa using this
    rw [List.getElem?_set_self hx] at hj
    obtain rfl := Option.some.inj (Option.some.inj hj)
    rw [if_pos rfl, if_pos (by omega)]
  · rw [List.getElem?_set_ne e] at hj
    rw [if_neg e]; exact r j t hj
theorem DataAt.setNone {w : World} {q : Nat} {P : List (Option ByteArray)} (h : DataAt w q P) (i : Nat) : DataAt w q (P.set i none) := by
  obtain ⟨cur, hc, hl, r⟩ := h
  refine ⟨cur, hc, by simpa using hl, fun j t hj => ?_⟩
  by_cases e : i = j
  · subst e
    have hx : i < P.length := by have := (List.getElem?_eq_some_iff.1 hj).1; simpa using this
    rw [List.getElem?_set_self hx] at hj; cases Option.some.inj hj
  · rw [List.getElem?_set_ne e] at hj; exact r j t hj

/-- The document's device lies in the blocks x (its fields), l, b, q. -/
structure RefIs (w : World) (x l b q : Nat) (D : DA) : Prop where
  wf : D.WF
  fields : ∃ cl cb cq, w.heap[x]? = some (.cells #[.slice (some ⟨l, 0, none⟩) D.L.length cl, .slice (some ⟨b, 0, none⟩) D.L.length cb, .slice (some ⟨q, 0, none⟩) D.L.length cq, .int .i64 D.left, .bool D.dead] 47 (0, 0)) ∧
    D.L.length ≤ cl ∧ cl ≤ maxLen
  pages : PagesAt w l D.L
  flags : FlagsAt w b D.P
  data : DataAt w q D.P
  lq : l ≠ q

theorem RefIs.keep {w w' : World} {x l b q : Nat} {D : DA} (h : RefIs w x l b q D) {S : List Nat} (hf : Fr S w w') (hx : x ∉ S) (hl : l ∉ S) (hb : b ∉ S) (hq : q ∉ S) : RefIs w' x l b q D := by
  obtain ⟨cl, cb, cq, hh, r⟩ := h.fields
  exact ⟨h.wf, ⟨cl, cb, cq, hf.keep hh hx, r⟩, h.pages.keep hf hl, h.flags.keep hf hb, h.data.keep hf hq, h.lq⟩
theorem RefIs.lt {w : World} {x l b q : Nat} {D : DA} (h : RefIs w x l b q D) : x < w.heap.size ∧ l < w.heap.size ∧ b < w.heap.size ∧ q < w.heap.size := by
  obtain ⟨_, _, _, hh, _⟩ := h.fields
  obtain ⟨_, h1, _⟩ := h.pages
  obtain ⟨_, h2, _⟩ := h.flags
  obtain ⟨_, h3, _⟩ := h.data
  exact ⟨lt_of_heap hh, lt_of_heap h1, lt_of_heap h2, lt_of_heap h3⟩
theorem RefIs.apart {w : World} {x l b q : Nat} {D : DA} (h : RefIs w x l b q D) : x ≠ l ∧ x ≠ b ∧ x ≠ q ∧ l ≠ b ∧ b ≠ q ∧ l ≠ q := by
  obtain ⟨_, _, _, hh, _⟩ := h.fields
  obtain ⟨_, h1, _⟩ := h.pages
  obtain ⟨_, h2, _⟩ := h.flags
  obtain ⟨_, h3, _⟩ := h.data
  refine ⟨?_, ?_, ?_, ?_, ?_, h.lq⟩
  · rintro rfl; rw [hh] at h1; simp at h1
  · rintro rfl; rw [hh] at h2; simp at h2
  · rintro rfl; rw [hh] at h3; simp at h3
  · rintro rfl; rw [h1] at h2; simp at h2
  · rintro rfl; rw [h2] at h3; simp at h3
theorem RefIs.cells {w : World} {x l b q : Nat} {D : DA} (h : RefIs w x l b q D) : ∃ cl cb cq, w.cell? ⟨x, 0, none⟩ = some (.slice (some ⟨l, 0, none⟩) D.L.length cl) ∧ w.cell? ⟨x, 1, none⟩ = some (.slice (some ⟨b, 0, none⟩) D.L.length cb) ∧
    w.cell? ⟨x, 2, none⟩ = some (.slice (some ⟨q, 0, none⟩) D.L.length cq) ∧ w.cell? ⟨x, 3, none⟩ = some (.int .i64 D.left) ∧ w.cell? ⟨x, 4, none⟩ = some (.bool D.dead) ∧ w.frozen? ⟨x, 3, none⟩ = false ∧ w.frozen? ⟨x, 4, none⟩ = false := by
  obtain ⟨cl, cb, cq, hh, _⟩ := h.fields
  exact ⟨cl, cb, cq, cell_of_row _ _ _ _ _ _ hh, cell_of_row _ _ _ _ _ _ hh, cell_of_row _ _ _ _ _ _ hh, cell_of_row _ _ _ _ _ _ hh, cell_of_row _ _ _ _ _ _ hh, frozen_of_row _ _ _ _ _ hh, frozen_of_row _ _ _ _ _ hh⟩
/-- Its last two fields are written. -/
theorem RefIs.turned {w : World} {x l b q : Nat} {D : DA} (h : RefIs w x l b q D) (left : Int) (dead : Bool) (h0 : 0 ≤ left) (h1 : left ≤ 9223372036854775807) (w' : World) (hf : Fr [x] w w')
    (hh : ∀ a0 a1 a2 a3 a4, w.heap[x]? = some (.cells #[a0, a1, a2, a3, a4] 47 (0, 0)) → w'.heap[x]? = some (.cells #[a0, a1, a2, .int .i64 left, .bool dead] 47 (0, 0))) : RefIs w' x l b q { D with left := left, dead := dead } := by
  obtain ⟨n1, n2, n3, _⟩ := h.apart
  obtain ⟨cl, cb, cq, hc, r⟩ := h.fields
  exact ⟨⟨h.wf.len, h.wf.lo, h.wf.hi, h.wf.szL, h.wf.szP, h0, h1⟩, ⟨cl, cb, cq, hh _ _ _ _ _ hc, r⟩, h.pages.keep hf (by simp; omega), h.flags.keep hf (by simp; omega), h.data.keep hf (by simp; omega), h.lq⟩

theorem rsize_walk (w : World) (x l b q : Nat) (D : DA) (h : RefIs w x l b q D) :
    Calls Try.prog 23 #[.pointer (some ⟨x, 0, none⟩)] w fun e w' => e = .returned (.int .i64 D.L.length) ∧ w = w' := by
  obtain ⟨cl, cb, cq, c0, _⟩ := h.cells
  go_enter Try.func23, Try.ntmps23
  go_wp2
  go_ret
  exact ⟨rfl, rfl⟩

theorem rasked_walk (w : World) (x l b q : Nat) (D : DA) (i : Int) (h : RefIs w x l b q D) :
    Calls Try.prog 44 #[.pointer (some ⟨x, 0, none⟩), .int .i64 i] w fun e w' => e = .returned (.int .i64 (D.asked i)) ∧ w = w' := by
  obtain ⟨cl, cb, cq, c0, c1, c2, c3, c4, _⟩ := h.cells
  have hn := h.wf.hi
  obtain ⟨n, hn'⟩ : ∃ n, D.L.length = n := ⟨_, rfl⟩
  obtain ⟨r, hr⟩ : ∃ r, D.asked i = r := ⟨_, rfl⟩
  rw [hr]
  unfold DA.asked at hr
  obtain ⟨dead, hd⟩ : ∃ b, D.dead = b := ⟨_, rfl⟩
  rw [hd] at c4 hr
  rw [hn'] at c0 hn hr
  clear hd hn' h c1 c2 c3
  cases dead
  · rw [if_neg (by simp)] at hr
    by_cases h0 : i < 0
    · rw [if_neg (by omega)] at hr
      subst hr
      go_enter Try.func44, Try.ntmps44
      go_wp2
      go_ret
      exact ⟨rfl, rfl⟩
    · by_cases h1 : i < n
      · rw [if_pos (by omega)] at hr
        subst hr
        go_enter Try.func44, Try.ntmps44
        go_wp2
        go_ret
        exact ⟨rfl, rfl⟩
      · rw [if_neg (by omega)] at hr
        subst hr
        go_enter Try.func44, Try.ntmps44
        go_wp2
        go_ret
        exact ⟨rfl, rfl⟩
  · rw [if_pos rfl] at hr
    subst hr
    go_enter Try.func44, Try.ntmps44
    go_wp2
    go_ret
    exact ⟨rfl, rfl⟩

theorem rarm_raw (w : World) (x : Nat) (dead : Bool) (n : Int) (old : Value) (c4 : w.cell? ⟨x, 4, none⟩ = some (.bool dead)) (c3 : w.cell? ⟨x, 3, none⟩ = some old) (fz : w.frozen? ⟨x, 3, none⟩ = false) (r : Int) (w1 : World)
    (h : (dead = true ∧ r = 2 ∧ w1 = w) ∨ (dead = false ∧ n < 0 ∧ r = 1 ∧ w1 = w) ∨ (dead = false ∧ 0 ≤ n ∧ r = 0 ∧ w1 = w.setCell ⟨x, 3, none⟩ (.int .i64 n))) :
    Calls Try.prog 27 #[.pointer (some ⟨x, 0, none⟩), .int .i64 n] w fun e w' => e = .returned (.int .i64 r) ∧ w' = w1 := by
  rcases h with ⟨rfl, rfl, rfl⟩ | ⟨rfl, h0, rfl, rfl⟩ | ⟨rfl, h0, rfl, rfl⟩
  all_goals
    go_enter Try.func27, Try.ntmps27
    go_wp2
    go_ret
    exact ⟨rfl, rfl⟩
theorem rarm_walk (w : World) (x l b q : Nat) (D : DA) (n : Int) (h : RefIs w x l b q D) (hn : n ≤ 9223372036854775807) :
    Calls Try.prog 27 #[.pointer (some ⟨x, 0, none⟩), .int .i64 n] w fun e w' => e = .returned (.int .i64 (D.arm n).1) ∧ RefIs w' x l b q (D.arm n).2 ∧ Fr [x] w w' := by
  obtain ⟨cl, cb, cq, c0, c1, c2, c3, c4, f3, _⟩ := h.cells
  unfold DA.arm
  cases hd : D.dead
  · rw [hd] at c4
    rw [if_neg (by simp)]
    by_cases h0 : n < 0
    · rw [if_pos h0]
      refine (rarm_raw w x false n _ c4 c3 f3 1 w (.inr (.inl ⟨rfl, h0, rfl, rfl⟩))).mono ?_
      rintro e w' ⟨rfl, rfl⟩
      exact ⟨rfl, h, Fr.refl _ _⟩
    · rw [if_neg h0]
      refine (rarm_raw w x false n _ c4 c3 f3 0 _ (.inr (.inr ⟨rfl, by omega, rfl, rfl⟩))).mono ?_
      rintro e w' ⟨rfl, rfl⟩
      have hf : Fr [x] w (w.setCell ⟨x, 3, none⟩ (.int .i64 n)) := (Fr.refl _ _).setCell (.inl (by simp)) _
      refine ⟨rfl, ?_, hf⟩
      have := h.turned n D.dead (by omega) hn _ hf (by
        intro a0 a1 a2 a3 a4 hh
        have e4 : a4 = .bool D.dead := by
          have := cell_of_row _ _ 4 _ _ _ hh
          rw [c4] at this
          rw [hd]; exact (Option.some.inj this).symm
        rw [heap_setCell_same _ _ _ _ _ _ hh, e4]; rfl)
      rw [hd] at this
      exact this
  · rw [hd] at c4
    rw [if_pos rfl]
    refine (rarm_raw w x true n _ c4 c3 f3 2 w (.inl ⟨rfl, rfl, rfl⟩)).mono ?_
    rintro e w' ⟨rfl, rfl⟩
    exact ⟨rfl, h, Fr.refl _ _⟩

theorem rread_walk (w : World) (x l b q : Nat) (D : DA) (i : Int) (h : RefIs w x l b q D) :
    Calls Try.prog 21 #[.pointer (some ⟨x, 0, none⟩), .int .i64 i] w fun e w' => e = .returned (.tuple #[.string (D.read i).1, .int .i64 (D.read i).2]) ∧ w = w' := by
  obtain ⟨cl, cb, cq, c0, c1, c2, c3, c4, _⟩ := h.cells
  have ha := rasked_walk w x l b q D i h
  unfold DA.read
  by_cases hi : D.asked i = 0
  · obtain ⟨_, hr0, hr1⟩ := asked_zero hi
    obtain ⟨k, rfl⟩ := Int.eq_ofNat_of_zero_le hr0
    have hk : k < D.L.length := by omega
    have hkP : k < D.P.length := by rw [h.wf.len]; exact hk
    obtain ⟨cp, _⟩ := h.pages.cell hk
    obtain ⟨cf, _⟩ := h.flags.cell hkP
    rw [if_pos hi]
    simp only [Int.toNat_natCast, DA.at_]
    obtain ⟨s, hs⟩ : ∃ s, D.L.getD k ByteArray.empty = s := ⟨_, rfl⟩
    rw [hs] at cp ⊢
    rw [hi] at ha
    have hnb := h.wf.hi
    obtain ⟨n, hn⟩ : ∃ n, D.L.length = n := ⟨_, rfl⟩
    rw [hn] at c0 c1 c2 hk hnb
    have hdt := h.data
    clear hn hs hr0 hr1 hi h c3 c4
    cases ho : (D.P[k]?).join with
    | none =>
      rw [ho] at cf
      simp only [Option.getD_none, Option.isSome_none] at cf ⊢
      clear ho hkP hdt
      go_enter Try.func21, Try.ntmps21
      go_wp2_with (go_at_call 44; refine ha.mono ?_; rintro e w' ⟨rfl, rfl⟩)
      go_ret2
      exact ⟨rfl, rfl⟩
    | some t =>
      have cd := hdt.cell ho
      rw [ho] at cf
      simp only [Option.getD_some, Option.isSome_some] at cf ⊢
      clear ho hkP hdt
      go_enter Try.func21, Try.ntmps21
      go_wp2_with (go_at_call 44; refine ha.mono ?_; rintro e w' ⟨rfl, rfl⟩)
      go_ret2
      exact ⟨rfl, rfl⟩
  · rw [if_neg hi]
    obtain ⟨a, hA⟩ : ∃ a, D.asked i = a := ⟨_, rfl⟩
    rw [hA] at ha hi ⊢
    have hb : (a != 0) = true := by simpa using hi
    clear hA h c0 c1 c2 c3 c4
    go_enter Try.func21, Try.ntmps21
    go_wp2_with (go_at_call 44; refine ha.mono ?_; rintro e w' ⟨rfl, rfl⟩)
    go_ret2
    exact ⟨rfl, rfl⟩
end Go.Proofs.Ytcpealfaaghpiaa
