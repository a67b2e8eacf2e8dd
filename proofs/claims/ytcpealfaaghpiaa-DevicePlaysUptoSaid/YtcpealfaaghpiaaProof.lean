/-
  DevicePlays: for every number of pages and every script, of bulk at most 1048576 together, the law returns true, and its arguments read as before. No condition beside that bound.
-/
import Derived.Deep.Slices
import Derived.Deep.Fields
import Derived.ChangeSame
import Derived.WideKeyArgs
import Derived.Below
import Derived.ProofKit
import Derived.OpenShut
import Derived.JoinedCond
import Derived.Test.YtcpealfaaghpiaaPlays
namespace Go.Proofs.Ytcpealfaaghpiaa.devicePlays
open Go Go.ChangeShapes Go.WideShapes Go.ChangeAt Go.RowKit Go.Deep

theorem own : ownKnob Try.prog.godebug = none := by kernel_rfl
theorem laidOut : laidOutB Try.prog = true := by kernel_rfl

/-! ### bulk -/
theorem bulk_one {H : Type} (d : DataW H) : 1 ≤ Rows.uptoBulk d := by
  cases d with
  | lit l => cases l <;> simp [Rows.uptoBulk]
  | nil => simp [Rows.uptoBulk]
  | ptr d => simp [Rows.uptoBulk]
  | slice elems spare => simp [Rows.uptoBulk]
  | agg parts => simp [Rows.uptoBulk]
  | iface t d => simp [Rows.uptoBulk]
  | map entries => simp [Rows.uptoBulk]
  | held h => simp [Rows.uptoBulk]
theorem bulk_part {H : Type} {d : DataW H} : ∀ {l : List (DataW H)}, d ∈ l → Rows.uptoBulk d ≤ Rows.uptoBulkAll l
  | [], h => by cases h
  | x :: r, h => by
    simp only [Rows.uptoBulkAll]
    rcases List.mem_cons.1 h with rfl | h
    · omega
    · have := bulk_part h; omega
theorem bulk_len {H : Type} : ∀ (l : List (DataW H)), l.length ≤ Rows.uptoBulkAll l
  | [] => Nat.zero_le _
  | x :: r => by
    have := bulk_one x
    have := bulk_len r
    simp only [Rows.uptoBulkAll, List.length_cons]; omega

/-! ### what came in, opened -/
section
variable {H : Type} {enc : TypeId × Value → H} {P : Program} {w : World} {base : Nat} {spare : Nat → Bool} {held : Bool}
/-- A slice of structs whose fields take one cell each: each field's cell and reading. -/
theorem open_rows {t e : TypeId} {fs : Array Field} {fuel : Nat} {a : Addr} {len cap : Nat} {x : DataW H × List MemPlace} (ht : P.underlying t = some (.slice e)) (he : P.underlying e = some (.struct fs)) (hone : oneCellFields P fs = true) (hC : P.cellsOf e = fs.size)
    (h : DataW.trod enc P w base spare held fuel t [.slice (some a) len cap] = some x) :
    len ≤ cap ∧ cap ≤ maxLen ∧ ∃ (D : Nat → DataW H) (sp : List (DataW H)), x.1 = .slice ((List.range len).map D) sp ∧ ∀ i, i < len → ∃ (ys : List (DataW H × List MemPlace)) (n : Nat), D i = .agg (ys.map (·.1)) ∧
      ∀ (j : Nat) (f : Field), fs[j]? = some f → ∃ (v : Value) (y : DataW H × List MemPlace), w.cell? (a.add (i * fs.size + j)) = some v ∧ ys[j]? = some y ∧ DataW.trod enc P w base spare held n f.type [v] = some y := by
  rcases open_slice ht h with ⟨h0, _⟩ | ⟨a', len', cap', m, n, D, Pl, hcs, _, hl, hm, hmm, hx, hi⟩
  · simp at h0
  · simp at hcs
    obtain ⟨rfl, rfl, rfl⟩ := hcs
    refine ⟨hl, hm, D, _, by rw [hx], fun i him => ?_⟩
    have him' : i < m := by
      rw [hmm]; split <;> omega
    obtain ⟨cs', hc, ht'⟩ := hi i him'
    rw [hC] at hc
    obtain ⟨ys, n', _, hy, hlen, hyl, hf⟩ := DataW.trod_struct he ht'
    obtain ⟨_, hcl, hat⟩ := World.cells?_some hc
    simp only [Prod.mk.injEq] at hy
    refine ⟨ys, n', hy.1, fun j f hj => ?_⟩
    obtain ⟨ho, hk⟩ := hone_of hone j f hj
    have hjl : j < fs.size := (Array.getElem?_eq_some_iff.1 hj).1
    have hcell := hat j hjl
    have h1 := hf j f hj
    rw [ho, hk, show (cs'.drop j).take 1 = [cs'[j]'(by omega)] by rw [List.drop_eq_getElem_cons (by omega)]; rfl] at h1
    have hys : ys[j]? = some (ys[j]'(by omega)) := List.getElem?_eq_getElem (by omega)
    exact ⟨_, _, by rw [← Go.Deep.add_add, hcell, List.getElem?_eq_getElem (by omega)], hys, h1.trans hys⟩
end
theorem wf_bounds {n : Int} (h : (Lit.int .i64 n).wf = true) : -9223372036854775808 ≤ n ∧ n ≤ 9223372036854775807 := by
  have h1 : IntKind.i64.min = -9223372036854775808 := rfl
  have h2 : IntKind.i64.max = 9223372036854775807 := rfl
  simp only [Lit.wf, Bool.and_eq_true, decide_eq_true_eq] at h
  omega
theorem list_of {α : Type} {Q : Nat → α → Prop} : ∀ (n : Nat), (∀ i, i < n → ∃ x, Q i x) → ∃ l : List α, l.length = n ∧ ∀ k x, l[k]? = some x → Q k x
  | 0, _ => ⟨[], rfl, fun k x h => by simp at h⟩
  | n + 1, h => by
    obtain ⟨l, hl, hq⟩ := list_of n (fun i hi => h i (by omega))
    obtain ⟨x, hx⟩ := h n (by omega)
    refine ⟨l ++ [x], by simp [hl], fun k y hy => ?_⟩
    rcases getElem?_snoc hy with q | ⟨rfl, rfl⟩
    · exact hq k y q
    · rw [hl]; exact hx
theorem add_block (a : Addr) (n : Nat) : (a.add n).block = a.block := by unfold Addr.add; split <;> rfl
theorem add_off (a : Addr) (n : Nat) : (a.add n).off = a.off + n := by
  unfold Addr.add; split
  · rename_i h; subst h; rfl
  · rfl
theorem add_more (a : Addr) (n j : Nat) (hj : 0 < j) : a.add (n + j) = ⟨(a.add n).block, (a.add n).off + j, none⟩ := by
  rw [add_block, add_off]
  unfold Addr.add
  rw [if_neg (by omega)]
  show (⟨a.block, a.off + (n + j), none⟩ : Addr) = _
  rw [Nat.add_assoc]

/-- Keeps that came in. -/
theorem open_keeps {H : Type} {enc : TypeId × Value → H} {w : World} {spare : Nat → Bool} {n : Nat} {v : Value} {y : DataW H × List MemPlace} (h : DataW.trod enc Try.prog w 0 spare true n 33 [v] = some y) :
    ∃ (ka : Option Addr) (kn kc : Nat) (ks : List (Int × Int)), v = .slice ka kn kc ∧ KeepsIn w (.slice ka kn kc) ks ∧ KWf ks ∧ ks.length ≤ Rows.uptoBulk y.1 ∧ ∀ a' m c, Value.slice ka kn kc = .slice (some a') m c → 0 < m → a'.block < w.heap.size := by
  rcases DataW.trod_slice Try.underlying33 h with ⟨hv, rfl⟩ | ⟨a, len, cap, _, _, _, _, hv, _⟩
  · simp at hv
    subst hv
    exact ⟨none, 0, 0, [], rfl, .inl ⟨rfl, rfl⟩, (fun x hx => by cases hx), Nat.zero_le _, (fun a' m c e => by cases e)⟩
  · simp at hv
    subst hv
    obtain ⟨h1, h2, D, sp, hx, hi⟩ := open_rows Try.underlying33 Try.underlying84 (by kernel_rfl) (by kernel_rfl) h
    have hi' : ∀ i, i < len → ∃ x : Int × Int, w.cell? (a.add (i * 2)) = some (.int .i64 x.1) ∧ w.cell? ⟨(a.add (i * 2)).block, (a.add (i * 2)).off + 1, none⟩ = some (.int .i64 x.2) ∧
        (-9223372036854775808 ≤ x.1 ∧ x.1 ≤ 9223372036854775807 ∧ -9223372036854775808 ≤ x.2 ∧ x.2 ≤ 9223372036854775807) := by
      intro i him
      obtain ⟨ys, n', _, hf⟩ := hi i him
      obtain ⟨v0, y0, c0, _, t0⟩ := hf 0 _ rfl
      obtain ⟨v1, y1, c1, _, t1⟩ := hf 1 _ rfl
      obtain ⟨N, e0, _, w0⟩ := DataW.trod_int Try.underlying3 t0
      obtain ⟨B, e1, _, w1⟩ := DataW.trod_int Try.underlying3 t1
      simp at e0 e1
      subst e0 e1
      have b0 := wf_bounds w0
      have b1 := wf_bounds w1
      refine ⟨(N, B), c0, ?_, b0.1, b0.2, b1.1, b1.2⟩
      rw [← add_more _ _ _ (by omega)]
      exact c1
    obtain ⟨ks, hkl, hq⟩ := list_of len hi'
    refine ⟨some a, len, cap, ks, rfl, .inr ⟨a, cap, by rw [hkl], by omega, h2, fun k x hk => ⟨(hq k x hk).1, (hq k x hk).2.1⟩⟩, fun x hx => ?_, ?_, fun a' m c e hm => ?_⟩
    · obtain ⟨k, hk⟩ := List.getElem?_of_mem hx
      exact (hq k x hk).2.2
    · rw [hx, hkl]
      have := bulk_len ((List.range len).map D)
      rw [List.length_map, List.length_range] at this
      simp only [Rows.uptoBulk]
      omega
    · injection e with e1 e2 e3
      injection e1 with e1
      subst e1 e2
      obtain ⟨x, hc, _⟩ := hi' 0 hm
      have := World.block_lt_of_cell? w _ hc
      rw [add_block] at this
      exact this
/-- The script that came in. -/
theorem open_script {H : Type} {enc : TypeId × Value → H} {w : World} {spare : Nat → Bool} {fuel : Nat} {sa : Option Addr} {sn sc : Nat} {x : DataW H × List MemPlace} (h : DataW.trod enc Try.prog w 0 spare true fuel 22 [.slice sa sn sc] = some x) (hb : Rows.uptoBulk x.1 ≤ 1048576) :
    sn ≤ 9223372036854775807 ∧ ∀ i, i < sn → ∃ a, sa = some a ∧ OpAt w (a.add (i * 5)) := by
  cases sa with
  | none =>
    rcases DataW.trod_slice Try.underlying22 h with ⟨hv, _⟩ | ⟨a, len, cap, _, _, _, _, hv, _⟩
    · simp at hv
      obtain ⟨rfl, rfl⟩ := hv
      exact ⟨by omega, fun i hi => by omega⟩
    · simp at hv
  | some a =>
    obtain ⟨h1, h2, D, sp, hx, hi⟩ := open_rows Try.underlying22 Try.underlying35 (by kernel_rfl) (by kernel_rfl) h
    unfold maxLen at h2
    refine ⟨by omega, fun i him => ⟨a, rfl, ?_⟩⟩
    obtain ⟨ys, n', hD, hf⟩ := hi i him
    obtain ⟨v0, y0, c0, _, t0⟩ := hf 0 _ rfl
    obtain ⟨v1, y1, c1, _, t1⟩ := hf 1 _ rfl
    obtain ⟨v2, y2, c2, _, t2⟩ := hf 2 _ rfl
    obtain ⟨v3, y3, c3, _, t3⟩ := hf 3 _ rfl
    obtain ⟨v4, y4, c4, hy4, t4⟩ := hf 4 _ rfl
    obtain ⟨kind, e0, _, _⟩ := DataW.trod_int Try.underlying3 t0
    obtain ⟨on, e1, _, w1⟩ := DataW.trod_int Try.underlying3 t1
    obtain ⟨N, e2, _, w2⟩ := DataW.trod_int Try.underlying3 t2
    obtain ⟨S, e3, _, _⟩ := DataW.trod_string Try.underlying9 t3
    obtain ⟨ka, kn, kc, ks, rfl, k1, k2, k3, k4⟩ := open_keeps t4
    simp at e0 e1 e2 e3
    subst e0 e1 e2 e3
    have b1 := wf_bounds w1
    have b2 := wf_bounds w2
    have hbk : Rows.uptoBulk y4.1 ≤ 1048576 := by
      have m1 : y4.1 ∈ ys.map (·.1) := List.mem_map.2 ⟨y4, List.mem_of_getElem? hy4, rfl⟩
      have m2 : D i ∈ (List.range sn).map D := List.mem_map.2 ⟨i, List.mem_range.2 him, rfl⟩
      have p1 := bulk_part m1
      have p2 := bulk_part m2
      rw [hx] at hb
      rw [hD] at p2
      simp only [Rows.uptoBulk] at hb p2
      omega
    refine ⟨kind, on, N, S, ka, kn, kc, ks, c0, ?_, ?_, ?_, ?_, b1.1, b1.2, b2.1, b2.2, k1, k2, Nat.le_trans k3 hbk, k4⟩
    · rw [← add_more _ _ _ (by omega)]; exact c1
    · rw [← add_more _ _ _ (by omega)]; exact c2
    · rw [← add_more _ _ _ (by omega)]; exact c3
    · rw [← add_more _ _ _ (by omega)]; exact c4

/-! ### the row -/
/-- The post, where all that came in stays. -/
theorem post_below {H : Type} {enc : TypeId × Value → H} {P : Program} {f : Func} {s : ChangeSpec} {apart fresh handsOn again : Bool} {W W' : World} {args : Array Value} {v : Value} {ds gs : List (DataW H)} {before pa pv : List MemPlace}
    (hW : DataW.Whole enc P f.params.toList s.vars apart W args.toList ds gs before)
    (hres : ∀ (b : Nat) (sp : Nat → Bool) (hd : Bool), DataW.TrodAll enc P W' b sp hd f.resultTypes.toList (v.resultList f.resultTypes.size) (s.fn H (ds ++ gs)).results [])
    (hargs : ∀ sp : Nat → Bool, (∀ p ∈ before, sp p.block = true) → DataW.TrodAll enc P W' 0 sp true f.params.toList args.toList (s.fn H (ds ++ gs)).args pa)
    (hvars : ∀ sp : Nat → Bool, (∀ p ∈ before, sp p.block = true) → DataW.TrodVars enc P W' sp s.vars (s.fn H (ds ++ gs)).vars pv)
    (hps : before = pa ++ pv) (hb : Below W.heap.size W W')
    (hok : ∀ (j : Nat) (t : TypeId) (r : Value), f.resultTypes[j]? = some t → (v.resultList f.resultTypes.size)[j]? = some r → Value.okWide P W' .any 0 t r) :
    s.post enc P f apart fresh handsOn again W args v W' := by
  have hlt : ∀ p ∈ before, p.block < W.heap.size := fun p hp => hW.lt p hp
  have hold : ∀ p ∈ before, (fun b => decide (b < W.heap.size)) p.block = true := fun p hp => by simpa using hlt p hp
  refine ⟨ds, gs, before, [], pa, pv, hW, hres _ _ _, hargs _ hold, hvars _ hold, World.keptBut_mono (fun p hp => ⟨hp, ?_⟩) (hb.frame (· ∈ before)), fun _ => ?_⟩
  · rw [hps, List.mem_append] at hp
    exact Or.inr hp
  · obtain ⟨_, _, _, _, _, hz, hn⟩ := hW
    refine ⟨hok, _, _, ([] ++ pa) ++ pv, ⟨[] ++ pa, pv, trodAll_append (hargs _ (fun _ _ => rfl)) (hres _ _ _), hvars _ (fun _ _ => rfl), rfl, ?_, ?_⟩, ?_⟩
    · intro b off hp
      have hin : MemPlace.cell b off ∈ before := by rw [hps]; simpa using hp
      rw [hb.frozen (hlt _ hin)]
      exact hz b off hin
    · intro ha
      have := hn ha
      rw [hps] at this
      simpa using this
    · intro p hp _
      rw [hps]
      simpa using hp

set_option maxRecDepth 100000 in
theorem contract (H : Type) (enc : TypeId × Value → H) (W : World) (base : Nat) (args : Array Value) (ds gs : List (DataW H)) (before : List MemPlace)
    (hval : ∀ (j : Nat) t v, Try.f3.params[j]? = some t → args[j]? = some v → Value.okWide Try.prog W .any base t v)
    (hW : DataW.Whole enc Try.prog Try.f3.params.toList Rows.devicePlaysSpec.vars false W args.toList ds gs before) (hk : Rows.uptoSmall H (ds ++ gs) = true) :
    Calls Try.prog 3 args W fun e W' => ∃ v, e = .returned v ∧ Rows.devicePlaysSpec.post enc Try.prog Try.f3 false true false false W args v W' := by
  have hW' := hW
  obtain ⟨p, q, hA0, hV, rfl, hfz, hnd⟩ := hW
  have hA : DataW.TrodAll enc Try.prog W 0 (fun _ => true) true Try.f3.params.toList args.toList ds p := hA0
  rw [Try.params3] at hA hval
  obtain ⟨v0, v1, d0, d1, p0, p1, rfl, rfl, rfl, h0, h1⟩ := trodAll_two hA
  obtain ⟨rfl, rfl⟩ := trodVars_none hV
  obtain ⟨m, rfl, rfl, rfl, wm⟩ := open_int Try.underlying3 (hval 0 3 v0 rfl rfl) h0
  obtain ⟨sa, sn, sc, rfl⟩ := okWide_slice Try.underlying22 (hval 1 22 v1 rfl rfl)
  have h1k := h1
  obtain ⟨fuel, hf⟩ := h1
  clear hA0
  simp only [List.append_nil] at hW'
  have hlt : ∀ x ∈ p1, x.block < W.heap.size := fun x hx => hW'.lt x (by simpa using hx)
  have hbulk : Rows.uptoBulk d1 ≤ 1048576 := by
    unfold Rows.uptoSmall at hk
    have h := of_decide_eq_true hk
    have hm : d1 ∈ [DataW.lit (.int .i64 m), d1] ++ ([] : List (DataW H)) := by simp
    exact Nat.le_trans (bulk_part hm) h
  obtain ⟨hsn, hops⟩ := open_script (x := (d1, p1)) (by simpa [Value.cells] using hf) hbulk
  have hm := wf_bounds wm
  refine (plays_walk W m sa sn sc hm.1 hm.2 hsn hops).mono fun e W' ⟨he, hfr⟩ => ?_
  subst he
  have hb := hfr.below
  refine ⟨_, rfl, post_below (pa := [] ++ p1) (pv := []) hW' (fun _ _ _ => (trodAll_cons_mk (shut_bool Try.underlying4 _) trodAll_mk0)) (fun sp hsp => ?_) (fun _ _ => rfl) (by simp) hb (ok_one (by kernel_rfl) rfl (okWide_bool_mk Try.underlying4 _))⟩
  exact trodAll_mk2 (shut_int Try.underlying3 wm) (WideElems.Trod_stays laidOut (by kernel_rfl) (of_decide_eq_true (by kernel_rfl)) h1k (fun x hx => hb.same (hlt x hx)) (fun x hx => hsp x (by simpa using hx)))

set_option maxRecDepth 100000 in
theorem lifted (os : Os) (started : os.Started) (H : Type) (enc : TypeId × Value → H) (F : Stop.Interp) :
    ReturnsInHanded {} Try.checked os 3 .any ((Rows.OpenSpec.upto Rows.devicePlaysSpec).pre6 enc Try.prog Try.f3 Rows.devicePlaysUptoRow.domain false) (((Rows.OpenSpec.upto Rows.devicePlaysSpec).at F).post enc Try.prog Try.f3 false true false false) := by
  refine returnsInHanded_of_cond (C := Try.checked) (s := Rows.OpenSpec.upto Rows.devicePlaysSpec) (k := Rows.uptoSmall) rfl own started (by kernel_rfl) Try.func3
    (OpenSpec.witness (enc := enc) (C := Try.checked) (s := Rows.OpenSpec.upto Rows.devicePlaysSpec) (k := Rows.uptoSmall) rfl false ⟨#[], #[.int .i64 0, .slice none 0 0], []⟩ 8 (by kernel_rfl) (by kernel_rfl) (by kernel_rfl)
      (x := ([.lit (.int .i64 0), .nil], [], [])) (by kernel_rfl) rfl (by kernel_rfl)) ?_
  intro W base args ds gs before hval hW _ hk _
  exact contract H enc W base args ds gs before hval hW hk

theorem over : Rows.devicePlaysUptoRow.holds Try.pinned (Rows.OpenSpec.upto Rows.devicePlaysSpec) :=
  OpenClaim.holds_of_cond 3 Try.f3 rfl rfl rfl rfl rfl rfl rfl ⟨rfl, rfl, rfl, rfl, rfl⟩ rfl rfl rfl rfl rfl (by kernel_rfl) Try.func3 (by kernel_rfl)
    (of_decide_eq_true (by kernel_rfl)) (by unfold Func.isWrapper; first | (rw [if_pos (by decide +kernel)]; kernel_rfl) | (rw [if_neg (by decide +kernel)]; exact ⟨rfl, rfl⟩))
    (fun os started H enc _ F => lifted os started H enc F)
end Go.Proofs.Ytcpealfaaghpiaa.devicePlays
namespace Go.Proofs.Ytcpealfaaghpiaa
theorem devicePlays_holds : Rows.DevicePlaysUptoSaid := devicePlays.over
end Go.Proofs.Ytcpealfaaghpiaa
