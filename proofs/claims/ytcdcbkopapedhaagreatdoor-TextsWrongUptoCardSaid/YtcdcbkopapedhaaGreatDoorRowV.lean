import Derived.Test.YtcdcbkopapedhaaGreatDoorWWords
import Derived.SliceStrings
import Derived.SizedLaws
import Derived.LaidMore
import Derived.Stop.LaidErr
import Derived.Lib.LaidTab
import Derived.Shelf.Vars
import Derived.ProofKit
import Derived.Test.YtcdcbkopapedhaaGreatDoorChecked
import Derived.Test.YtcdcbkopapedhaaGreatDoorRows
import Derived.Test.YtcdcbkopapedhaaGreatDoorWrG
import Derived.Deep.SlicePairs
/- What a row of laws needs beyond the kit: a slice of strings opened as the walks read it; the wrap that hands on both the listed variables and the world's shape. -/
namespace Go.Proofs.Tryz.RowK
open Go Go.RowKit Go.ChangeShapes Go.WideShapes
open Go.Proofs.YtcdcbkopapedhaaGreatDoorW.PrintWords
set_option linter.unusedVariables false

theorem strs_of {H : Type} {enc : TypeId × Value → H} {P : Program} {W : World} {base : Nat} {spare : Nat → Bool} {held : Bool} {t e : TypeId} {a : Option Addr} {len cap : Nat} {d : DataW H} {ps : List MemPlace}
    (hu : P.underlying t = some (.slice e)) (he : P.underlying e = some .string) (hc : P.cellsOf e = 1)
    (h : DataW.Trod enc P W base spare held t (.slice a len cap) d ps) :
    ∃ l : List ByteArray, l.length = len ∧ len ≤ cap ∧ Kd.C Kd.string W a l.length l ∧ ∀ s ∈ l, s.size ≤ maxLen := by
  obtain ⟨fuel, hf⟩ := h
  rcases open_strings hu he hc hf with ⟨hcs, _⟩ | ⟨x, l', c', ss, hcs, _, hl, hm, hz, _, hcell, hws⟩
  · simp [Value.cells] at hcs
    obtain ⟨rfl, rfl, rfl⟩ := hcs
    exact ⟨[], rfl, Nat.le_refl _, ⟨rfl, by decide, fun h => absurd h (by decide)⟩, fun s hs => by cases hs⟩
  · simp [Value.cells] at hcs
    obtain ⟨rfl, rfl, rfl⟩ := hcs
    have hls : len ≤ ss.length := by
      rw [hz]
      split
      · exact hl
      · exact Nat.le_refl _
    have hlen : (ss.take len).length = len := by rw [List.length_take]; omega
    refine ⟨ss.take len, hlen, hl, ⟨rfl, ?_, fun _ => ⟨x, rfl, ?_⟩⟩, fun s hs => hws s (List.mem_of_mem_take hs)⟩
    · rw [hlen]
      have : maxLen ≤ 9223372036854775807 := by decide
      omega
    · intro j p hp
      have hj : j < len := by
        have := (List.getElem?_eq_some_iff.1 hp).1
        omega
      rw [List.getElem?_take_of_lt hj] at hp
      have hg : ss.getD j ByteArray.empty = p := by rw [List.getD_eq_getElem?_getD, hp]; rfl
      refine ⟨[.string p], rfl, rfl, fun i u hi => ?_⟩
      match i, hi with
      | 0, hi =>
        obtain rfl := Option.some.inj hi
        have := hcell j (by omega)
        rw [hg] at this
        show W.cell? (x.add (j * 1 + 0)) = _
        rw [show j * 1 + 0 = j by omega]
        exact this

/-- a field that is a slice of strings, or of bytes -/
theorem strs_at {H : Type} {enc : TypeId × Value → H} {P : Program} {W : World} {base : Nat} {spare : Nat → Bool} {held : Bool} {t e : TypeId} {fuel : Nat} {x : Value} {y : DataW H × List MemPlace}
    (hu : P.underlying t = some (.slice e)) (he : P.underlying e = some .string) (hc : P.cellsOf e = 1) (h : DataW.trod enc P W base spare held fuel t [x] = some y) :
    ∃ (a : Option Addr) (cap : Nat) (l : List ByteArray), x = .slice a l.length cap ∧ l.length ≤ cap ∧ Kd.C Kd.string W a l.length l ∧ ∀ s ∈ l, s.size ≤ maxLen := by
  have hx : ∃ a len cap, x = .slice a len cap := by
    rcases open_strings hu he hc h with ⟨hcs, _⟩ | ⟨x', l', c', ss, hcs, _⟩
    · injection hcs with h1; exact ⟨_, _, _, h1⟩
    · injection hcs with h1; exact ⟨_, _, _, h1⟩
  obtain ⟨a, len, cap, rfl⟩ := hx
  obtain ⟨l, rfl, h1, h2, h3⟩ := strs_of (enc := enc) (a := a) (len := len) (cap := cap) (d := y.1) (ps := y.2) hu he hc ⟨fuel, h⟩
  exact ⟨a, cap, l, rfl, h1, h2, h3⟩
theorem ints_at {H : Type} {enc : TypeId × Value → H} {P : Program} {W : World} {base : Nat} {spare : Nat → Bool} {held : Bool} {t e : TypeId} {fuel : Nat} {k : IntKind} {x : Value} {y : DataW H × List MemPlace}
    (hu : P.underlying t = some (.slice e)) (he : P.underlying e = some (.int k)) (hc : P.cellsOf e = 1) (h : DataW.trod enc P W base spare held fuel t [x] = some y) :
    ∃ (a : Option Addr) (cap : Nat) (l : List Int), x = .slice a l.length cap ∧ l.length ≤ cap ∧ ReadsInt W k a l.length l ∧ ∀ n ∈ l, (Lit.int k n).wf = true := by
  rcases open_ints hu he hc h with ⟨hcs, _⟩ | ⟨x', len, c', zs, hcs, _, hl, hm, hz, _, hcell, hw⟩
  · injection hcs with h1
    subst h1
    exact ⟨none, 0, [], rfl, Nat.le_refl _, ⟨rfl, by decide, fun h => absurd h (by decide)⟩, fun n hn => by cases hn⟩
  · injection hcs with h1
    subst h1
    have hls : len ≤ zs.length := by
      rw [hz]
      split
      · exact hl
      · exact Nat.le_refl _
    have hlen : (zs.take len).length = len := by rw [List.length_take]; omega
    have hmx : maxLen ≤ 9223372036854775807 := by decide
    refine ⟨some x', c', zs.take len, by rw [hlen], by rw [hlen]; exact hl, ⟨rfl, by rw [hlen]; omega, fun _ => ⟨x', rfl, fun j hj => ?_⟩⟩, fun n hn => hw n (List.mem_of_mem_take hn)⟩
    rw [hlen] at hj
    rw [hcell j (by omega), List.getD_eq_getElem?_getD, List.getD_eq_getElem?_getD, List.getElem?_take, if_pos hj]
/-- a struct of texts and bytes -/
theorem case_of {H : Type} {enc : TypeId × Value → H} {P : Program} {W : World} {base base' : Nat} {r : Reach} {spare : Nat → Bool} {held : Bool} {t ts tb es eb : TypeId} {f0 f1 : Field} {v : Value} {d : DataW H} {ps : List MemPlace}
    (hu : P.underlying t = some (.struct #[f0, f1])) (h0 : f0.type = ts) (h1 : f1.type = tb) (o0 : f0.offset = 0) (o1 : f1.offset = 1) (hc : P.cellsOf t = 2) (c0 : P.cellsOf ts = 1) (c1 : P.cellsOf tb = 1)
    (hus : P.underlying ts = some (.slice es)) (hes : P.underlying es = some .string) (ces : P.cellsOf es = 1) (hub : P.underlying tb = some (.slice eb)) (heb : P.underlying eb = some (.int .u8)) (ceb : P.cellsOf eb = 1)
    (ho : Value.okWide P W r base' t v) (h : DataW.Trod enc P W base spare held t v d ps) :
    ∃ (A : Option Addr) (c : Nat) (l : List ByteArray) (B : Option Addr) (e : Nat) (z : List Int), v = .agg #[.slice A l.length c, .slice B z.length e] ∧ Kd.C Kd.string W A l.length l ∧ l.length ≤ c ∧ ReadsInt W .u8 B z.length z ∧ z.length ≤ e ∧ ∀ n ∈ z, (Lit.int .u8 n).wf = true := by
  obtain ⟨cs, rfl, hz⟩ := okWide_struct hu ho
  rw [hc] at hz
  obtain ⟨x0, x1, rfl⟩ : ∃ x0 x1, cs = #[x0, x1] := by
    rcases cs with ⟨l⟩
    match l, hz with
    | [a, b], _ => exact ⟨a, b, rfl⟩
  obtain ⟨fuel, hf⟩ := h
  obtain ⟨y0, y1, n, _, _, t0, t1⟩ := trod_struct2 hu hf
  rw [h0, o0, c0] at t0
  rw [h1, o1, c1] at t1
  obtain ⟨A, c, l, rfl, q1, q2, _⟩ := strs_at hus hes ces (show DataW.trod enc P W base spare held n ts [x0] = some y0 from t0)
  obtain ⟨B, e, z, rfl, q3, q4, q5⟩ := ints_at hub heb ceb (show DataW.trod enc P W base spare held n tb [x1] = some y1 from t1)
  exact ⟨A, c, l, B, e, z, rfl, q2, q1, q4, q3, q5⟩
/-- As the elder wrap with the listed variables; and the world's shape. -/
theorem calls_shaped_and {H : Type} {enc : TypeId × Value → H} {a : Assume} {C : Checked} {os : Os} {f : FuncId} {fn : Func} {s : ChangeSpec} {conds : List PathCond} {apart fresh handsOn again : Bool} {X : World → Array Value → Prop}
    (hX : ∀ (w w' : World) (args : Array Value), w.heap = w'.heap → X w args → X w' args)
    (own : ownKnob C.prog.godebug = none) (started : os.Started) (noInit : C.prog.inits.idxOf? f = none) (hfn : C.prog.funcs[f]? = some fn)
    (witness : ∃ (w : World) (tape : Tape) (i : Input), w.os = os ∧ (w.forCall tape i).Shaped C.prog ∧ i.vars = [] ∧ Input.okWide C.prog (w.forCall tape i) .any w.heap.size f i ∧
      ((s.pre enc C.prog fn conds apart (w.forCall tape i).memory i.args ∧ X (w.forCall tape i).memory i.args) ∧ sizedMet enc C.prog fn (OpenSpec.ofChange s) apart (w.forCall tape i).memory i.args) ∧ a.holds C.prog (lone (Frame.enter C.prog f i.args .normal) [] (w.forCall tape i)))
    (contract : ∀ (W : World) (base : Nat) (args : Array Value) (ds gs : List (DataW H)) (before : List MemPlace),
      (∀ (j : Nat) t v, fn.params[j]? = some t → args[j]? = some v → Value.okWide C.prog W .any base t v) →
      DataW.Whole enc C.prog fn.params.toList s.vars apart W args.toList ds gs before →
      conds.all (PathCond.test C.prog ⟨fn.params.toList, ds, s.plain.varTypes C.prog, gs⟩) = true →
      (DataW.weightsEach C.prog (fn.params.toList ++ s.plain.varTypes C.prog) (ds ++ gs)).all (· ≤ reachBytes) = true → X W args → W.ShapedOpen C.prog →
      a.holds C.prog (lone (Frame.enter C.prog f args .normal) [] W) →
      Calls C.prog f args W fun e W' => ∃ v, e = .returned v ∧ s.post enc C.prog fn apart fresh handsOn again W args v W') :
    ReturnsInHanded a C os f .any (fun w args => (s.pre enc C.prog fn conds apart w args ∧ X w args) ∧ sizedMet enc C.prog fn (OpenSpec.ofChange s) apart w args) (s.post enc C.prog fn apart fresh handsOn again) := by
  refine returnsInHanded_of_calls own started noInit witness ?_
  intro w tape i _ hsh _ hok hpre hholds
  obtain ⟨_, _, _, fn', hfn', _, _, _, _, hval⟩ := hok
  have e : fn' = fn := Option.some.inj (hfn'.symm.trans hfn)
  subst e
  obtain ⟨⟨⟨ds, gs, before, hw, hc⟩, hx⟩, hz⟩ := hpre
  have hw' := DataW.Whole.of_heap (w' := w.forCall tape i) (by rfl) hw
  refine (contract (w.forCall tape i) w.heap.size i.args ds gs before hval hw' hc (hz.weights hw) (hX _ _ _ (by rfl) hx) hsh hholds).mono fun e W' ⟨v, he, hp⟩ => ?_
  subst he
  exact ChangeSpec.post_blind hp
theorem laid_tab {P : Program} {n : String} {k : IntKind} {zs : List Int} {r : List (String × DataW Unit)} {W : World} {g : Nat} {t e : TypeId} (h : laidMet P ((n, Lib.tabData k zs) :: r) W)
    (hg : P.globalNamed n = some g) (ht : (P.globals[g]?).map (·.type) = some t) {c : Nat} (hu : P.underlying t = some (.array c e)) (he : P.underlying e = some (.int k)) (hc : P.cellsOf e = 1) (hct : P.cellsOf t = c) : Lib.TabIs P W n k zs := by
  obtain ⟨ps, ⟨g0, t0, cs0, f0, p0, q0, hg0, ht0, hv0, hd0, _, e0⟩, _, hrows⟩ := h
  obtain rfl := Option.some.inj (hg.symm.trans hg0)
  obtain rfl := Option.some.inj (ht.symm.trans ht0)
  unfold Lib.TabIs
  rw [hv0, ← Lib.cells_of_tab (k := k) (zs := zs) hu he hc hct hd0]
theorem star : "*" ++ "errors.errorString" = "*errors.errorString" := by decide
theorem only_errorString (u : TypeId) (h : Tryz.prog.typeName? 3 u = some "*errors.errorString") : u = 162 :=
  typeName_ptr_named (nm := "errors.errorString") (by rw [star]; kernel_rfl) (by kernel_rfl) (by decide) u (by rw [star]; exact h)
end Go.Proofs.Tryz.RowK
/- What the bound of an 'upto' statement gives for a row of texts. -/
namespace Go.Proofs.YtcdcbkopapedhaaGreatDoor.upto
open Go Go.RowKit Go.ChangeShapes Go.WideShapes Go.Proofs.YtcdcbkopapedhaaGreatDoorW.PrintWords
set_option linter.unusedVariables false
theorem bulk_strs {H : Type} (l : List ByteArray) : Rows.uptoBulkAll (H := H) (strs l) = (l.map (·.size)).sum + l.length := by
  induction l with
  | nil => rfl
  | cons s r ih =>
    have e : strs (H := H) (s :: r) = .lit (.string s.data.toList) :: strs r := rfl
    rw [e]
    simp only [Rows.uptoBulkAll, Rows.uptoBulk, ih, List.map_cons, List.sum_cons, List.length_cons]
    have : s.data.toList.length = s.size := Array.length_toList
    omega
theorem strs_upto {H : Type} {enc : TypeId × Value → H} {P : Program} {W : World} {base : Nat} {spare : Nat → Bool} {held : Bool} {t e : TypeId} {a : Option Addr} {len cap : Nat} {d : DataW H} {ps : List MemPlace}
    (hu : P.underlying t = some (.slice e)) (he : P.underlying e = some .string) (hc : P.cellsOf e = 1)
    (h : DataW.Trod enc P W base spare held t (.slice a len cap) d ps) :
    ∃ l : List ByteArray, l.length = len ∧ len ≤ cap ∧ Kd.C Kd.string W a l.length l ∧ (l.map (·.size)).sum + l.length ≤ Rows.uptoBulk d := by
  obtain ⟨fuel, hf⟩ := h
  rcases open_strings hu he hc hf with ⟨hcs, _⟩ | ⟨x, l', c', ss, hcs, _, hl, hm, hz, hd, hcell, hws⟩
  · simp [Value.cells] at hcs
    obtain ⟨rfl, rfl, rfl⟩ := hcs
    exact ⟨[], rfl, Nat.le_refl _, ⟨rfl, by decide, fun h => absurd h (by decide)⟩, by simp⟩
  · simp [Value.cells] at hcs
    obtain ⟨rfl, rfl, rfl⟩ := hcs
    injection hd with hd _
    subst hd
    have hls : len ≤ ss.length := by
      rw [hz]
      split
      · exact hl
      · exact Nat.le_refl _
    have hlen : (ss.take len).length = len := by rw [List.length_take]; omega
    refine ⟨ss.take len, hlen, hl, ⟨rfl, ?_, fun _ => ⟨x, rfl, ?_⟩⟩, ?_⟩
    · rw [hlen]
      have : maxLen ≤ 9223372036854775807 := by decide
      omega
    · intro j p hp
      have hj : j < len := by
        have := (List.getElem?_eq_some_iff.1 hp).1
        omega
      rw [List.getElem?_take_of_lt hj] at hp
      have hg : ss.getD j ByteArray.empty = p := by rw [List.getD_eq_getElem?_getD, hp]; rfl
      refine ⟨[.string p], rfl, rfl, fun i u hi => ?_⟩
      match i, hi with
      | 0, hi =>
        obtain rfl := Option.some.inj hi
        have := hcell j (by omega)
        rw [hg] at this
        show W.cell? (x.add (j * 1 + 0)) = _
        rw [show j * 1 + 0 = j by omega]
        exact this
    · simp only [Rows.uptoBulk, bulk_strs]
      omega
theorem bound {H : Type} {l : List (DataW H)} (hk : Rows.uptoSmall H l = true) : Rows.uptoBulkAll l ≤ 1048576 := of_decide_eq_true hk
end Go.Proofs.YtcdcbkopapedhaaGreatDoor.upto
/- A parameter that is a value (of any kind), opened. -/
namespace Go.Proofs.Tryz.RowV
open Go Go.RowKit Go.ChangeShapes Go.WideShapes Go.Deep
open Go.Proofs.YtcdcbkopapedhaaGreatDoorW.PrintWords
open Go.Proofs.Tryz.Vl (gR scs pcs mcs PR MK scs_len pcs_len mcs_len)
set_option linter.unusedVariables false
section
variable {P : Program} {w : World} {r : Reach} {base : Nat} {u : TypeId} {A : Option Addr} {len cap : Nat}
theorem cell_slice (h : Cell.okWide P w r base u (.slice A len cap)) : len ≤ cap ∧ cap ≤ 9223372036854775807 ∧ ∀ ad, A = some ad → ad.spot = none := by
  have h2 : Cell.ok P w r base u (.slice A len cap) := by
    unfold Cell.okWide at h
    split at h <;> first | exact h | (rename_i h1; cases h1)
  have hmx : IntKind.i64.max = 9223372036854775807 := by decide
  unfold Cell.ok at h2
  split at h2
  case h_7 =>
    rename_i hv
    injection hv with e1 e2 e3
    subst e1
    subst e2
    subst e3
    exact ⟨Nat.le_refl _, by decide, fun ad e => by cases e⟩
  case h_9 =>
    rename_i hv
    injection hv with e1 e2 e3
    subst e1
    subst e2
    subst e3
    obtain ⟨h3, h4, h5⟩ := h2
    rw [hmx] at h4
    exact ⟨h3, by omega, fun ad e => by
      injection e with e
      subst e
      exact h5.2.1⟩
  all_goals first | exact h2.elim | (rename_i hv; cases hv)
end
section
variable {H : Type} {enc : TypeId × Value → H} {P : Program} {W : World} {base : Nat} {spare : Nat → Bool} {held : Bool}
theorem strs_gR {t e : TypeId} {a : Option Addr} {len cap : Nat} {d : DataW H} {ps : List MemPlace}
    (hu : P.underlying t = some (.slice e)) (he : P.underlying e = some .string) (hc : P.cellsOf e = 1) (hcap : cap ≤ 9223372036854775807) (hsp : ∀ ad, a = some ad → ad.spot = none)
    (h : DataW.Trod enc P W base spare held t (.slice a len cap) d ps) : ∃ l : List ByteArray, l.length = len ∧ len ≤ cap ∧ gR W (.slice a l.length cap) l.length (scs l) ∧ (l.map (·.size)).sum + l.length ≤ Go.Proofs.YtcdcbkopapedhaaGreatDoor.Rows.uptoBulk d := by
  obtain ⟨l, rfl, h1, h2, h3⟩ := Go.Proofs.YtcdcbkopapedhaaGreatDoor.upto.strs_upto hu he hc h
  have h4 := Kd.reads_of_C (d := ByteArray.empty) h2
  refine ⟨l, rfl, h1, ⟨a, cap, rfl, h1, hcap, hsp, fun h0 => ?_⟩, h3⟩
  obtain ⟨ad, e, hcl⟩ := h4.2.2 h0
  refine ⟨ad, e, fun j v hv => ?_⟩
  have hj : j < l.length := by
    have := (List.getElem?_eq_some_iff.1 hv).1
    rwa [scs_len] at this
  have h5 := Go.Proofs.Tryz.Vl.scs_at l j l[j] (List.getElem?_eq_getElem hj)
  rw [h5] at hv
  obtain rfl := Option.some.inj hv
  rw [hcl j hj]
  congr 2
  rw [List.getD_eq_getElem?_getD, List.getElem?_eq_getElem hj]
  rfl
def strV : Value → ByteArray
  | .string s => s
  | _ => ByteArray.empty
def intV : Value → Int
  | .int _ n => n
  | _ => 0
theorem cells2 {α : Type} (f : α → List Value) (hf : ∀ x, (f x).length = 2) (l : List α) (j : Nat) (v : Value) (h : (l.flatMap f)[j]? = some v) : ∃ i q x, j = i * 2 + q ∧ q < 2 ∧ l[i]? = some x ∧ (f x)[q]? = some v := by
  induction l generalizing j with
  | nil => simp at h
  | cons y r ih =>
    rw [List.flatMap_cons] at h
    by_cases hj : j < 2
    · rw [List.getElem?_append_left (by rw [hf]; exact hj)] at h
      exact ⟨0, j, y, by omega, hj, rfl, h⟩
    · rw [List.getElem?_append_right (by rw [hf]; omega), hf] at h
      obtain ⟨i, q, x, h1, h2, h3, h4⟩ := ih (j - 2) h
      exact ⟨i + 1, q, x, by omega, h2, by simpa using h3, h4⟩
theorem pairs_gR {t e : TypeId} {f0 f1 : Field} {A : Option Addr} {len cap : Nat} {fuel : Nat} {y : DataW H × List MemPlace} (ht : P.underlying t = some (.slice e)) (he : P.underlying e = some (.struct #[f0, f1]))
    (ce : P.cellsOf e = 2) (o0 : f0.offset = 0) (o1 : f1.offset = 1) (c0 : P.cellsOf f0.type = 1) (c1 : P.cellsOf f1.type = 1) (u0 : P.underlying f0.type = some .string) (u1 : P.underlying f1.type = some .string)
    (hsp : ∀ ad, A = some ad → ad.spot = none) (h : DataW.trod enc P W base spare held fuel t [.slice A len cap] = some y) : ∃ l : List PR, l.length = len ∧ len ≤ cap ∧ gR W (.slice A l.length cap) l.length (pcs l) := by
  rcases open_slice_pairs ht he ce o0 o1 c0 c1 h with ⟨hcs, _⟩ | ⟨a, len', cap', m, n, V0, V1, D0, D1, P0, P1, hcs, _, hl, hm, hmm, _, hel⟩
  · injection hcs with h1
    injection h1 with h1 h2 h3
    subst h1
    subst h2
    subst h3
    exact ⟨[], rfl, Nat.le_refl _, none, 0, rfl, by simp, by decide, hsp, fun h => absurd h (by simp)⟩
  · injection hcs with h1
    injection h1 with h1 h2 h3
    subst h1
    subst h2
    subst h3
    have hlm : len ≤ m := by rw [hmm]; split <;> omega
    have hx : maxLen ≤ 9223372036854775807 := by decide
    refine ⟨(List.range len).map (fun i => (strV (V0 i), strV (V1 i))), by simp, hl, some a, cap, by simp, by simpa using hl, by omega, hsp, fun _ => ⟨a, rfl, fun j v hv => ?_⟩⟩
    obtain ⟨i, q, x, rfl, hq, hi, hxq⟩ := cells2 Go.Proofs.Tryz.Vl.pc (fun _ => rfl) _ j v hv
    have hil : i < len := by
      have := (List.getElem?_eq_some_iff.1 hi).1
      simpa using this
    rw [List.getElem?_map, List.getElem?_range hil] at hi
    obtain rfl := Option.some.inj hi
    obtain ⟨h1, h2, h3, h4⟩ := hel i (by omega)
    obtain ⟨s0, e0, _⟩ := DataW.trod_string u0 h3
    obtain ⟨s1, e1, _⟩ := DataW.trod_string u1 h4
    injection e0 with e0
    injection e1 with e1
    match q, hq with
    | 0, _ =>
      rw [Nat.add_zero, h1, e0]
      have hxq' : some (Value.string (strV (V0 i))) = some v := hxq
      rw [e0] at hxq'
      exact hxq'
    | 1, _ =>
      rw [h2, e1]
      have hxq' : some (Value.string (strV (V1 i))) = some v := hxq
      rw [e1] at hxq'
      exact hxq'
theorem marks_gR {t e : TypeId} {f0 f1 : Field} {A : Option Addr} {len cap : Nat} {fuel : Nat} {y : DataW H × List MemPlace} (ht : P.underlying t = some (.slice e)) (he : P.underlying e = some (.struct #[f0, f1]))
    (ce : P.cellsOf e = 2) (o0 : f0.offset = 0) (o1 : f1.offset = 1) (c0 : P.cellsOf f0.type = 1) (c1 : P.cellsOf f1.type = 1) (u0 : P.underlying f0.type = some .string) (u1 : P.underlying f1.type = some (.int .i64))
    (hsp : ∀ ad, A = some ad → ad.spot = none) (h : DataW.trod enc P W base spare held fuel t [.slice A len cap] = some y) : ∃ l : List MK, l.length = len ∧ len ≤ cap ∧ gR W (.slice A l.length cap) l.length (mcs l) ∧ ∀ p ∈ l, (Lit.int .i64 p.2).wf = true := by
  rcases open_slice_pairs ht he ce o0 o1 c0 c1 h with ⟨hcs, _⟩ | ⟨a, len', cap', m, n, V0, V1, D0, D1, P0, P1, hcs, _, hl, hm, hmm, _, hel⟩
  · injection hcs with h1
    injection h1 with h1 h2 h3
    subst h1
    subst h2
    subst h3
    exact ⟨[], rfl, Nat.le_refl _, ⟨none, 0, rfl, by simp, by decide, hsp, fun h => absurd h (by simp)⟩, fun p hp => by cases hp⟩
  · injection hcs with h1
    injection h1 with h1 h2 h3
    subst h1
    subst h2
    subst h3
    have hlm : len ≤ m := by rw [hmm]; split <;> omega
    have hx : maxLen ≤ 9223372036854775807 := by decide
    refine ⟨(List.range len).map (fun i => (strV (V0 i), intV (V1 i))), by simp, hl, ⟨some a, cap, by simp, by simpa using hl, by omega, hsp, fun _ => ⟨a, rfl, fun j v hv => ?_⟩⟩, fun p hp => ?_⟩
    · obtain ⟨i, q, x, rfl, hq, hi, hxq⟩ := cells2 Go.Proofs.Tryz.Vl.mc (fun _ => rfl) _ j v hv
      have hil : i < len := by
        have := (List.getElem?_eq_some_iff.1 hi).1
        simpa using this
      rw [List.getElem?_map, List.getElem?_range hil] at hi
      obtain rfl := Option.some.inj hi
      obtain ⟨h1, h2, h3, h4⟩ := hel i (by omega)
      obtain ⟨s0, e0, _⟩ := DataW.trod_string u0 h3
      obtain ⟨s1, e1, _⟩ := DataW.trod_int u1 h4
      injection e0 with e0
      injection e1 with e1
      match q, hq with
      | 0, _ =>
        rw [Nat.add_zero, h1, e0]
        have hxq' : some (Value.string (strV (V0 i))) = some v := hxq
        rw [e0] at hxq'
        exact hxq'
      | 1, _ =>
        rw [h2, e1]
        have hxq' : some (Value.int .i64 (intV (V1 i))) = some v := hxq
        rw [e1] at hxq'
        exact hxq'
    · obtain ⟨i, hi, rfl⟩ := List.mem_map.1 hp
      obtain ⟨h1, h2, h3, h4⟩ := hel i (by have := List.mem_range.1 hi; omega)
      obtain ⟨s1, e1, _, hw⟩ := DataW.trod_int u1 h4
      injection e1 with e1
      show (Lit.int .i64 (intV (V1 i))).wf = true
      rw [e1]
      exact hw
/-- a value of any kind -/
theorem value_of {t es ep em : TypeId} {f0 f1 f2 f3 f4 : Field} {p0 p1 m0 m1 : Field} {r : Reach} {b0 : Nat} {v : Value} {d : DataW H} {ps : List MemPlace}
    (hu : P.underlying t = some (.struct #[f0, f1, f2, f3, f4])) (hc : P.cellsOf t = 5) (hf : (f0.offset, f1.offset, f2.offset, f3.offset, f4.offset) = (0, 1, 2, 3, 4)) (hcc : (P.cellsOf f0.type, P.cellsOf f1.type, P.cellsOf f2.type, P.cellsOf f3.type, P.cellsOf f4.type) = (1, 1, 1, 1, 1))
    (h0 : P.underlying f0.type = some (.int .u8)) (h1 : P.underlying f1.type = some .string) (h2 : P.underlying f2.type = some (.slice es)) (h3 : P.underlying f3.type = some (.slice ep)) (h4 : P.underlying f4.type = some (.slice em))
    (hes : P.underlying es = some .string) (ces : P.cellsOf es = 1) (hep : P.underlying ep = some (.struct #[p0, p1])) (cep : P.cellsOf ep = 2) (hem : P.underlying em = some (.struct #[m0, m1])) (cem : P.cellsOf em = 2)
    (po : (p0.offset, p1.offset, m0.offset, m1.offset) = (0, 1, 0, 1)) (pcc : (P.cellsOf p0.type, P.cellsOf p1.type, P.cellsOf m0.type, P.cellsOf m1.type) = (1, 1, 1, 1)) (pu0 : P.underlying p0.type = some .string) (pu1 : P.underlying p1.type = some .string) (mu0 : P.underlying m0.type = some .string) (mu1 : P.underlying m1.type = some (.int .i64))
    (ho : Value.okWide P W r b0 t v) (h : DataW.Trod enc P W base spare held t v d ps) :
    ∃ (k : Int) (s : ByteArray) (x y u : Value) (l : List ByteArray) (q : List PR) (z : List MK), v = .agg #[.int .u8 k, .string s, x, y, u] ∧ (0 ≤ k ∧ k ≤ 255) ∧ s.size ≤ maxLen ∧ gR W x l.length (scs l) ∧ gR W y q.length (pcs q) ∧ gR W u z.length (mcs z) ∧ (∀ p ∈ z, (Lit.int .i64 p.2).wf = true) ∧ (l.map (·.size)).sum + l.length ≤ Go.Proofs.YtcdcbkopapedhaaGreatDoor.Rows.uptoBulk d := by
  simp only [Prod.mk.injEq] at hf hcc po pcc
  obtain ⟨o0, o1, o2, o3, o4⟩ := hf
  obtain ⟨k0, k1, k2, k3, k4⟩ := hcc
  obtain ⟨po0, po1, mo0, mo1⟩ := po
  obtain ⟨pc0, pc1, mc0, mc1⟩ := pcc
  obtain ⟨cs, rfl, hz⟩ := okWide_struct hu ho
  rw [hc] at hz
  obtain ⟨x0, x1, x2, x3, x4, rfl⟩ : ∃ x0 x1 x2 x3 x4, cs = #[x0, x1, x2, x3, x4] := by
    rcases cs with ⟨l⟩
    match l, hz with
    | [a, b, c, d, e], _ => exact ⟨a, b, c, d, e, rfl⟩
  have hrow : Row.okWide P W r b0 t #[x0, x1, x2, x3, x4] := by
    simp only [Value.okWide, hu] at ho
    obtain ⟨cs, e, _, hr⟩ := ho
    injection e with e
    rw [e]
    exact hr
  obtain ⟨ts', _, _, hcell⟩ := hrow
  obtain ⟨_, _, okx⟩ := hcell 2 x2 rfl
  obtain ⟨_, _, oky⟩ := hcell 3 x3 rfl
  obtain ⟨_, _, oku⟩ := hcell 4 x4 rfl
  obtain ⟨fuel, hf⟩ := h
  obtain ⟨xs, n, _, hd, _, hlen, hfld⟩ := DataW.trod_struct hu hf
  obtain ⟨y0, y1, y2, y3, y4, rfl⟩ : ∃ y0 y1 y2 y3 y4, xs = [y0, y1, y2, y3, y4] := by
    match xs, hlen with
    | [a, b, c, d, e], _ => exact ⟨a, b, c, d, e, rfl⟩
  have t0 : DataW.trod enc P W base spare held n f0.type [x0] = some y0 := by have := hfld 0 f0 rfl; simpa [o0, k0, Value.cells] using this
  have t1 : DataW.trod enc P W base spare held n f1.type [x1] = some y1 := by have := hfld 1 f1 rfl; simpa [o1, k1, Value.cells] using this
  have t2 : DataW.trod enc P W base spare held n f2.type [x2] = some y2 := by have := hfld 2 f2 rfl; simpa [o2, k2, Value.cells] using this
  have t3 : DataW.trod enc P W base spare held n f3.type [x3] = some y3 := by have := hfld 3 f3 rfl; simpa [o3, k3, Value.cells] using this
  have t4 : DataW.trod enc P W base spare held n f4.type [x4] = some y4 := by have := hfld 4 f4 rfl; simpa [o4, k4, Value.cells] using this
  obtain ⟨k, e0, _, hw⟩ := DataW.trod_int h0 t0
  injection e0 with e0
  subst e0
  obtain ⟨s, e1, _, hs⟩ := DataW.trod_string h1 t1
  injection e1 with e1
  subst e1
  have shp : ∀ {f : Field} {e : TypeId} {x : Value} {y : DataW H × List MemPlace}, P.underlying f.type = some (.slice e) → DataW.trod enc P W base spare held n f.type [x] = some y → ∃ a len cap, x = .slice a len cap := by
    intro f e x y hu h
    rcases open_slice hu h with ⟨hcs, _⟩ | ⟨a, len, cap, _, _, _, _, hcs, _⟩
    · injection hcs with h1; exact ⟨_, _, _, h1⟩
    · injection hcs with h1; exact ⟨_, _, _, h1⟩
  obtain ⟨A2, n2, c2, rfl⟩ := shp h2 t2
  obtain ⟨A3, n3, c3, rfl⟩ := shp h3 t3
  obtain ⟨A4, n4, c4, rfl⟩ := shp h4 t4
  obtain ⟨q2a, q2b, q2c⟩ := cell_slice okx
  obtain ⟨_, _, q3c⟩ := cell_slice oky
  obtain ⟨_, _, q4c⟩ := cell_slice oku
  obtain ⟨l, rfl, _, g2, hb⟩ := strs_gR (enc := enc) (d := y2.1) (ps := y2.2) h2 hes ces q2b q2c ⟨n, t2⟩
  obtain ⟨q, rfl, _, g3⟩ := pairs_gR h3 hep cep po0 po1 pc0 pc1 pu0 pu1 q3c t3
  obtain ⟨z, rfl, _, g4, hzw⟩ := marks_gR h4 hem cem mo0 mo1 mc0 mc1 mu0 mu1 q4c t4
  refine ⟨k, s, _, _, _, l, q, z, rfl, ?_, hs, g2, g3, g4, hzw, ?_⟩
  · simp only [Lit.wf, Bool.and_eq_true, decide_eq_true_eq] at hw
    exact hw
  · rw [Prod.mk.injEq] at hd
    rw [hd.1]
    simp only [Go.Proofs.YtcdcbkopapedhaaGreatDoor.Rows.uptoBulk, List.map_cons, List.map_nil, Go.Proofs.YtcdcbkopapedhaaGreatDoor.Rows.uptoBulkAll]
    omega
end
end Go.Proofs.Tryz.RowV
