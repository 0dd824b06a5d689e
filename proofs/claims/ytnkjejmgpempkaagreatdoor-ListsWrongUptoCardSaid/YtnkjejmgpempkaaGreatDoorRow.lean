import Derived.Test.YtnkjejmgpempkaaGreatDoorWWords
import Derived.SliceStrings
import Derived.SizedLaws
import Derived.LaidMore
import Derived.Stop.LaidErr
import Derived.Lib.LaidTab
import Derived.Shelf.Vars
import Derived.ProofKit
import Derived.Test.YtnkjejmgpempkaaGreatDoorChecked
/- What a row of laws needs beyond the kit: a slice of strings opened as the walks read it; the wrap that hands on both the listed variables and the world's shape. -/
namespace Go.Proofs.Tryz.RowK
open Go Go.RowKit Go.ChangeShapes Go.WideShapes
open Go.Proofs.YtnkjejmgpempkaaGreatDoorW.PrintWords
set_option linter.unusedVariables false

theorem strs_of {H : Type} {enc : TypeId × Value → H} {P : Program} {W : World} {base : Nat} {spare : Nat → Bool} {held : Bool} {t e : TypeId} {a : Option Addr} {len cap : Nat} {d : DataW H} {ps : List MemPlace}
    (hu : P.underlying t = some (.slice e)) (he : P.underlying e = some .string) (hc : P.cellsOf e = 1)
    (h : DataW.Trod enc P W base spare held t (.slice a len cap) d ps) :
    ∃ l : List ByteArray, l.length = len ∧ len ≤ cap ∧ Kd.C Kd.string W a l.length l ∧ ∀ s ∈ l, s.size ≤ maxLen := by
  obtain ⟨fuel, hf⟩ := h
  rcases open_strings hu he hc hf with ⟨hcs, _⟩ | ⟨x, l', c', ss, hcs, _, hl, hm, hz, _, hcell, hws⟩
  · simp [Value.cells] at hcs
    obtain ⟨rfl, rfl, rfl⟩ := hcs
    exact ⟨[], rfl, Nat.le_refl _, ⟨rfl, by decide, fun h => absurd h (by decide)⟩, fun s hs => by cases hs⟩
  · simp [Value.cells] at hcs
    obtain ⟨rfl, rfl, rfl⟩ := hcs
    have hls : len ≤ ss.length := by
      rw [hz]
      split
      · exact hl
      · exact Nat.le_refl _
    have hlen : (ss.take len).length = len := by rw [List.length_take]; omega
    refine ⟨ss.take len, hlen, hl, ⟨rfl, ?_, fun _ => ⟨x, rfl, ?_⟩⟩, fun s hs => hws s (List.mem_of_mem_take hs)⟩
    · rw [hlen]
      have : maxLen ≤ 9223372036854775807 := by decide
      omega
    · intro j p hp
      have hj : j < len := by
        have := (List.getElem?_eq_some_iff.1 hp).1
        omega
      rw [List.getElem?_take_of_lt hj] at hp
      have hg : ss.getD j ByteArray.empty = p := by rw [List.getD_eq_getElem?_getD, hp]; rfl
      refine ⟨[.string p], rfl, rfl, fun i u hi => ?_⟩
      match i, hi with
      | 0, hi =>
        obtain rfl := Option.some.inj hi
        have := hcell j (by omega)
        rw [hg] at this
        show W.cell? (x.add (j * 1 + 0)) = _
        rw [show j * 1 + 0 = j by omega]
        exact this

/-- a field that is a slice of strings, or of bytes -/
theorem strs_at {H : Type} {enc : TypeId × Value → H} {P : Program} {W : World} {base : Nat} {spare : Nat → Bool} {held : Bool} {t e : TypeId} {fuel : Nat} {x : Value} {y : DataW H × List MemPlace}
    (hu : P.underlying t = some (.slice e)) (he : P.underlying e = some .string) (hc : P.cellsOf e = 1) (h : DataW.trod enc P W base spare held fuel t [x] = some y) :
    ∃ (a : Option Addr) (cap : Nat) (l : List ByteArray), x = .slice a l.length cap ∧ l.length ≤ cap ∧ Kd.C Kd.string W a l.length l ∧ ∀ s ∈ l, s.size ≤ maxLen := by
  have hx : ∃ a len cap, x = .slice a len cap := by
    rcases open_strings hu he hc h with ⟨hcs, _⟩ | ⟨x', l', c', ss, hcs, _⟩
    · injection hcs with h1; exact ⟨_, _, _, h1⟩
    · injection hcs with h1; exact ⟨_, _, _, h1⟩
  obtain ⟨a, len, cap, rfl⟩ := hx
  obtain ⟨l, rfl, h1, h2, h3⟩ := strs_of (enc := enc) (a := a) (len := len) (cap := cap) (d := y.1) (ps := y.2) hu he hc ⟨fuel, h⟩
  exact ⟨a, cap, l, rfl, h1, h2, h3⟩
theorem ints_at {H : Type} {enc : TypeId × Value → H} {P : Program} {W : World} {base : Nat} {spare : Nat → Bool} {held : Bool} {t e : TypeId} {fuel : Nat} {k : IntKind} {x : Value} {y : DataW H × List MemPlace}
    (hu : P.underlying t = some (.slice e)) (he : P.underlying e = some (.int k)) (hc : P.cellsOf e = 1) (h : DataW.trod enc P W base spare held fuel t [x] = some y) :
    ∃ (a : Option Addr) (cap : Nat) (l : List Int), x = .slice a l.length cap ∧ l.length ≤ cap ∧ ReadsInt W k a l.length l ∧ ∀ n ∈ l, (Lit.int k n).wf = true := by
  rcases open_ints hu he hc h with ⟨hcs, _⟩ | ⟨x', len, c', zs, hcs, _, hl, hm, hz, _, hcell, hw⟩
  · injection hcs with h1
    subst h1
    exact ⟨none, 0, [], rfl, Nat.le_refl _, ⟨rfl, by decide, fun h => absurd h (by decide)⟩, fun n hn => by cases hn⟩
  · injection hcs with h1
    subst h1
    have hls : len ≤ zs.length := by
      rw [hz]
      split
      · exact hl
      · exact Nat.le_refl _
    have hlen : (zs.take len).length = len := by rw [List.length_take]; omega
    have hmx : maxLen ≤ 9223372036854775807 := by decide
    refine ⟨some x', c', zs.take len, by rw [hlen], by rw [hlen]; exact hl, ⟨rfl, by rw [hlen]; omega, fun _ => ⟨x', rfl, fun j hj => ?_⟩⟩, fun n hn => hw n (List.mem_of_mem_take hn)⟩
    rw [hlen] at hj
    rw [hcell j (by omega), List.getD_eq_getElem?_getD, List.getD_eq_getElem?_getD, List.getElem?_take, if_pos hj]
/-- a struct of texts and bytes -/
theorem case_of {H : Type} {enc : TypeId × Value → H} {P : Program} {W : World} {base base' : Nat} {r : Reach} {spare : Nat → Bool} {held : Bool} {t ts tb es eb : TypeId} {f0 f1 : Field} {v : Value} {d : DataW H} {ps : List MemPlace}
    (hu : P.underlying t = some (.struct #[f0, f1])) (h0 : f0.type = ts) (h1 : f1.type = tb) (o0 : f0.offset = 0) (o1 : f1.offset = 1) (hc : P.cellsOf t = 2) (c0 : P.cellsOf ts = 1) (c1 : P.cellsOf tb = 1)
    (hus : P.underlying ts = some (.slice es)) (hes : P.underlying es = some .string) (ces : P.cellsOf es = 1) (hub : P.underlying tb = some (.slice eb)) (heb : P.underlying eb = some (.int .u8)) (ceb : P.cellsOf eb = 1)
    (ho : Value.okWide P W r base' t v) (h : DataW.Trod enc P W base spare held t v d ps) :
    ∃ (A : Option Addr) (c : Nat) (l : List ByteArray) (B : Option Addr) (e : Nat) (z : List Int), v = .agg #[.slice A l.length c, .slice B z.length e] ∧ Kd.C Kd.string W A l.length l ∧ l.length ≤ c ∧ ReadsInt W .u8 B z.length z ∧ z.length ≤ e ∧ ∀ n ∈ z, (Lit.int .u8 n).wf = true := by
  obtain ⟨cs, rfl, hz⟩ := okWide_struct hu ho
  rw [hc] at hz
  obtain ⟨x0, x1, rfl⟩ : ∃ x0 x1, cs = #[x0, x1] := by
    rcases cs with ⟨l⟩
    match l, hz with
    | [a, b], _ => exact ⟨a, b, rfl⟩
  obtain ⟨fuel, hf⟩ := h
  obtain ⟨y0, y1, n, _, _, t0, t1⟩ := trod_struct2 hu hf
  rw [h0, o0, c0] at t0
  rw [h1, o1, c1] at t1
  obtain ⟨A, c, l, rfl, q1, q2, _⟩ := strs_at hus hes ces (show DataW.trod enc P W base spare held n ts [x0] = some y0 from t0)
  obtain ⟨B, e, z, rfl, q3, q4, q5⟩ := ints_at hub heb ceb (show DataW.trod enc P W base spare held n tb [x1] = some y1 from t1)
  exact ⟨A, c, l, B, e, z, rfl, q2, q1, q4, q3, q5⟩
/-- As the elder wrap with the listed variables; and the world's shape. -/
theorem calls_shaped_and {H : Type} {enc : TypeId × Value → H} {a : Assume} {C : Checked} {os : Os} {f : FuncId} {fn : Func} {s : ChangeSpec} {conds : List PathCond} {apart fresh handsOn again : Bool} {X : World → Array Value → Prop}
    (hX : ∀ (w w' : World) (args : Array Value), w.heap = w'.heap → X w args → X w' args)
    (own : ownKnob C.prog.godebug = none) (started : os.Started) (noInit : C.prog.inits.idxOf? f = none) (hfn : C.prog.funcs[f]? = some fn)
    (witness : ∃ (w : World) (tape : Tape) (i : Input), w.os = os ∧ (w.forCall tape i).Shaped C.prog ∧ i.vars = [] ∧ Input.okWide C.prog (w.forCall tape i) .any w.heap.size f i ∧
      ((s.pre enc C.prog fn conds apart (w.forCall tape i).memory i.args ∧ X (w.forCall tape i).memory i.args) ∧ sizedMet enc C.prog fn (OpenSpec.ofChange s) apart (w.forCall tape i).memory i.args) ∧ a.holds C.prog (lone (Frame.enter C.prog f i.args .normal) [] (w.forCall tape i)))
    (contract : ∀ (W : World) (base : Nat) (args : Array Value) (ds gs : List (DataW H)) (before : List MemPlace),
      (∀ (j : Nat) t v, fn.params[j]? = some t → args[j]? = some v → Value.okWide C.prog W .any base t v) →
      DataW.Whole enc C.prog fn.params.toList s.vars apart W args.toList ds gs before →
      conds.all (PathCond.test C.prog ⟨fn.params.toList, ds, s.plain.varTypes C.prog, gs⟩) = true →
      (DataW.weightsEach C.prog (fn.params.toList ++ s.plain.varTypes C.prog) (ds ++ gs)).all (· ≤ reachBytes) = true → X W args → W.ShapedOpen C.prog →
      a.holds C.prog (lone (Frame.enter C.prog f args .normal) [] W) →
      Calls C.prog f args W fun e W' => ∃ v, e = .returned v ∧ s.post enc C.prog fn apart fresh handsOn again W args v W') :
    ReturnsInHanded a C os f .any (fun w args => (s.pre enc C.prog fn conds apart w args ∧ X w args) ∧ sizedMet enc C.prog fn (OpenSpec.ofChange s) apart w args) (s.post enc C.prog fn apart fresh handsOn again) := by
  refine returnsInHanded_of_calls own started noInit witness ?_
  intro w tape i _ hsh _ hok hpre hholds
  obtain ⟨_, _, _, fn', hfn', _, _, _, _, hval⟩ := hok
  have e : fn' = fn := Option.some.inj (hfn'.symm.trans hfn)
  subst e
  obtain ⟨⟨⟨ds, gs, before, hw, hc⟩, hx⟩, hz⟩ := hpre
  have hw' := DataW.Whole.of_heap (w' := w.forCall tape i) (by rfl) hw
  refine (contract (w.forCall tape i) w.heap.size i.args ds gs before hval hw' hc (hz.weights hw) (hX _ _ _ (by rfl) hx) hsh hholds).mono fun e W' ⟨v, he, hp⟩ => ?_
  subst he
  exact ChangeSpec.post_blind hp
theorem laid_tab {P : Program} {n : String} {k : IntKind} {zs : List Int} {r : List (String × DataW Unit)} {W : World} {g : Nat} {t e : TypeId} (h : laidMet P ((n, Lib.tabData k zs) :: r) W)
    (hg : P.globalNamed n = some g) (ht : (P.globals[g]?).map (·.type) = some t) {c : Nat} (hu : P.underlying t = some (.array c e)) (he : P.underlying e = some (.int k)) (hc : P.cellsOf e = 1) (hct : P.cellsOf t = c) : Lib.TabIs P W n k zs := by
  obtain ⟨ps, ⟨g0, t0, cs0, f0, p0, q0, hg0, ht0, hv0, hd0, _, e0⟩, _, hrows⟩ := h
  obtain rfl := Option.some.inj (hg.symm.trans hg0)
  obtain rfl := Option.some.inj (ht.symm.trans ht0)
  unfold Lib.TabIs
  rw [hv0, ← Lib.cells_of_tab (k := k) (zs := zs) hu he hc hct hd0]
theorem star : "*" ++ "errors.errorString" = "*errors.errorString" := by decide
theorem only_errorString (u : TypeId) (h : Tryz.prog.typeName? 3 u = some "*errors.errorString") : u = 166 :=
  typeName_ptr_named (nm := "errors.errorString") (by rw [star]; kernel_rfl) (by kernel_rfl) (by decide) u (by rw [star]; exact h)
end Go.Proofs.Tryz.RowK
