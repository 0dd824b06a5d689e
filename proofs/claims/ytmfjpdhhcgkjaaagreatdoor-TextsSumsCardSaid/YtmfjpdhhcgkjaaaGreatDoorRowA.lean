import Derived.Test.YtmfjpdhhcgkjaaaGreatDoorRow
import Derived.Laws.IdiomArrays
/- Arrays among a law's parameters, opened. -/
namespace Go.Proofs.Tryz.RowK
open Go Go.RowKit Go.ChangeShapes Go.WideShapes
set_option linter.unusedVariables false
theorem okWide_array {P : Program} {w : World} {r : Reach} {base n : Nat} {t e : TypeId} {v : Value} (ht : P.underlying t = some (.array n e)) (h : Value.okWide P w r base t v) : ∃ cs, v = .agg cs ∧ cs.size = P.cellsOf t := by
  simp only [Value.okWide, ht] at h
  obtain ⟨cs, h1, h2, _⟩ := h
  exact ⟨cs, h1, h2⟩
section
variable {H : Type} {enc : TypeId × Value → H} {P : Program} {W : World} {base base' : Nat} {r : Reach} {spare : Nat → Bool} {held : Bool} {t e : TypeId} {v : Value} {d : DataW H} {ps : List MemPlace}
theorem trod_array2 {w : World} {fuel : Nat} {c0 c1 : Value} {x : DataW H × List MemPlace} (ht : P.underlying t = some (.array 2 e)) (hce : P.cellsOf e = 1)
    (h : DataW.trod enc P w base spare held fuel t [c0, c1] = some x) :
    ∃ y0 y1 n, DataW.trod enc P w base spare held n e [c0] = some y0 ∧ DataW.trod enc P w base spare held n e [c1] = some y1 := by
  cases fuel with
  | zero => simp [DataW.trod] at h
  | succ n =>
    unfold DataW.trod at h
    rw [ht] at h
    have r2 : List.range 2 = [0, 1] := rfl
    simp [r2, hce] at h
    obtain ⟨_, h⟩ := h
    cases h0 : DataW.trod enc P w base spare held n e [c0] with
    | none => simp [h0] at h
    | some y0 =>
      cases h1 : DataW.trod enc P w base spare held n e [c1] with
      | none => simp [h0, h1] at h
      | some y1 => exact ⟨y0, y1, n, h0, h1⟩
theorem arr2_str (hu : P.underlying t = some (.array 2 e)) (he : P.underlying e = some .string) (hce : P.cellsOf e = 1) (hct : P.cellsOf t = 2) (ho : Value.okWide P W r base' t v) (h : DataW.Trod enc P W base spare held t v d ps) :
    ∃ a b : ByteArray, v = .agg #[.string a, .string b] := by
  obtain ⟨cs, rfl, hz⟩ := okWide_array hu ho
  rw [hct] at hz
  obtain ⟨x0, x1, rfl⟩ : ∃ x0 x1, cs = #[x0, x1] := by
    rcases cs with ⟨l⟩
    match l, hz with
    | [a, b], _ => exact ⟨a, b, rfl⟩
  obtain ⟨fuel, hf⟩ := h
  obtain ⟨y0, y1, n, t0, t1⟩ := trod_array2 hu hce (show DataW.trod enc P W base spare held fuel t [x0, x1] = some _ from hf)
  obtain ⟨a, ha, _⟩ := DataW.trod_string he t0
  obtain ⟨b, hb, _⟩ := DataW.trod_string he t1
  injection ha with ha
  injection hb with hb
  subst ha
  subst hb
  exact ⟨a, b, rfl⟩
theorem arr3_int {k : IntKind} (hu : P.underlying t = some (.array 3 e)) (he : P.underlying e = some (.int k)) (hce : P.cellsOf e = 1) (hct : P.cellsOf t = 3) (ho : Value.okWide P W r base' t v) (h : DataW.Trod enc P W base spare held t v d ps) :
    ∃ a b c : Int, v = .agg #[.int k a, .int k b, .int k c] ∧ (Lit.int k a).wf = true ∧ (Lit.int k b).wf = true ∧ (Lit.int k c).wf = true := by
  obtain ⟨cs, rfl, hz⟩ := okWide_array hu ho
  rw [hct] at hz
  obtain ⟨x0, x1, x2, rfl⟩ : ∃ x0 x1 x2, cs = #[x0, x1, x2] := by
    rcases cs with ⟨l⟩
    match l, hz with
    | [a, b, c], _ => exact ⟨a, b, c, rfl⟩
  obtain ⟨fuel, hf⟩ := h
  obtain ⟨y0, y1, y2, n, _, t0, t1, t2⟩ := trod_array3 hu hce (show DataW.trod enc P W base spare held fuel t [x0, x1, x2] = some _ from hf)
  obtain ⟨a, ha, _, wa⟩ := DataW.trod_int he t0
  obtain ⟨b, hb, _, wb⟩ := DataW.trod_int he t1
  obtain ⟨c, hc, _, wc⟩ := DataW.trod_int he t2
  injection ha with ha
  injection hb with hb
  injection hc with hc
  subst ha
  subst hb
  subst hc
  exact ⟨a, b, c, rfl, wa, wb, wc⟩
end
end Go.Proofs.Tryz.RowK
