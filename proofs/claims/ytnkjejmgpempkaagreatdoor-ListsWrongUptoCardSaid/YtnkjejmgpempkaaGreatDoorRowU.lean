import Derived.Test.YtnkjejmgpempkaaGreatDoorRows
import Derived.Test.YtnkjejmgpempkaaGreatDoorRow
import Derived.SliceStrings
/- What the bound of an 'upto' statement gives for a row of texts. -/
namespace Go.Proofs.YtnkjejmgpempkaaGreatDoor.upto
open Go Go.RowKit Go.ChangeShapes Go.WideShapes Go.Proofs.YtnkjejmgpempkaaGreatDoorW.PrintWords
set_option linter.unusedVariables false
theorem bulk_strs {H : Type} (l : List ByteArray) : Rows.uptoBulkAll (H := H) (strs l) = (l.map (·.size)).sum + l.length := by
  induction l with
  | nil => rfl
  | cons s r ih =>
    have e : strs (H := H) (s :: r) = .lit (.string s.data.toList) :: strs r := rfl
    rw [e]
    simp only [Rows.uptoBulkAll, Rows.uptoBulk, ih, List.map_cons, List.sum_cons, List.length_cons]
    have : s.data.toList.length = s.size := Array.length_toList
    omega
theorem strs_upto {H : Type} {enc : TypeId × Value → H} {P : Program} {W : World} {base : Nat} {spare : Nat → Bool} {held : Bool} {t e : TypeId} {a : Option Addr} {len cap : Nat} {d : DataW H} {ps : List MemPlace}
    (hu : P.underlying t = some (.slice e)) (he : P.underlying e = some .string) (hc : P.cellsOf e = 1)
    (h : DataW.Trod enc P W base spare held t (.slice a len cap) d ps) :
    ∃ l : List ByteArray, l.length = len ∧ len ≤ cap ∧ Kd.C Kd.string W a l.length l ∧ (l.map (·.size)).sum + l.length ≤ Rows.uptoBulk d := by
  obtain ⟨fuel, hf⟩ := h
  rcases open_strings hu he hc hf with ⟨hcs, _⟩ | ⟨x, l', c', ss, hcs, _, hl, hm, hz, hd, hcell, hws⟩
  · simp [Value.cells] at hcs
    obtain ⟨rfl, rfl, rfl⟩ := hcs
    exact ⟨[], rfl, Nat.le_refl _, ⟨rfl, by decide, fun h => absurd h (by decide)⟩, by simp⟩
  · simp [Value.cells] at hcs
    obtain ⟨rfl, rfl, rfl⟩ := hcs
    injection hd with hd _
    subst hd
    have hls : len ≤ ss.length := by
      rw [hz]
      split
      · exact hl
      · exact Nat.le_refl _
    have hlen : (ss.take len).length = len := by rw [List.length_take]; omega
    refine ⟨ss.take len, hlen, hl, ⟨rfl, ?_, fun _ => ⟨x, rfl, ?_⟩⟩, ?_⟩
    · rw [hlen]
      have : maxLen ≤ 9223372036854775807 := by decide
      omega
    · intro j p hp
      have hj : j < len := by
        have := (List.getElem?_eq_some_iff.1 hp).1
        omega
      rw [List.getElem?_take_of_lt hj] at hp
      have hg : ss.getD j ByteArray.empty = p := by rw [List.getD_eq_getElem?_getD, hp]; rfl
      refine ⟨[.string p], rfl, rfl, fun i u hi => ?_⟩
      match i, hi with
      | 0, hi =>
        obtain rfl := Option.some.inj hi
        have := hcell j (by omega)
        rw [hg] at this
        show W.cell? (x.add (j * 1 + 0)) = _
        rw [show j * 1 + 0 = j by omega]
        exact this
    · simp only [Rows.uptoBulk, bulk_strs]
      omega
theorem bound {H : Type} {l : List (DataW H)} (hk : Rows.uptoSmall H l = true) : Rows.uptoBulkAll l ≤ 1048576 := of_decide_eq_true hk
end Go.Proofs.YtnkjejmgpempkaaGreatDoor.upto
