import Derived.Test.YtcdcbkopapedhaaGreatDoorWWords
import Derived.Test.YtcdcbkopapedhaaGreatDoorProg
/- Texts, compared. -/
namespace Go.Proofs.Tryz.Cmp
open Go
theorem less_flip : ∀ x y : List UInt8, (!Op.bytesLess x y && !x == y) = Op.bytesLess y x
  | [], [] => by simp [Op.bytesLess]
  | _ :: _, [] => by simp [Op.bytesLess]
  | [], _ :: _ => by simp [Op.bytesLess]
  | a :: x, b :: y => by
    have ih := less_flip x y
    simp only [Op.bytesLess, List.cons_beq_cons]
    by_cases h1 : a < b
    · have h2 : ¬ b < a := fun h => absurd (UInt8.lt_trans h1 h) (UInt8.lt_irrefl _)
      have h3 : (b == a) = false := by
        rw [beq_eq_false_iff_ne]
        rintro rfl
        exact UInt8.lt_irrefl _ h1
      simp [h1, h2, h3]
    · by_cases h2 : a = b
      · subst h2
        simp [h1]
        rw [← ih]
      · have h3 : b < a := by
          rcases UInt8.lt_or_lt_of_ne h2 with h | h
          · exact absurd h h1
          · exact h
        have h4 : (a == b) = false := beq_eq_false_iff_ne.2 h2
        simp [h1, h3, h4]
theorem gtr_texts {P : Program} (x y : ByteArray) (t : TypeId) (v : Bool) (h : Op.bytesLess y.toList x.toList = v) (W : World) : (binOp BinOp.gtr t (.string x) (.string y)).run P W = .ok (.bool v) W := by
  rw [← h, ← less_flip]
  simp [binOp, Op.stringOp, go_sem]
end Go.Proofs.Tryz.Cmp
