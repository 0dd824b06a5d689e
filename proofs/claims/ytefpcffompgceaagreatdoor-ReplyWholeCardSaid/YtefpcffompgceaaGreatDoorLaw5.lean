import Derived.Test.YtefpcffompgceaaGreatDoorRp
/- Layer 5's examples and short texts. -/
namespace Go.Proofs.Tryz.Ln
open Go Go.RowKit Go.Proofs.Mem Go.Proofs.App
open Go.Proofs.YtefpcffompgceaaGreatDoorW.PrintWords
set_option linter.unusedVariables false

/-- 100 bytes at most -/
def shortS (s : ByteArray) : ByteArray := if 100 < s.size then s.extract 0 100 else s
theorem shortS_size (s : ByteArray) : (shortS s).size ≤ 100 := by
  unfold shortS
  split
  · rw [ByteArray.size_extract]; omega
  · omega
theorem short_any (s : ByteArray) (w : World) : Calls Tryz.prog 9 #[.string s] w fun e w' => e = .returned (.string (shortS s)) ∧ w' = w := by
  by_cases h : 100 < s.size
  · have e := veil (show shortS s = s.extract 0 100 from if_pos h)
    go_enter Tryz.func9, Tryz.ntmps9
    go_wp2_with fail
    go_ret
    exact ⟨by rw [e.out]; rfl, rfl⟩
  · have e := veil (show shortS s = s from if_neg h)
    go_enter Tryz.func9, Tryz.ntmps9
    go_wp2_with fail
    go_ret
    exact ⟨by rw [e.out]; rfl, rfl⟩
theorem bulk_ab : strOfNums (bulkL ⟨#[97, 98]⟩) = ⟨#[36, 50, 13, 10, 97, 98, 13, 10]⟩ := by decide +kernel
theorem arr_5 : strOfNums (arrL [lineL ⟨#[58]⟩ (numS 5), lineL ⟨#[36]⟩ ⟨#[45, 49]⟩]) = ⟨#[42, 50, 13, 10, 58, 53, 13, 10, 36, 45, 49, 13, 10]⟩ := by decide +kernel
theorem len_5 : [lineL ⟨#[58]⟩ (numS 5), lineL ⟨#[36]⟩ ⟨#[45, 49]⟩].flatten.length ≤ 70368744177664 := by decide +kernel
theorem str_of {w : World} {A : Option Addr} {n c : Nat} {l : List Int} (h : ReadsInt w .u8 A n l) : (convert 22 9 (.slice A n c)).run Tryz.prog w = .ok (.string (strOfNums l)) w :=
  string_of_reads Tryz.underlying22 Tryz.underlying5 Tryz.underlying9 h
set_option maxHeartbeats 4000000 in
theorem shown_any (w : World) (hT : Tabl w) : Calls Tryz.prog 7 #[] w fun e w' => e = .returned (.bool true) ∧ Below w.heap.size w w' := by
  go_enter Tryz.func7, Tryz.ntmps7
  go_wp2_with fail
  refine (Bulk_any ⟨#[97, 98]⟩ _ (by decide) hT).mono ?_
  rintro e w1 ⟨A1, c1, rfl, hf1, hb1⟩
  have st1 := str_of (c := c1) (hf1.reads (bulkL_len _ (by decide)))
  rw [bulk_ab] at st1
  have hb1' := veil hb1
  have hT1 := veil (tabl_below hT hb1)
  obtain ⟨m, hm⟩ : ∃ m, (bulkL ⟨#[97, 98]⟩).length = m := ⟨_, rfl⟩
  rw [hm] at st1 ⊢
  clear hf1 hb1 hm
  go_wp2_with fail
  refine (Int_any 5 _ ⟨by omega, by omega⟩ hT1.out).mono ?_
  rintro e w2 ⟨A2, c2, rfl, hf2, hb2⟩
  have hb2' := veil (two_below hb1'.out hb2)
  have hf2' := veil hf2
  have hT2 := veil (tabl_below hT1.out hb2)
  clear st1 hf2 hb2
  obtain ⟨m2, hm2⟩ : ∃ m, (lineL ⟨#[58]⟩ (numS 5)).length = m := ⟨_, rfl⟩
  rw [hm2]
  have hm2' := veil hm2
  clear hm2
  go_wp2_with fail
  refine (Null_any _).mono ?_
  rintro e w3 ⟨A3, c3, rfl, hf3, hb3⟩
  obtain ⟨m3, hm3⟩ : ∃ m, (lineL ⟨#[36]⟩ ⟨#[45, 49]⟩).length = m := ⟨_, rfl⟩
  rw [hm3]
  have hb3' := veil (two_below hb2'.out hb3)
  have hT3 := veil (tabl_below hT2.out hb3)
  have l2 : (lineL ⟨#[58]⟩ (numS 5)).length ≤ 100 := by decide +kernel
  have l3 : (lineL ⟨#[36]⟩ ⟨#[45, 49]⟩).length ≤ 100 := by decide +kernel
  have hbA := below_alloc (Below.refl w3.heap.size w3) (.cells #[.slice A2 m2 c2, .slice A3 m3 c3] 22)
  have hP : Parts (w3.alloc (.cells #[.slice A2 m2 c2, .slice A3 m3 c3] 22)) w3.heap.size [lineL ⟨#[58]⟩ (numS 5), lineL ⟨#[36]⟩ ⟨#[45, 49]⟩] := by
    intro i l hi
    have hg := heap_alloc_last w3 (.cells #[.slice A2 m2 c2, .slice A3 m3 c3] 22)
    match i, hi with
    | 0, hi =>
      simp only [List.getElem?_cons_zero, Option.some.injEq] at hi
      subst hi
      exact ⟨A2, c2, by rw [cell_of_row _ _ _ _ _ _ hg, hm2'.out]; rfl, ((hf2'.out.below hb3).below hbA).reads (by omega), byt_line _ _⟩
    | 1, hi =>
      simp only [List.getElem?_cons_succ, List.getElem?_cons_zero, Option.some.injEq] at hi
      subst hi
      exact ⟨A3, c3, by rw [cell_of_row _ _ _ _ _ _ hg, hm3]; rfl, (hf3.below hbA).reads (by omega), byt_line _ _⟩
    | j + 2, hi => simp at hi
  have hP' := veil hP
  have hTA := veil (tabl_below hT3.out hbA)
  have hbB := veil (two_below hb3'.out hbA)
  clear hP hbA hf3 hb3 hm3 l2 l3
  go_wp2_with fail
  refine (Array_any _ w3.heap.size 0 2 2 _ _ (fun _ => rfl) rfl (by omega) (parts_o hP'.out) len_5 (by omega) hTA.out).mono ?_
  rintro e w4 ⟨A4, c4, rfl, hf4, hb4⟩
  have hl4 : (arrL [lineL ⟨#[58]⟩ (numS 5), lineL ⟨#[36]⟩ ⟨#[45, 49]⟩]).length ≤ 9223372036854775807 := by decide +kernel
  have st4 := str_of (c := c4) (hf4.reads hl4)
  rw [arr_5] at st4
  have hb4' := veil (two_below hbB.out hb4)
  obtain ⟨m4, hm4⟩ : ∃ m, (arrL [lineL ⟨#[58]⟩ (numS 5), lineL ⟨#[36]⟩ ⟨#[45, 49]⟩]).length = m := ⟨_, rfl⟩
  rw [hm4] at st4 ⊢
  clear hf4 hb4 hm4 hl4
  go_wp2_with fail
  go_ret
  exact ⟨rfl, hb4'.out⟩
end Go.Proofs.Tryz.Ln
/- The document's examples, in the form that a print takes. -/
namespace Go.Proofs.Tryz.Ln
open Go Go.RowKit Go.Proofs.Mem Go.Proofs.App
open Go.Proofs.YtefpcffompgceaaGreatDoorW.PrintWords
set_option linter.unusedVariables false
theorem X_shown (r : Bool) (w : World) (hT : Tabl w) (h : some true = some r) : Calls Tryz.prog 7 #[] w fun e w' => e = .returned (.bool r) ∧ Below w.heap.size w w' := by
  injection h with h
  subst h
  exact shown_any w hT
end Go.Proofs.Tryz.Ln
