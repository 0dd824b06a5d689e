import Derived.Test.YtmfjpdhhcgkjaaaGreatDoorDo
/- The examples of layer 11. -/
namespace Go.Proofs.Tryz.Ln
open Go Go.RowKit Go.Proofs.Mem Go.Proofs.App
open Go.Proofs.YtmfjpdhhcgkjaaaGreatDoorW.PrintWords
set_option linter.unusedVariables false
theorem str_of {w : World} {A : Option Addr} {n c : Nat} {l : List Int} (h : ReadsInt w .u8 A n l) : (convert 29 9 (.slice A n c)).run Tryz.prog w = .ok (.string (strOfNums l)) w :=
  string_of_reads Tryz.underlying29 Tryz.underlying5 Tryz.underlying9 h
abbrev nl : Value := .slice none 0 0
theorem show1 : moreF (vS 1 ⟨#[57]⟩ nl nl nl) (if (1 : Int) = 0 then numS 0 else ⟨#[57]⟩) (numS 1) = (#[.int .u8 1, .string ⟨#[49, 48]⟩, .slice none 0 0, .slice none 0 0, .slice none 0 0], [58, 49, 48, 13, 10]) := by kernel_rfl
theorem show2 : moreF (vS 1 ⟨#[120]⟩ nl nl nl) (if (1 : Int) = 0 then numS 0 else ⟨#[120]⟩) (numS 1) = (#[.int .u8 1, .string ⟨#[120]⟩, .slice none 0 0, .slice none 0 0, .slice none 0 0], [45, 69, 82, 82, 32, 118, 97, 108, 117, 101, 32, 105, 115, 32, 110, 111, 116, 32, 97, 110, 32, 105, 110, 116, 101, 103, 101, 114, 32, 111, 114, 32, 111, 117, 116, 32, 111, 102, 32, 114, 97, 110, 103, 101, 13, 10]) := by kernel_rfl
theorem low_incr : lowS ⟨#[105, 110, 99, 114]⟩ = ⟨#[105, 110, 99, 114]⟩ := by decide +kernel
set_option maxRecDepth 100000 in
set_option maxHeartbeats 8000000 in
theorem shown11_any (w : World) (hT : Tabs w) : Calls Tryz.prog 7 #[] w fun e w' => e = .returned (.bool true) ∧ Below w.heap.size w w' := by
  have hT' := veil hT
  have hb1 := veil (below_alloc (Below.refl w.heap.size w) (.cells #[.string ⟨#[105, 110, 99, 114]⟩, .string ⟨#[107]⟩] 9))
  have hc1 := veil (heap_alloc_last w (.cells #[.string ⟨#[105, 110, 99, 114]⟩, .string ⟨#[107]⟩] 9))
  clear hT
  go_enter Tryz.func7, Tryz.ntmps7
  go_wp2_with fail
  have h1 := do_incr 1 ⟨#[57]⟩ ⟨#[105, 110, 99, 114]⟩ nl nl nl ⟨w.heap.size, 0, none⟩ 2 2 _ (.inr rfl) (by decide) (by decide) low_incr (by decide) (by decide) (by rw [cell_of_row _ _ _ _ _ _ hc1.out]; rfl) (by simp [vS, Value.oneCell']) (tabs_below hT'.out hb1.out)
  rw [show1] at h1
  refine h1.mono ?_
  rintro e w2 ⟨A1, n1, c1, rfl, hf1, hb2⟩
  have hB2 := veil (two_below hb1.out hb2)
  have hr1 := veil (hf1.reads (by have := hf1.len; simp at this; omega))
  clear h1 hf1 hb2
  obtain ⟨w3, hw3⟩ : ∃ w3 : World, w3 = (w2.alloc (.cells #[.int .u8 1, .string ⟨#[49, 48]⟩, .slice none 0 0, .slice none 0 0, .slice none 0 0] 26)).alloc (.cells #[.string ⟨#[105, 110, 99, 114]⟩, .string ⟨#[107]⟩] 9) := ⟨_, rfl⟩
  have hsz3 : w3.heap.size = w2.heap.size + 2 := by rw [hw3]; simp
  have hb3 : Below w2.heap.size w2 w3 := by rw [hw3]; exact (below_alloc (Below.refl _ _) _).alloc (by simp) _
  have hx3 : w3.heap[w2.heap.size]? = some (.cells #[.int .u8 1, .string ⟨#[49, 48]⟩, .slice none 0 0, .slice none 0 0, .slice none 0 0] 26) := by rw [hw3]; exact heap_alloc2_old w2 _ _
  have hc3 : w3.heap[w2.heap.size + 1]? = some (.cells #[.string ⟨#[105, 110, 99, 114]⟩, .string ⟨#[107]⟩] 9) := by
    rw [hw3]
    have := heap_alloc_last (w2.alloc (.cells #[.int .u8 1, .string ⟨#[49, 48]⟩, .slice none 0 0, .slice none 0 0, .slice none 0 0] 26)) (.cells #[.string ⟨#[105, 110, 99, 114]⟩, .string ⟨#[107]⟩] 9)
    simpa using this
  have hB3 := veil (two_below hB2.out hb3)
  have hr3 := veil (hr1.out.below hb3)
  have hw3' := veil hw3
  have hx3' := veil hx3
  clear hw3 hb3 hx3
  go_wp2_with fail
  rw [← hw3'.out]
  have h2 := do_incr 1 ⟨#[120]⟩ ⟨#[105, 110, 99, 114]⟩ nl nl nl ⟨w2.heap.size + 1, 0, none⟩ 2 2 w3 (.inr rfl) (by decide) (by decide) low_incr (by decide) (by decide) (by rw [cell_of_row _ _ _ _ _ _ hc3]; rfl) (by simp [vS, Value.oneCell']) (tabs_below hT'.out hB3.out)
  rw [show2] at h2
  refine h2.mono ?_
  rintro e w4 ⟨A2, n2, c2, rfl, hf2, hb4⟩
  have hB4 := veil (two_below hB3.out hb4)
  have hr4 := veil (hf2.reads (by have := hf2.len; simp at this; omega))
  have hr5 := veil (hr3.out.below hb4)
  have hx4 := veil ((hb4.block _ (by omega)).trans hx3'.out)
  have hsz4 := hb4.size
  have hb5 : Below w4.heap.size w4 (w4.alloc (.cells #[.int .u8 1, .string ⟨#[120]⟩, .slice none 0 0, .slice none 0 0, .slice none 0 0] 26)) := below_alloc (Below.refl _ _) _
  have hB5 := veil (two_below hB4.out hb5)
  have st1 := str_of (c := c1) (hr5.out.below hb5)
  have st2 := str_of (c := c2) (hr4.out.below hb5)
  have q1 : (w4.alloc (.cells #[.int .u8 1, .string ⟨#[120]⟩, .slice none 0 0, .slice none 0 0, .slice none 0 0] 26)).cell? ⟨w2.heap.size, 1, none⟩ = some (.string ⟨#[49, 48]⟩) := by
    rw [cell_of_row _ _ _ _ _ _ ((hb5.block _ (by omega)).trans hx4.out)]; rfl
  rw [show strOfNums [58, 49, 48, 13, 10] = ⟨#[58, 49, 48, 13, 10]⟩ from by decide +kernel] at st1
  rw [show strOfNums [45, 69, 82, 82, 32, 118, 97, 108, 117, 101, 32, 105, 115, 32, 110, 111, 116, 32, 97, 110, 32, 105, 110, 116, 101, 103, 101, 114, 32, 111, 114, 32, 111, 117, 116, 32, 111, 102, 32, 114, 97, 110, 103, 101, 13, 10] = ⟨#[45, 69, 82, 82, 32, 118, 97, 108, 117, 101, 32, 105, 115, 32, 110, 111, 116, 32, 97, 110, 32, 105, 110, 116, 101, 103, 101, 114, 32, 111, 114, 32, 111, 117, 116, 32, 111, 102, 32, 114, 97, 110, 103, 101, 13, 10]⟩ from by decide +kernel] at st2
  clear h2 hf2 hb4 hb5
  go_wp2_with fail
  go_ret
  exact ⟨rfl, hB5.out⟩
end Go.Proofs.Tryz.Ln
