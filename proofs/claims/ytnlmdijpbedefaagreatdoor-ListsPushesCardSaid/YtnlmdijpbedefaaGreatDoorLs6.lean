import Derived.Test.YtnlmdijpbedefaaGreatDoorLs5
/- The examples of layer 12. -/
namespace Go.Proofs.Tryz.Ln
open Go Go.RowKit Go.Proofs.Mem Go.Proofs.App
open Go.Proofs.YtnlmdijpbedefaaGreatDoorW.PrintWords
set_option linter.unusedVariables false
set_option linter.unusedSimpArgs false
theorem str_of {w : World} {A : Option Addr} {n c : Nat} {l : List Int} (h : ReadsInt w .u8 A n l) : (convert 29 9 (.slice A n c)).run Tryz.prog w = .ok (.string (strOfNums l)) w :=
  string_of_reads Tryz.underlying29 Tryz.underlying5 Tryz.underlying9 h
/-- a row of texts, as it is written out -/
theorem tR_lit {w : World} {g : Nat} (l : List ByteArray) (n : Nat) (hn : n = l.length) (h : w.heap[g]? = some (.cells (l.map Value.string).toArray 9 (0, 0))) (hl : l.length ≤ 1000000) : tR w (.slice (some ⟨g, 0, none⟩) n n) l := by
  subst hn
  refine ⟨some ⟨g, 0, none⟩, l.length, rfl, Nat.le_refl _, by omega, fun ad h => ?_, rfl, by omega, fun _ => ⟨_, rfl, fun j hj => ?_⟩⟩
  · injection h with h; rw [← h]
  · rw [add_off, cell_of_row _ _ _ _ _ _ h]
    simp [List.getD_eq_getElem?_getD, hj]
theorem low_lpush : lowS ⟨#[108, 112, 117, 115, 104]⟩ = pushN true := by decide +kernel
theorem low_rpush : lowS ⟨#[114, 112, 117, 115, 104]⟩ = pushN false := by decide +kernel
theorem low_lrange : lowS ⟨#[108, 114, 97, 110, 103, 101]⟩ = lrangeN := by decide +kernel
set_option maxRecDepth 100000 in
set_option maxHeartbeats 8000000 in
theorem shown12_any (w : World) (hT : Tabs w) : Calls Tryz.prog 7 #[] w fun e w' => e = .returned (.bool true) ∧ Below w.heap.size w w' := by
  have hT' := veil hT
  obtain ⟨w2, hw2⟩ : ∃ w2 : World, w2 = (w.alloc (.cells #[.string ⟨#[97]⟩] 9)).alloc (.cells #[.string ⟨#[108, 112, 117, 115, 104]⟩, .string ⟨#[107]⟩, .string ⟨#[98]⟩, .string ⟨#[99]⟩] 9) := ⟨_, rfl⟩
  have hsz2 : w2.heap.size = w.heap.size + 2 := by rw [hw2]; simp
  have hb2 : Below w.heap.size w w2 := by rw [hw2]; exact (below_alloc (Below.refl _ _) _).alloc (by simp) _
  have hx2 : w2.heap[w.heap.size]? = some (.cells #[.string ⟨#[97]⟩] 9 (0, 0)) := by rw [hw2]; exact heap_alloc2_old w _ _
  have hc2 : w2.heap[w.heap.size + 1]? = some (.cells #[.string ⟨#[108, 112, 117, 115, 104]⟩, .string ⟨#[107]⟩, .string ⟨#[98]⟩, .string ⟨#[99]⟩] 9 (0, 0)) := by
    rw [hw2]
    have := heap_alloc_last (w.alloc (.cells #[.string ⟨#[97]⟩] 9)) (.cells #[.string ⟨#[108, 112, 117, 115, 104]⟩, .string ⟨#[107]⟩, .string ⟨#[98]⟩, .string ⟨#[99]⟩] 9)
    simpa using this
  have hB2 := veil hb2
  have hw2' := veil hw2
  have h1 := do_push true 2 ⟨#[]⟩ ⟨#[108, 112, 117, 115, 104]⟩ (.slice (some ⟨w.heap.size, 0, none⟩) 1 1) nl nl [⟨#[97]⟩] [⟨#[108, 112, 117, 115, 104]⟩, ⟨#[107]⟩, ⟨#[98]⟩, ⟨#[99]⟩] (some ⟨w.heap.size + 1, 0, none⟩) 4 w2 (.inr rfl) (tR_lit [⟨#[97]⟩] 1 rfl hx2 (by decide)) (tR_lit [⟨#[108, 112, 117, 115, 104]⟩, ⟨#[107]⟩, ⟨#[98]⟩, ⟨#[99]⟩] 4 rfl hc2 (by decide)) (by decide) rfl (by decide) low_lpush (by decide) (tabs_below hT hb2)
  have h1' := veil h1
  clear hT hw2 hb2 hx2 hc2 h1
  go_enter Tryz.func7, Tryz.ntmps7
  go_wp2_with fail
  rw [← hw2'.out]
  refine h1'.out.mono ?_
  rintro e w3 ⟨v, A1, n1, m1, rfl, ho1, hf1, hb3⟩
  have e1 : putL true [⟨#[97]⟩] (List.drop 2 [⟨#[108, 112, 117, 115, 104]⟩, ⟨#[107]⟩, ⟨#[98]⟩, ⟨#[99]⟩]) = [⟨#[99]⟩, ⟨#[98]⟩, ⟨#[97]⟩] := rfl
  rw [e1] at ho1 hf1 ⊢
  obtain ⟨Av, cv, rfl, hv1, _, hsp, hv2⟩ := (tR_own ho1).ex
  have hB3 := veil (two_below hB2.out hb3)
  have hv2' := veil hv2
  have hsp' := veil hsp
  have hr1 := veil (hf1.reads (by have := hf1.len; have h2 : (lineL ⟨#[58]⟩ (numS (([⟨#[99]⟩, ⟨#[98]⟩, ⟨#[97]⟩] : List ByteArray).length : Int))).length = 4 := by decide +kernel
                                  omega))
  rw [show lvS [⟨#[99]⟩, ⟨#[98]⟩, ⟨#[97]⟩] (.slice Av ([⟨#[99]⟩, ⟨#[98]⟩, ⟨#[97]⟩] : List ByteArray).length cv) = #[.int .u8 2, .string ⟨#[]⟩, .slice Av 3 cv, nl, nl] from if_neg (by simp)]
  have hs3 := hb3.size
  clear ho1 hf1 hb3 h1' e1 hv2 hsp
  go_wp2_with fail
  obtain ⟨w4, hw4⟩ : ∃ w4 : World, w4 = ((w3.alloc (.cells #[.int .u8 2, .string ⟨#[]⟩, .slice Av 3 cv, .slice none 0 0, .slice none 0 0] 28)).alloc (.cells #[.string ⟨#[97]⟩, .string ⟨#[98]⟩, .string ⟨#[99]⟩] 9)).alloc (.cells #[.string ⟨#[108, 114, 97, 110, 103, 101]⟩, .string ⟨#[107]⟩, .string ⟨#[45, 50]⟩, .string ⟨#[57]⟩] 9) := ⟨_, rfl⟩
  have hsz4 : w4.heap.size = w3.heap.size + 3 := by rw [hw4]; simp
  have hb4 : Below w3.heap.size w3 w4 := by rw [hw4]; exact ((below_alloc (Below.refl _ _) _).alloc (by simp) _).alloc (by simp; omega) _
  have hx4 : w4.heap[w3.heap.size]? = some (.cells #[.int .u8 2, .string ⟨#[]⟩, .slice Av 3 cv, .slice none 0 0, .slice none 0 0] 28 (0, 0)) := by rw [hw4]; exact ((below_alloc (Below.refl _ _) _).block _ (by simp; omega)).trans (heap_alloc2_old w3 _ _)
  have hr4 : w4.heap[w3.heap.size + 1]? = some (.cells #[.string ⟨#[97]⟩, .string ⟨#[98]⟩, .string ⟨#[99]⟩] 9 (0, 0)) := by rw [hw4]; have h := heap_alloc2_old (w3.alloc (.cells #[.int .u8 2, .string ⟨#[]⟩, .slice Av 3 cv, .slice none 0 0, .slice none 0 0] 28)) (.cells #[.string ⟨#[97]⟩, .string ⟨#[98]⟩, .string ⟨#[99]⟩] 9) (.cells #[.string ⟨#[108, 114, 97, 110, 103, 101]⟩, .string ⟨#[107]⟩, .string ⟨#[45, 50]⟩, .string ⟨#[57]⟩] 9); rw [show (w3.alloc (.cells #[.int .u8 2, .string ⟨#[]⟩, .slice Av 3 cv, .slice none 0 0, .slice none 0 0] 28)).heap.size = w3.heap.size + 1 by simp] at h; exact h
  have hg4 : w4.heap[w3.heap.size + 1 + 1]? = some (.cells #[.string ⟨#[108, 114, 97, 110, 103, 101]⟩, .string ⟨#[107]⟩, .string ⟨#[45, 50]⟩, .string ⟨#[57]⟩] 9 (0, 0)) := by rw [hw4]; have h := heap_alloc_last ((w3.alloc (.cells #[.int .u8 2, .string ⟨#[]⟩, .slice Av 3 cv, .slice none 0 0, .slice none 0 0] 28)).alloc (.cells #[.string ⟨#[97]⟩, .string ⟨#[98]⟩, .string ⟨#[99]⟩] 9)) (.cells #[.string ⟨#[108, 114, 97, 110, 103, 101]⟩, .string ⟨#[107]⟩, .string ⟨#[45, 50]⟩, .string ⟨#[57]⟩] 9); rw [show ((w3.alloc (.cells #[.int .u8 2, .string ⟨#[]⟩, .slice Av 3 cv, .slice none 0 0, .slice none 0 0] 28)).alloc (.cells #[.string ⟨#[97]⟩, .string ⟨#[98]⟩, .string ⟨#[99]⟩] 9)).heap.size = w3.heap.size + 1 + 1 by simp] at h; exact h
  have hB4 := veil (two_below hB3.out hb4)
  have h2 := do_lrange 2 (-2) 9 ⟨#[]⟩ ⟨#[108, 114, 97, 110, 103, 101]⟩ ⟨#[45, 50]⟩ ⟨#[57]⟩ (.slice (some ⟨w3.heap.size + 1, 0, none⟩) 3 3) nl nl [⟨#[97]⟩, ⟨#[98]⟩, ⟨#[99]⟩] [⟨#[108, 114, 97, 110, 103, 101]⟩, ⟨#[107]⟩, ⟨#[45, 50]⟩, ⟨#[57]⟩] (some ⟨w3.heap.size + 1 + 1, 0, none⟩) 4 1 3 w4 (.inr rfl) (tR_lit [⟨#[97]⟩, ⟨#[98]⟩, ⟨#[99]⟩] 3 rfl hr4 (by decide)) (tR_lit [⟨#[108, 114, 97, 110, 103, 101]⟩, ⟨#[107]⟩, ⟨#[45, 50]⟩, ⟨#[57]⟩] 4 rfl hg4 (by decide)) (by decide) rfl rfl rfl (by decide) low_lrange (by decide) (by decide +kernel) (by decide +kernel) (by decide) (by decide) (by decide) (by decide) (by decide) (by decide) (by decide) (by decide)
    (fun s hs => by
      have hs' : s = ⟨#[98]⟩ ∨ s = ⟨#[99]⟩ := by simpa using hs
      rcases hs' with rfl | rfl <;> decide) (by decide +kernel) rfl rfl (tabs_below hT'.out hB4.out)
  rw [← hw4]
  refine h2.mono ?_
  rintro e w5 ⟨A2, n2, m2, rfl, hf2, hb5⟩
  have hB5 := veil (two_below hB4.out hb5)
  have hr5 := veil (hf2.reads (by have := hf2.len; have h2 : (textsL (List.drop 1 (List.take 3 [⟨#[97]⟩, ⟨#[98]⟩, ⟨#[99]⟩]))).length = 18 := by decide +kernel
                                  omega))
  have hx5 := veil ((hb5.block _ (by omega)).trans hx4)
  have hr15 := veil ((hr1.out.below hb4).below hb5)
  obtain ⟨ad, rfl, hcl⟩ := (hv2'.out.below hb4 |>.below hb5).2.2 (by decide)
  obtain ⟨ab, ao, asp⟩ := ad
  obtain rfl : asp = none := hsp'.out _ rfl
  have k0 : w5.cell? ⟨ab, ao, none⟩ = some (.string ⟨#[99]⟩) := by
    have h := hcl 0 (by decide)
    rw [add_off] at h
    exact h
  have k2 : w5.cell? ⟨ab, ao + 2, none⟩ = some (.string ⟨#[97]⟩) := by
    have h := hcl 2 (by decide)
    rw [add_off] at h
    exact h
  have hsz5 := hb5.size
  have adb : ab < w5.heap.size := World.block_lt_of_cell? w5 _ k0
  have adb2 : ab < w5.heap.size := World.block_lt_of_cell? w5 _ k2
  obtain ⟨w6, hw6⟩ : ∃ w6 : World, w6 = w5.alloc (.cells #[.int .u8 2, .string ⟨#[]⟩, .slice (some ⟨w3.heap.size + 1, 0, none⟩) 3 3, .slice none 0 0, .slice none 0 0] 28) := ⟨_, rfl⟩
  have hb6 : Below w5.heap.size w5 w6 := by rw [hw6]; exact below_alloc (Below.refl _ _) _
  have st1 := str_of (c := m1) (hr15.out.below hb6)
  have st2 := str_of (c := m2) (hr5.out.below hb6)
  have j0 := (hb6.cell adb).trans k0
  have j2 := (hb6.cell adb2).trans k2
  have q1 : w6.cell? ⟨w3.heap.size, 2, none⟩ = some (.slice (some ⟨ab, ao, none⟩) 3 cv) := by
    rw [cell_of_row _ _ _ _ _ _ ((hb6.block _ (by omega)).trans hx5.out)]; rfl
  rw [show strOfNums (lineL ⟨#[58]⟩ (numS (([⟨#[99]⟩, ⟨#[98]⟩, ⟨#[97]⟩] : List ByteArray).length : Int))) = ⟨#[58, 51, 13, 10]⟩ from by decide +kernel] at st1
  rw [show strOfNums (textsL (List.drop 1 (List.take 3 [⟨#[97]⟩, ⟨#[98]⟩, ⟨#[99]⟩]))) = ⟨#[42, 50, 13, 10, 36, 49, 13, 10, 98, 13, 10, 36, 49, 13, 10, 99, 13, 10]⟩ from by decide +kernel] at st2
  have hB6 := veil (two_below hB5.out hb6)
  have hw6' := hw6
  rw [hw6] at st1 st2 j0 j2 q1
  clear hsp' h2 hf2 hb4 hb5 hb6 hw4 hw6' hr4 hg4 hx4 hcl
  go_wp2_with fail
  go_ret
  exact ⟨rfl, by rw [← hw6]; exact hB6.out⟩
end Go.Proofs.Tryz.Ln
