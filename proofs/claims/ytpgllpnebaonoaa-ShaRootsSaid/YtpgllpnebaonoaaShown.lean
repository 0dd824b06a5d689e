import Derived.Test.YtpgllpnebaonoaaSum
import Derived.Lib.SlBytesConst
/- The examples at the head of the statements hold. -/
namespace Go.Proofs.Sha
open Go Go.RowKit Sha2 Mem QTail
open Go.Proofs.YtpgllpnebaonoaaW.PrintWords
set_option linter.unusedVariables false

theorem head4 {l : List Nat} {a b c d : Nat} (h : l.take 4 = [a, b, c, d]) : ∃ r, l = a :: b :: c :: d :: r := by
  refine ⟨l.drop 4, ?_⟩
  conv => lhs; rw [← List.take_append_drop 4 l, h]
  rfl
theorem sum_length (l : List Nat) : (Sha2.sum l).length = 32 := bytesOf_length _
theorem outCells_size (l : List Nat) : (outCells l).size = l.length := by simp [outCells]
theorem short_any (A : Option Addr) (n c : Nat) (w : World) (hc : n ≤ c) (hc2 : c ≤ 9223372036854775807) :
    Calls Try.prog 8 #[.slice A n c] w fun e w' => e = .returned (.slice A (min n 300) c) ∧ w' = w := by
  go_enter Try.func8, Try.ntmps8
  by_cases h : 300 < n
  · rw [show min n 300 = 300 by omega]
    go_wp2
    go_ret
    exact ⟨rfl, rfl⟩
  · rw [show min n 300 = n by omega]
    go_wp2
    go_ret
    exact ⟨rfl, rfl⟩
theorem mark_any (w : World) (o : Obj) (C : Array Value) (n c : Nat) : (convert 22 22 (.slice (some ⟨w.heap.size + 1, 0, none⟩) n c)).run Try.prog ((w.alloc o).alloc (.cells C 5)) = .ok (.slice (some ⟨w.heap.size + 1, 0, none⟩) n c) ((w.alloc o).alloc (.cells C 5 (C.size, C.size + 1))) := by
  have h := Lib.run_convert_bytes_const (P := Try.prog) (w.alloc o) 22 5 C n c Try.underlying22 Try.underlying5
  simpa only [World.size_alloc] using h
theorem heap_alloc2_old (w : World) (o p : Obj) : ((w.alloc o).alloc p).heap[w.heap.size]? = some o := by
  show ((w.heap.push o).push p)[w.heap.size]? = some o
  rw [Array.getElem?_push, if_neg (by simp), Array.getElem?_push_size]
set_option maxRecDepth 100000 in
set_option maxHeartbeats 4000000 in
theorem shown_any (w : World) : Calls Try.prog 7 #[] w fun e w' => e = .returned (.bool true) ∧ Below w.heap.size w w' := by
  obtain ⟨r0, hr0⟩ := head4 Sha2.nil_head
  obtain ⟨r1, hr1⟩ := head4 Sha2.abc_head
  have hl0 := sum_length []
  have hl1 := sum_length [97, 98, 99]
  obtain ⟨z0, hz0⟩ : ∃ z, outCells (Sha2.sum []) = z := ⟨_, rfl⟩
  obtain ⟨z1, hz1⟩ : ∃ z, outCells (Sha2.sum [97, 98, 99]) = z := ⟨_, rfl⟩
  have hr0' := veil hr0
  have hr1' := veil hr1
  have hl0' := veil hl0
  have hl1' := veil hl1
  have hz0' := veil hz0
  have hz1' := veil hz1
  clear hr0 hr1 hl0 hl1 hz0 hz1
  have h25 : ∀ l : List Nat, l.length = 32 → (Try.prog.info? 25).map (·.size) = some (outCells l).size := fun l h => by rw [outCells_size, h]; kernel_rfl
  have h25' := veil h25
  clear h25
  have kc := mark_any
  go_enter Try.func7, Try.ntmps7
  go_wp2_with fail
  refine (sum_any none 0 0 [] _ (by omega) (by omega) ⟨rfl, by omega, fun h => absurd h (by omega)⟩ (by intro x hx; simp at hx)).mono ?_
  rintro e w1 ⟨rfl, hb1⟩
  rw [show Sha2.sum (([] : List Int).map Int.toNat) = Sha2.sum [] from rfl, hz0'.out]
  go_wp2_with (first
    | (refine wpList_store_at rfl 25 _ _ rfl z0 z32 25 _ rfl rfl rfl (by rw [← hz0'.out]; exact h25'.out _ hl0'.out) (by rw [← hz0'.out, outCells_size, sum_length]; rfl) (by rw [← hz0'.out]; exact outCells_one _) ?_)
    | fail)
  have hR : ReadsInt ((w1.alloc (Obj.cells z0 25)).alloc (Obj.cells #[Value.int IntKind.u8 97, Value.int IntKind.u8 98, Value.int IntKind.u8 99] 5 (3, 4))) .u8 (some ⟨w1.heap.size + 1, 0, none⟩) 3 [97, 98, 99] := by
    refine ⟨rfl, by omega, fun _ => ⟨_, rfl, fun j hj => ?_⟩⟩
    rw [add_plain]
    obtain rfl | rfl | rfl : j = 0 ∨ j = 1 ∨ j = 2 := by omega
    all_goals
      unfold World.cell?
      rw [show ((w1.alloc (Obj.cells z0 25)).alloc (Obj.cells #[Value.int IntKind.u8 97, Value.int IntKind.u8 98, Value.int IntKind.u8 99] 5 (3, 4))).heap[w1.heap.size + 1]? = _ from heap_alloc2_new w1 _ _]
      rfl
  refine (sum_any (some ⟨w1.heap.size + 1, 0, none⟩) 3 3 [97, 98, 99] _ (by omega) (by omega) hR (by intro x hx; simp at hx; omega)).mono ?_
  rintro e w2 ⟨rfl, hb2⟩
  rw [show Sha2.sum ([97, 98, 99].map Int.toNat) = Sha2.sum [97, 98, 99] from rfl, hz1'.out]
  have hold : w2.heap[w1.heap.size]? = some (.cells z0 25 (0, 0)) := (hb2.block _ (by simp only [World.size_alloc]; omega)).trans (heap_alloc2_old w1 _ _)
  have c0 := cell_of_row w2 w1.heap.size 0 z0 25 (0, 0) hold
  have c1 := cell_of_row w2 w1.heap.size 1 z0 25 (0, 0) hold
  have c2 := cell_of_row w2 w1.heap.size 2 z0 25 (0, 0) hold
  have c3 := cell_of_row w2 w1.heap.size 3 z0 25 (0, 0) hold
  have d0 : z0[0]? = some (.int .u8 227) := by rw [← hz0'.out, hr0'.out]; rfl
  have d1 : z0[1]? = some (.int .u8 176) := by rw [← hz0'.out, hr0'.out]; rfl
  have d2 : z0[2]? = some (.int .u8 196) := by rw [← hz0'.out, hr0'.out]; rfl
  have d3 : z0[3]? = some (.int .u8 66) := by rw [← hz0'.out, hr0'.out]; rfl
  have e0 : z1[0]? = some (.int .u8 186) := by rw [← hz1'.out, hr1'.out]; rfl
  have e1 : z1[1]? = some (.int .u8 120) := by rw [← hz1'.out, hr1'.out]; rfl
  have e2 : z1[2]? = some (.int .u8 22) := by rw [← hz1'.out, hr1'.out]; rfl
  have e3 : z1[3]? = some (.int .u8 191) := by rw [← hz1'.out, hr1'.out]; rfl
  rw [d0] at c0; rw [d1] at c1; rw [d2] at c2; rw [d3] at c3
  have hlt : w1.heap.size < w2.heap.size := by have := hb2.size; simp only [World.size_alloc] at this; omega
  have hne : w1.heap.size ≠ w2.heap.size := by omega
  have hne2 : ¬ w2.heap.size = w1.heap.size := by omega
  have hb2' := veil hb2
  have hb1' := veil hb1
  clear hb1 hb2 hR
  go_wp2_with (first
    | (refine wpList_store_at rfl 25 _ _ rfl z1 z32 25 _ rfl rfl rfl (by rw [← hz1'.out]; exact h25'.out _ hl1'.out) (by rw [← hz1'.out, outCells_size, sum_length]; rfl) (by rw [← hz1'.out]; exact outCells_one _) ?_)
    | fail)
  go_ret
  refine ⟨rfl, ?_⟩
  have h1 := (hb1'.out.alloc (hb1'.out.size) (.cells z0 25)).alloc (by have := hb1'.out.size; simp only [World.size_alloc]; omega) (.cells #[Value.int IntKind.u8 97, Value.int IntKind.u8 98, Value.int IntKind.u8 99] 5 (3, 4))
  have h2 := h1.trans (hb2'.out.mono h1.size)
  exact h2.alloc h2.size _
end Go.Proofs.Sha
