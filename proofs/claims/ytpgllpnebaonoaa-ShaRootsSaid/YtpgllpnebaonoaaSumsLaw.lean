import Derived.Test.YtpgllpnebaonoaaShown
/- The first statement's law tells true. -/
namespace Go.Proofs.Sha
open Go Go.RowKit Sha2 Mem QTail
open Go.Proofs.YtpgllpnebaonoaaW.PrintWords
set_option linter.unusedVariables false

theorem outCells_at (l : List Nat) (i : Nat) (h : i < l.length) : ∃ x, (outCells l)[i]? = some (.int .u8 x) := by
  simp [outCells, h]
theorem eqItems_same (w : World) (d : Nat) (z : Array Value) (is : List Nat) (h : ∀ i ∈ is, ∃ x, z[i]? = some (.int .u8 x)) : (Op.eqItems (d + 1) 5 1 z z is).run Try.prog w = .ok true w := by
  induction is with
  | nil => simp [Op.eqItems]
  | cons i is ih =>
    obtain ⟨x, hx⟩ := h i (by simp)
    have hp := run_part_plain (P := Try.prog) (e := 5) w (by kernel_rfl) (xs := z) (off := i * 1) (by rw [Nat.mul_one]; exact hx)
    have he := run_equalIn_int (P := Try.prog) w d 5 .u8 .u8 x x Try.underlying5
    simp only [Op.eqItems, Sem.run_bind, hp, he, Result.andThen_ok]
    simpa using ih fun j hj => h j (by simp [hj])
theorem eql_same (z : Array Value) (h : ∀ i, i < 32 → ∃ x, z[i]? = some (.int .u8 x)) (w : World) : (binOp .eql 25 (.agg z) (.agg z)).run Try.prog w = .ok (.bool true) w := by
  obtain ⟨i5, hi5⟩ : ∃ i, Try.prog.info? 5 = some i := by
    obtain ⟨i, hi, _⟩ := Option.map_eq_some_iff.1 info5
    exact ⟨i, hi⟩
  have h1 := run_equalIn_array (P := Try.prog) w 9999 (t := 25) z z Try.underlying25 hi5
  rw [show Try.prog.cellsOf 5 = 1 from by kernel_rfl, eqItems_same w 9998 z _ (fun i hi => h i (by simpa using hi))] at h1
  simp only [binOp]
  simp [Op.equal, Op.maxDepth, h1]
/-- true, and what was stays -/
def YesBelow (w : World) (e : Ending) (w' : World) : Prop := e = .returned (.bool true) ∧ Below w.heap.size w w'
set_option maxHeartbeats 1000000 in
theorem lawSums_any (A : Option Addr) (n c : Nat) (xs : List Int) (w : World) (hc : n ≤ c) (hc2 : c ≤ 9223372036854775807) (HR : ReadsInt w .u8 A n xs) (hx : Bytes xs) :
    Calls Try.prog 3 #[.slice A n c] w (YesBelow w) := by
  obtain ⟨m, hm⟩ : ∃ m, min n 300 = m := ⟨_, rfl⟩
  have hm1 : m ≤ 300 := by omega
  have hm2 : m ≤ c := by omega
  have HT := HR.take_ m (by omega)
  have HT' := veil HT
  have hxt : Bytes (xs.take m) := fun x h => hx x (List.mem_of_mem_take h)
  have hxt' := veil hxt
  have hm' := veil hm
  clear HT HR hx hxt hm
  obtain ⟨ys, hys⟩ : ∃ ys, xs.take m = ys := ⟨_, rfl⟩
  rw [hys] at HT' hxt'
  clear hys
  obtain ⟨z, hz⟩ : ∃ z, outCells (Sha2.sum (ys.map Int.toNat)) = z := ⟨_, rfl⟩
  have hz' := veil hz
  clear hz
  go_enter Try.func3, Try.ntmps3
  go_wp2_with fail
  refine (shown_any _).mono ?_
  rintro e w1 ⟨rfl, hb1⟩
  have hb1' := veil hb1
  clear hb1
  go_wp2_with fail
  refine (short_any A n c _ hc hc2).mono ?_
  rintro e w1' ⟨rfl, rfl⟩
  rw [hm'.out]
  go_wp2_with fail
  refine (sum_any A m c ys _ hm1 hm2 (HT'.out.below hb1'.out) hxt'.out).mono ?_
  rintro e w2 ⟨rfl, hb2⟩
  rw [hz'.out]
  have hb2' := veil hb2
  have h12 := veil (hb1'.out.trans (hb2.mono hb1'.out.size))
  clear hb2
  go_wp2_with fail
  refine (rsum_any A m c ys _ hm1 hm2 (HT'.out.below h12.out) hxt'.out).mono ?_
  rintro e w3 ⟨rfl, hb3⟩
  rw [hz'.out]
  have hb3' := veil hb3
  clear hb3
  have hq := eql_same z (fun i hi => by rw [← hz'.out]; exact outCells_at _ i (by rw [sum_length]; exact hi))
  go_wp2_with fail
  go_ret
  exact ⟨rfl, h12.out.trans (hb3'.out.mono h12.out.size)⟩
theorem bytes_of_wf {l : List Int} (h : ∀ x ∈ l, (Lit.int .u8 x).wf = true) : Bytes l := fun x hx => by
  have := h x hx
  simp [Lit.wf] at this
  have h0 : IntKind.u8.min = 0 := by rfl
  have h1 : IntKind.u8.max = 255 := by rfl
  omega
theorem sums_walk (A : Option Addr) (len cap : Nat) (z : List Int) (w : World) (hz : (A = none ∧ len = 0 ∧ cap = 0 ∧ z = []) ∨ ∃ x, A = some x ∧ len ≤ cap ∧ cap ≤ maxLen ∧ z.length = cap ∧ (∀ i, i < z.length → w.cell? (x.add i) = some (.int .u8 (z.getD i 0))) ∧ ∀ n ∈ z, (Lit.int .u8 n).wf = true) (y : len * 1 ≤ 140737488351232) :
    Calls Try.prog 3 #[.slice A len cap] w fun e w' => e = .returned (.bool true) ∧ Below w.heap.size w w' := by
  have hcap : cap ≤ 9223372036854775807 := by
    rcases hz with ⟨_, _, rfl, _⟩ | ⟨_, _, _, h, _⟩
    · omega
    · simpa [maxLen] using h
  obtain ⟨l, rfl, hr, hm, hw, hc⟩ := ReadsInt.ofRowC hz
  exact lawSums_any A _ cap l w hc hcap hr (bytes_of_wf hw)
end Go.Proofs.Sha
