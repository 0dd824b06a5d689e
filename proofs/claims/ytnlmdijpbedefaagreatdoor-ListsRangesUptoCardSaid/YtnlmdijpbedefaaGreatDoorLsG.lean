import Derived.Test.YtnlmdijpbedefaaGreatDoorLsF
import Derived.ArgAppend
/- What the law of ranges leans on beside. -/
namespace Go.Proofs.Tryz.Ln
open Go Go.RowKit Go.Proofs.Mem Go.Proofs.App
open Go.Proofs.YtnlmdijpbedefaaGreatDoorW.PrintWords Go.Proofs.YtnlmdijpbedefaaGreatDoorW.PrintLast
open Go.Proofs.Rel (dsts depsOf)
set_option linter.unusedVariables false
set_option linter.unusedSimpArgs false
set_option maxRecDepth 100000 in
set_option maxHeartbeats 8000000 in
theorem texts01_nil (w : World) : Calls Tryz.prog 23 #[.slice none 0 0, .slice none 0 0] w fun e w' => e = .returned (.bool true) ∧ Below w.heap.size w w' := by
  go_enter Tryz.func23, Tryz.ntmps23
  go_wp2_with fail
  go_loopw [5] (fun i wr => i = .int .i64 0 ∧ wr = w) (fun i _ => 0)
  case atStart => exact ⟨rfl, rfl⟩
  case round =>
    obtain ⟨rfl, rfl⟩ := hrel
    go_wp2_with fail
    go_ret
    exact ⟨rfl, Below.refl _ _⟩
set_option maxRecDepth 100000 in
set_option maxHeartbeats 8000000 in
theorem same_zero (w : World) : Calls Tryz.prog 14 #[.agg (lvS [] nl), .agg (lvS [] nl)] w fun e w' => e = .returned (.bool true) ∧ Below w.heap.size w w' := by
  rw [show lvS [] nl = #[.int .u8 0, .string ⟨#[]⟩, .slice none 0 0, .slice none 0 0, .slice none 0 0] from rfl]
  obtain ⟨w2, hw2⟩ : ∃ w2 : World, w2 = (w.alloc (.cells #[.int .u8 0, .string ⟨#[]⟩, .slice none 0 0, .slice none 0 0, .slice none 0 0] 28)).alloc (.cells #[.int .u8 0, .string ⟨#[]⟩, .slice none 0 0, .slice none 0 0, .slice none 0 0] 28) := ⟨_, rfl⟩
  have hb2 : Below w.heap.size w w2 := by rw [hw2]; exact (below_alloc (Below.refl _ _) _).alloc (by simp) _
  have hs2 : w2.heap.size = w.heap.size + 2 := by rw [hw2]; simp
  have hu : w2.heap[w.heap.size]? = some (.cells #[.int .u8 0, .string ⟨#[]⟩, .slice none 0 0, .slice none 0 0, .slice none 0 0] 28 (0, 0)) := by rw [hw2]; exact heap_alloc2_old w _ _
  have hv : w2.heap[w.heap.size + 1]? = some (.cells #[.int .u8 0, .string ⟨#[]⟩, .slice none 0 0, .slice none 0 0, .slice none 0 0] 28 (0, 0)) := by
    rw [hw2]
    have h := heap_alloc_last (w.alloc (.cells #[.int .u8 0, .string ⟨#[]⟩, .slice none 0 0, .slice none 0 0, .slice none 0 0] 28)) (.cells #[.int .u8 0, .string ⟨#[]⟩, .slice none 0 0, .slice none 0 0, .slice none 0 0] 28)
    rw [show (w.alloc (.cells #[.int .u8 0, .string ⟨#[]⟩, .slice none 0 0, .slice none 0 0, .slice none 0 0] 28)).heap.size = w.heap.size + 1 by simp] at h
    exact h
  have hB2 := veil hb2
  have hU := veil hu
  have hV := veil hv
  have hcall := veil (texts01_nil w2)
  have hw2' := veil hw2
  clear hw2 hb2 hu hv
  go_enter Tryz.func14, Tryz.ntmps14
  go_wp2_with fail
  rw [← hw2'.out]
  refine hcall.out.mono ?_
  rintro e w3 ⟨rfl, hb3⟩
  have hB3 := veil (two_below hB2.out hb3)
  have u := (hb3.block _ (by omega)).trans hU.out
  have v := (hb3.block _ (by omega)).trans hV.out
  have u0 : w3.cell? ⟨w.heap.size, 0, none⟩ = some (.int .u8 0) := by rw [cell_of_row _ _ _ _ _ _ u]; rfl
  have u1 : w3.cell? ⟨w.heap.size, 1, none⟩ = some (.string ⟨#[]⟩) := by rw [cell_of_row _ _ _ _ _ _ u]; rfl
  have u3 : w3.cell? ⟨w.heap.size, 3, none⟩ = some nl := by rw [cell_of_row _ _ _ _ _ _ u]; rfl
  have u4 : w3.cell? ⟨w.heap.size, 4, none⟩ = some nl := by rw [cell_of_row _ _ _ _ _ _ u]; rfl
  have v0 : w3.cell? ⟨w.heap.size + 1, 0, none⟩ = some (.int .u8 0) := by rw [cell_of_row _ _ _ _ _ _ v]; rfl
  have v1 : w3.cell? ⟨w.heap.size + 1, 1, none⟩ = some (.string ⟨#[]⟩) := by rw [cell_of_row _ _ _ _ _ _ v]; rfl
  have v3 : w3.cell? ⟨w.heap.size + 1, 3, none⟩ = some nl := by rw [cell_of_row _ _ _ _ _ _ v]; rfl
  have v4 : w3.cell? ⟨w.heap.size + 1, 4, none⟩ = some nl := by rw [cell_of_row _ _ _ _ _ _ v]; rfl
  clear hb3 u v
  go_wp2_with fail
  go_loopw [6] (fun i wr => w3 = wr ∧ i = .int .i64 0) (fun i _ => 0)
  case atStart => exact ⟨rfl, rfl⟩
  case round =>
    obtain ⟨rfl, rfl⟩ := hrel
    go_wp2_with fail
    go_loopw [7] (fun i wr => w3 = wr ∧ i = .int .i64 0) (fun i _ => 0)
    case atStart => exact ⟨rfl, rfl⟩
    case round =>
      obtain ⟨rfl, rfl⟩ := hrel
      go_wp2_with fail
      go_ret
      exact ⟨rfl, hB3.out⟩
theorem fill2 (x y : ByteArray) : Instr.fill (fun i => some (i * 1, 1)) ((Array.range (2 * 1)).map ((Value.string ⟨#[]⟩).cells[· % (Value.string ⟨#[]⟩).cells.size]!)) [(0, .string x), (1, .string y)] = some #[.string x, .string y] := by
  have h : (Array.range (2 * 1)).map ((Value.string ⟨#[]⟩).cells[· % (Value.string ⟨#[]⟩).cells.size]!) = #[.string ⟨#[]⟩, .string ⟨#[]⟩] := by
    refine Array.ext (by simp) (fun i h1 h2 => ?_)
    have h3 : i < 2 := h2
    rcases i with _ | _ | i
    · simp [Value.cells]
    · simp [Value.cells]
    · omega
  rw [h]
  rfl
theorem run_texts2 (w : World) (x y : ByteArray) : (Instr.buildSlice 22 2 #[(0, .string x), (1, .string y)]).run Tryz.prog w = .ok (.slice (some ⟨w.heap.size, 0, none⟩) 2 2) (w.alloc (.cells #[.string x, .string y] 9)) := by
  have h := info_str
  cases h1 : Tryz.prog.info? 9 with
  | none => rw [h1] at h; cases h
  | some ie =>
    rw [h1] at h
    have h3 : ie.size = 1 := congrArg Prod.fst (Option.some.inj h)
    have h2 : ie.zero = some (.string ⟨#[]⟩) := congrArg Prod.snd (Option.some.inj h)
    exact run_buildSlice (P := Tryz.prog) w 22 9 2 _ #[.string x, .string y] ie _ Tryz.underlying22 h1 h2 (by rw [h3]; decide) (by rw [h3]; decide) (by rw [h3]; exact fill2 x y)
/-- two texts with others behind them: a new row -/
theorem append2 (w : World) (b : Nat) (x y : ByteArray) (ad : Addr) (n c : Nat) (ws : List ByteArray) (hb : w.heap[b]? = some (.cells #[.string x, .string y] 9 (0, 0))) (hr : ReadsOf Value.string ByteArray.empty w (some ad) n ws) (h0 : 0 < n) (hn : n ≤ 1000000) (ty : TypeId) :
    ∃ v w', (Builtin.append_ #[22, 22] ty #[.slice (some ⟨b, 0, none⟩) 2 2, .slice (some ad) n c]).run Tryz.prog w = .ok v w' ∧ OR w' w.heap.size v (x :: y :: ws) ∧ Below w.heap.size w w' := by
  obtain ⟨i0, hi, hzz⟩ := Option.map_eq_some_iff.1 infoS
  simp only [Prod.mk.injEq] at hzz
  obtain ⟨hz0, hz1, hz2⟩ := hzz
  have hl := hr.1
  obtain ⟨v, w', h1, h2, h3⟩ := run_append_arg_grows (P := Tryz.prog) w 22 ty 9 i0 (.string ⟨#[]⟩) 1 16 Tryz.underlying22 hi hz0 hz1 hz2 rfl (by decide) ⟨b, 0, none⟩ 2 2 [.string x, .string y] rfl
    (fun j u hu => by
      have hj : j < 2 := (List.getElem?_eq_some_iff.1 hu).1
      rw [add_off, Nat.zero_add, cell_of_row _ _ _ _ _ _ hb]
      simpa using hu) ad n c (encs Value.string ws) (by simp [encs, hl]) (fun j u hu => by
      simp only [encs, List.getElem?_map, Option.map_eq_some_iff] at hu
      obtain ⟨s, hs, rfl⟩ := hu
      obtain ⟨ad', e, hc⟩ := reads_at hr hs
      exact (Option.some.inj e).symm ▸ hc) (by omega) (by simp only [maxLen]; omega) (by omega)
  refine ⟨v, w', h1, ?_, ⟨h3.os, h3.tape, h3.output, h3.size, fun k hk => h3.block k hk (by simp)⟩⟩
  show w'.ownsRow w.heap.size 9 1 v (x :: y :: ws).length (encs Value.string (x :: y :: ws))
  rw [show (x :: y :: ws).length = 2 + n by simp [hl]; omega]
  exact h2
/-- a row of texts, made since -/
def owP (g : Nat) (l : List ByteArray) (x : Value) (w : World) : Prop := ∃ base, g < base ∧ OR w base x l
def owW (g : Nat) (L l : List ByteArray) (u : Tmp) : RelG.Rl (GoodW g L) := RelG.of _ u (owP g l) (fun x w w' ⟨base, h1, h2⟩ hle => ⟨base, h1, or_goodw h2 h1 hle⟩)
theorem cutL_ (A : Option Addr) (n c m : Nat) (hm : m ≤ n) (hc : n ≤ c) : ∃ A', (∀ W : World, (Instr.slice 22 (.slice A n c) (some (.int .i64 m)) none none).run Tryz.prog W = .ok (.slice A' (n - m) (c - m)) W) ∧ ∀ (w : World) (l : List ByteArray), ReadsOf Value.string ByteArray.empty w A n l → ReadsOf Value.string ByteArray.empty w A' (n - m) (l.drop m) := by
  obtain ⟨i0, hi, hzz⟩ := Option.map_eq_some_iff.1 infoS
  simp only [Prod.mk.injEq] at hzz
  obtain ⟨_, hz1, _⟩ := hzz
  obtain ⟨A', h1, h2⟩ := print_cut_of (P := Tryz.prog) Value.string ByteArray.empty 22 9 .i64 Tryz.underlying22 hi hz1 A n c m hm
  exact ⟨A', h1, fun w l h => h2 w l hc h⟩
theorem parseN {k : Int} (h : Int64 k) : Dig.parseO (numS k) = some k := Dig.parse_num k h
/-- from k on -/
theorem range_from (ws : List ByteArray) (k : Nat) (h : k ≤ ws.length) : ∃ a b : Nat, partA (ws.length : Int) k (-1) = a ∧ partB (ws.length : Int) k (-1) = b ∧ a ≤ b ∧ b ≤ ws.length ∧ (ws.take b).drop a = ws.drop k := by
  rcases Nat.lt_or_ge k ws.length with h1 | h1
  · obtain ⟨h2, h3⟩ := part_from ws.length k h1
    exact ⟨k, ws.length, h2, h3, h, Nat.le_refl _, by rw [List.take_length]⟩
  · obtain rfl : k = ws.length := by omega
    obtain ⟨h2, h3⟩ := part_none ws.length
    exact ⟨0, 0, h2, h3, Nat.le_refl _, Nat.zero_le _, by simp⟩
/-- ahead of k -/
theorem range_to (ws : List ByteArray) (k : Nat) (h : k ≤ ws.length) : ∃ b : Nat, partA (ws.length : Int) 0 ((k : Int) - 1) = ((0 : Nat) : Int) ∧ partB (ws.length : Int) 0 ((k : Int) - 1) = b ∧ b ≤ ws.length ∧ (k ≠ 0 → b = k) := by
  by_cases h0 : k = 0
  · subst h0
    obtain ⟨h2, h3⟩ := part_all ws.length
    exact ⟨ws.length, h2, h3, Nat.le_refl _, fun h => absurd rfl h⟩
  · obtain ⟨h2, h3⟩ := part_to ws.length k h (by omega)
    exact ⟨k, h2, h3, h, fun _ => rfl⟩
theorem texts_len (l : List ByteArray) (h : sumS l ≤ 1048576) (hn : l.length ≤ 1000) : 2 ≤ (textsL l).length ∧ (textsL l).length ≤ 9223372036854775807 := by
  refine ⟨?_, (texts_ok l h hn).2.2.1⟩
  unfold textsL arrL
  rw [List.length_append, lineL_len]
  show 2 ≤ (1 + _ + 2) + _
  omega
end Go.Proofs.Tryz.Ln
