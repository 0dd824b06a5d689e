import Derived.Test.YtmfjpdhhcgkjaaaGreatDoorShow11
import Derived.Test.YtmfjpdhhcgkjaaaGreatDoorRelP
/- What the laws of layer 11 lean on. -/
namespace Go.Proofs.Tryz.Ln
open Go Go.RowKit Go.Proofs.Mem Go.Proofs.App
open Go.Proofs.YtmfjpdhhcgkjaaaGreatDoorW.PrintWords
set_option linter.unusedVariables false
theorem below_set {n : Nat} {w w1 : World} (h : Below n w w1) (g : Nat) (hg : n ≤ g) (c : Array Value) : Below n w (w1.setRow g c) :=
  ⟨h.os, h.tape, h.output, by simp only [World.setRow, Array.size_modify]; exact h.size, fun k hk => by
    unfold World.setRow
    simp only [Array.getElem?_modify]
    rw [if_neg (by omega)]
    exact h.block k hk⟩
theorem rdB {P : Program} {f : FuncId} {args : Array Value} {l : List Int} {w : World} (hl : l.length ≤ 9223372036854775807) (h : Calls P f args w (Bytes_ l w)) : Calls P f args w fun e w' => ∃ x, e = .returned x ∧ (Rel.rd l).1 x w' ∧ Below w.heap.size w w' :=
  h.mono fun e w' ⟨A, c, he, hf, hb⟩ => ⟨_, he, ⟨A, _, c, rfl, hf.reads hl⟩, hb⟩
/-- a new cell that holds v -/
structure NewV (v : Array Value) (w W : World) : Prop where
  sz : W.heap.size = w.heap.size + 1
  cell : W.heap[w.heap.size]? = some (.cells v 26 (0, 0))
  bel : Below w.heap.size w W
theorem newV (v : Array Value) (w : World) : NewV v w ((w.alloc (.cells #[.int .u8 0, .string ⟨#[]⟩, .slice none 0 0, .slice none 0 0, .slice none 0 0] 26)).setRow w.heap.size v) where
  sz := by simp [World.setRow]
  cell := setRow_heap _ w.heap.size zS _ _ (0, 0) (heap_alloc_last w _)
  bel := below_set (below_alloc (Below.refl _ _) _) _ (Nat.le_refl _) _
/-- a new row of texts -/
structure NewT (v : Array Value) (w W : World) : Prop where
  sz : W.heap.size = w.heap.size + 1
  cell : W.heap[w.heap.size]? = some (.cells v 9 (0, 0))
  bel : Below w.heap.size w W
theorem newT (v : Array Value) (w : World) : NewT v w (w.alloc (.cells v 9)) where
  sz := by simp
  cell := heap_alloc_last w _
  bel := below_alloc (Below.refl _ _) _
theorem line_len (m : UInt8) (s : ByteArray) : (lineL ⟨#[m]⟩ s).length = s.size + 3 := by
  rw [lineL_len]
  show 1 + s.size + 2 = _
  omega
def cut20 (s : ByteArray) : ByteArray := if 20 < s.size then s.extract 0 20 else s.extract 0 s.size
theorem cut20_size (s : ByteArray) : (cut20 s).size ≤ 20 := by
  unfold cut20
  split
  · rw [ByteArray.size_extract]; omega
  · rw [ByteArray.size_extract]; omega
end Go.Proofs.Tryz.Ln
