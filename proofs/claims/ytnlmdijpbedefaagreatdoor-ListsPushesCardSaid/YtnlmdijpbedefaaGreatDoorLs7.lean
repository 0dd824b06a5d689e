import Derived.Test.YtnlmdijpbedefaaGreatDoorLs6
import Derived.Test.YtnlmdijpbedefaaGreatDoorRelL
import Derived.Great.BuildSlice
/- What the laws of layer 12 lean on: a cell that holds a list, stored anew. -/
namespace Go.Proofs.Tryz.Ln
open Go Go.RowKit Go.Proofs.Mem Go.Proofs.App
open Go.Proofs.YtnlmdijpbedefaaGreatDoorW.PrintWords Go.Proofs.YtnlmdijpbedefaaGreatDoorW.PrintLast
open Go.Proofs.Rel (dsts depsOf)
set_option linter.unusedVariables false
set_option linter.unusedSimpArgs false
/-- nothing of what was turns -/
def BelO : RelG.Ord where
  le w w' := Below w.heap.size w w'
  refl w := Below.refl _ _
  trans h k := two_below h k
  bel h := h
def goodwLe (g : Nat) (L : List ByteArray) (w w' : World) : Prop :=
  (w'.os = w.os ∧ w'.tape = w.tape ∧ w'.output = w.output ∧ w.heap.size ≤ w'.heap.size) ∧ (∀ k, k ≠ g → k < w.heap.size → w'.heap[k]? = w.heap[k]?) ∧ (Good g L w → Good g L w')
/-- all stays but block g, which may hold a list of these texts -/
def GoodW (g : Nat) (L : List ByteArray) : RelG.Ord where
  le := goodwLe g L
  refl w := ⟨⟨rfl, rfl, rfl, Nat.le_refl _⟩, fun _ _ _ => rfl, fun h => h⟩
  trans {a b c} h k := ⟨⟨k.1.1.trans h.1.1, k.1.2.1.trans h.1.2.1, k.1.2.2.1.trans h.1.2.2.1, Nat.le_trans h.1.2.2.2 k.1.2.2.2⟩, fun i hi hl => (k.2.1 i hi (Nat.lt_of_lt_of_le hl h.1.2.2.2)).trans (h.2.1 i hi hl), fun hz => k.2.2 (h.2.2 hz)⟩
  bel {w w'} h := ⟨⟨h.os, h.tape, h.output, h.size⟩, fun k _ hl => h.block k hl, fun ⟨v, base, h1, h2, h3, h4⟩ => ⟨v, base, h1, own_move h2 (fun k hk => h.block k (own_lt h2 k hk)), by rw [h.block g (Array.getElem?_eq_some_iff.1 h3).1]; exact h3, h4⟩⟩
theorem bel_sub (g : Nat) (L : List ByteArray) : ∀ w w', BelO.le w w' → (GoodW g L).le w w' := fun w w' h => (GoodW g L).bel h
section
variable {g : Nat} {L : List ByteArray} {w w' : World}
theorem goodw_below {B : Nat} {w0 : World} (hb : Below B w w0) (h : (GoodW g L).le w0 w') (hg : B ≤ g) (hB : B ≤ w0.heap.size) : Below B w w' :=
  ⟨h.1.1.trans hb.os, h.1.2.1.trans hb.tape, h.1.2.2.1.trans hb.output, Nat.le_trans hb.size h.1.2.2.2, fun k hk => (h.2.1 k (by omega) (by omega)).trans (hb.block k hk)⟩
theorem or_goodw {base : Nat} {v : Value} {M : List ByteArray} (h : OR w base v M) (hb : g < base) (hle : (GoodW g L).le w w') : OR w' base v M :=
  own_move h (fun k hk => hle.2.1 k (by have := own_base h k hk; omega) (own_lt h k hk))
theorem fr_goodw {r : List Int} {x : Value} (h : RelG.frP g r x w) (hle : (GoodW g L).le w w') : RelG.frP g r x w' := by
  obtain ⟨A, n, c, base, rfl, hf, hg⟩ := h
  refine ⟨A, n, c, base, rfl, ⟨hf.len, hf.le, fun hp => ?_⟩, hg⟩
  obtain ⟨b, e, h1, h2, hc, hs⟩ := hf.there hp
  have hbk := hle.2.1 b (by omega) h2
  refine ⟨b, e, h1, Nat.lt_of_lt_of_le h2 hle.1.2.2.2, fun j hj => ?_, fun j hj => ?_⟩
  · rw [← hc j hj]; unfold World.cell?; rw [hbk]
  · have := hs j hj
    unfold World.cell? World.frozen? at this ⊢
    rw [hbk]
    exact this
end
def lvW (g : Nat) (L : List ByteArray) (u : Tmp) : RelG.Rl (GoodW g L) := RelG.of _ u (lvP g L) (fun x w w' ⟨v, base, h1, h2, h3, h4⟩ hle => ⟨v, base, h1, h2, or_goodw h3 h2 hle, h4⟩)
theorem prP_w {g : Nat} {L : List ByteArray} {r : List Int} (x : Value) (w w' : World) (h : prP g L r x w) (hle : (GoodW g L).le w w') : prP g L r x w' := by
  obtain ⟨v, y, base, h1, h2, h3, h4, h5⟩ := h
  exact ⟨v, y, base, h1, h2, or_goodw h3 h2 hle, h4, fr_goodw h5 hle⟩
def prW (g : Nat) (L : List ByteArray) (r : List Int) (u : Tmp) : RelG.Rl (GoodW g L) := RelG.of _ u (prP g L r) prP_w
def frW (g : Nat) (L : List ByteArray) (r : List Int) (u : Tmp) : RelG.Rl (GoodW g L) := RelG.of _ u (RelG.frP g r) (fun x w w' h hle => fr_goodw h hle)
def goodWR (g : Nat) (L : List ByteArray) : RelG.Rl (GoodW g L) := RelG.wo _ (Good g L) (fun w w' h hle => hle.2.2 h)
/-- a row of texts of later on -/
def txP (g : Nat) (v : Array Value) (x : Value) (w : World) : Prop := ∃ b, x = .slice (some ⟨b, 0, none⟩) v.size v.size ∧ w.heap[b]? = some (.cells v 9 (0, 0)) ∧ b ≠ g
def txW (g : Nat) (L : List ByteArray) (v : Array Value) (u : Tmp) : RelG.Rl (GoodW g L) := RelG.of _ u (txP g v) (fun x w w' ⟨b, h1, h2, h3⟩ hle => ⟨b, h1, (hle.2.1 b h3 (Array.getElem?_eq_some_iff.1 h2).1).trans h2, h3⟩)
theorem goodw_store {g : Nat} {L : List ByteArray} {w : World} {v : Value} {old : Array Value} {base : Nat} (hg : w.heap[g]? = some (.cells old tV (0, 0))) (hb : g < base) (ho : OR w base v L) (h1 : v.oneCell' = true) :
    Good g L (w.setRow g (lvS L v)) ∧ (GoodW g L).le w (w.setRow g (lvS L v)) := by
  have hset := setRow_heap w g old (lvS L v) tV (0, 0) hg
  have hG : Good g L (w.setRow g (lvS L v)) := ⟨v, base, hb, own_setRow ho hg, hset, h1⟩
  refine ⟨hG, ⟨rfl, rfl, rfl, by simp [World.setRow]⟩, fun k hk _ => ?_, fun _ => hG⟩
  unfold World.setRow
  simp only [Array.getElem?_modify]
  rw [if_neg (fun e => hk e.symm)]
theorem info_str : (Tryz.prog.info? 9).map (fun i => (i.size, i.zero)) = some (1, some (.string ⟨#[]⟩)) := by kernel_rfl
theorem fill3 (x y z : ByteArray) : Instr.fill (fun i => some (i * 1, 1)) ((Array.range (3 * 1)).map ((Value.string ⟨#[]⟩).cells[· % (Value.string ⟨#[]⟩).cells.size]!)) [(0, .string x), (1, .string y), (2, .string z)] = some #[.string x, .string y, .string z] := by
  have h : (Array.range (3 * 1)).map ((Value.string ⟨#[]⟩).cells[· % (Value.string ⟨#[]⟩).cells.size]!) = #[.string ⟨#[]⟩, .string ⟨#[]⟩, .string ⟨#[]⟩] := by
    refine Array.ext (by simp) (fun i h1 h2 => ?_)
    have h3 : i < 3 := h2
    rcases i with _ | _ | _ | i
    · simp [Value.cells]
    · simp [Value.cells]
    · simp [Value.cells]
    · omega
  rw [h]
  rfl
theorem run_texts3 (w : World) (x y z : ByteArray) : (Instr.buildSlice 22 3 #[(0, .string x), (1, .string y), (2, .string z)]).run Tryz.prog w = .ok (.slice (some ⟨w.heap.size, 0, none⟩) 3 3) (w.alloc (.cells #[.string x, .string y, .string z] 9)) := by
  have h := info_str
  cases h1 : Tryz.prog.info? 9 with
  | none => rw [h1] at h; cases h
  | some ie =>
    rw [h1] at h
    have h3 : ie.size = 1 := congrArg Prod.fst (Option.some.inj h)
    have h2 : ie.zero = some (.string ⟨#[]⟩) := congrArg Prod.snd (Option.some.inj h)
    exact run_buildSlice (P := Tryz.prog) w 22 9 3 _ #[.string x, .string y, .string z] ie _ Tryz.underlying22 h1 h2 (by rw [h3]; decide) (by rw [h3]; decide) (by rw [h3]; exact fill3 x y z)
/-- the first m of a row -/
theorem cutH (A : Option Addr) (n c m : Nat) (hm : m ≤ n) (hc : n ≤ c) : ∀ W : World, (Instr.slice 22 (.slice A n c) none (some (.int .i64 m)) none).run Tryz.prog W = .ok (.slice A m c) W := by
  obtain ⟨i0, hi, hzz⟩ := Option.map_eq_some_iff.1 infoS
  simp only [Prod.mk.injEq] at hzz
  obtain ⟨_, hz1, _⟩ := hzz
  have hu : Tryz.prog.underlying 22 = some (.slice 9) := Tryz.underlying22
  have hel : Tryz.prog.elem 22 = 9 := by simp [Program.elem, hu]
  intro W
  have hu2 : Tryz.prog.underlying 22 = some (.slice (Tryz.prog.elem 22)) := by rw [hel]; exact hu
  rw [run_slice_h W 22 A n c hu2 .i64 m (by omega) (by omega), hel]
  have hA : (if c = 0 then A else A.map (·.add (0 * 1))) = A := by
    cases A with
    | none => simp
    | some ad => simp [Addr.add]
  simp [sizeOf, typeInfo, hi, hz1, sliced, Result.andThen, hA]
end Go.Proofs.Tryz.Ln
