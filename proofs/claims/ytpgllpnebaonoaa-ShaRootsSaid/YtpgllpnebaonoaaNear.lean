import Derived.BigQuiet
import Derived.Deep.QuietTactic
import Derived.StillTail
import Derived.Below
/- A region that draws its order, whose operations read what was and whose calls make memory and change nothing that was: one walk serves every order (the kit's law of quiet regions, at the class of the worlds that keep all of w). -/
namespace Go.Proofs.Near
open Go Go.RowKit

/-- the worlds that keep all of w -/
def Near (w : World) : Type := {u : World // Below w.heap.size w u}
instance nearFull (w : World) : Nonempty (Near w) := ⟨⟨w, Below.refl _ _⟩⟩
variable {P : Program}
theorem wp_region_near {id : Nat} {Q : Exit → Act → World → Prop} {a : Act} {w : World} {l : List Oper} (hm : P.follows .mixedOrders = true) (hB : Region.lexB .any l.toArray = true)
    (h : wpQuiet P l.toArray (fun w' => ∃ u : Near w, w' = u.1) (fun a' => ∀ u : Near w, Q .normal a' u.1) l a) : (Code.region id l.toArray true).wp P Q a w := by
  refine wp_region_quiet (C := fun w' => ∃ u : Near w, w' = u.1) hm hB ⟨⟨w.drew, ⟨(Below.refl w.heap.size w).os, (Below.refl w.heap.size w).tape, (Below.refl w.heap.size w).output, Nat.le_refl _, fun _ _ => rfl⟩⟩, rfl⟩ ?_
  have e : (fun a' => ∀ w', (∃ u : Near w, w' = u.1) → Q .normal a' w') = (fun a' => ∀ u : Near w, Q .normal a' u.1) := by
    funext a'
    apply propext
    exact ⟨fun h u => h _ ⟨u, rfl⟩, fun h w' ⟨u, e⟩ => e ▸ h u⟩
  rw [e]
  simpa using h
theorem near_cell {w : World} {p : Addr} {v : Value} (h : w.cell? p = some v) (u : Near w) : u.1.cell? p = some v :=
  (u.2.cell (World.block_lt_of_cell? w p h)).trans h
/-- a callee's contract, met in a world that keeps all of w -/
theorem near_call {f : FuncId} {args : Array Value} {w : World} {u : Near w} {v : Value} (h : Calls P f args u.1 fun e w' => e = .returned v ∧ Below u.1.heap.size u.1 w') : Calls P f args u.1 fun e w'' => e = .returned v ∧ ∃ u' : Near w, w'' = u'.1 :=
  h.mono fun _ w' ⟨he, hb⟩ => ⟨he, ⟨⟨w', u.2.trans (hb.mono u.2.size)⟩, rfl⟩⟩
theorem near_same {f : FuncId} {args : Array Value} {w : World} {u : Near w} {v : Value} (h : Calls P f args u.1 fun e w' => e = .returned v ∧ w' = u.1) : Calls P f args u.1 fun e w'' => e = .returned v ∧ ∃ u' : Near w, w'' = u'.1 :=
  h.mono fun _ _ ⟨he, hb⟩ => ⟨he, ⟨u, hb⟩⟩
end Go.Proofs.Near
