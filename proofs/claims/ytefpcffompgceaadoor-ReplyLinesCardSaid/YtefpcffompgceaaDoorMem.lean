import Derived.WalkKit
import Derived.Deep.WholeRow
import Derived.ChangeKeysEq
import Derived.Below
import Derived.KernelRfl
import Derived.BigQuiet
/- A world with some blocks more, told as a list. -/
namespace Go.Proofs.Mem
open Go Go.RowKit
set_option linter.unusedVariables false

/-- a fact that neither the walk nor 'contradiction' looks into -/
structure Veil (p : Prop) : Prop where mk :: (out : p)
theorem veil {p : Prop} (h : p) : Veil p := ⟨h⟩

/-- w, and so many new blocks, and draws -/
def plus (w : World) (l : List Obj) (q : Nat) : World := (l.foldl World.alloc w).drewN q

theorem foldl_heap (l : List Obj) : ∀ w : World, (l.foldl World.alloc w).heap = w.heap ++ l.toArray := by
  induction l with
  | nil => intro w; simp
  | cons o l ih =>
    intro w
    rw [List.foldl_cons, ih]
    show w.heap.push o ++ l.toArray = _
    apply Array.ext'
    simp
theorem plus_heap (w : World) (l : List Obj) (q : Nat) : (plus w l q).heap = w.heap ++ l.toArray := foldl_heap l w
theorem plus_at (w : World) (l : List Obj) (q i : Nat) (h : i < l.length) : (plus w l q).heap[w.heap.size + i]? = some l[i] := by
  rw [plus_heap, Array.getElem?_append, if_neg (by omega)]; simp [h]
theorem plus_at' (w : World) (l : List Obj) (q i : Nat) (o : Obj) (h : l[i]? = some o) : (plus w l q).heap[w.heap.size + i]? = some o := by
  obtain ⟨hi, rfl⟩ := List.getElem?_eq_some_iff.1 h
  exact plus_at w l q i hi
theorem plus_old (w : World) (l : List Obj) (q k : Nat) (h : k < w.heap.size) : (plus w l q).heap[k]? = w.heap[k]? := by
  rw [plus_heap, Array.getElem?_append, if_pos h]
theorem plus_size (w : World) (l : List Obj) (q : Nat) : (plus w l q).heap.size = w.heap.size + l.length := by
  rw [plus_heap]; simp
theorem foldl_os (l : List Obj) : ∀ w : World, (l.foldl World.alloc w).os = w.os ∧ (l.foldl World.alloc w).tape = w.tape ∧ (l.foldl World.alloc w).output = w.output ∧ (l.foldl World.alloc w).drawn = w.drawn := by
  induction l with
  | nil => intro w; exact ⟨rfl, rfl, rfl, rfl⟩
  | cons o l ih => intro w; rw [List.foldl_cons]; exact ih _
theorem drewN_fields (w : World) (q : Nat) : (w.drewN q).os = w.os ∧ (w.drewN q).tape = w.tape ∧ (w.drewN q).output = w.output ∧ (w.drewN q).heap = w.heap ∧ (w.drewN q).drawn = w.drawn + q := ⟨rfl, rfl, rfl, rfl, rfl⟩
theorem plus_below (w : World) (l : List Obj) (q : Nat) : Below w.heap.size w (plus w l q) :=
  ⟨(foldl_os l w).1, (foldl_os l w).2.1, (foldl_os l w).2.2.1, by rw [plus_size]; omega, fun k hk => plus_old w l q k hk⟩
theorem plus_alloc (w : World) (l : List Obj) (q : Nat) (o : Obj) : (plus w l q).alloc o = plus w (l ++ [o]) q := by
  unfold plus; rw [List.foldl_append]; rfl
theorem plus_drewN (w : World) (l : List Obj) (q m : Nat) : (plus w l q).drewN m = plus w l (q + m) := by
  unfold plus; rw [World.drewN_drewN]
theorem plus_drew (w : World) (l : List Obj) (q : Nat) : (plus w l q).drew = plus w l (q + 1) := plus_drewN w l q 1
theorem world_ext {a b : World} (h1 : a.heap = b.heap) (h2 : a.os = b.os) (h3 : a.tape = b.tape) (h4 : a.output = b.output) (h5 : a.drawn = b.drawn) : a = b := by
  cases a; cases b; simp_all
theorem heap_ext {a b : World} (h1 : ∀ k : Nat, a.heap[k]? = b.heap[k]?) (h2 : a.os = b.os) (h3 : a.tape = b.tape) (h4 : a.output = b.output) (h5 : a.drawn = b.drawn) : a = b :=
  world_ext (Array.ext_getElem? h1) h2 h3 h4 h5
/-- one block turned -/
theorem plus_modify (w w' : World) (l : List Obj) (q i : Nat) (o : Obj) (hh : ∀ k : Nat, w'.heap[k]? = if k = w.heap.size + i then some o else (plus w l q).heap[k]?)
    (h2 : w'.os = (plus w l q).os) (h3 : w'.tape = (plus w l q).tape) (h4 : w'.output = (plus w l q).output) (h5 : w'.drawn = (plus w l q).drawn) (hi : i < l.length) : w' = plus w (l.set i o) q := by
  refine heap_ext (fun k => ?_) ?_ ?_ ?_ ?_
  · rw [hh k]
    by_cases hk : k = w.heap.size + i
    · subst hk; rw [if_pos rfl, plus_at' w (l.set i o) q i o (by simp [hi])]
    · rw [if_neg hk]
      by_cases hk2 : k < w.heap.size
      · rw [plus_old _ _ _ _ hk2, plus_old _ _ _ _ hk2]
      · obtain ⟨j, rfl⟩ : ∃ j, k = w.heap.size + j := ⟨k - w.heap.size, by omega⟩
        have hne : i ≠ j := fun h => hk (by rw [h])
        rw [plus_heap, plus_heap, Array.getElem?_append, Array.getElem?_append, if_neg hk2, if_neg hk2]
        simp only [List.getElem?_toArray]
        rw [show w.heap.size + j - w.heap.size = j by omega, List.getElem?_set_ne hne]
  · rw [h2]; exact ((foldl_os l w).1).trans ((foldl_os _ w).1).symm
  · rw [h3]; exact ((foldl_os l w).2.1).trans ((foldl_os _ w).2.1).symm
  · rw [h4]; exact ((foldl_os l w).2.2.1).trans ((foldl_os _ w).2.2.1).symm
  · rw [h5]; show (l.foldl World.alloc w).drawn + q = ((l.set i o).foldl World.alloc w).drawn + q; rw [(foldl_os l w).2.2.2, (foldl_os _ w).2.2.2]
theorem plus_setRow (w : World) (l : List Obj) (q i : Nat) (c c' : Array Value) (t : TypeId) (h : l[i]? = some (.cells c t (0, 0))) :
    (plus w l q).setRow (w.heap.size + i) c' = plus w (l.set i (.cells c' t (0, 0))) q := by
  obtain ⟨hi, _⟩ := List.getElem?_eq_some_iff.1 h
  have hg := plus_at' w l q i _ h
  refine plus_modify w _ l q i _ (fun k => ?_) rfl rfl rfl rfl hi
  by_cases hk : k = w.heap.size + i
  · subst hk; rw [if_pos rfl]; exact setRow_heap _ _ _ _ _ _ hg
  · rw [if_neg hk]; exact setRow_other _ _ _ _ hk
theorem plus_setCell (w : World) (l : List Obj) (q i j : Nat) (c : Array Value) (t : TypeId) (v : Value) (h : l[i]? = some (.cells c t (0, 0))) :
    (plus w l q).setCell ⟨w.heap.size + i, j, none⟩ v = plus w (l.set i (.cells (c.setIfInBounds j v) t (0, 0))) q := by
  obtain ⟨hi, _⟩ := List.getElem?_eq_some_iff.1 h
  have hg := plus_at' w l q i _ h
  have hlt : w.heap.size + i < (plus w l q).heap.size := by rw [plus_size]; omega
  refine plus_modify w _ l q i _ (fun k => ?_) rfl rfl rfl rfl hi
  unfold World.setCell
  simp only [Array.getElem?_modify]
  by_cases hk : k = w.heap.size + i
  · subst hk; rw [if_pos rfl, if_pos rfl, hg]; rfl
  · rw [if_neg (fun h => hk h.symm), if_neg hk]
theorem plus_cell (w : World) (l : List Obj) (q i j : Nat) (c : Array Value) (t : TypeId) (v : Value) (h : l[i]? = some (.cells c t (0, 0))) (hv : c[j]? = some v) :
    (plus w l q).cell? ⟨w.heap.size + i, j, none⟩ = some v := by
  rw [cell_of_row _ _ _ _ _ _ (plus_at' w l q i _ h)]; exact hv
theorem plus_free (w : World) (l : List Obj) (q i j : Nat) (c : Array Value) (t : TypeId) (h : l[i]? = some (.cells c t (0, 0))) :
    (plus w l q).frozen? ⟨w.heap.size + i, j, none⟩ = false := by
  simp [World.frozen?, plus_at' w l q i _ h]
theorem plus_cell_old (w : World) (l : List Obj) (q b o : Nat) (h : b < w.heap.size) : (plus w l q).cell? ⟨b, o, none⟩ = w.cell? ⟨b, o, none⟩ := by
  simp [World.cell?, plus_old w l q b h]
theorem plus_zero (w : World) : plus w [] 0 = w := rfl
theorem plus_of_alloc (w : World) (o : Obj) : w.alloc o = plus w [o] 0 := rfl
theorem index_at {P : Program} (t e : TypeId) (n : Nat) (cs : Array Value) (k : IntKind) (i : Int) (v : Value) (w : World) (ie : TypeInfo) (ke : IntKind) (h : P.underlying t = some (.array n e)) (he : P.underlying e = some (.int ke)) (hi : P.info? e = some ie) (h1 : P.cellsOf e = 1)
    (h0 : 0 ≤ i) (hn : i < (n : Int)) (hv : cs[i.toNat]? = some v) : (Instr.index t (.agg cs) (.int k i)).run P w = .ok v w := by
  have hs : (sizeOf e).run P w = .ok 1 w := by rw [run_sizeOf w hi, h1]
  have ha : (isAgg e).run P w = .ok false w := by unfold isAgg; rw [Sem.run_bind, run_underlying he w]; simp
  simp [Instr.index, run_underlying h, asIntOf, h0, hn, Sem.run_bind, hs, part, ha, hv]
theorem info_of {P : Program} {t : TypeId} (h : (P.info? t).isSome = true) : ∃ i, P.info? t = some i := Option.isSome_iff_exists.1 h
theorem wpList_build_to {P : Program} {ops : Array Oper} {rest : List Oper} {o : Oper} {a : Act} {w : World} {Q : Exit → Act → World → Prop} (hg : o.guard = none) (t : TypeId) (parts : Array (Nat × Operand)) (ho : o.op = .build t parts)
    (cells : Array Value) (hf : P.built t (parts.map fun (i, x) => (i, a.eval x)).toList = some cells)
    (h : wpList P ops Q rest (a.put o.dst (.agg cells)) w) : wpList P ops Q (o :: rest) a w :=
  wpList_build hg t parts ho (by rw [hf]; rfl) (by rw [hf]; exact h)
theorem wpList_store_new {P : Program} {ops : Array Oper} {rest : List Oper} {o : Oper} {a : Act} {w : World} {Q : Exit → Act → World → Prop} (hgd : o.guard = none) (ty : TypeId) (x y : Operand) (ho : o.op = .store ty x y)
    (cells old : Array Value) (t : TypeId) (hx : a.eval x = .pointer (some ⟨w.heap.size, 0, none⟩)) (hy : a.eval y = .agg cells)
    (hi : (P.info? ty).map (·.size) = some cells.size)
    (hold : old.size = cells.size) (h1 : cells.all (·.oneCell') = true)
    (h : wpList P ops Q rest (a.put o.dst undef) (w.alloc (.cells cells t))) : wpList P ops Q (o :: rest) a (w.alloc (.cells old t)) :=
  wpList_store_row hgd ty x y ho w.heap.size cells hx hy t old (heap_alloc_last w _) hi hold h1 (by rw [World.setRow_alloc_new]; exact h)
theorem wpList_store_at {P : Program} {ops : Array Oper} {rest : List Oper} {o : Oper} {a : Act} {w : World} {Q : Exit → Act → World → Prop} (hgd : o.guard = none) (ty : TypeId) (x y : Operand) (ho : o.op = .store ty x y)
    (cells old : Array Value) (t : TypeId) (g : Nat) (hx : a.eval x = .pointer (some ⟨g, 0, none⟩)) (hg : g = w.heap.size) (hy : a.eval y = .agg cells)
    (hi : (P.info? ty).map (·.size) = some cells.size)
    (hold : old.size = cells.size) (h1 : cells.all (·.oneCell') = true)
    (h : wpList P ops Q rest (a.put o.dst undef) (w.alloc (.cells cells t))) : wpList P ops Q (o :: rest) a (w.alloc (.cells old t)) :=
  wpList_store_new hgd ty x y ho cells old t (by rw [hx, hg]) hy hi hold h1 h
theorem below_setRow {B : Nat} {w w' : World} (h : Below B w w') (g : Nat) (cs : Array Value) (hg : B ≤ g) : Below B w (w'.setRow g cs) :=
  ⟨h.os, h.tape, h.output, by have := h.size; simpa [World.setRow] using this, fun k hk => by rw [setRow_other _ _ _ _ (by omega)]; exact h.block k hk⟩
theorem heap_alloc2_old (w : World) (o p : Obj) : ((w.alloc o).alloc p).heap[w.heap.size]? = some o := by
  show ((w.heap.push o).push p)[w.heap.size]? = some o
  rw [Array.getElem?_push, if_neg (by simp), Array.getElem?_push_size]
theorem two_below {a b c : World} (h1 : Below a.heap.size a b) (h2 : Below b.heap.size b c) : Below a.heap.size a c := h1.trans (h2.mono h1.size)
/-- below the base of a call, in two steps -/
theorem base_below {B : Nat} {a b c : World} (h1 : Below B a b) (hB : B ≤ b.heap.size) (h2 : Below b.heap.size b c) : Below B a c := h1.trans (h2.mono hB)
end Go.Proofs.Mem
