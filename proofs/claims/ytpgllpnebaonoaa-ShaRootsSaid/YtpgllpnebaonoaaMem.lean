import Derived.WalkKit
import Derived.Deep.WholeRow
import Derived.ChangeKeysEq
import Derived.KernelRfl
import Derived.BigQuiet
/- A world with some blocks more, told as a list. -/
namespace Go.Proofs.Mem
open Go Go.RowKit
set_option linter.unusedVariables false

/-- a fact that neither the walk nor 'contradiction' looks into -/
structure Veil (p : Prop) : Prop where mk :: (out : p)
theorem veil {p : Prop} (h : p) : Veil p := ⟨h⟩

/-- w, and so many new blocks, and draws -/
def plus (w : World) (l : List Obj) (q : Nat) : World := (l.foldl World.alloc w).drewN q

theorem foldl_heap (l : List Obj) : ∀ w : World, (l.foldl World.alloc w).heap = w.heap ++ l.toArray := by
  induction l with
  | nil => intro w; simp
  | cons o l ih =>
    intro w
    rw [List.foldl_cons, ih]
    show w.heap.push o ++ l.toArray = _
    apply Array.ext'
    simp
theorem plus_heap (w : World) (l : List Obj) (q : Nat) : (plus w l q).heap = w.heap ++ l.toArray := foldl_heap l w
theorem plus_at (w : World) (l : List Obj) (q i : Nat) (h : i < l.length) : (plus w l q).heap[w.heap.size + i]? = some l[i] := by
  rw [plus_heap, Array.getElem?_append, if_neg (by omega)]; simp [h]
theorem plus_at' (w : World) (l : List Obj) (q i : Nat) (o : Obj) (h : l[i]? = some o) : (plus w l q).heap[w.heap.size + i]? = some o := by
  obtain ⟨hi, rfl⟩ := List.getElem?_eq_some_iff.1 h
  exact plus_at w l q i hi
theorem plus_old (w : World) (l : List Obj) (q k : Nat) (h : k < w.heap.size) : (plus w l q).heap[k]? = w.heap[k]? := by
  rw [plus_heap, Array.getElem?_append, if_pos h]
theorem plus_size (w : World) (l : List Obj) (q : Nat) : (plus w l q).heap.size = w.heap.size + l.length := by
  rw [plus_heap]; simp
theorem foldl_os (l : List Obj) : ∀ w : World, (l.foldl World.alloc w).os = w.os ∧ (l.foldl World.alloc w).tape = w.tape ∧ (l.foldl World.alloc w).output = w.output ∧ (l.foldl World.alloc w).drawn = w.drawn := by
  induction l with
  | nil => intro w; exact ⟨rfl, rfl, rfl, rfl⟩
  | cons o l ih => intro w; rw [List.foldl_cons]; exact ih _
theorem drewN_fields (w : World) (q : Nat) : (w.drewN q).os = w.os ∧ (w.drewN q).tape = w.tape ∧ (w.drewN q).output = w.output ∧ (w.drewN q).heap = w.heap ∧ (w.drewN q).drawn = w.drawn + q := ⟨rfl, rfl, rfl, rfl, rfl⟩
theorem plus_below (w : World) (l : List Obj) (q : Nat) : Below w.heap.size w (plus w l q) :=
  ⟨(foldl_os l w).1, (foldl_os l w).2.1, (foldl_os l w).2.2.1, by rw [plus_size]; omega, fun k hk => plus_old w l q k hk⟩
theorem plus_alloc (w : World) (l : List Obj) (q : Nat) (o : Obj) : (plus w l q).alloc o = plus w (l ++ [o]) q := by
  unfold plus; rw [List.foldl_append]; rfl
theorem plus_drewN (w : World) (l : List Obj) (q m : Nat) : (plus w l q).drewN m = plus w l (q + m) := by
  unfold plus; rw [World.drewN_drewN]
theorem plus_drew (w : World) (l : List Obj) (q : Nat) : (plus w l q).drew = plus w l (q + 1) := plus_drewN w l q 1
theorem world_ext {a b : World} (h1 : a.heap = b.heap) (h2 : a.os = b.os) (h3 : a.tape = b.tape) (h4 : a.output = b.output) (h5 : a.drawn = b.drawn) : a = b := by
  cases a; cases b; simp_all
theorem heap_ext {a b : World} (h1 : ∀ k : Nat, a.heap[k]? = b.heap[k]?) (h2 : a.os = b.os) (h3 : a.tape = b.tape) (h4 : a.output = b.output) (h5 : a.drawn = b.drawn) : a = b :=
  world_ext (Array.ext_getElem? h1) h2 h3 h4 h5
/-- one block turned -/
theorem plus_modify (w w' : World) (l : List Obj) (q i : Nat) (o : Obj) (hh : ∀ k : Nat, w'.heap[k]? = if k = w.heap.size + i then some o else (plus w l q).heap[k]?)
    (h2 : w'.os = (plus w l q).os) (h3 : w'.tape = (plus w l q).tape) (h4 : w'.output = (plus w l q).output) (h5 : w'.drawn = (plus w l q).drawn) (hi : i < l.length) : w' = plus w (l.set i o) q := by
  refine heap_ext (fun k => ?_) ?_ ?_ ?_ ?_
  · rw [hh k]
    by_cases hk : k = w.heap.size + i
    · subst hk; rw [if_pos rfl, plus_at' w (l.set i o) q i o (by simp [hi])]
    · rw [if_neg hk]
      by_cases hk2 : k < w.heap.size
      · rw [plus_old _ _ _ _ hk2, plus_old _ _ _ _ hk2]
      · obtain ⟨j, rfl⟩ : ∃ j, k = w.heap.size + j := ⟨k - w.heap.size, by omega⟩
        have hne : i ≠ j := fun h => hk (by rw [h])
        rw [plus_heap, plus_heap, Array.getElem?_append, Array.getElem?_append, if_neg hk2, if_neg hk2]
        simp only [List.getElem?_toArray]
        rw [show w.heap.size + j - w.heap.size = j by omega, List.getElem?_set_ne hne]
  · rw [h2]; exact ((foldl_os l w).1).trans ((foldl_os _ w).1).symm
  · rw [h3]; exact ((foldl_os l w).2.1).trans ((foldl_os _ w).2.1).symm
  · rw [h4]; exact ((foldl_os l w).2.2.1).trans ((foldl_os _ w).2.2.1).symm
  · rw [h5]; show (l.foldl World.alloc w).drawn + q = ((l.set i o).foldl World.alloc w).drawn + q; rw [(foldl_os l w).2.2.2, (foldl_os _ w).2.2.2]
theorem plus_setRow (w : World) (l : List Obj) (q i : Nat) (c c' : Array Value) (t : TypeId) (h : l[i]? = some (.cells c t (0, 0))) :
    (plus w l q).setRow (w.heap.size + i) c' = plus w (l.set i (.cells c' t (0, 0))) q := by
  obtain ⟨hi, _⟩ := List.getElem?_eq_some_iff.1 h
  have hg := plus_at' w l q i _ h
  refine plus_modify w _ l q i _ (fun k => ?_) rfl rfl rfl rfl hi
  by_cases hk : k = w.heap.size + i
  · subst hk; rw [if_pos rfl]; exact setRow_heap _ _ _ _ _ _ hg
  · rw [if_neg hk]; exact setRow_other _ _ _ _ hk
theorem plus_setCell (w : World) (l : List Obj) (q i j : Nat) (c : Array Value) (t : TypeId) (v : Value) (h : l[i]? = some (.cells c t (0, 0))) :
    (plus w l q).setCell ⟨w.heap.size + i, j, none⟩ v = plus w (l.set i (.cells (c.setIfInBounds j v) t (0, 0))) q := by
  obtain ⟨hi, _⟩ := List.getElem?_eq_some_iff.1 h
  have hg := plus_at' w l q i _ h
  have hlt : w.heap.size + i < (plus w l q).heap.size := by rw [plus_size]; omega
  refine plus_modify w _ l q i _ (fun k => ?_) rfl rfl rfl rfl hi
  unfold World.setCell
  simp only [Array.getElem?_modify]
  by_cases hk : k = w.heap.size + i
  · subst hk; rw [if_pos rfl, if_pos rfl, hg]; rfl
  · rw [if_neg (fun h => hk h.symm), if_neg hk]
theorem plus_cell (w : World) (l : List Obj) (q i j : Nat) (c : Array Value) (t : TypeId) (v : Value) (h : l[i]? = some (.cells c t (0, 0))) (hv : c[j]? = some v) :
    (plus w l q).cell? ⟨w.heap.size + i, j, none⟩ = some v := by
  rw [cell_of_row _ _ _ _ _ _ (plus_at' w l q i _ h)]; exact hv
theorem plus_free (w : World) (l : List Obj) (q i j : Nat) (c : Array Value) (t : TypeId) (h : l[i]? = some (.cells c t (0, 0))) :
    (plus w l q).frozen? ⟨w.heap.size + i, j, none⟩ = false := by
  simp [World.frozen?, plus_at' w l q i _ h]
theorem plus_cell_old (w : World) (l : List Obj) (q b o : Nat) (h : b < w.heap.size) : (plus w l q).cell? ⟨b, o, none⟩ = w.cell? ⟨b, o, none⟩ := by
  simp [World.cell?, plus_old w l q b h]
theorem plus_zero (w : World) : plus w [] 0 = w := rfl
theorem plus_of_alloc (w : World) (o : Obj) : w.alloc o = plus w [o] 0 := rfl
end Go.Proofs.Mem
