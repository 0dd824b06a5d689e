import Derived.WalkKit
import Derived.Deep.WholeRow
import Derived.ChangeKeysEq
import Derived.Below
import Derived.KernelRfl
import Derived.BigQuiet
import Derived.Test.YtcdcbkopapedhaaGreatDoorWWords
import Derived.Deep.AppendSrc
import Derived.Deep.Upon
import Derived.Laws.IdiomCopy
import Derived.Test.YtcdcbkopapedhaaGreatDoorProg
import Derived.Tactics
import Derived.Tactics2
import Derived.Defers
import Derived.Laws.Pointers
import Derived.Laws.LoneSync
import Derived.RegionTactic
import Derived.RegionCalls
import Derived.ChangeAlike
import Derived.Lib.SliceRun
import Derived.WalkSpells
/- A world with some blocks more, told as a list. -/
namespace Go.Proofs.Mem
open Go Go.RowKit
set_option linter.unusedVariables false

/-- a fact that neither the walk nor 'contradiction' looks into -/
structure Veil (p : Prop) : Prop where mk :: (out : p)
theorem veil {p : Prop} (h : p) : Veil p := ⟨h⟩

/-- w, and so many new blocks, and draws -/
def plus (w : World) (l : List Obj) (q : Nat) : World := (l.foldl World.alloc w).drewN q

theorem foldl_heap (l : List Obj) : ∀ w : World, (l.foldl World.alloc w).heap = w.heap ++ l.toArray := by
  induction l with
  | nil => intro w; simp
  | cons o l ih =>
    intro w
    rw [List.foldl_cons, ih]
    show w.heap.push o ++ l.toArray = _
    apply Array.ext'
    simp
theorem plus_heap (w : World) (l : List Obj) (q : Nat) : (plus w l q).heap = w.heap ++ l.toArray := foldl_heap l w
theorem plus_at (w : World) (l : List Obj) (q i : Nat) (h : i < l.length) : (plus w l q).heap[w.heap.size + i]? = some l[i] := by
  rw [plus_heap, Array.getElem?_append, if_neg (by omega)]; simp [h]
theorem plus_at' (w : World) (l : List Obj) (q i : Nat) (o : Obj) (h : l[i]? = some o) : (plus w l q).heap[w.heap.size + i]? = some o := by
  obtain ⟨hi, rfl⟩ := List.getElem?_eq_some_iff.1 h
  exact plus_at w l q i hi
theorem plus_old (w : World) (l : List Obj) (q k : Nat) (h : k < w.heap.size) : (plus w l q).heap[k]? = w.heap[k]? := by
  rw [plus_heap, Array.getElem?_append, if_pos h]
theorem plus_size (w : World) (l : List Obj) (q : Nat) : (plus w l q).heap.size = w.heap.size + l.length := by
  rw [plus_heap]; simp
theorem foldl_os (l : List Obj) : ∀ w : World, (l.foldl World.alloc w).os = w.os ∧ (l.foldl World.alloc w).tape = w.tape ∧ (l.foldl World.alloc w).output = w.output ∧ (l.foldl World.alloc w).drawn = w.drawn := by
  induction l with
  | nil => intro w; exact ⟨rfl, rfl, rfl, rfl⟩
  | cons o l ih => intro w; rw [List.foldl_cons]; exact ih _
theorem drewN_fields (w : World) (q : Nat) : (w.drewN q).os = w.os ∧ (w.drewN q).tape = w.tape ∧ (w.drewN q).output = w.output ∧ (w.drewN q).heap = w.heap ∧ (w.drewN q).drawn = w.drawn + q := ⟨rfl, rfl, rfl, rfl, rfl⟩
theorem plus_below (w : World) (l : List Obj) (q : Nat) : Below w.heap.size w (plus w l q) :=
  ⟨(foldl_os l w).1, (foldl_os l w).2.1, (foldl_os l w).2.2.1, by rw [plus_size]; omega, fun k hk => plus_old w l q k hk⟩
theorem plus_alloc (w : World) (l : List Obj) (q : Nat) (o : Obj) : (plus w l q).alloc o = plus w (l ++ [o]) q := by
  unfold plus; rw [List.foldl_append]; rfl
theorem plus_drewN (w : World) (l : List Obj) (q m : Nat) : (plus w l q).drewN m = plus w l (q + m) := by
  unfold plus; rw [World.drewN_drewN]
theorem plus_drew (w : World) (l : List Obj) (q : Nat) : (plus w l q).drew = plus w l (q + 1) := plus_drewN w l q 1
theorem world_ext {a b : World} (h1 : a.heap = b.heap) (h2 : a.os = b.os) (h3 : a.tape = b.tape) (h4 : a.output = b.output) (h5 : a.drawn = b.drawn) : a = b := by
  cases a; cases b; simp_all
theorem heap_ext {a b : World} (h1 : ∀ k : Nat, a.heap[k]? = b.heap[k]?) (h2 : a.os = b.os) (h3 : a.tape = b.tape) (h4 : a.output = b.output) (h5 : a.drawn = b.drawn) : a = b :=
  world_ext (Array.ext_getElem? h1) h2 h3 h4 h5
/-- one block turned -/
theorem plus_modify (w w' : World) (l : List Obj) (q i : Nat) (o : Obj) (hh : ∀ k : Nat, w'.heap[k]? = if k = w.heap.size + i then some o else (plus w l q).heap[k]?)
    (h2 : w'.os = (plus w l q).os) (h3 : w'.tape = (plus w l q).tape) (h4 : w'.output = (plus w l q).output) (h5 : w'.drawn = (plus w l q).drawn) (hi : i < l.length) : w' = plus w (l.set i o) q := by
  refine heap_ext (fun k => ?_) ?_ ?_ ?_ ?_
  · rw [hh k]
    by_cases hk : k = w.heap.size + i
    · subst hk; rw [if_pos rfl, plus_at' w (l.set i o) q i o (by simp [hi])]
    · rw [if_neg hk]
      by_cases hk2 : k < w.heap.size
      · rw [plus_old _ _ _ _ hk2, plus_old _ _ _ _ hk2]
      · obtain ⟨j, rfl⟩ : ∃ j, k = w.heap.size + j := ⟨k - w.heap.size, by omega⟩
        have hne : i ≠ j := fun h => hk (by rw [h])
        rw [plus_heap, plus_heap, Array.getElem?_append, Array.getElem?_append, if_neg hk2, if_neg hk2]
        simp only [List.getElem?_toArray]
        rw [show w.heap.size + j - w.heap.size = j by omega, List.getElem?_set_ne hne]
  · rw [h2]; exact ((foldl_os l w).1).trans ((foldl_os _ w).1).symm
  · rw [h3]; exact ((foldl_os l w).2.1).trans ((foldl_os _ w).2.1).symm
  · rw [h4]; exact ((foldl_os l w).2.2.1).trans ((foldl_os _ w).2.2.1).symm
  · rw [h5]; show (l.foldl World.alloc w).drawn + q = ((l.set i o).foldl World.alloc w).drawn + q; rw [(foldl_os l w).2.2.2, (foldl_os _ w).2.2.2]
theorem plus_setRow (w : World) (l : List Obj) (q i : Nat) (c c' : Array Value) (t : TypeId) (h : l[i]? = some (.cells c t (0, 0))) :
    (plus w l q).setRow (w.heap.size + i) c' = plus w (l.set i (.cells c' t (0, 0))) q := by
  obtain ⟨hi, _⟩ := List.getElem?_eq_some_iff.1 h
  have hg := plus_at' w l q i _ h
  refine plus_modify w _ l q i _ (fun k => ?_) rfl rfl rfl rfl hi
  by_cases hk : k = w.heap.size + i
  · subst hk; rw [if_pos rfl]; exact setRow_heap _ _ _ _ _ _ hg
  · rw [if_neg hk]; exact setRow_other _ _ _ _ hk
theorem plus_setCell (w : World) (l : List Obj) (q i j : Nat) (c : Array Value) (t : TypeId) (v : Value) (h : l[i]? = some (.cells c t (0, 0))) :
    (plus w l q).setCell ⟨w.heap.size + i, j, none⟩ v = plus w (l.set i (.cells (c.setIfInBounds j v) t (0, 0))) q := by
  obtain ⟨hi, _⟩ := List.getElem?_eq_some_iff.1 h
  have hg := plus_at' w l q i _ h
  have hlt : w.heap.size + i < (plus w l q).heap.size := by rw [plus_size]; omega
  refine plus_modify w _ l q i _ (fun k => ?_) rfl rfl rfl rfl hi
  unfold World.setCell
  simp only [Array.getElem?_modify]
  by_cases hk : k = w.heap.size + i
  · subst hk; rw [if_pos rfl, if_pos rfl, hg]; rfl
  · rw [if_neg (fun h => hk h.symm), if_neg hk]
theorem plus_cell (w : World) (l : List Obj) (q i j : Nat) (c : Array Value) (t : TypeId) (v : Value) (h : l[i]? = some (.cells c t (0, 0))) (hv : c[j]? = some v) :
    (plus w l q).cell? ⟨w.heap.size + i, j, none⟩ = some v := by
  rw [cell_of_row _ _ _ _ _ _ (plus_at' w l q i _ h)]; exact hv
theorem plus_free (w : World) (l : List Obj) (q i j : Nat) (c : Array Value) (t : TypeId) (h : l[i]? = some (.cells c t (0, 0))) :
    (plus w l q).frozen? ⟨w.heap.size + i, j, none⟩ = false := by
  simp [World.frozen?, plus_at' w l q i _ h]
theorem plus_cell_old (w : World) (l : List Obj) (q b o : Nat) (h : b < w.heap.size) : (plus w l q).cell? ⟨b, o, none⟩ = w.cell? ⟨b, o, none⟩ := by
  simp [World.cell?, plus_old w l q b h]
theorem plus_zero (w : World) : plus w [] 0 = w := rfl
theorem plus_of_alloc (w : World) (o : Obj) : w.alloc o = plus w [o] 0 := rfl
theorem index_at {P : Program} (t e : TypeId) (n : Nat) (cs : Array Value) (k : IntKind) (i : Int) (v : Value) (w : World) (ie : TypeInfo) (ke : IntKind) (h : P.underlying t = some (.array n e)) (he : P.underlying e = some (.int ke)) (hi : P.info? e = some ie) (h1 : P.cellsOf e = 1)
    (h0 : 0 ≤ i) (hn : i < (n : Int)) (hv : cs[i.toNat]? = some v) : (Instr.index t (.agg cs) (.int k i)).run P w = .ok v w := by
  have hs : (sizeOf e).run P w = .ok 1 w := by rw [run_sizeOf w hi, h1]
  have ha : (isAgg e).run P w = .ok false w := by unfold isAgg; rw [Sem.run_bind, run_underlying he w]; simp
  simp [Instr.index, run_underlying h, asIntOf, h0, hn, Sem.run_bind, hs, part, ha, hv]
theorem info_of {P : Program} {t : TypeId} (h : (P.info? t).isSome = true) : ∃ i, P.info? t = some i := Option.isSome_iff_exists.1 h
theorem wpList_build_to {P : Program} {ops : Array Oper} {rest : List Oper} {o : Oper} {a : Act} {w : World} {Q : Exit → Act → World → Prop} (hg : o.guard = none) (t : TypeId) (parts : Array (Nat × Operand)) (ho : o.op = .build t parts)
    (cells : Array Value) (hf : P.built t (parts.map fun (i, x) => (i, a.eval x)).toList = some cells)
    (h : wpList P ops Q rest (a.put o.dst (.agg cells)) w) : wpList P ops Q (o :: rest) a w :=
  wpList_build hg t parts ho (by rw [hf]; rfl) (by rw [hf]; exact h)
theorem wpList_store_new {P : Program} {ops : Array Oper} {rest : List Oper} {o : Oper} {a : Act} {w : World} {Q : Exit → Act → World → Prop} (hgd : o.guard = none) (ty : TypeId) (x y : Operand) (ho : o.op = .store ty x y)
    (cells old : Array Value) (t : TypeId) (hx : a.eval x = .pointer (some ⟨w.heap.size, 0, none⟩)) (hy : a.eval y = .agg cells)
    (hi : (P.info? ty).map (·.size) = some cells.size)
    (hold : old.size = cells.size) (h1 : cells.all (·.oneCell') = true)
    (h : wpList P ops Q rest (a.put o.dst undef) (w.alloc (.cells cells t))) : wpList P ops Q (o :: rest) a (w.alloc (.cells old t)) :=
  wpList_store_row hgd ty x y ho w.heap.size cells hx hy t old (heap_alloc_last w _) hi hold h1 (by rw [World.setRow_alloc_new]; exact h)
theorem wpList_store_at {P : Program} {ops : Array Oper} {rest : List Oper} {o : Oper} {a : Act} {w : World} {Q : Exit → Act → World → Prop} (hgd : o.guard = none) (ty : TypeId) (x y : Operand) (ho : o.op = .store ty x y)
    (cells old : Array Value) (t : TypeId) (g : Nat) (hx : a.eval x = .pointer (some ⟨g, 0, none⟩)) (hg : g = w.heap.size) (hy : a.eval y = .agg cells)
    (hi : (P.info? ty).map (·.size) = some cells.size)
    (hold : old.size = cells.size) (h1 : cells.all (·.oneCell') = true)
    (h : wpList P ops Q rest (a.put o.dst undef) (w.alloc (.cells cells t))) : wpList P ops Q (o :: rest) a (w.alloc (.cells old t)) :=
  wpList_store_new hgd ty x y ho cells old t (by rw [hx, hg]) hy hi hold h1 h
theorem below_setRow {B : Nat} {w w' : World} (h : Below B w w') (g : Nat) (cs : Array Value) (hg : B ≤ g) : Below B w (w'.setRow g cs) :=
  ⟨h.os, h.tape, h.output, by have := h.size; simpa [World.setRow] using this, fun k hk => by rw [setRow_other _ _ _ _ (by omega)]; exact h.block k hk⟩
theorem heap_alloc2_old (w : World) (o p : Obj) : ((w.alloc o).alloc p).heap[w.heap.size]? = some o := by
  show ((w.heap.push o).push p)[w.heap.size]? = some o
  rw [Array.getElem?_push, if_neg (by simp), Array.getElem?_push_size]
theorem two_below {a b c : World} (h1 : Below a.heap.size a b) (h2 : Below b.heap.size b c) : Below a.heap.size a c := h1.trans (h2.mono h1.size)
/-- below the base of a call, in two steps -/
theorem base_below {B : Nat} {a b c : World} (h1 : Below B a b) (hB : B ≤ b.heap.size) (h2 : Below b.heap.size b c) : Below B a c := h1.trans (h2.mono hB)
end Go.Proofs.Mem
/- A slice of numbers of the call's own, made by a conversion or a make, that may be appended to: of whatever source. -/
namespace Go.Proofs.App
open Go Go.RowKit Go.Proofs.Mem
open Go.Proofs.YtcdcbkopapedhaaGreatDoorW.PrintWords
set_option linter.unusedVariables false

/-- v is a slice of the call's own (its block from base on) that reads as l; its spare may be written -/
structure Fresh (k : IntKind) (base : Nat) (w : World) (A : Option Addr) (n c : Nat) (l : List Int) : Prop where
  len : l.length = n
  le : n ≤ c
  there : 0 < c → ∃ b, A = some ⟨b, 0, none⟩ ∧ base ≤ b ∧ b < w.heap.size ∧ (∀ j, j < n → w.cell? ⟨b, j, none⟩ = some (.int k (l.getD j 0))) ∧ ∀ j, j < c → (w.cell? ⟨b, j, none⟩).isSome = true ∧ w.frozen? ⟨b, j, none⟩ = false
theorem Fresh.reads {k : IntKind} {base n c : Nat} {w : World} {A : Option Addr} {l : List Int} (h : Fresh k base w A n c l) (hn : n ≤ 9223372036854775807) : ReadsInt w k A n l :=
  ⟨h.len, hn, fun hp => by
    obtain ⟨b, e, _, _, hc, _⟩ := h.there (by have := h.le; omega)
    exact ⟨_, e, fun j hj => by rw [add_plain]; exact hc j hj⟩⟩
theorem Fresh.below {k : IntKind} {base n c : Nat} {w w1 : World} {A : Option Addr} {l : List Int} (h : Fresh k base w A n c l) (hb : Below w.heap.size w w1) : Fresh k base w1 A n c l :=
  ⟨h.len, h.le, fun hp => by
    obtain ⟨b, e, h1, h2, hc, hs⟩ := h.there hp
    refine ⟨b, e, h1, Nat.lt_of_lt_of_le h2 hb.size, fun j hj => pw_cell_below hb (hc j hj), fun j hj => ?_⟩
    rw [hb.cell (p := ⟨b, j, none⟩) h2, hb.frozen (p := ⟨b, j, none⟩) h2]
    exact hs j hj⟩
theorem Fresh.base {k : IntKind} {base base' n c : Nat} {w : World} {A : Option Addr} {l : List Int} (h : Fresh k base w A n c l) (hb : base' ≤ base) : Fresh k base' w A n c l :=
  ⟨h.len, h.le, fun hp => by
    obtain ⟨b, e, h1, h2⟩ := h.there hp
    exact ⟨b, e, by omega, h2⟩⟩
/-- what []byte(s) makes -/
theorem fresh_bytes (W : World) (e : TypeId) (s : ByteArray) (base : Nat) (hb : base ≤ W.heap.size) : Fresh .u8 base (Lib.bytesWorld W e s) (some ⟨W.heap.size, 0, none⟩) s.size (grownCap W s.size 0 e) (bytesOf s) := by
  have hge := grownCap_ge W s.size 0 e
  refine ⟨bytesOf_length s, hge, fun _ => ⟨W.heap.size, rfl, hb, by rw [Lib.bytesWorld_size]; omega, fun j hj => ?_, fun j hj => ?_⟩⟩
  · rw [Lib.bytesWorld_cell W e s j hj]
    simp [bytesOf, List.getD_eq_getElem?_getD, hj]
  · have hs : (Lib.bytesCells W e s).size = grownCap W s.size 0 e := by
      simp [Lib.bytesCells]; omega
    refine ⟨?_, ?_⟩
    · rw [World.cell?]
      rw [Lib.bytesWorld_at_new]
      simp [hs, hj]
    · simp [World.frozen?, Lib.bytesWorld_at_new]
      omega
theorem getD_left (l l2 : List Int) (j : Nat) (h : j < l.length) : (l ++ l2).getD j 0 = l.getD j 0 := by
  rw [List.getD_eq_getElem?_getD, List.getD_eq_getElem?_getD, List.getElem?_append_left h]
theorem getD_right (l l2 : List Int) (q : Nat) : (l ++ l2).getD (l.length + q) 0 = l2.getD q 0 := by
  rw [List.getD_eq_getElem?_getD, List.getD_eq_getElem?_getD, List.getElem?_append_right (by omega), Nat.add_sub_cancel_left]
theorem nums_get (k : IntKind) (l : List Int) (j : Nat) (h : j < l.length) : (nums k l)[j]? = some (.int k (l.getD j 0)) := by
  simp [nums, h]
theorem nums_two (k : IntKind) (l l2 : List Int) (j : Nat) (h : j < l.length + l2.length) : (nums k l ++ nums k l2)[j]? = some (.int k ((l ++ l2).getD j 0)) := by
  rw [← nums_append]
  exact nums_get k _ j (by simpa using h)
theorem below_setCells {B : Nat} {w0 : World} (b : Nat) (hB : B ≤ b) : ∀ (vs : List Value) (o : Nat) (w : World), Below B w0 w → Below B w0 (w.setCells b o vs)
  | [], _, _, h => h
  | v :: r, o, w, h => by
    rw [World.setCells]
    exact below_setCells b hB r (o + 1) _ (h.setCell hB v)
theorem size_setCells (b : Nat) : ∀ (vs : List Value) (o : Nat) (w : World), (w.setCells b o vs).heap.size = w.heap.size
  | [], _, _ => rfl
  | v :: r, o, w => by rw [World.setCells, size_setCells b r, World.size_setCell]
section
variable {P : Program} {ops : Array Oper} {rest : List Oper} {o : Oper} {a : Act} {Q : Exit → Act → World → Prop}
theorem wpList_app {w0 w : World} (base : Nat) (hgd : o.guard = none) (s x : Operand) (t tx e : TypeId) (k : IntKind) (bytes : Nat)
    (ho : o.op = .call { callee := .builtin .append, args := #[s, x], argTypes := #[t, tx] })
    (ht : P.underlying t = some (.slice e)) (hinfo : (P.info? e).map (fun i => (i.zero, i.size, i.bytes)) = some (some (.int k 0), 1, bytes)) (hb0 : 0 < bytes)
    (A : Option Addr) (n c m : Nat) (l l2 : List Int) (xv : Value) (hv : a.eval s = .slice A n c) (hx : a.eval x = xv)
    (HF : Fresh k base w A n c l) (hs : Src P 1 tx xv m (nums k l2) w) (HB : Below base w0 w) (hbase : base ≤ w.heap.size) (hl : (n + m) * bytes ≤ 140737488355328)
    (h : ∀ A' c' w', Fresh k base w' A' (n + m) c' (l ++ l2) → Below base w0 w' → wpList P ops Q rest (a.put o.dst (.slice A' (n + m) c')) w') :
    wpList P ops Q (o :: rest) a w := by
  obtain ⟨i0, hi, hzz⟩ := Option.map_eq_some_iff.1 hinfo
  simp only [Prod.mk.injEq] at hzz
  obtain ⟨hz0, hz1, hz2⟩ := hzz
  have hlen : n + m ≤ 140737488355328 := Nat.le_trans (Nat.le_mul_of_pos_right _ hb0) hl
  have hm : l2.length = m := by have := hs.newsLen; simpa [nums] using this
  have hrun : ∃ A' c' w', (Builtin.append_ #[t, tx] o.type #[.slice A n c, xv]).run P w = .ok (.slice A' (n + m) c') w' ∧ Fresh k base w' A' (n + m) c' (l ++ l2) ∧ Below base w0 w' := by
    by_cases hm0 : m = 0
    · subst hm0
      obtain rfl : l2 = [] := List.eq_nil_of_length_eq_zero hm
      refine ⟨A, c, w, ?_, by simpa using HF, HB⟩
      exact run_append_nothing (P := P) w t tx o.type e i0 ht hi A n c HF.le xv (by rw [hz1]; exact hs)
    · by_cases hroom : n + m ≤ c
      · obtain ⟨b, rfl, h1, h2, hc, hsp⟩ := HF.there (by omega)
        have hnl : (nums k l2).length = m := by simp [nums, hm]
        have hr := run_append_room_src (P := P) w t tx o.type e i0 ht hi b 0 n c xv m (nums k l2) (by rw [hz1]; exact hs) hroom
          (fun j hj => by rw [hz1, Nat.mul_one, Nat.zero_add]; exact (hsp (n + j) (by omega)).1) (fun j hj => by rw [hz1, Nat.mul_one, Nat.zero_add]; exact (hsp (n + j) (by omega)).2)
        rw [hz1, Nat.mul_one, Nat.zero_add] at hr
        have hin := World.cell?_setCells_in b (nums k l2) n w (fun j hj => (hsp (n + j) (by omega)).1)
        have hout := fun j (hj : j < n ∨ n + (nums k l2).length ≤ j) => World.cell?_setCells_out b (nums k l2) n w ⟨b, j, none⟩ (fun _ _ => hj)
        refine ⟨_, _, _, hr, ⟨by simp [HF.len, hm], hroom, fun _ => ⟨b, rfl, h1, by rw [size_setCells]; exact h2, fun j hj => ?_, fun j hj => ⟨?_, ?_⟩⟩⟩, below_setCells b h1 _ _ _ HB⟩
        · by_cases hjn : j < n
          · rw [hout j (Or.inl hjn), hc j hjn, getD_left _ _ _ (by rw [HF.len]; exact hjn)]
          · obtain ⟨q, rfl⟩ : ∃ q, j = n + q := ⟨j - n, by omega⟩
            have hq := nums_get k l2 q (by omega)
            rw [List.getElem?_eq_getElem (by omega)] at hq
            injection hq with hq
            rw [hin q (by omega), hq, ← getD_right l l2 q, HF.len]
        · by_cases hjn : j < n
          · rw [hout j (Or.inl hjn)]; exact (hsp j hj).1
          · obtain ⟨q, rfl⟩ : ∃ q, j = n + q := ⟨j - n, by omega⟩
            by_cases hq : q < (nums k l2).length
            · rw [hin q hq]; rfl
            · rw [hout (n + q) (Or.inr (by omega))]; exact (hsp (n + q) hj).1
        · rw [World.frozen?_setCells]; exact (hsp j hj).2
      · have hold : (Builtin.firstCells i0.size n (.slice A n c)).run P w.drew = .ok (nums k l).toArray w.drew := by
          rw [hz1]
          by_cases hc0 : 0 < c
          · obtain ⟨b, rfl, h1, h2, hc, hsp⟩ := HF.there hc0
            exact run_firstCells_some w.drew 1 n _ n c (nums k l) (by simp [nums, HF.len]) (fun j u hj => by
              rw [add_plain]
              have hjl : j < l.length := by
                rcases Nat.lt_or_ge j l.length with h' | h'
                · exact h'
                · simp [nums, List.getElem?_eq_none h'] at hj
              have := hc j (by rw [← HF.len]; exact hjl)
              simp [nums, hjl] at hj
              subst hj
              show w.cell? _ = _
              rw [this]
              simp [List.getD_eq_getElem?_getD, hjl])
          · have hn0 : n = 0 := by have := HF.le; omega
            subst hn0
            obtain rfl : l = [] := List.eq_nil_of_length_eq_zero HF.len
            cases A with
            | none => exact run_firstCells_none w.drew 1 0 0 c
            | some q => exact run_firstCells_some w.drew 1 0 q 0 c [] rfl (fun j u hj => by simp at hj)
        have hr := run_append_grow_src (P := P) w t tx o.type e i0 (.int k 0) ht hi hz0 A n c (nums k l) hold xv m (nums k l2) (by rw [hz1]; exact hs) (by omega) (by omega) (growslice_fits (by omega) (by rw [hz2]; exact hl))
        have hge := grownCap_ge w (n + m) c e
        have hsz : ((nums k l ++ nums k l2).toArray ++ Builtin.zeroCells (Value.cells (.int k 0)) (grownCap w (n + m) c e - (n + m))).size = grownCap w (n + m) c e := by
          simp only [Array.size_append, List.size_toArray, size_zeroCells]
          simp [nums, HF.len, hm, Value.cells]
          omega
        have hgh : (w.drew.alloc (.cells ((nums k l ++ nums k l2).toArray ++ Builtin.zeroCells (Value.cells (.int k 0)) (grownCap w (n + m) c e - (n + m))) e)).heap[w.heap.size]? = some (.cells ((nums k l ++ nums k l2).toArray ++ Builtin.zeroCells (Value.cells (.int k 0)) (grownCap w (n + m) c e - (n + m))) e (0, 0)) := heap_alloc_new w.drew _
        refine ⟨_, _, _, hr, ⟨by simp [HF.len, hm], hge, fun _ => ⟨w.heap.size, rfl, hbase, by simp, fun j hj => ?_, fun j hj => ⟨?_, ?_⟩⟩⟩, (pw_below_drewN HB 1).alloc hbase _⟩
        · rw [cell_of_row _ _ _ _ _ _ hgh, Array.getElem?_append_left (by simp [nums, HF.len, hm]; omega)]
          rw [List.getElem?_toArray]
          exact nums_two k l l2 j (by rw [HF.len, hm]; exact hj)
        · rw [cell_of_row _ _ _ _ _ _ hgh, Array.getElem?_eq_getElem (by rw [hsz]; exact hj)]
          rfl
        · unfold World.frozen?
          rw [hgh]
          simp
  obtain ⟨A', c', w', hr, hf, hb⟩ := hrun
  refine wpList_plain hgd fun K hK => ?_
  unfold Oper.wp execOp
  simp only [ho, resolve, invoke, builtin, Sem.run_bind, Sem.run_pure, Result.andThen_ok, List.map_toArray, List.map_cons, List.map_nil, hv, hx, hr]
  exact hK _ _ (h A' c' w' hf hb)
/-- sources: a text, a slice that is read -/
theorem src_string {w : World} {tx : TypeId} (hk : P.underlying tx = some .string) (s : ByteArray) : Src P 1 tx (.string s) s.size (nums .u8 (bytesOf s)) w := by
  have h := Src.ofString (P := P) w hk s
  have e : byteCells s = nums .u8 (bytesOf s) := by simp [byteCells, nums, bytesOf]
  rwa [e] at h
theorem src_reads {w : World} {tx e' : TypeId} {k : IntKind} (hk : P.underlying tx = some (.slice e')) (A : Option Addr) (n c : Nat) (l : List Int) (h : ReadsInt w k A n l) : Src P 1 tx (.slice A n c) n (nums k l) w := by
  have hl : l.length = n := h.1
  cases A with
  | none =>
    have h0 : n = 0 := by
      rcases Nat.eq_zero_or_pos n with h0 | h0
      · exact h0
      · obtain ⟨ad, e, _⟩ := h.2.2 h0; cases e
    subst h0
    obtain rfl : l = [] := List.eq_nil_of_length_eq_zero hl
    exact Src.ofNil (P := P) w hk c
  | some q =>
    refine Src.ofSlice (P := P) w hk q n c (nums k l) (by simp [nums, hl]) (fun j u hj => ?_) (fun u hu => by simp only [nums, List.mem_map] at hu; obtain ⟨y, _, rfl⟩ := hu; rfl)
    have hjl : j < l.length := by
      rcases Nat.lt_or_ge j l.length with h' | h'
      · exact h'
      · simp [nums, List.getElem?_eq_none h'] at hj
    obtain ⟨ad, e, hc⟩ := h.2.2 (by omega)
    injection e with e
    subst e
    rw [hc j (by omega)]
    simp [nums, hjl] at hj
    subst hj
    simp [List.getD_eq_getElem?_getD, hjl]
end
end Go.Proofs.App
/- sync.Once in one goroutine: the lock free, not yet done. -/
namespace Go.Proofs.Tryz.Ln
open Go Go.RowKit
set_option linter.unusedVariables false

theorem disable (w : World) : (callFunc 88 #[]).run Tryz.prog w = .ok (.value (.tuple #[])) w := run_call_mark0 Tryz.func88 (by kernel_rfl) (by kernel_rfl) (by kernel_rfl) .disable (by kernel_rfl) w
theorem enable (w : World) : (callFunc 90 #[]).run Tryz.prog w = .ok (.value (.tuple #[])) w := run_call_mark0 Tryz.func90 (by kernel_rfl) (by kernel_rfl) (by kernel_rfl) .enable (by kernel_rfl) w
theorem acquire (a : Addr) (w : World) : (callFunc 91 #[.pointer (some a)]).run Tryz.prog w = .ok (.value (.tuple #[])) w := run_call_marked Tryz.func91 (by kernel_rfl) (by kernel_rfl) (by kernel_rfl) .acquire (by kernel_rfl) a w
theorem releaseMerge (a : Addr) (w : World) : (callFunc 93 #[.pointer (some a)]).run Tryz.prog w = .ok (.value (.tuple #[])) w := run_call_marked Tryz.func93 (by kernel_rfl) (by kernel_rfl) (by kernel_rfl) .releaseMerge (by kernel_rfl) a w

theorem store_deferred (a : Addr) (x : Value) (u : FrameMode) (w : World) (hc : w.cell? a = some x) (hz : w.frozen? a = false) :
    CallsD Tryz.prog 67 #[.pointer (some a), .bool true] u w fun e u' w' => u' = u ∧ (e = .returned (.tuple #[]) ∧ w' = w.drew.setCell a (.int .u32 1)) := by
  have hc' : w.drew.cell? a = some x := by go_simp
  have hz' : w.drew.frozen? a = false := by go_simp
  have hst := run_call_store (P := Tryz.prog) Tryz.func80 (by kernel_rfl) (by kernel_rfl) (by kernel_rfl) (by kernel_rfl) (k := .u32) (y := 1) hc' hz'
  go_enter_d Tryz.func67, Tryz.ntmps67
  go_wp2
  go_region_calls
  all_goals (go_end0; exact ⟨rfl, rfl⟩)

set_option maxRecDepth 100000 in
theorem unlock_deferred (a : Addr) (u : FrameMode) (w : World) (hc : w.cell? a = some (.int .i32 1)) (hz : w.frozen? a = false) :
    CallsD Tryz.prog 66 #[.pointer (some a)] u w fun e u' w' => u' = u ∧ (e = .returned (.tuple #[]) ∧ w' = w.setCell a (.int .i32 0)) := by
  have hd := disable
  have he := enable
  have hr := releaseMerge
  have hadd := run_call_add (P := Tryz.prog) Tryz.func94 (by kernel_rfl) (by kernel_rfl) (by kernel_rfl) .i32 (by kernel_rfl) (y := -1) (s := 0) hc hz (by simp [go_sem]; rfl)
  have hcv := run_convert_to_unsafe (P := Tryz.prog) (src := 166) (dst := 84) Tryz.underlying166 Tryz.underlying84 (by kernel_rfl) hc
  go_enter_d Tryz.func66, Tryz.ntmps66
  go_wp2
  go_end0
  go_wp2
  go_end0
  exact ⟨rfl, rfl⟩

set_option maxRecDepth 100000 in
theorem lock_free (a : Addr) (w : World) (hc : w.cell? a = some (.int .i32 0)) (hz : w.frozen? a = false) :
    Calls Tryz.prog 65 #[.pointer (some a)] w fun e w' => e = .returned (.tuple #[]) ∧ w' = w.setCell a (.int .i32 1) := by
  have hd := disable
  have he := enable
  have ha := acquire
  have hcas := run_call_cas_hit (P := Tryz.prog) Tryz.func89 (by kernel_rfl) (by kernel_rfl) (by kernel_rfl) .i32 (by kernel_rfl) (y := 1) hc hz
  have hc' : (w.setCell a (.int .i32 1)).cell? a = some (.int .i32 1) := World.cell?_setCell_same w a _ hc
  have hcv := run_convert_to_unsafe (P := Tryz.prog) (src := 166) (dst := 84) Tryz.underlying166 Tryz.underlying84 (by kernel_rfl) hc'
  go_enter Tryz.func65, Tryz.ntmps65
  go_wp2
  first | go_end0 | (simp only [Exit.inBlock, Exit.then]; refine bodyPost_ret (results_none rfl _ _ _) rfl ?_) | refine bodyPost_ret (results_none rfl _ _ _) rfl ?_
  go_wp2
  go_end0
  exact ⟨rfl, rfl⟩
end Go.Proofs.Tryz.Ln
/- What strings.NewReplacer("\r", " ", "\n", " ").Replace tells: its table, made once. -/
namespace Go.Proofs.Tryz.Ln
open Go Go.RowKit Go.Proofs.Mem
open Go.Proofs.YtcdcbkopapedhaaGreatDoorW.PrintWords
set_option linter.unusedVariables false

def bvs (l : List Int) : Array Value := (l.map (Value.int .u8)).toArray
theorem bvs_at (l : List Int) (j : Nat) (h : j < l.length) : (bvs l)[j]? = some (.int .u8 (l.getD j 0)) := by simp [bvs, h]
theorem bvs_set (l : List Int) (j : Nat) (x : Int) : (bvs l).setIfInBounds j (.int .u8 x) = bvs (l.set j x) := by
  unfold bvs
  rw [List.map_set]
  simp
theorem bvs_size (l : List Int) : (bvs l).size = l.length := by simp [bvs]
def z256 : Array Value := bvs (List.replicate 256 0)
/-- the bytes themselves, so far -/
def idTo (k : Nat) : List Int := (List.range k).map (fun (n : Nat) => (n : Int)) ++ List.replicate (256 - k) 0
theorem idTo_len (k : Nat) (h : k ≤ 256) : (idTo k).length = 256 := by simp [idTo]; omega
theorem idTo_set (k : Nat) (h : k < 256) : (idTo k).set k (k : Int) = idTo (k + 1) := by
  obtain ⟨d, hd⟩ : ∃ d, 256 - k = d + 1 := ⟨255 - k, by omega⟩
  rw [idTo, idTo, hd, show 256 - (k + 1) = d by omega, List.set_append_right _ _ (by simp), List.length_map, List.length_range, Nat.sub_self, List.replicate_succ, List.set_cons_zero, List.range_succ]
  simp
/-- the table: an end of a line is a blank -/
def tab : List Int := ((idTo 256).set 10 32).set 13 32
def flatB (c : Int) : Int := if c = 13 then 32 else if c = 10 then 32 else c
theorem tab_all : ∀ c : Fin 256, tab.getD c.val 0 = flatB (c.val : Int) := by decide +kernel
theorem tab_at (c : Int) (h0 : 0 ≤ c) (h : c ≤ 255) : tab.getD c.toNat 0 = flatB c := by
  have := tab_all ⟨c.toNat, by omega⟩
  simpa [Int.toNat_of_nonneg h0] using this
theorem tab_len : tab.length = 256 := by simp [tab, idTo_len 256 (by omega)]
def tabTo : Nat → List Int
  | 0 => idTo 256
  | 1 => (idTo 256).set 10 32
  | _ => tab
theorem tabTo_len (j : Nat) : (tabTo j).length = 256 := by
  match j with
  | 0 => exact idTo_len 256 (by omega)
  | 1 => simp [tabTo, idTo_len 256 (by omega)]
  | _ + 2 => exact tab_len
theorem alloc_heap (w : World) (o : Obj) : (w.alloc o).heap[w.heap.size]? = some o := heap_alloc_last w o
/-- a new table of these bytes -/
def plusB (w : World) (l : List Int) : World := w.alloc (.cells (bvs l) 128)
theorem plusB_heap (w : World) (l : List Int) : (plusB w l).heap[w.heap.size]? = some (.cells (bvs l) 128 (0, 0)) := heap_alloc_last w _
theorem plusB_cell (w : World) (l : List Int) (j : Nat) (h : j < l.length) : (plusB w l).cell? ⟨w.heap.size, j, none⟩ = some (.int .u8 (l.getD j 0)) := by
  unfold World.cell?
  rw [plusB_heap]
  exact bvs_at l j h
theorem plusB_free (w : World) (l : List Int) (j : Nat) : (plusB w l).frozen? ⟨w.heap.size, j, none⟩ = false := by
  simp [World.frozen?, plusB_heap]
theorem plusB_old (w : World) (l : List Int) {p : Addr} {v : Value} (h : w.cell? p = some v) : (plusB w l).cell? p = some v := pw_cell_below (below_alloc (Below.refl w.heap.size w) _) h
theorem plusB_set (w : World) (l : List Int) (j : Nat) (x : Int) : (plusB w l).setCell ⟨w.heap.size, j, none⟩ (.int .u8 x) = plusB w (l.set j x) := by
  unfold plusB
  rw [← bvs_set]
  unfold World.setCell World.alloc
  congr 1
  apply Array.ext
  · simp
  · intro i h1 h2
    simp only [Array.getElem_modify, Array.getElem_push]
    by_cases h : w.heap.size = i
    · subst h; simp
    · have hi : i < w.heap.size := by simp at h1; omega
      simp [h, hi]
/-- the four texts of the replacer -/
def Four (w : World) (g : Nat) : Prop := w.cell? ⟨g, 0, none⟩ = some (.string ⟨#[13]⟩) ∧ w.cell? ⟨g, 1, none⟩ = some (.string ⟨#[32]⟩) ∧ w.cell? ⟨g, 2, none⟩ = some (.string ⟨#[10]⟩) ∧ w.cell? ⟨g, 3, none⟩ = some (.string ⟨#[32]⟩)
def Built (base : Nat) (w : World) (e : Ending) (w' : World) : Prop := ∃ h, e = .returned (.iface 129 (.pointer (some ⟨h, 0, none⟩))) ∧ w.heap.size ≤ h ∧ w'.heap[h]? = some (.cells (bvs tab) 128 (0, 0)) ∧ Below w.heap.size w w'
set_option maxRecDepth 100000 in
set_option maxHeartbeats 8000000 in
theorem build_any (base b g c : Nat) (w : World) (hc : 4 ≤ c) (h4 : w.cell? ⟨b, 4, none⟩ = some (.slice (some ⟨g, 0, none⟩) 4 c)) (hF : Four w g) :
    Calls Tryz.prog 54 #[.pointer (some ⟨b, 0, none⟩)] w (Built base w) := by
  obtain ⟨g0, g1, g2, g3⟩ := hF
  go_enter Tryz.func54, Tryz.ntmps54
  go_wp2_with fail
  go_loop [4, 5] (fun v i => ∃ k : Nat, k ≤ 2 ∧ v = .bool true ∧ i = .int .i64 (2 * (k : Int))) (fun _ i => 4 - (intOf i).toNat)
  case atStart => exact ⟨0, by omega, rfl, rfl⟩
  case round =>
    obtain ⟨k, hk, rfl, rfl⟩ := hrel
    obtain rfl | rfl | rfl : k = 0 ∨ k = 1 ∨ k = 2 := by omega
    · go_wp2_with fail
      go_round
      case rel => exact ⟨1, by omega, rfl, rfl⟩
      case measure => simp [intOf]
    · go_wp2_with fail
      go_round
      case rel => exact ⟨2, by omega, rfl, rfl⟩
      case measure => simp [intOf]
    · go_wp2_with (first | (refine wpList_build_to rfl 128 _ rfl z256 (by kernel_rfl) ?_) | (refine wpList_store_at rfl 128 _ _ rfl z256 _ 128 _ rfl rfl rfl (by kernel_rfl) rfl (by kernel_rfl) ?_))
      have hp0 : w.alloc (.cells z256 128) = plusB w (idTo 0) := rfl
      go_loopw [61] (fun i wr => ∃ k : Nat, k ≤ 256 ∧ i = .int .i64 k ∧ wr = plusB w (idTo k)) (fun i _ => 256 - (intOf i).toNat)
      case atStart => exact ⟨0, by omega, rfl, rfl⟩
      case round =>
        obtain ⟨k, hk, rfl, hwr⟩ := hrel
        have hwr' := veil hwr
        clear hwr hp0
        have hl := idTo_len k hk
        by_cases hlt : k < 256
        · have gc : wr.cell? ⟨w.heap.size, k, none⟩ = some (.int .u8 ((idTo k).getD k 0)) := by rw [hwr'.out]; exact plusB_cell w _ k (by omega)
          have gf : wr.frozen? ⟨w.heap.size, k, none⟩ = false := by rw [hwr'.out]; exact plusB_free w _ k
          have k0 : (0 : Int) ≤ k := by omega
          have k2 : (k : Int) < 256 := by omega
          clear hl
          go_wp2_with fail
          go_roundw
          case rel =>
            refine ⟨k + 1, by omega, by go_num, ?_⟩
            rw [hwr'.out, plusB_set, idTo_set k hlt]
          case measure => simp [intOf]; omega
        · obtain rfl : k = 256 := by omega
          obtain ⟨wo, rfl⟩ : ∃ wo : World, wo = wr := ⟨_, rfl⟩
          go_wp2_with fail
          go_loopw [8] (fun i wr => ∃ j : Nat, j ≤ 2 ∧ i = .int .i64 (2 - 2 * (j : Int)) ∧ wr = plusB w (tabTo j)) (fun i _ => (intOf i + 2).toNat)
          case atStart => exact ⟨0, by omega, rfl, hwr'.out⟩
          case round =>
            obtain ⟨j, hj, rfl, hwj⟩ := hrel
            have hwj' := veil hwj
            clear hwj
            have hlj := tabTo_len j
            have a0 : wr.cell? ⟨g, 0, none⟩ = some (.string ⟨#[13]⟩) := by rw [hwj'.out]; exact plusB_old w _ g0
            have a1 : wr.cell? ⟨g, 1, none⟩ = some (.string ⟨#[32]⟩) := by rw [hwj'.out]; exact plusB_old w _ g1
            have a2 : wr.cell? ⟨g, 2, none⟩ = some (.string ⟨#[10]⟩) := by rw [hwj'.out]; exact plusB_old w _ g2
            have a3 : wr.cell? ⟨g, 3, none⟩ = some (.string ⟨#[32]⟩) := by rw [hwj'.out]; exact plusB_old w _ g3
            have c10 : wr.cell? ⟨w.heap.size, 10, none⟩ = some (.int .u8 ((tabTo j).getD 10 0)) := by rw [hwj'.out]; exact plusB_cell w _ 10 (by omega)
            have f10 : wr.frozen? ⟨w.heap.size, 10, none⟩ = false := by rw [hwj'.out]; exact plusB_free w _ 10
            have c13 : wr.cell? ⟨w.heap.size, 13, none⟩ = some (.int .u8 ((tabTo j).getD 13 0)) := by rw [hwj'.out]; exact plusB_cell w _ 13 (by omega)
            have f13 : wr.frozen? ⟨w.heap.size, 13, none⟩ = false := by rw [hwj'.out]; exact plusB_free w _ 13
            have e10 : ∀ h : 0 < (⟨#[10]⟩ : ByteArray).size, ((⟨#[10]⟩ : ByteArray)[0]'h).toNat = 10 := fun _ => rfl
            have e13 : ∀ h : 0 < (⟨#[13]⟩ : ByteArray).size, ((⟨#[13]⟩ : ByteArray)[0]'h).toNat = 13 := fun _ => rfl
            have e32 : ∀ h : 0 < (⟨#[32]⟩ : ByteArray).size, ((⟨#[32]⟩ : ByteArray)[0]'h).toNat = 32 := fun _ => rfl
            clear hlj
            obtain rfl | rfl | rfl : j = 0 ∨ j = 1 ∨ j = 2 := by omega
            · go_wp2_with fail
              refine ⟨⟨1, by omega, rfl, ?_⟩, by simp [intOf]⟩
              rw [hwj'.out]
              exact plusB_set w (tabTo 0) 10 32
            · go_wp2_with fail
              refine ⟨⟨2, by omega, rfl, ?_⟩, by simp [intOf]⟩
              rw [hwj'.out]
              exact plusB_set w (tabTo 1) 13 32
            · go_wp2_with fail
              go_ret
              refine ⟨w.heap.size, rfl, Nat.le_refl _, ?_, ?_⟩
              · rw [hwj'.out]; exact plusB_heap w _
              · rw [hwj'.out]; exact below_alloc (Below.refl _ _) _
end Go.Proofs.Tryz.Ln
/- strings.Replacer's table is made once: what sync.Once.Do comes to. -/
namespace Go.Proofs.Tryz.Ln
open Go Go.RowKit Go.Proofs.Mem
open Go.Proofs.YtcdcbkopapedhaaGreatDoorW.PrintWords
set_option linter.unusedVariables false

/-- a replacer: done, the lock, its table, its texts -/
def repl (x0 x1 x2 r l : Value) : Obj := .cells #[x0, x1, x2, r, l] 101
theorem repl_cell {w : World} {b : Nat} {x0 x1 x2 r l : Value} (h : w.heap[b]? = some (repl x0 x1 x2 r l)) (j : Nat) : w.cell? ⟨b, j, none⟩ = #[x0, x1, x2, r, l][j]? := by
  rw [cell_of_row _ _ _ _ _ _ h]
theorem repl_free {w : World} {b : Nat} {x0 x1 x2 r l : Value} (h : w.heap[b]? = some (repl x0 x1 x2 r l)) (j : Nat) : w.frozen? ⟨b, j, none⟩ = false := by
  simp [World.frozen?, h, repl]
theorem four_below {w w1 : World} {g : Nat} (h : Four w g) (hb : Below w.heap.size w w1) : Four w1 g := ⟨pw_cell_below hb h.1, pw_cell_below hb h.2.1, pw_cell_below hb h.2.2.1, pw_cell_below hb h.2.2.2⟩
theorem four_set {w : World} {g b j : Nat} {u : Value} (h : Four w g) (hne : g ≠ b) : Four (w.setCell ⟨b, j, none⟩ u) g := by
  have e : ∀ i, (w.setCell ⟨b, j, none⟩ u).cell? ⟨g, i, none⟩ = w.cell? ⟨g, i, none⟩ := fun i => cell_far (a := ⟨g, i, none⟩) (p := ⟨b, j, none⟩) hne u
  exact ⟨(e 0).trans h.1, (e 1).trans h.2.1, (e 2).trans h.2.2.1, (e 3).trans h.2.2.2⟩
/-- the table lies, the replacer knows it -/
def Laid (base b : Nat) (x0 x1 x2 : Value) (w w' : World) : Prop := Below base w w' ∧ ∃ h, base ≤ h ∧ h ≠ b ∧ w'.heap[b]? = some (repl x0 x1 x2 (.iface 129 (.pointer (some ⟨h, 0, none⟩))) (.slice none 0 0)) ∧ w'.heap[h]? = some (.cells (bvs tab) 128 (0, 0))
def Made (base b : Nat) (x0 x1 x2 : Value) (w : World) (e : Ending) (w' : World) : Prop := e = .returned (.tuple #[]) ∧ Laid base b x0 x1 x2 w w'
set_option maxHeartbeats 2000000 in
theorem buildOnce_any (base b g c : Nat) (x0 x1 x2 : Value) (w : World) (hb : w.heap[b]? = some (repl x0 x1 x2 .nilIface (.slice (some ⟨g, 0, none⟩) 4 c))) (hc : 4 ≤ c) (hF : Four w g) (hB : base ≤ b) (hs : base ≤ w.heap.size) :
    Calls Tryz.prog 48 #[.pointer (some ⟨b, 0, none⟩)] w (Made base b x0 x1 x2 w) := by
  have h4 := veil (repl_cell hb 4)
  have hb' := veil hb
  have hF' := veil hF
  have hlt := blk_lt hb
  clear hb hF
  go_enter Tryz.func48, Tryz.ntmps48
  go_wp2_with fail
  refine (build_any base b g c _ hc h4.out hF'.out).mono ?_
  rintro e w1 ⟨h, rfl, hh, hT, hb1⟩
  have hbb := (hb1.block _ hlt).trans hb'.out
  have c3 := repl_cell hbb 3
  have f3 := repl_free hbb 3
  have hne : h ≠ b := by omega
  have hbb3 : (w1.setCell ⟨b, 3, none⟩ (.iface 129 (.pointer (some ⟨h, 0, none⟩)))).heap[b]? = some (repl x0 x1 x2 (.iface 129 (.pointer (some ⟨h, 0, none⟩))) (.slice (some ⟨g, 0, none⟩) 4 c)) := blk_put hbb 3 _ rfl
  have c4 := repl_cell hbb3 4
  have f4 := repl_free hbb3 4
  have hbb4 : ((w1.setCell ⟨b, 3, none⟩ (.iface 129 (.pointer (some ⟨h, 0, none⟩)))).setCell ⟨b, 4, none⟩ (.slice none 0 0)).heap[b]? = some (repl x0 x1 x2 (.iface 129 (.pointer (some ⟨h, 0, none⟩))) (.slice none 0 0)) := blk_put hbb3 4 _ rfl
  have hT4 : ((w1.setCell ⟨b, 3, none⟩ (.iface 129 (.pointer (some ⟨h, 0, none⟩)))).setCell ⟨b, 4, none⟩ (.slice none 0 0)).heap[h]? = some (.cells (bvs tab) 128 (0, 0)) :=
    (Below.heap_setCell _ ⟨b, 4, none⟩ _ h hne).trans ((Below.heap_setCell _ ⟨b, 3, none⟩ _ h hne).trans hT)
  have hX := veil (show Laid base b x0 x1 x2 w ((w1.setCell ⟨b, 3, none⟩ (.iface 129 (.pointer (some ⟨h, 0, none⟩)))).setCell ⟨b, 4, none⟩ (.slice none 0 0)) from
    ⟨((hb1.mono hs).setCell hB _).setCell hB _, h, by omega, hne, hbb4, hT4⟩)
  simp at c3 c4
  clear hbb hbb3 hbb4 hT4 hT hb1 hne
  go_wp2_with fail
  go_end0
  exact ⟨rfl, hX.out⟩
set_option maxRecDepth 100000 in
set_option maxHeartbeats 4000000 in
theorem slow_any (base b g c : Nat) (x2 : Value) (w : World) (hb : w.heap[b]? = some (repl (.int .u32 0) (.int .i32 0) x2 .nilIface (.slice (some ⟨g, 0, none⟩) 4 c))) (hc : 4 ≤ c) (hF : Four w g) (hg : g ≠ b) (hB : base ≤ b) (hs : base ≤ w.heap.size) :
    Calls Tryz.prog 53 #[.pointer (some ⟨b, 0, none⟩), .func (.func 48) #[.pointer (some ⟨b, 0, none⟩)] #[]] w (Made base b (.int .u32 1) (.int .i32 0) x2 w) := by
  have c0 := repl_cell hb 0
  have c1 := repl_cell hb 1
  have f0 := repl_free hb 0
  have f1 := repl_free hb 1
  simp at c0 c1
  have hb1 : (w.setCell ⟨b, 1, none⟩ (.int .i32 1)).heap[b]? = some (repl (.int .u32 0) (.int .i32 1) x2 .nilIface (.slice (some ⟨g, 0, none⟩) 4 c)) := blk_put hb 1 _ rfl
  have c01 := repl_cell hb1 0
  simp at c01
  have hF1 := veil (four_set (j := 1) (u := .int .i32 1) hF hg)
  have hB1 := veil ((Below.refl base w).setCell (p := ⟨b, 1, none⟩) hB (.int .i32 1))
  have hb' := veil hb
  have hb1' := veil hb1
  have hl := run_call_load (P := Tryz.prog) Tryz.func64 (by kernel_rfl) (by kernel_rfl) (by kernel_rfl) .u32 (by kernel_rfl) (w := w.setCell ⟨b, 1, none⟩ (.int .i32 1)) (a := ⟨b, 0, none⟩) (x := 0) c01
  have hnot : ∀ (x : Bool) (w : World), (Op.unary .not (.bool x)).run Tryz.prog w = .ok (.bool (!x)) w := fun _ _ => rfl
  have hs1 := veil (show base ≤ (w.setCell ⟨b, 1, none⟩ (.int .i32 1)).heap.size from by rw [World.size_setCell]; exact hs)
  clear hb hb1 hF c01
  go_enter_defers Tryz.func53, Tryz.ntmps53
  go_wp2_with (first | (go_at_call 65; refine (lock_free ⟨b, 1, none⟩ _ c1 f1).mono ?_; rintro e w' ⟨rfl, rfl⟩) | (go_at_call 52; go_in))
  refine (buildOnce_any base b g c _ _ _ _ hb1'.out hc hF1.out hB hs1.out).mono ?_
  rintro e w2 ⟨rfl, hbel, h, hh, hne, hbb, hT⟩
  have k0 := repl_cell hbb 0
  have k1 := repl_cell hbb 1
  have z0 := repl_free hbb 0
  have z1 := repl_free hbb 1
  simp at k0 k1
  have hbb2 : (w2.drew.setCell ⟨b, 0, none⟩ (.int .u32 1)).heap[b]? = some (repl (.int .u32 1) (.int .i32 1) x2 (.iface 129 (.pointer (some ⟨h, 0, none⟩))) (.slice none 0 0)) := blk_put (w := w2.drew) hbb 0 _ rfl
  have m1 := repl_cell hbb2 1
  have n1 := repl_free hbb2 1
  simp at m1
  have hbb3 : ((w2.drew.setCell ⟨b, 0, none⟩ (.int .u32 1)).setCell ⟨b, 1, none⟩ (.int .i32 0)).heap[b]? = some (repl (.int .u32 1) (.int .i32 0) x2 (.iface 129 (.pointer (some ⟨h, 0, none⟩))) (.slice none 0 0)) := blk_put hbb2 1 _ rfl
  have hT3 : ((w2.drew.setCell ⟨b, 0, none⟩ (.int .u32 1)).setCell ⟨b, 1, none⟩ (.int .i32 0)).heap[h]? = some (.cells (bvs tab) 128 (0, 0)) :=
    (Below.heap_setCell _ ⟨b, 1, none⟩ _ h hne).trans ((Below.heap_setCell _ ⟨b, 0, none⟩ _ h hne).trans hT)
  have hX := veil (show Laid base b (.int .u32 1) (.int .i32 0) x2 w ((w2.drew.setCell ⟨b, 0, none⟩ (.int .u32 1)).setCell ⟨b, 1, none⟩ (.int .i32 0)) from
    ⟨((pw_below_drewN (hB1.out.trans hbel) 1).setCell hB _).setCell hB _, h, hh, hne, hbb3, hT3⟩)
  have m1' := veil m1
  have n1' := veil n1
  have k0' := veil k0
  have z0' := veil z0
  clear hbb hbb2 hbb3 hT hT3 hbel k0 k1 z0 z1 m1 n1 hl c0 c1 f0 f1
  go_wp2_with fail
  refine leaves_cons (f := 67) (args := #[.pointer (some ⟨b, 0, none⟩), .bool true]) (by simp) (by simp [go_sem]) ?_
  refine (store_deferred ⟨b, 0, none⟩ (.int .u32 0) .returning _ k0'.out z0'.out).mono ?_
  rintro e u' w'' ⟨rfl, rfl, rfl⟩
  refine leaves_cons (f := 66) (args := #[.pointer (some ⟨b, 1, none⟩)]) (by simp [settle]) (by simp [go_sem]) ?_
  refine (unlock_deferred ⟨b, 1, none⟩ _ _ m1'.out n1'.out).mono ?_
  rintro e u' w'' ⟨rfl, rfl, rfl⟩
  simp [Leaves, settle, results, Tryz.results53]
  exact ⟨rfl, hX.out⟩
set_option maxRecDepth 100000 in
set_option maxHeartbeats 4000000 in
theorem do_any (base b g c : Nat) (x2 : Value) (w : World) (hb : w.heap[b]? = some (repl (.int .u32 0) (.int .i32 0) x2 .nilIface (.slice (some ⟨g, 0, none⟩) 4 c))) (hc : 4 ≤ c) (hF : Four w g) (hg : g ≠ b) (hB : base ≤ b) (hs : base ≤ w.heap.size) :
    Calls Tryz.prog 47 #[.pointer (some ⟨b, 0, none⟩), .func (.func 48) #[.pointer (some ⟨b, 0, none⟩)] #[]] w (Made base b (.int .u32 1) (.int .i32 0) x2 w) := by
  have c0 := repl_cell hb 0
  simp at c0
  have hl := run_call_load (P := Tryz.prog) Tryz.func64 (by kernel_rfl) (by kernel_rfl) (by kernel_rfl) .u32 (by kernel_rfl) c0
  have hnot : ∀ (x : Bool) (w : World), (Op.unary .not (.bool x)).run Tryz.prog w = .ok (.bool (!x)) w := fun _ _ => rfl
  have hb' := veil hb
  have hF' := veil hF
  clear hb hF
  go_enter Tryz.func47, Tryz.ntmps47
  go_wp2_with (first | (go_at_call 53; refine (slow_any base b g c x2 _ hb'.out hc hF'.out hg hB hs).mono ?_; rintro e w1 ⟨rfl, hX⟩) | (go_at_call 52; go_in))
  go_end0
  exact ⟨rfl, hX⟩
end Go.Proofs.Tryz.Ln
/- What the replacer makes of a text. -/
namespace Go.Proofs.Tryz.Ln
open Go Go.RowKit Go.Proofs.Mem Go.Proofs.App
open Go.Proofs.YtcdcbkopapedhaaGreatDoorW.PrintWords
set_option linter.unusedVariables false

/-- a text on one line -/
def flatS (s : ByteArray) : ByteArray := strOfNums ((bytesOf s).map flatB)
/-- so far -/
def flatTo (s : ByteArray) (k : Nat) : List Int := ((bytesOf s).take k).map flatB ++ (bytesOf s).drop k
theorem flatTo_len (s : ByteArray) (k : Nat) (h : k ≤ s.size) : (flatTo s k).length = s.size := by
  simp [flatTo, bytesOf_length]; omega
theorem flatTo_zero (s : ByteArray) : flatTo s 0 = bytesOf s := by simp [flatTo]
theorem flatTo_all (s : ByteArray) : flatTo s s.size = (bytesOf s).map flatB := by
  rw [flatTo, List.take_of_length_le (by rw [bytesOf_length]; omega), List.drop_of_length_le (by rw [bytesOf_length]; omega), List.append_nil]
theorem bytes_at (s : ByteArray) (k : Nat) (h : k < s.size) : (bytesOf s)[k]? = some (bt s k) := by
  have h2 : k < (bytesOf s).length := by rw [bytesOf_length]; exact h
  rw [List.getElem?_eq_getElem h2]
  congr 1
  have := rd_bytesOf s k
  rw [rd, Int.toNat_natCast, List.getD_eq_getElem?_getD, List.getElem?_eq_getElem h2] at this
  simpa using this
theorem flatTo_set (s : ByteArray) (k : Nat) (h : k < s.size) : (flatTo s k).set k (flatB (bt s k)) = flatTo s (k + 1) := by
  have h2 : k < (bytesOf s).length := by rw [bytesOf_length]; exact h
  have e := bytes_at s k h
  rw [List.getElem?_eq_getElem h2] at e
  injection e with e
  rw [flatTo, flatTo, List.set_append_right _ _ (by simp; omega), List.take_succ_eq_append_getElem h2, List.drop_eq_getElem_cons h2, e]
  simp [Nat.min_eq_left (Nat.le_of_lt h2)]
theorem flatTo_same (s : ByteArray) (k : Nat) (h : k < s.size) (he : flatB (bt s k) = bt s k) : flatTo s (k + 1) = flatTo s k := by
  rw [← flatTo_set s k h, he]
  apply List.ext_getElem?
  intro i
  rw [List.getElem?_set]
  have h2 : k < (bytesOf s).length := by rw [bytesOf_length]; exact h
  have e := bytes_at s k h
  by_cases hi : k = i
  · subst hi
    rw [if_pos rfl, if_pos (by rw [flatTo_len s k (by omega)]; exact h), flatTo, List.getElem?_append_right (by simp; omega), List.getElem?_drop]
    simp [Nat.min_eq_left (Nat.le_of_lt h2), e]
  · rw [if_neg hi]
theorem str_bytes (s : ByteArray) : strOfNums (bytesOf s) = s := by
  unfold strOfNums bytesOf
  rw [List.map_map]
  have : s.data.toList.map ((fun n : Int => UInt8.ofNat n.toNat) ∘ fun b : UInt8 => (b.toNat : Int)) = s.data.toList := by
    conv => rhs; rw [← List.map_id s.data.toList]
    apply List.map_congr_left
    intro u _
    simp
  rw [this]
theorem flat_same (s : ByteArray) (h : ∀ k, k < s.size → flatB (bt s k) = bt s k) : flatS s = s := by
  have : ∀ k, k ≤ s.size → flatTo s k = bytesOf s := by
    intro k hk
    induction k with
    | zero => exact flatTo_zero s
    | succ k ih => rw [flatTo_same s k (by omega) (h k (by omega)), ih (by omega)]
  unfold flatS
  rw [← flatTo_all, this _ (Nat.le_refl _), str_bytes]
/-- the buffer: none yet, or one of these bytes -/
def BufAt (w : World) (g : Nat) (l : List Int) : Prop := ∀ j, j < l.length → w.cell? ⟨g, j, none⟩ = some (.int .u8 (l.getD j 0)) ∧ w.frozen? ⟨g, j, none⟩ = false
def BufIs (s : ByteArray) (base h k : Nat) (v : Value) (w : World) : Prop :=
  (v = .slice none 0 0 ∧ ∀ j, j < k → flatB (bt s j) = bt s j) ∨ ∃ g cap, v = .slice (some ⟨g, 0, none⟩) s.size cap ∧ base ≤ g ∧ g ≠ h ∧ BufAt w g (flatTo s k)
theorem bufAt_set {w : World} {g : Nat} {l : List Int} (h : BufAt w g l) (k : Nat) (x : Int) : BufAt (w.setCell ⟨g, k, none⟩ (.int .u8 x)) g (l.set k x) := by
  intro j hj
  rw [List.length_set] at hj
  obtain ⟨h1, h2⟩ := h j hj
  refine ⟨?_, by rw [World.frozen?_setCell]; exact h2⟩
  by_cases e : k = j
  · subst e
    rw [World.cell?_setCell_same _ _ _ h1]
    simp [hj]
  · rw [World.cell?_setCell_other _ _ _ _ (by intro h; injection h with _ h; exact e h), h1]
    simp [List.getD_eq_getElem?_getD, e]
theorem bufAt_new (W : World) (s : ByteArray) : BufAt (Lib.bytesWorld W 5 s) W.heap.size (bytesOf s) := by
  intro j hj
  rw [bytesOf_length] at hj
  refine ⟨?_, ?_⟩
  · rw [Lib.bytesWorld_cell W 5 s j hj]
    simp [bytesOf, List.getD_eq_getElem?_getD, hj]
  · have hs : j < (Lib.bytesCells W 5 s).size := by
      simp [Lib.bytesCells]; omega
    simp [World.frozen?, Lib.bytesWorld_at_new]
    omega
theorem bufAt_reads {w : World} {g : Nat} {l : List Int} {n : Nat} (h : BufAt w g l) (hl : l.length = n) (hn : n ≤ 140737488351232) : ReadsInt w .u8 (some ⟨g, 0, none⟩) n l :=
  ⟨hl, by omega, fun _ => ⟨_, rfl, fun j hj => by rw [add_plain]; exact (h j (by omega)).1⟩⟩
set_option maxRecDepth 100000 in
set_option maxHeartbeats 8000000 in
theorem byteReplace_any (h : Nat) (s : ByteArray) (w : World) (hs : s.size ≤ 140737488351232) (hT : w.heap[h]? = some (.cells (bvs tab) 128 (0, 0))) :
    Calls Tryz.prog 135 #[.pointer (some ⟨h, 0, none⟩), .string s] w fun e w' => e = .returned (.string (flatS s)) ∧ Below w.heap.size w w' := by
  have hlt := blk_lt hT
  have kb := fun W => print_bytes (P := Tryz.prog) 9 29 5 Tryz.underlying9 Tryz.underlying29 Tryz.underlying5 s W
  have qT : ∀ (w : World) (a : Option Addr) (n c n' c' : Nat), (binOp .eql 29 (.slice a n c) (.slice none n' c')).run Tryz.prog w = .ok (.bool a.isNone) w := fun w a n c n' c' => Lib.run_eql_slice_nil w _ _ a n c n' c' Tryz.underlying29
  have hT' := veil hT
  clear hT
  go_enter Tryz.func135, Tryz.ntmps135
  go_wp2_with fail
  go_loopw [5, 6] (fun v i wr => ∃ k : Nat, k ≤ s.size ∧ i = .int .i64 k ∧ BufIs s w.heap.size h k v wr ∧ wr.heap[h]? = some (.cells (bvs tab) 128 (0, 0)) ∧ Below w.heap.size w wr) (fun _ i _ => s.size - (intOf i).toNat)
  case atStart => exact ⟨0, by omega, rfl, Or.inl ⟨rfl, fun j hj => absurd hj (by omega)⟩, hT'.out, Below.refl _ _⟩
  case round =>
    obtain ⟨k, hk, rfl, hbuf, hTr, hb⟩ := hrel
    have hTr' := veil hTr
    have hb' := veil hb
    clear hTr hb
    by_cases hlt2 : k < s.size
    · obtain ⟨c, hc⟩ : ∃ c, bt s k = c := ⟨_, rfl⟩
      have hrg := bt_range s k
      rw [hc] at hrg
      obtain ⟨hr0, hr1⟩ := hrg
      have hcb : ∀ hh : k < s.size, ((s[k]'hh).toNat : Int) = c := fun hh => by
        rw [← hc, ← bt_at s (k : Int) (by simpa using hh)]
        simp
      have ht : wr.cell? ⟨h, c.toNat, none⟩ = some (.int .u8 (flatB c)) := by
        rw [cell_of_row _ _ _ _ _ _ hTr'.out, bvs_at _ _ (by rw [tab_len]; omega), tab_at c hr0 hr1]
      have hc' := veil hc
      clear hc
      by_cases he : flatB c = c
      · have hn : (flatB c != c) = false := by rw [bne_eq_false_iff_eq]; exact he
        have hnext : Veil (∀ v, v = v → BufIs s w.heap.size h k v wr → BufIs s w.heap.size h (k + 1) v wr) := veil (by
          intro v _ hv
          rcases hv with ⟨h1, h2⟩ | ⟨g, cap, h1, h2, h3, h4⟩
          · refine Or.inl ⟨h1, fun j hj => ?_⟩
            by_cases hjk : j = k
            · subst hjk; rw [hc'.out]; exact he
            · exact h2 j (by omega)
          · refine Or.inr ⟨g, cap, h1, h2, h3, ?_⟩
            rw [flatTo_same s k hlt2 (by rw [hc'.out]; exact he)]
            exact h4)
        have hbuf' := veil hbuf
        clear hbuf he
        go_wp2_with fail
        go_roundw
        case rel => exact ⟨k + 1, by omega, by go_num, hnext.out _ rfl hbuf'.out, hTr'.out, hb'.out⟩
        case measure => simp [intOf]; omega
      · have hn : (flatB c != c) = true := by rw [bne_iff_ne]; exact he
        clear he
        rcases hbuf with ⟨rfl, hsame⟩ | ⟨g, cap, rfl, hg, hgh, hbuf⟩
        · have hnew := bufAt_new wr s
          have hbt := hnew k (by rw [bytesOf_length]; exact hlt2)
          have hlh := blk_lt hTr'.out
          have ht2 : (Lib.bytesWorld wr 5 s).cell? ⟨h, c.toNat, none⟩ = some (.int .u8 (flatB c)) := by
            rw [Lib.bytesWorld_old _ _ _ _ hlh]; exact ht
          obtain ⟨hc1, hf1⟩ := hbt
          have hT2 := veil ((Lib.bytesWorld_at_old wr 5 s h hlh).trans hTr'.out)
          have hB2 := veil (base_below hb'.out hb'.out.size (bytes_below (Below.refl wr.heap.size wr) (Nat.le_refl _) 5 s))
          have e0 : bytesOf s = flatTo s k := by
            have : ∀ j, j ≤ k → flatTo s j = bytesOf s := by
              intro j hj
              induction j with
              | zero => exact flatTo_zero s
              | succ j ih => rw [flatTo_same s j (by omega) (hsame j (by omega)), ih (by omega)]
            exact (this k (Nat.le_refl _)).symm
          have hset := bufAt_set hnew k (flatB c)
          rw [e0, ← hc'.out, flatTo_set s k hlt2] at hset
          have hset' := veil hset
          have hbs := hb'.out.size
          clear hset hnew e0 hsame
          go_wp2_with fail
          refine ⟨⟨k + 1, by omega, by go_num, Or.inr ⟨wr.heap.size, _, rfl, hbs, by omega, ?_⟩, ?_, hB2.out.setCell hbs _⟩, by simp [intOf]; omega⟩
          · rw [← hc'.out]; exact hset'.out
          · exact (Below.heap_setCell _ ⟨wr.heap.size, k, none⟩ _ h (by simp; omega)).trans hT2.out
        · have hbt := hbuf k (by rw [flatTo_len s k hk]; exact hlt2)
          obtain ⟨hc1, hf1⟩ := hbt
          have hset := bufAt_set hbuf k (flatB c)
          rw [← hc'.out, flatTo_set s k hlt2] at hset
          have hset' := veil hset
          clear hset hbuf
          go_wp2_with fail
          refine ⟨⟨k + 1, by omega, by go_num, Or.inr ⟨g, cap, rfl, hg, hgh, ?_⟩, ?_, hb'.out.setCell hg _⟩, by simp [intOf]; omega⟩
          · rw [← hc'.out]; exact hset'.out
          · exact (Below.heap_setCell _ ⟨g, k, none⟩ _ h (fun e => hgh e.symm)).trans hTr'.out
    · obtain rfl : k = s.size := by omega
      rcases hbuf with ⟨rfl, hsame⟩ | ⟨g, cap, rfl, hg, hgh, hbuf⟩
      · have hfl := veil (flat_same s hsame)
        clear hsame
        go_wp2_with fail
        go_ret
        exact ⟨by rw [hfl.out]; rfl, hb'.out⟩
      · have hst := string_of_reads (P := Tryz.prog) (src := 29) (dst := 9) (c := cap) Tryz.underlying29 Tryz.underlying5 Tryz.underlying9 (bufAt_reads hbuf (flatTo_len s _ hk) hs)
        rw [flatTo_all] at hst
        have hst' : (convert 29 9 (.slice (some ⟨g, 0, none⟩) s.size cap)).run Tryz.prog wr = .ok (.string (flatS s)) wr := hst
        clear hbuf hst
        go_wp2_with fail
        go_ret
        exact ⟨rfl, hb'.out⟩
/-- a new replacer -/
def NewRepl (w : World) (e : Ending) (w' : World) : Prop := ∃ b g c x2, e = .returned (.pointer (some ⟨b, 0, none⟩)) ∧ Below w.heap.size w w' ∧ w.heap.size ≤ b ∧ 4 ≤ c ∧ g ≠ b ∧ Four w' g ∧ w'.heap[b]? = some (repl (.int .u32 0) (.int .i32 0) x2 .nilIface (.slice (some ⟨g, 0, none⟩) 4 c))
theorem info9 : (Tryz.prog.info? 9).map (fun i => (i.zero, i.size, i.bytes)) = some (some (.string ByteArray.empty), 1, 16) := by kernel_rfl
set_option maxHeartbeats 4000000 in
theorem newReplacer_any (g0 : Nat) (w : World) (hF : Four w g0) :
    Calls Tryz.prog 41 #[.slice (some ⟨g0, 0, none⟩) 4 4] w (NewRepl w) := by
  obtain ⟨i0, hi, hz0, hz1, hz2⟩ := info_parts info9
  go_enter Tryz.func41, Tryz.ntmps41
  go_wp2_with (at_builtin; refine wpList_append_own _ rfl _ _ 22 rfl w.heap.size 9 i0 (.string ByteArray.empty) 1 16 Tryz.underlying22 hi hz0 hz1 hz2 rfl (by decide) _ _ _ rfl (own_nil w w.heap.size 9 1) ⟨g0, 0, none⟩ 4 4 [.string ⟨#[13]⟩, .string ⟨#[32]⟩, .string ⟨#[10]⟩, .string ⟨#[32]⟩] rfl rfl ?c1 ?c2 ?c3 ?c4 ?c5 ?_)
  case c1 =>
    intro j u hj
    rw [add_plain]
    match j, hj with
    | 0, hj => simp at hj; subst hj; exact hF.1
    | 1, hj => simp at hj; subst hj; exact hF.2.1
    | 2, hj => simp at hj; subst hj; exact hF.2.2.1
    | 3, hj => simp at hj; subst hj; exact hF.2.2.2
    | n + 4, hj => simp at hj
  case c2 => intro u hu; simp at hu; rcases hu with rfl | rfl | rfl | rfl <;> rfl
  case c3 => unfold maxLen; omega
  case c4 => omega
  case c5 => omega
  intro v1 w1 hown hgrow _
  obtain ⟨g, c, rfl, hg, hc⟩ : ∃ g c, v1 = .slice (some ⟨g, 0, none⟩) 4 c ∧ w.heap.size ≤ g ∧ 4 ≤ c := by
    rcases hown.2 with ⟨_, h0⟩ | ⟨g, cap, cur, hv, hb, _, hn, _⟩
    · omega
    · exact ⟨g, cap, hv, hb, hn⟩
  have hcell := fun j v h => hown.cells (g := g) rfl j v h
  have hF1 : Four w1 g := ⟨hcell 0 _ rfl, hcell 1 _ rfl, hcell 2 _ rfl, hcell 3 _ rfl⟩
  have hlt : g < w1.heap.size := World.block_lt_of_cell? w1 _ hF1.1
  have hb1 : Below w.heap.size w w1 := (Below.refl w.heap.size w).grown hgrow (Nat.le_refl _) (fun k hk => by simp [Value.ownBlock] at hk)
  have hb1' := veil hb1
  have hF1' := veil hF1
  have hs1 := hb1.size
  clear hcell hown hgrow hF1 hb1 hF
  go_wp2_with fail
  go_ret
  refine ⟨w1.heap.size, g, c, .int .u32 0, rfl, below_alloc hb1'.out _, hs1, hc, by omega, four_below hF1'.out (below_alloc (Below.refl _ _) _), ?_⟩
  exact heap_alloc_last w1 _
set_option maxRecDepth 100000 in
set_option maxHeartbeats 4000000 in
theorem replace_any (base b g c : Nat) (x2 : Value) (s : ByteArray) (w : World) (hs : s.size ≤ 140737488351232) (hb : w.heap[b]? = some (repl (.int .u32 0) (.int .i32 0) x2 .nilIface (.slice (some ⟨g, 0, none⟩) 4 c))) (hc : 4 ≤ c) (hF : Four w g) (hg : g ≠ b) (hB : base ≤ b) (hbase : base ≤ w.heap.size) :
    Calls Tryz.prog 42 #[.pointer (some ⟨b, 0, none⟩), .string s] w fun e w' => e = .returned (.string (flatS s)) ∧ Below base w w' := by
  have hmf : ∀ (fn : Fn) (first cap : Array Value) (w : World), (Instr.makeFunc fn first cap).run Tryz.prog w = .ok (.func fn first cap) w := fun _ _ _ _ => rfl
  have hm : ∀ (a : Addr) (w : World), (method 314 129 (.pointer (some a)) "Replace").run Tryz.prog w = .ok (135, .pointer (some a)) w := fun _ _ => by kernel_rfl
  have hb' := veil hb
  clear hb
  go_enter Tryz.func42, Tryz.ntmps42
  go_wp2_with fail
  refine (do_any base b g c x2 _ hb'.out hc hF hg hB hbase).mono ?_
  rintro e w1 ⟨rfl, hb1, h, hh, hne, hbb, hT⟩
  have c3 := repl_cell hbb 3
  simp at c3
  have hb1' := veil hb1
  have hT' := veil hT
  clear hb1 hbb hT
  go_wp2_with fail
  refine (byteReplace_any h s _ hs hT'.out).mono ?_
  rintro e w2 ⟨rfl, hb2⟩
  have hb2' := veil (base_below hb1'.out (by have := hb1'.out.size; omega) hb2)
  clear hb2
  go_wp2_with fail
  go_ret
  exact ⟨rfl, hb2'.out⟩
/-- the line's bytes -/
def lineL (mark s : ByteArray) : List Int := bytesOf (mark ++ flatS s ++ ⟨#[13, 10]⟩)
theorem flatS_size (s : ByteArray) : (flatS s).size = s.size := by
  show ((List.map (fun n : Int => UInt8.ofNat n.toNat) ((bytesOf s).map flatB)).toArray).size = s.size
  simp [bytesOf_length]
theorem line_size (mark s : ByteArray) : (mark ++ flatS s ++ (⟨#[13, 10]⟩ : ByteArray)).size = mark.size + s.size + 2 := by
  rw [ByteArray.size_append, ByteArray.size_append, flatS_size]
  rfl
/-- a slice of the call's own that reads as these bytes -/
def Bytes_ (l : List Int) (w : World) (e : Ending) (w' : World) : Prop := ∃ A c, e = .returned (.slice A l.length c) ∧ Fresh .u8 w.heap.size w' A l.length c l ∧ Below w.heap.size w w'
set_option maxRecDepth 100000 in
set_option maxHeartbeats 4000000 in
theorem line_any (mark s : ByteArray) (w : World) (hm : mark.size ≤ 1000) (hs : s.size ≤ 70368744177664) :
    Calls Tryz.prog 33 #[.string mark, .string s] w (Bytes_ (lineL mark s) w) := by
  have kb := fun s W => print_bytes (P := Tryz.prog) 9 29 5 Tryz.underlying9 Tryz.underlying29 Tryz.underlying5 s W
  have hF0 : Four (w.alloc (.cells #[.string ⟨#[13]⟩, .string ⟨#[32]⟩, .string ⟨#[10]⟩, .string ⟨#[32]⟩] 9)) w.heap.size := by
    refine ⟨?_, ?_, ?_, ?_⟩ <;> (rw [cell_of_row _ _ _ _ _ _ (heap_alloc_last w _)]; rfl)
  have hF0' := veil hF0
  clear hF0
  go_enter Tryz.func33, Tryz.ntmps33
  go_wp2_with fail
  refine (newReplacer_any w.heap.size _ hF0'.out).mono ?_
  rintro e w1 ⟨b, g, c, x2, rfl, hb1, hbs, hc, hg, hF1, hR1⟩
  have hB1 := veil (two_below (below_alloc (Below.refl w.heap.size w) _) hb1)
  go_wp2_with fail
  have hs1 := hB1.out.size
  refine (replace_any w.heap.size b g c x2 s _ (by omega) hR1 hc hF1 hg (by simp only [World.size_alloc] at hbs; omega) hs1).mono ?_
  rintro e w2 ⟨rfl, hb2⟩
  have hB2 := veil (hB1.out.trans hb2)
  have hs2 : w.heap.size ≤ w2.heap.size := hB2.out.size
  clear hb1 hbs hF1 hR1 hb2
  have z1 : ¬ 9223372036854775807 < mark.size + (flatS s).size := by rw [flatS_size]; omega
  have z2 : ¬ 9223372036854775807 < mark.size + (flatS s).size + 2 := by rw [flatS_size]; omega
  go_wp2_with fail
  go_ret
  have hz : (mark ++ flatS s ++ (⟨#[13, 10]⟩ : ByteArray)).size = mark.size + (flatS s).size + 2 := by rw [ByteArray.size_append, ByteArray.size_append]; rfl
  have hl : (lineL mark s).length = mark.size + (flatS s).size + 2 := by rw [← hz]; exact bytesOf_length _
  refine ⟨some ⟨w2.heap.size, 0, none⟩, grownCap w2 (mark.size + (flatS s).size + 2) 0 5, ?_, ?_, ?_⟩
  · rw [hl]; rfl
  · have h := fresh_bytes w2 5 (mark ++ flatS s ++ ⟨#[13, 10]⟩) w.heap.size hs2
    rw [hz] at h
    rw [hl]
    exact h
  · exact base_below hB2.out hs2 (bytes_below (Below.refl w2.heap.size w2) (Nat.le_refl _) 5 _)
end Go.Proofs.Tryz.Ln
