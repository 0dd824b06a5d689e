import Derived.WideMake
import Derived.MapKept
import Derived.WalkKit
import Derived.Below
/- A map that a call makes, key by key, and what is looked up in it: by the entries as they lie. -/
namespace Go.Proofs.MapK
open Go Go.RowKit
variable {P : Program} {w : World}
theorem put_run (mty kt et : TypeId) (r clock : Nat) (es : Array MapEntry) (s : ByteArray) (val : Value) (hm : P.underlying mty = some (.map kt et)) (hk : P.underlying kt = some .string) (hb : w.heap[r]? = some (.map es clock)) (hf : Instr.findNow .string (.string s) es.toList 0 = some none) :
    (Instr.mapUpdate mty (.map (some r)) (.string s) val).run P w = .ok () { w with heap := w.heap.setIfInBounds r (.map (es.push { key := .string s, val := val, born := clock }) (clock + 1)) } := by
  have hc : (Instr.checkKey false 10000 kt (.string s)).run P w = .ok () w := MapKept.run_checkKey (k := .string s) hk (by simp [MapKept.IsKey]) false 9999
  simp [Instr.mapUpdate, run_underlying hm, MapKept.run_getObj_map hb, hc, MapKept.run_findKey hk hf, MapKept.run_setObj_map _ hb, Result.andThen]
theorem alloc_last (w : World) (o : Obj) : (w.alloc o).heap[w.heap.size]? = some o := by
  show (w.heap.push o)[w.heap.size]? = some o
  simp
theorem alloc_set (w : World) (o o' : Obj) : { (w.alloc o) with heap := (w.alloc o).heap.setIfInBounds w.heap.size o' } = w.alloc o' := by
  have e : (w.heap.push o).setIfInBounds w.heap.size o' = w.heap.push o' := by
    apply Array.ext_getElem?
    intro i
    rw [Array.getElem?_setIfInBounds, Array.getElem?_push, Array.getElem?_push]
    by_cases h : w.heap.size = i
    · subst h; simp
    · rw [if_neg h, if_neg (fun e => h e.symm), if_neg (fun e => h e.symm)]
  show ({ w with heap := (w.heap.push o).setIfInBounds w.heap.size o' } : World) = { w with heap := w.heap.push o' }
  rw [e]
/-- the same, at the map that the call has just made -/
theorem put_new (mty kt et : TypeId) (clock : Nat) (es : Array MapEntry) (s : ByteArray) (val : Value) (hm : P.underlying mty = some (.map kt et)) (hk : P.underlying kt = some .string) (hf : Instr.findNow .string (.string s) es.toList 0 = some none) :
    (Instr.mapUpdate mty (.map (some w.heap.size)) (.string s) val).run P (w.alloc (.map es clock)) = .ok () (w.alloc (.map (es.push { key := .string s, val := val, born := clock }) (clock + 1))) := by
  rw [put_run mty kt et w.heap.size clock es s val hm hk (alloc_last w _) hf, alloc_set]
theorem get_run (mty kt et : TypeId) (r clock j : Nat) (es : Array MapEntry) (s : ByteArray) (v : Value) (hm : P.underlying mty = some (.map kt et)) (hk : P.underlying kt = some .string) (hb : w.heap[r]? = some (.map es clock)) (hf : Instr.findNow .string (.string s) es.toList 0 = some (some (j, v))) :
    (Instr.lookup mty (.map (some r)) (.string s) true).run P w = .ok (.tuple #[v, .bool true]) w := by
  have hc : ∀ e, (Instr.checkKey e 10000 kt (.string s)).run P w = .ok () w := fun e => MapKept.run_checkKey (k := .string s) hk (by simp [MapKept.IsKey]) e 9999
  simp [Instr.lookup, run_underlying hm, MapKept.run_getObj_map hb, hc, MapKept.run_findKey hk hf, Result.andThen]
section
variable {ops : Array Oper} {rest : List Oper} {o : Oper} {a : Act} {Q : Exit → Act → World → Prop}
theorem wpList_put_new (hg : o.guard = none) (m x v : Operand) (t : TypeId) (hop : o.op = Op.mapUpdate t m x v) (kt et : TypeId) (clock : Nat) (es : Array MapEntry) (s : ByteArray) (val : Value) (hm : P.underlying t = some (.map kt et)) (hk : P.underlying kt = some .string)
    (em : a.eval m = .map (some w.heap.size)) (ex : a.eval x = .string s) (ev : a.eval v = val) (hf : Instr.findNow .string (.string s) es.toList 0 = some none)
    (hK : wpList P ops Q rest (a.put o.dst undef) (w.alloc (.map (es.push { key := .string s, val := val, born := clock }) (clock + 1)))) : wpList P ops Q (o :: rest) a (w.alloc (.map es clock)) := by
  refine wpList_plain hg fun K' hK' => ?_
  have h := put_new (P := P) (w := w) t kt et clock es s val hm hk hf
  unfold Oper.wp
  simp [execOp, hop, em, ex, ev, h, Result.andThen]
  exact hK' _ _ hK
theorem wpList_ins_new (hg : o.guard = none) (m x v : Operand) (t : TypeId) (hop : o.op = Op.insert t m x v) (kt et : TypeId) (clock : Nat) (es : Array MapEntry) (s : ByteArray) (val : Value) (hm : P.underlying t = some (.map kt et)) (hk : P.underlying kt = some .string)
    (em : a.eval m = .map (some w.heap.size)) (ex : a.eval x = .string s) (ev : a.eval v = val) (hf : Instr.findNow .string (.string s) es.toList 0 = some none)
    (hK : wpList P ops Q rest (a.put o.dst undef) (w.alloc (.map (es.push { key := .string s, val := val, born := clock }) (clock + 1)))) : wpList P ops Q (o :: rest) a (w.alloc (.map es clock)) := by
  refine wpList_plain hg fun K' hK' => ?_
  have h := put_new (P := P) (w := w) t kt et clock es s val hm hk hf
  unfold Oper.wp
  simp [execOp, hop, em, ex, ev, h, Result.andThen]
  exact hK' _ _ hK
theorem wpList_get (hg : o.guard = none) (m x : Operand) (t : TypeId) (hop : o.op = Op.lookup t m x true) (kt et : TypeId) (r clock j : Nat) (es : Array MapEntry) (s : ByteArray) (v : Value) (hm : P.underlying t = some (.map kt et)) (hk : P.underlying kt = some .string)
    (em : a.eval m = .map (some r)) (ex : a.eval x = .string s) (hb : w.heap[r]? = some (.map es clock)) (hf : Instr.findNow .string (.string s) es.toList 0 = some (some (j, v)))
    (hK : wpList P ops Q rest (a.put o.dst (.tuple #[v, .bool true])) w) : wpList P ops Q (o :: rest) a w := by
  refine wpList_plain hg fun K' hK' => ?_
  have h := get_run (P := P) (w := w) t kt et r clock j es s v hm hk hb hf
  unfold Oper.wp
  simp [execOp, hop, em, ex, h, Result.andThen]
  exact hK' _ _ hK
end
end Go.Proofs.MapK
