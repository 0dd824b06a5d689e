import Derived.Test.YtpgllpnebaonoaaRead
import Derived.ChangeKeysEq
import Derived.Deep.WholeRow
namespace Go.Proofs.Sha
open Go Go.RowKit Sha2
set_option linter.unusedVariables false
def kints : List Int := [1116352408, 1899447441, 3049323471, 3921009573, 961987163, 1508970993, 2453635748, 2870763221, 3624381080, 310598401, 607225278, 1426881987, 1925078388, 2162078206, 2614888103, 3248222580, 3835390401, 4022224774, 264347078, 604807628, 770255983, 1249150122, 1555081692, 1996064986, 2554220882, 2821834349, 2952996808, 3210313671, 3336571891, 3584528711, 113926993, 338241895, 666307205, 773529912, 1294757372, 1396182291, 1695183700, 1986661051, 2177026350, 2456956037, 2730485921, 2820302411, 3259730800, 3345764771, 3516065817, 3600352804, 4094571909, 275423344, 430227734, 506948616, 659060556, 883997877, 958139571, 1322822218, 1537002063, 1747873779, 1955562222, 2024104815, 2227730452, 2361852424, 2428436474, 2756734187, 3204031479, 3329325298]
def kvs : Array Value := #[Value.int .u32 1116352408, Value.int .u32 1899447441, Value.int .u32 3049323471, Value.int .u32 3921009573, Value.int .u32 961987163, Value.int .u32 1508970993, Value.int .u32 2453635748, Value.int .u32 2870763221, Value.int .u32 3624381080, Value.int .u32 310598401, Value.int .u32 607225278, Value.int .u32 1426881987, Value.int .u32 1925078388, Value.int .u32 2162078206, Value.int .u32 2614888103, Value.int .u32 3248222580, Value.int .u32 3835390401, Value.int .u32 4022224774, Value.int .u32 264347078, Value.int .u32 604807628, Value.int .u32 770255983, Value.int .u32 1249150122, Value.int .u32 1555081692, Value.int .u32 1996064986, Value.int .u32 2554220882, Value.int .u32 2821834349, Value.int .u32 2952996808, Value.int .u32 3210313671, Value.int .u32 3336571891, Value.int .u32 3584528711, Value.int .u32 113926993, Value.int .u32 338241895, Value.int .u32 666307205, Value.int .u32 773529912, Value.int .u32 1294757372, Value.int .u32 1396182291, Value.int .u32 1695183700, Value.int .u32 1986661051, Value.int .u32 2177026350, Value.int .u32 2456956037, Value.int .u32 2730485921, Value.int .u32 2820302411, Value.int .u32 3259730800, Value.int .u32 3345764771, Value.int .u32 3516065817, Value.int .u32 3600352804, Value.int .u32 4094571909, Value.int .u32 275423344, Value.int .u32 430227734, Value.int .u32 506948616, Value.int .u32 659060556, Value.int .u32 883997877, Value.int .u32 958139571, Value.int .u32 1322822218, Value.int .u32 1537002063, Value.int .u32 1747873779, Value.int .u32 1955562222, Value.int .u32 2024104815, Value.int .u32 2227730452, Value.int .u32 2361852424, Value.int .u32 2428436474, Value.int .u32 2756734187, Value.int .u32 3204031479, Value.int .u32 3329325298]
theorem kvs_map : kvs.toList = kints.map (Value.int .u32) := rfl
theorem kints_map : kints = K.map (fun n : Nat => ((BitVec.ofNat 32 n).toNat : Int)) := by decide +kernel
theorem kvs_at (i : Nat) (h : i < 64) : kvs[i]? = some (.int .u32 (BitVec.ofNat 32 (K.getD i 0)).toNat) := by
  have hl : i < K.length := h
  rw [← Array.getElem?_toList, kvs_map, kints_map]
  simp [hl]
theorem index_at {P : Program} (t e : TypeId) (n : Nat) (cs : Array Value) (k : IntKind) (i : Int) (v : Value) (w : World) (ie : TypeInfo) (ke : IntKind) (h : P.underlying t = some (.array n e)) (he : P.underlying e = some (.int ke)) (hi : P.info? e = some ie) (h1 : P.cellsOf e = 1)
    (h0 : 0 ≤ i) (hn : i < (n : Int)) (hv : cs[i.toNat]? = some v) : (Instr.index t (.agg cs) (.int k i)).run P w = .ok v w := by
  have hs : (sizeOf e).run P w = .ok 1 w := by rw [run_sizeOf w hi, h1]
  have ha : (isAgg e).run P w = .ok false w := by unfold isAgg; rw [Sem.run_bind, run_underlying he w]; simp
  simp [Instr.index, run_underlying h, asIntOf, h0, hn, Sem.run_bind, hs, part, ha, hv]
theorem info_of {P : Program} {t : TypeId} (h : (P.info? t).isSome = true) : ∃ i, P.info? t = some i := Option.isSome_iff_exists.1 h
theorem index53 (cs : Array Value) (i : Int) (v : Value) (w : World) (h0 : 0 ≤ i) (hn : i < 64) (hv : cs[i.toNat]? = some v) : (Instr.index 53 (.agg cs) (.int .i64 i)).run Try.prog w = .ok v w := by
  obtain ⟨ie, hi⟩ := info_of (P := Try.prog) (t := 33) (by kernel_rfl)
  exact index_at 53 33 64 cs .i64 i v w ie .u32 (by kernel_rfl) (by kernel_rfl) hi (by kernel_rfl) h0 hn hv
theorem index34 (cs : Array Value) (i : Int) (v : Value) (w : World) (h0 : 0 ≤ i) (hn : i < 8) (hv : cs[i.toNat]? = some v) : (Instr.index 34 (.agg cs) (.int .i64 i)).run Try.prog w = .ok v w := by
  obtain ⟨ie, hi⟩ := info_of (P := Try.prog) (t := 33) (by kernel_rfl)
  exact index_at 34 33 8 cs .i64 i v w ie .u32 (by kernel_rfl) (by kernel_rfl) hi (by kernel_rfl) h0 hn hv
theorem wpList_build_to {P : Program} {ops : Array Oper} {rest : List Oper} {o : Oper} {a : Act} {w : World} {Q : Exit → Act → World → Prop} (hg : o.guard = none) (t : TypeId) (parts : Array (Nat × Operand)) (ho : o.op = .build t parts)
    (cells : Array Value) (hf : P.built t (parts.map fun (i, x) => (i, a.eval x)).toList = some cells)
    (h : wpList P ops Q rest (a.put o.dst (.agg cells)) w) : wpList P ops Q (o :: rest) a w :=
  wpList_build hg t parts ho (by rw [hf]; rfl) (by rw [hf]; exact h)
theorem wpList_store_new {P : Program} {ops : Array Oper} {rest : List Oper} {o : Oper} {a : Act} {w : World} {Q : Exit → Act → World → Prop} (hgd : o.guard = none) (ty : TypeId) (x y : Operand) (ho : o.op = .store ty x y)
    (cells old : Array Value) (t : TypeId) (hx : a.eval x = .pointer (some ⟨w.heap.size, 0, none⟩)) (hy : a.eval y = .agg cells)
    (hi : (P.info? ty).map (·.size) = some cells.size)
    (hold : old.size = cells.size) (h1 : cells.all (·.oneCell') = true)
    (h : wpList P ops Q rest (a.put o.dst undef) (w.alloc (.cells cells t))) : wpList P ops Q (o :: rest) a (w.alloc (.cells old t)) :=
  wpList_store_row hgd ty x y ho w.heap.size cells hx hy t old (heap_alloc_last w _) hi hold h1 (by rw [World.setRow_alloc_new]; exact h)
theorem wpList_store_at {P : Program} {ops : Array Oper} {rest : List Oper} {o : Oper} {a : Act} {w : World} {Q : Exit → Act → World → Prop} (hgd : o.guard = none) (ty : TypeId) (x y : Operand) (ho : o.op = .store ty x y)
    (cells old : Array Value) (t : TypeId) (g : Nat) (hx : a.eval x = .pointer (some ⟨g, 0, none⟩)) (hg : g = w.heap.size) (hy : a.eval y = .agg cells)
    (hi : (P.info? ty).map (·.size) = some cells.size)
    (hold : old.size = cells.size) (h1 : cells.all (·.oneCell') = true)
    (h : wpList P ops Q rest (a.put o.dst undef) (w.alloc (.cells cells t))) : wpList P ops Q (o :: rest) a (w.alloc (.cells old t)) :=
  wpList_store_new hgd ty x y ho cells old t (by rw [hx, hg]) hy hi hold h1 h
set_option maxRecDepth 100000 in
set_option maxHeartbeats 1000000 in
theorem table_any (w : World) : Calls Try.prog 29 #[] w fun e w' => e = .returned (.agg kvs) ∧ w' = w.alloc (.cells kvs 53) := by
  go_enter Try.func29, Try.ntmps29
  go_wp2_with (first | (refine wpList_build_to rfl 53 _ rfl kvs (by kernel_rfl) ?_) | (refine wpList_store_new rfl 53 _ _ rfl kvs _ 53 rfl rfl (by kernel_rfl) rfl (by kernel_rfl) ?_))
  refine bodyPost_ret (v := .agg kvs) ?_ rfl ⟨rfl, rfl⟩
  exact results_cell_row (p := 0) (ty := 53) Try.results29 _ _ w.heap.size 53 kvs (0, 0) (.array 64 33) rfl (heap_alloc_new _ _) (by kernel_rfl) rfl (by kernel_rfl)
end Go.Proofs.Sha
