import Derived.Test.YtefpcffompgceaaDoorMem
import Derived.Test.YtefpcffompgceaaDoorWWords
import Derived.Deep.AppendSrc
import Derived.Deep.Upon
import Derived.Laws.IdiomCopy
/- A slice of numbers of the call's own, made by a conversion or a make, that may be appended to: of whatever source. -/
namespace Go.Proofs.App
open Go Go.RowKit Go.Proofs.Mem
open Go.Proofs.YtefpcffompgceaaDoorW.PrintWords
set_option linter.unusedVariables false

/-- v is a slice of the call's own (its block from base on) that reads as l; its spare may be written -/
structure Fresh (k : IntKind) (base : Nat) (w : World) (A : Option Addr) (n c : Nat) (l : List Int) : Prop where
  len : l.length = n
  le : n ≤ c
  there : 0 < c → ∃ b, A = some ⟨b, 0, none⟩ ∧ base ≤ b ∧ b < w.heap.size ∧ (∀ j, j < n → w.cell? ⟨b, j, none⟩ = some (.int k (l.getD j 0))) ∧ ∀ j, j < c → (w.cell? ⟨b, j, none⟩).isSome = true ∧ w.frozen? ⟨b, j, none⟩ = false
theorem Fresh.reads {k : IntKind} {base n c : Nat} {w : World} {A : Option Addr} {l : List Int} (h : Fresh k base w A n c l) (hn : n ≤ 9223372036854775807) : ReadsInt w k A n l :=
  ⟨h.len, hn, fun hp => by
    obtain ⟨b, e, _, _, hc, _⟩ := h.there (by have := h.le; omega)
    exact ⟨_, e, fun j hj => by rw [add_plain]; exact hc j hj⟩⟩
theorem Fresh.below {k : IntKind} {base n c : Nat} {w w1 : World} {A : Option Addr} {l : List Int} (h : Fresh k base w A n c l) (hb : Below w.heap.size w w1) : Fresh k base w1 A n c l :=
  ⟨h.len, h.le, fun hp => by
    obtain ⟨b, e, h1, h2, hc, hs⟩ := h.there hp
    refine ⟨b, e, h1, Nat.lt_of_lt_of_le h2 hb.size, fun j hj => pw_cell_below hb (hc j hj), fun j hj => ?_⟩
    rw [hb.cell (p := ⟨b, j, none⟩) h2, hb.frozen (p := ⟨b, j, none⟩) h2]
    exact hs j hj⟩
theorem Fresh.base {k : IntKind} {base base' n c : Nat} {w : World} {A : Option Addr} {l : List Int} (h : Fresh k base w A n c l) (hb : base' ≤ base) : Fresh k base' w A n c l :=
  ⟨h.len, h.le, fun hp => by
    obtain ⟨b, e, h1, h2⟩ := h.there hp
    exact ⟨b, e, by omega, h2⟩⟩
/-- what []byte(s) makes -/
theorem fresh_bytes (W : World) (e : TypeId) (s : ByteArray) (base : Nat) (hb : base ≤ W.heap.size) : Fresh .u8 base (Lib.bytesWorld W e s) (some ⟨W.heap.size, 0, none⟩) s.size (grownCap W s.size 0 e) (bytesOf s) := by
  have hge := grownCap_ge W s.size 0 e
  refine ⟨bytesOf_length s, hge, fun _ => ⟨W.heap.size, rfl, hb, by rw [Lib.bytesWorld_size]; omega, fun j hj => ?_, fun j hj => ?_⟩⟩
  · rw [Lib.bytesWorld_cell W e s j hj]
    simp [bytesOf, List.getD_eq_getElem?_getD, hj]
  · have hs : (Lib.bytesCells W e s).size = grownCap W s.size 0 e := by
      simp [Lib.bytesCells]; omega
    refine ⟨?_, ?_⟩
    · rw [World.cell?]
      rw [Lib.bytesWorld_at_new]
      simp [hs, hj]
    · simp [World.frozen?, Lib.bytesWorld_at_new]
      omega
theorem getD_left (l l2 : List Int) (j : Nat) (h : j < l.length) : (l ++ l2).getD j 0 = l.getD j 0 := by
  rw [List.getD_eq_getElem?_getD, List.getD_eq_getElem?_getD, List.getElem?_append_left h]
theorem getD_right (l l2 : List Int) (q : Nat) : (l ++ l2).getD (l.length + q) 0 = l2.getD q 0 := by
  rw [List.getD_eq_getElem?_getD, List.getD_eq_getElem?_getD, List.getElem?_append_right (by omega), Nat.add_sub_cancel_left]
theorem nums_get (k : IntKind) (l : List Int) (j : Nat) (h : j < l.length) : (nums k l)[j]? = some (.int k (l.getD j 0)) := by
  simp [nums, h]
theorem nums_two (k : IntKind) (l l2 : List Int) (j : Nat) (h : j < l.length + l2.length) : (nums k l ++ nums k l2)[j]? = some (.int k ((l ++ l2).getD j 0)) := by
  rw [← nums_append]
  exact nums_get k _ j (by simpa using h)
theorem below_setCells {B : Nat} {w0 : World} (b : Nat) (hB : B ≤ b) : ∀ (vs : List Value) (o : Nat) (w : World), Below B w0 w → Below B w0 (w.setCells b o vs)
  | [], _, _, h => h
  | v :: r, o, w, h => by
    rw [World.setCells]
    exact below_setCells b hB r (o + 1) _ (h.setCell hB v)
theorem size_setCells (b : Nat) : ∀ (vs : List Value) (o : Nat) (w : World), (w.setCells b o vs).heap.size = w.heap.size
  | [], _, _ => rfl
  | v :: r, o, w => by rw [World.setCells, size_setCells b r, World.size_setCell]
section
variable {P : Program} {ops : Array Oper} {rest : List Oper} {o : Oper} {a : Act} {Q : Exit → Act → World → Prop}
theorem wpList_app {w0 w : World} (base : Nat) (hgd : o.guard = none) (s x : Operand) (t tx e : TypeId) (k : IntKind) (bytes : Nat)
    (ho : o.op = .call { callee := .builtin .append, args := #[s, x], argTypes := #[t, tx] })
    (ht : P.underlying t = some (.slice e)) (hinfo : (P.info? e).map (fun i => (i.zero, i.size, i.bytes)) = some (some (.int k 0), 1, bytes)) (hb0 : 0 < bytes)
    (A : Option Addr) (n c m : Nat) (l l2 : List Int) (xv : Value) (hv : a.eval s = .slice A n c) (hx : a.eval x = xv)
    (HF : Fresh k base w A n c l) (hs : Src P 1 tx xv m (nums k l2) w) (HB : Below base w0 w) (hbase : base ≤ w.heap.size) (hl : (n + m) * bytes ≤ 140737488355328)
    (h : ∀ A' c' w', Fresh k base w' A' (n + m) c' (l ++ l2) → Below base w0 w' → wpList P ops Q rest (a.put o.dst (.slice A' (n + m) c')) w') :
    wpList P ops Q (o :: rest) a w := by
  obtain ⟨i0, hi, hzz⟩ := Option.map_eq_some_iff.1 hinfo
  simp only [Prod.mk.injEq] at hzz
  obtain ⟨hz0, hz1, hz2⟩ := hzz
  have hlen : n + m ≤ 140737488355328 := Nat.le_trans (Nat.le_mul_of_pos_right _ hb0) hl
  have hm : l2.length = m := by have := hs.newsLen; simpa [nums] using this
  have hrun : ∃ A' c' w', (Builtin.append_ #[t, tx] o.type #[.slice A n c, xv]).run P w = .ok (.slice A' (n + m) c') w' ∧ Fresh k base w' A' (n + m) c' (l ++ l2) ∧ Below base w0 w' := by
    by_cases hm0 : m = 0
    · subst hm0
      obtain rfl : l2 = [] := List.eq_nil_of_length_eq_zero hm
      refine ⟨A, c, w, ?_, by simpa using HF, HB⟩
      exact run_append_nothing (P := P) w t tx o.type e i0 ht hi A n c HF.le xv (by rw [hz1]; exact hs)
    · by_cases hroom : n + m ≤ c
      · obtain ⟨b, rfl, h1, h2, hc, hsp⟩ := HF.there (by omega)
        have hnl : (nums k l2).length = m := by simp [nums, hm]
        have hr := run_append_room_src (P := P) w t tx o.type e i0 ht hi b 0 n c xv m (nums k l2) (by rw [hz1]; exact hs) hroom
          (fun j hj => by rw [hz1, Nat.mul_one, Nat.zero_add]; exact (hsp (n + j) (by omega)).1) (fun j hj => by rw [hz1, Nat.mul_one, Nat.zero_add]; exact (hsp (n + j) (by omega)).2)
        rw [hz1, Nat.mul_one, Nat.zero_add] at hr
        have hin := World.cell?_setCells_in b (nums k l2) n w (fun j hj => (hsp (n + j) (by omega)).1)
        have hout := fun j (hj : j < n ∨ n + (nums k l2).length ≤ j) => World.cell?_setCells_out b (nums k l2) n w ⟨b, j, none⟩ (fun _ _ => hj)
        refine ⟨_, _, _, hr, ⟨by simp [HF.len, hm], hroom, fun _ => ⟨b, rfl, h1, by rw [size_setCells]; exact h2, fun j hj => ?_, fun j hj => ⟨?_, ?_⟩⟩⟩, below_setCells b h1 _ _ _ HB⟩
        · by_cases hjn : j < n
          · rw [hout j (Or.inl hjn), hc j hjn, getD_left _ _ _ (by rw [HF.len]; exact hjn)]
          · obtain ⟨q, rfl⟩ : ∃ q, j = n + q := ⟨j - n, by omega⟩
            have hq := nums_get k l2 q (by omega)
            rw [List.getElem?_eq_getElem (by omega)] at hq
            injection hq with hq
            rw [hin q (by omega), hq, ← getD_right l l2 q, HF.len]
        · by_cases hjn : j < n
          · rw [hout j (Or.inl hjn)]; exact (hsp j hj).1
          · obtain ⟨q, rfl⟩ : ∃ q, j = n + q := ⟨j - n, by omega⟩
            by_cases hq : q < (nums k l2).length
            · rw [hin q hq]; rfl
            · rw [hout (n + q) (Or.inr (by omega))]; exact (hsp (n + q) hj).1
        · rw [World.frozen?_setCells]; exact (hsp j hj).2
      · have hold : (Builtin.firstCells i0.size n (.slice A n c)).run P w.drew = .ok (nums k l).toArray w.drew := by
          rw [hz1]
          by_cases hc0 : 0 < c
          · obtain ⟨b, rfl, h1, h2, hc, hsp⟩ := HF.there hc0
            exact run_firstCells_some w.drew 1 n _ n c (nums k l) (by simp [nums, HF.len]) (fun j u hj => by
              rw [add_plain]
              have hjl : j < l.length := by
                rcases Nat.lt_or_ge j l.length with h' | h'
                · exact h'
                · simp [nums, List.getElem?_eq_none h'] at hj
              have := hc j (by rw [← HF.len]; exact hjl)
              simp [nums, hjl] at hj
              subst hj
              show w.cell? _ = _
              rw [this]
              simp [List.getD_eq_getElem?_getD, hjl])
          · have hn0 : n = 0 := by have := HF.le; omega
            subst hn0
            obtain rfl : l = [] := List.eq_nil_of_length_eq_zero HF.len
            cases A with
            | none => exact run_firstCells_none w.drew 1 0 0 c
            | some q => exact run_firstCells_some w.drew 1 0 q 0 c [] rfl (fun j u hj => by simp at hj)
        have hr := run_append_grow_src (P := P) w t tx o.type e i0 (.int k 0) ht hi hz0 A n c (nums k l) hold xv m (nums k l2) (by rw [hz1]; exact hs) (by omega) (by omega) (growslice_fits (by omega) (by rw [hz2]; exact hl))
        have hge := grownCap_ge w (n + m) c e
        have hsz : ((nums k l ++ nums k l2).toArray ++ Builtin.zeroCells (Value.cells (.int k 0)) (grownCap w (n + m) c e - (n + m))).size = grownCap w (n + m) c e := by
          simp only [Array.size_append, List.size_toArray, size_zeroCells]
          simp [nums, HF.len, hm, Value.cells]
          omega
        have hgh : (w.drew.alloc (.cells ((nums k l ++ nums k l2).toArray ++ Builtin.zeroCells (Value.cells (.int k 0)) (grownCap w (n + m) c e - (n + m))) e)).heap[w.heap.size]? = some (.cells ((nums k l ++ nums k l2).toArray ++ Builtin.zeroCells (Value.cells (.int k 0)) (grownCap w (n + m) c e - (n + m))) e (0, 0)) := heap_alloc_new w.drew _
        refine ⟨_, _, _, hr, ⟨by simp [HF.len, hm], hge, fun _ => ⟨w.heap.size, rfl, hbase, by simp, fun j hj => ?_, fun j hj => ⟨?_, ?_⟩⟩⟩, (pw_below_drewN HB 1).alloc hbase _⟩
        · rw [cell_of_row _ _ _ _ _ _ hgh, Array.getElem?_append_left (by simp [nums, HF.len, hm]; omega)]
          rw [List.getElem?_toArray]
          exact nums_two k l l2 j (by rw [HF.len, hm]; exact hj)
        · rw [cell_of_row _ _ _ _ _ _ hgh, Array.getElem?_eq_getElem (by rw [hsz]; exact hj)]
          rfl
        · unfold World.frozen?
          rw [hgh]
          simp
  obtain ⟨A', c', w', hr, hf, hb⟩ := hrun
  refine wpList_plain hgd fun K hK => ?_
  unfold Oper.wp execOp
  simp only [ho, resolve, invoke, builtin, Sem.run_bind, Sem.run_pure, Result.andThen_ok, List.map_toArray, List.map_cons, List.map_nil, hv, hx, hr]
  exact hK _ _ (h A' c' w' hf hb)
/-- sources: a text, a slice that is read -/
theorem src_string {w : World} {tx : TypeId} (hk : P.underlying tx = some .string) (s : ByteArray) : Src P 1 tx (.string s) s.size (nums .u8 (bytesOf s)) w := by
  have h := Src.ofString (P := P) w hk s
  have e : byteCells s = nums .u8 (bytesOf s) := by simp [byteCells, nums, bytesOf]
  rwa [e] at h
theorem src_reads {w : World} {tx e' : TypeId} {k : IntKind} (hk : P.underlying tx = some (.slice e')) (A : Option Addr) (n c : Nat) (l : List Int) (h : ReadsInt w k A n l) : Src P 1 tx (.slice A n c) n (nums k l) w := by
  have hl : l.length = n := h.1
  cases A with
  | none =>
    have h0 : n = 0 := by
      rcases Nat.eq_zero_or_pos n with h0 | h0
      · exact h0
      · obtain ⟨ad, e, _⟩ := h.2.2 h0; cases e
    subst h0
    obtain rfl : l = [] := List.eq_nil_of_length_eq_zero hl
    exact Src.ofNil (P := P) w hk c
  | some q =>
    refine Src.ofSlice (P := P) w hk q n c (nums k l) (by simp [nums, hl]) (fun j u hj => ?_) (fun u hu => by simp only [nums, List.mem_map] at hu; obtain ⟨y, _, rfl⟩ := hu; rfl)
    have hjl : j < l.length := by
      rcases Nat.lt_or_ge j l.length with h' | h'
      · exact h'
      · simp [nums, List.getElem?_eq_none h'] at hj
    obtain ⟨ad, e, hc⟩ := h.2.2 (by omega)
    injection e with e
    subst e
    rw [hc j (by omega)]
    simp [nums, hjl] at hj
    subst hj
    simp [List.getD_eq_getElem?_getD, hjl]
end
end Go.Proofs.App
