import Derived.Test.YtnlmdijpbedefaaGreatDoorRel
/- More of Rel: guards of either way ('&&' and '||'), and operations as they are run. -/
namespace Go.Proofs.Rel
open Go Go.RowKit Go.Proofs.YtnlmdijpbedefaaGreatDoorW.PrintWords Go.Proofs.YtnlmdijpbedefaaGreatDoorW.PrintLast
set_option linter.unusedVariables false
section
variable {P : Program} {Q : Exit → Act → World → Prop} {l : List Oper} {rs : List Rl} {a : Act} {n : Nat} {w0 : World}
def bOf : Value → Option Bool
  | .bool v => some v
  | _ => none
/-- is an operation's guard on? -/
def OnB (l : List Oper) (rs : List Rl) (n : Nat) (o : Oper) : Prop := o.guard = none ∨ ∃ g t v, o.guard = some (g, v) ∧ (depsOf o).contains g = true ∧ (l[g]?).bind (·.dst) = some t ∧ t < n ∧ at_ rs g = Rel.is (.bool v)
theorem yielded_is {o : Oper} {b : Act} {w : World} {g t : Nat} {x : Value} (hn : a.tmps.size = n) (h2 : (depsOf o).contains g = true) (h3 : (l[g]?).bind (·.dst) = some t) (h4 : t < n) (h5 : at_ rs g = Rel.is x) (D : Dep l rs a w0 o b w) :
    yielded l.toArray b.tmps g = bOf x := by
  have hv := D.is g t h2 h3 h5
  have e : b.tmps[t]? = some x := by
    have hl : t < b.tmps.size := by rw [D.siz, hn]; exact h4
    have : b.tmps.getD t undef = x := hv
    rw [Array.getD_eq_getD_getElem?] at this
    simpa [hl] using this
  unfold yielded
  rw [show (l.toArray[g]?).bind (·.dst) = some t by simpa using h3, Option.bind_some, e]
  cases x <;> rfl
theorem wanted_on {o : Oper} {b : Act} {w : World} (hn : a.tmps.size = n) (h : OnB l rs n o) (D : Dep l rs a w0 o b w) : Region.wanted o (yielded l.toArray b.tmps) = true := by
  rcases h with h | ⟨g, t, v, h1, h2, h3, h4, h5⟩
  · simp [Region.wanted, h]
  · have hy := yielded_is hn h2 h3 h4 h5 D
    simp [Region.wanted, h1, hy, bOf]
/-- an operation whose guard is off -/
theorem step_off {i g t : Nat} {o : Oper} {v : Bool} {x : Value} (hn : a.tmps.size = n) (hg : o.guard = some (g, v)) (h2 : (depsOf o).contains g = true) (h3 : (l[g]?).bind (·.dst) = some t) (h4 : t < n) (h5 : at_ rs g = Rel.is x) (h6 : bOf x ≠ some v) (hr : at_ rs i = Rel.is undef) : Step P l Q rs a w0 i o := fun b w D K hK => by
  have hy := yielded_is hn h2 h3 h4 h5 D
  have : Region.wanted o (yielded l.toArray b.tmps) = false := by
    simp only [Region.wanted, hg, hy]
    simpa using h6
  rw [if_neg (by rw [this]; decide)]
  exact hK undef w (by rw [hr]; rfl) (Below.refl _ _)
theorem step_valB {i : Nat} {o : Oper} (hn : a.tmps.size = n) (hg : OnB l rs n o) (h : ∀ b w, Dep l rs a w0 o b w → ∃ x, (execOp b.eval o).run P w = .ok (.value x) w ∧ (at_ rs i).1 x w) : Step P l Q rs a w0 i o := fun b w D K hK => by
  obtain ⟨x, hx, hr⟩ := h b w D
  exact value_ (wanted_on hn hg D) rfl hx (hK x w hr (Below.refl _ _))
theorem step_callB {i : Nat} {o : Oper} {f : FuncId} {fn : Func} {as : Array Operand} {ts : Array TypeId} (hn : a.tmps.size = n) (hg : OnB l rs n o) (hf : P.funcs[f]? = some fn) (hname : (fn.name == "runtime.NumGoroutine") = false) (hb : fn.body.isSome = true) (args : Array Value)
    (hop : o.op = .call { callee := .value (.func f), args := as, argTypes := ts }) (hargs : ∀ b w, Dep l rs a w0 o b w → as.map b.eval = args)
    (h : ∀ w, Below w0.heap.size w0 w → Calls P f args w fun e w' => ∃ x, e = .returned x ∧ (at_ rs i).1 x w' ∧ Below w.heap.size w w') : Step P l Q rs a w0 i o := fun b w D K hK =>
  goes_ hf hname hb args (wanted_on hn hg D) rfl hop (hargs b w D) ((h w D.bel).mono fun e w' ⟨x, he, hr, hb⟩ => ⟨x, he, hK x w' hr hb⟩)
/-- as it is run: nothing, a slot that was there, one, two of this region -/
theorem step_run0 {i t : Nat} {o : Oper} {v x : Value} (hn : a.tmps.size = n) (hg : OnB l rs n o) (h : (dsts l).contains (some t) = false) (hv : a.tmps.getD t undef = v)
    (hx : ∀ (ρ : Operand → Value) (w : World), Below w0.heap.size w0 w → ρ (.tmp t) = v → (∀ y, ρ (.const y) = y) → (execOp ρ o).run P w = .ok (.value x) w) (hr : at_ rs i = Rel.is x) : Step P l Q rs a w0 i o :=
  step_valB hn hg fun b w D => ⟨x, hx b.eval w D.bel ((D.was t h).trans hv) (fun _ => rfl), by rw [hr]; rfl⟩
theorem step_run1 {i j t : Nat} {o : Oper} {v x : Value} (hn : a.tmps.size = n) (hg : OnB l rs n o) (hj : (depsOf o).contains j = true) (hd : (l[j]?).bind (·.dst) = some t) (hv : at_ rs j = Rel.is v)
    (hx : ∀ (ρ : Operand → Value) (w : World), Below w0.heap.size w0 w → ρ (.tmp t) = v → (∀ y, ρ (.const y) = y) → (execOp ρ o).run P w = .ok (.value x) w) (hr : at_ rs i = Rel.is x) : Step P l Q rs a w0 i o :=
  step_valB hn hg fun b w D => ⟨x, hx b.eval w D.bel (D.is j t hj hd hv) (fun _ => rfl), by rw [hr]; rfl⟩
theorem step_run2 {i j t j2 t2 : Nat} {o : Oper} {v v2 x : Value} (hn : a.tmps.size = n) (hg : OnB l rs n o) (hj : (depsOf o).contains j = true) (hd : (l[j]?).bind (·.dst) = some t) (hv : at_ rs j = Rel.is v)
    (hj2 : (depsOf o).contains j2 = true) (hd2 : (l[j2]?).bind (·.dst) = some t2) (hv2 : at_ rs j2 = Rel.is v2)
    (hx : ∀ (ρ : Operand → Value) (w : World), Below w0.heap.size w0 w → ρ (.tmp t) = v → ρ (.tmp t2) = v2 → (∀ y, ρ (.const y) = y) → (execOp ρ o).run P w = .ok (.value x) w) (hr : at_ rs i = Rel.is x) : Step P l Q rs a w0 i o :=
  step_valB hn hg fun b w D => ⟨x, hx b.eval w D.bel (D.is j t hj hd hv) (D.is j2 t2 hj2 hd2 hv2) (fun _ => rfl), by rw [hr]; rfl⟩
theorem step_wasB {i t : Nat} {o : Oper} {v : Value} (hn : a.tmps.size = n) (hg : OnB l rs n o) (ho : o.op = .move (.tmp t) ∨ o.op = .assign (.tmp t)) (h : (dsts l).contains (some t) = false) (hv : a.tmps.getD t undef = v) (hr : at_ rs i = Rel.is v) : Step P l Q rs a w0 i o :=
  step_run0 hn hg h hv (fun ρ w hb h1 _ => by
    rcases ho with ho | ho
    · have := BigFrame.run_move (P := P) (ρ := ρ) _ ho w
      rw [this, h1]
    · have := BigFrame.run_assign (P := P) (ρ := ρ) _ ho w
      rw [this, h1]) hr
theorem step_passB {i j t : Nat} {o : Oper} {v : Value} (hn : a.tmps.size = n) (hg : OnB l rs n o) (ho : o.op = .move (.tmp t) ∨ o.op = .assign (.tmp t)) (hj : (depsOf o).contains j = true) (hd : (l[j]?).bind (·.dst) = some t) (hv : at_ rs j = Rel.is v) (hr : at_ rs i = Rel.is v) : Step P l Q rs a w0 i o :=
  step_run1 hn hg hj hd hv (fun ρ w hb h1 _ => by
    rcases ho with ho | ho
    · have := BigFrame.run_move (P := P) (ρ := ρ) _ ho w
      rw [this, h1]
    · have := BigFrame.run_assign (P := P) (ρ := ρ) _ ho w
      rw [this, h1]) hr
/-- a row that was there -/
theorem step_rdB {i t : Nat} {o : Oper} {r : List Int} (hn : a.tmps.size = n) (hg : OnB l rs n o) (ho : o.op = .move (.tmp t)) (h : (dsts l).contains (some t) = false) {A : Option Addr} {m c : Nat} (hv : a.tmps.getD t undef = .slice A m c) (hr0 : ReadsInt w0 .u8 A m r) (hr : at_ rs i = Rel.rd r) : Step P l Q rs a w0 i o :=
  step_valB hn hg fun b w D => ⟨_, BigFrame.run_move _ ho w, by rw [hr, D.was t h, hv]; exact ⟨A, m, c, rfl, hr0.below D.bel⟩⟩
/-- a row's text -/
theorem step_strB {i j t : Nat} {o : Oper} {r : List Int} {s d e : TypeId} (hn : a.tmps.size = n) (hg : OnB l rs n o) (ho : o.op = .convert s d (.tmp t)) (hs : P.underlying s = some (.slice e)) (he : P.underlying e = some (.int .u8)) (hdd : P.underlying d = some .string)
    (hj : (depsOf o).contains j = true) (hd : (l[j]?).bind (·.dst) = some t) (hv : at_ rs j = Rel.rd r) (hr : at_ rs i = Rel.is (.string (strOfNums r))) : Step P l Q rs a w0 i o :=
  step_valB hn hg fun b w D => by
    have h := D.rel j t hj hd
    rw [hv] at h
    obtain ⟨A, m, c, e1, h1⟩ := h
    refine ⟨.string (strOfNums r), ?_, by rw [hr]; rfl⟩
    have hc := string_of_reads (P := P) (c := c) hs he hdd h1
    unfold execOp
    rw [ho]
    simp [e1, hc]
/-- .. its length -/
theorem step_lenB {i j t : Nat} {o : Oper} {r : List Int} {ty e : TypeId} (hn : a.tmps.size = n) (hg : OnB l rs n o) (ho : o.op = .call { callee := .builtin .len, args := #[.tmp t], argTypes := #[ty] }) (hT : P.underlying ty = some (.slice e)) (hj : (depsOf o).contains j = true) (hd : (l[j]?).bind (·.dst) = some t) (hv : at_ rs j = Rel.rd r)
    (hr : at_ rs i = Rel.is (.int .i64 r.length)) : Step P l Q rs a w0 i o :=
  step_valB hn hg fun b w D => by
    have h := D.rel j t hj hd
    rw [hv] at h
    obtain ⟨A, m, c, e1, h1⟩ := h
    have hm : r.length = m := h1.1
    subst hm
    refine ⟨.int .i64 r.length, ?_, by rw [hr]; rfl⟩
    unfold execOp
    simp only [ho, resolve, invoke, builtin, List.map_toArray, List.map_cons, List.map_nil, e1]
    simp [go_sem, hT]
theorem tl_inj {a b : ByteArray} (h : a.toList = b.toList) : a = b := by
  rw [ByteArray.toList_eq, ByteArray.toList_eq] at h
  exact ByteArray.ext (Array.ext' h)
/-- two texts -/
theorem step_texts {i j t j2 t2 : Nat} {o : Oper} {x y : ByteArray} {op : BinOp} {v : Bool} {ty ty2 : TypeId} (hn : a.tmps.size = n) (hg : OnB l rs n o) (ho : o.op = .binOp op ty (.tmp t) (.tmp t2) ty2) (hT : P.underlying ty = some .string) (hj : (depsOf o).contains j = true) (hd : (l[j]?).bind (·.dst) = some t) (hv : at_ rs j = Rel.is (.string x))
    (hj2 : (depsOf o).contains j2 = true) (hd2 : (l[j2]?).bind (·.dst) = some t2) (hv2 : at_ rs j2 = Rel.is (.string y)) (hx : (op = .eql ∧ v = decide (x = y)) ∨ (op = .neq ∧ v = !decide (x = y))) (hr : at_ rs i = Rel.is (.bool v)) : Step P l Q rs a w0 i o :=
  step_run2 hn hg hj hd hv hj2 hd2 hv2 (fun ρ w hb h1 h2 _ => by
    unfold execOp
    simp only [ho, h1, h2]
    rcases hx with ⟨rfl, rfl⟩ | ⟨rfl, rfl⟩
    · by_cases hxy : x = y
      · simp [go_sem, hxy]
      · simp [go_sem, hxy]
        intro h
        exact hxy (tl_inj h)
    · by_cases hxy : x = y
      · simp [go_sem, hxy]
      · simp [go_sem, hxy]
        intro h
        exact hxy (tl_inj h)) hr
/-- a cell that was there -/
theorem step_cell {i j t : Nat} {o : Oper} {ad : Addr} {x : Value} {ty : TypeId} {d : TypeDesc} (hn : a.tmps.size = n) (hg : OnB l rs n o) (ho : o.op = .load ty (.tmp t)) (hj : (depsOf o).contains j = true) (hd : (l[j]?).bind (·.dst) = some t) (hv : at_ rs j = Rel.is (.pointer (some ad)))
    (hT : P.underlying ty = some d) (hk : d = .string ∨ d = .bool ∨ (∃ k, d = .int k) ∨ ∃ e, d = .slice e) (hc : w0.cell? ad = some x) (hr : at_ rs i = Rel.is x) : Step P l Q rs a w0 i o :=
  step_run1 hn hg hj hd hv (fun ρ w hb h1 _ => by
    have c := (hb.cell (World.block_lt_of_cell? w0 _ hc)).trans hc
    unfold execOp
    simp only [ho, h1]
    rcases hk with rfl | rfl | ⟨k, rfl⟩ | ⟨e, rfl⟩ <;> simp [go_sem, c, hT, isAgg, run_underlying]) hr
end
end Go.Proofs.Rel
