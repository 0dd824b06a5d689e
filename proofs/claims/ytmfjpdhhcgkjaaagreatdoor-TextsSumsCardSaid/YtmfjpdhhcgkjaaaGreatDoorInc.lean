import Derived.Test.YtmfjpdhhcgkjaaaGreatDoorLawU
import Derived.Great.BuildSlice
/- Regions that draw their order and put a request's value into a new cell: the order of worlds in which new cells of values are filled. -/
namespace Go.Proofs.Tryz.Ln
open Go Go.RowKit Go.Proofs.Mem Go.Proofs.App
open Go.Proofs.YtmfjpdhhcgkjaaaGreatDoorW.PrintWords Go.Proofs.YtmfjpdhhcgkjaaaGreatDoorW.PrintLast
open Go.Proofs.Rel (dsts depsOf)
set_option linter.unusedVariables false
set_option linter.unusedSimpArgs false
abbrev tV : TypeId := 26
theorem info_str : (Tryz.prog.info? 9).map (fun i => (i.size, i.zero)) = some (1, some (.string ⟨#[]⟩)) := by kernel_rfl
theorem fill3 (x y z : ByteArray) : Instr.fill (fun i => some (i * 1, 1)) ((Array.range (3 * 1)).map ((Value.string ⟨#[]⟩).cells[· % (Value.string ⟨#[]⟩).cells.size]!)) [(0, .string x), (1, .string y), (2, .string z)] = some #[.string x, .string y, .string z] := by
  have h : (Array.range (3 * 1)).map ((Value.string ⟨#[]⟩).cells[· % (Value.string ⟨#[]⟩).cells.size]!) = #[.string ⟨#[]⟩, .string ⟨#[]⟩, .string ⟨#[]⟩] := by
    refine Array.ext (by simp) (fun i h1 h2 => ?_)
    have h3 : i < 3 := h2
    rcases i with _ | _ | _ | i
    · simp [Value.cells]
    · simp [Value.cells]
    · simp [Value.cells]
    · omega
  rw [h]
  rfl
theorem run_texts3 (w : World) (x y z : ByteArray) : (Instr.buildSlice 22 3 #[(0, .string x), (1, .string y), (2, .string z)]).run Tryz.prog w = .ok (.slice (some ⟨w.heap.size, 0, none⟩) 3 3) (w.alloc (.cells #[.string x, .string y, .string z] 9)) := by
  have h := info_str
  cases h1 : Tryz.prog.info? 9 with
  | none => rw [h1] at h; cases h
  | some ie =>
    rw [h1] at h
    have h3 : ie.size = 1 := congrArg Prod.fst (Option.some.inj h)
    have h2 : ie.zero = some (.string ⟨#[]⟩) := congrArg Prod.snd (Option.some.inj h)
    exact run_buildSlice (P := Tryz.prog) w 22 9 3 _ #[.string x, .string y, .string z] ie _ Tryz.underlying22 h1 h2 (by rw [h3]; decide) (by rw [h3]; decide) (by rw [h3]; exact fill3 x y z)
/-- all stays, but that a new cell of a value (of block B on) may be filled with f -/
def fillLe (B : Nat) (f : Array Value) (w w' : World) : Prop :=
  (w'.os = w.os ∧ w'.tape = w.tape ∧ w'.output = w.output ∧ w.heap.size ≤ w'.heap.size) ∧ ∀ k o, w.heap[k]? = some o → w'.heap[k]? = some o ∨ (B ≤ k ∧ o = .cells zS tV (0, 0) ∧ w'.heap[k]? = some (.cells f tV (0, 0)))
def FillO (B : Nat) (f : Array Value) : RelG.Ord where
  le := fillLe B f
  refl w := ⟨⟨rfl, rfl, rfl, Nat.le_refl _⟩, fun _ _ h => .inl h⟩
  trans {a b c} h k := by
    refine ⟨⟨k.1.1.trans h.1.1, k.1.2.1.trans h.1.2.1, k.1.2.2.1.trans h.1.2.2.1, Nat.le_trans h.1.2.2.2 k.1.2.2.2⟩, fun i o ho => ?_⟩
    rcases h.2 i o ho with h1 | ⟨h1, h2, h4⟩
    · exact k.2 i o h1
    · rcases k.2 i _ h4 with h5 | ⟨_, _, h5⟩
      · exact .inr ⟨h1, h2, h5⟩
      · exact .inr ⟨h1, h2, h5⟩
  bel {w w'} h := ⟨⟨h.os, h.tape, h.output, h.size⟩, fun k o ho => .inl (by rw [h.block k (Array.getElem?_eq_some_iff.1 ho).1]; exact ho)⟩
section
variable {B : Nat} {f : Array Value} {w w' : World}
theorem fill_keep (h : (FillO B f).le w w') {k : Nat} {o : Obj} (ho : w.heap[k]? = some o) (hk : k < B) : w'.heap[k]? = some o := by
  rcases h.2 k o ho with h1 | ⟨h1, _⟩
  · exact h1
  · omega
theorem fill_other (h : (FillO B f).le w w') {k : Nat} {o : Obj} (ho : w.heap[k]? = some o) (hk : o ≠ .cells zS tV (0, 0)) : w'.heap[k]? = some o := by
  rcases h.2 k o ho with h1 | ⟨_, h1, _⟩
  · exact h1
  · exact absurd h1 hk
theorem fill_below {w0 : World} (hb : Below B w w0) (h : (FillO B f).le w0 w') (hB : B ≤ w0.heap.size) : Below B w w' :=
  ⟨h.1.1.trans hb.os, h.1.2.1.trans hb.tape, h.1.2.2.1.trans hb.output, Nat.le_trans hb.size h.1.2.2.2, fun k hk => by
    have h1 := hb.block k hk
    rw [← h1]
    have hk2 : k < w0.heap.size := by omega
    rw [fill_keep h (Array.getElem?_eq_getElem hk2) hk]
    exact (Array.getElem?_eq_getElem hk2).symm⟩
theorem fill_set (w : World) (p : Nat) (hB : B ≤ p) (hg : w.heap[p]? = some (.cells zS tV (0, 0))) : (FillO B f).le w (w.setRow p f) := by
  have hset := setRow_heap w p zS f tV (0, 0) hg
  refine ⟨⟨rfl, rfl, rfl, by simp [World.setRow]⟩, fun k o ho => ?_⟩
  by_cases hk : p = k
  · subst hk
    rw [hg] at ho
    injection ho with ho
    exact .inr ⟨hB, ho.symm, hset⟩
  · refine .inl ?_
    unfold World.setRow
    simp only [Array.getElem?_modify]
    rw [if_neg hk]
    exact ho
theorem fill_same (w : World) (p : Nat) (hg : w.heap[p]? = some (.cells f tV (0, 0))) : (FillO B f).le w (w.setRow p f) := by
  have hset := setRow_heap w p f f tV (0, 0) hg
  refine ⟨⟨rfl, rfl, rfl, by simp [World.setRow]⟩, fun k o ho => .inl ?_⟩
  by_cases hk : p = k
  · subst hk
    rw [hset, ← hg]
    exact ho
  · unfold World.setRow
    simp only [Array.getElem?_modify]
    rw [if_neg hk]
    exact ho
end
/-- a row of texts -/
def txP (v : Array Value) (x : Value) (w : World) : Prop := ∃ b, x = .slice (some ⟨b, 0, none⟩) 3 3 ∧ w.heap[b]? = some (.cells v 9 (0, 0))
def txR (B : Nat) (f v : Array Value) (u : Tmp) : RelG.Rl (FillO B f) := RelG.of _ u (txP v) (fun x w w' ⟨b, h1, h2⟩ hle => ⟨b, h1, fill_other hle h2 (fun h => by injection h with _ h3; exact absurd h3 (by decide))⟩)
/-- a row of bytes, of two at least -/
def rwP (r : List Int) (x : Value) (w : World) : Prop := ∃ b n c, x = .slice (some ⟨b, 0, none⟩) n c ∧ r.length = n ∧ n ≤ 9223372036854775807 ∧ 1 < n ∧ ∀ j, j < n → w.cell? ⟨b, j, none⟩ = some (.int .u8 (r.getD j 0))
theorem rwP_sta {B : Nat} {f : Array Value} {r : List Int} {x : Value} {w w' : World} (h : rwP r x w) (hle : (FillO B f).le w w') : rwP r x w' := by
  obtain ⟨b, n, c, h1, h2, h3, h4, h5⟩ := h
  refine ⟨b, n, c, h1, h2, h3, h4, fun j hj => ?_⟩
  have hbl := World.block_lt_of_cell? w _ (h5 j hj)
  have hbl : b < w.heap.size := hbl
  have ho : w.heap[b]? = some w.heap[b] := Array.getElem?_eq_getElem hbl
  have hk := fill_other hle ho (fun h => by
    have := h5 1 h4
    rw [h] at ho
    rw [cell_of_row _ _ _ _ _ _ ho] at this
    exact absurd this (by simp [zS]))
  have e : w'.cell? ⟨b, j, none⟩ = w.cell? ⟨b, j, none⟩ := by
    unfold World.cell?
    rw [hk, ho]
  rw [e]
  exact h5 j hj
def rwR (B : Nat) (f : Array Value) (r : List Int) (u : Tmp) : RelG.Rl (FillO B f) := RelG.of _ u (rwP r) (fun x w w' h hle => rwP_sta h hle)
theorem rwP_reads {r : List Int} {x : Value} {w : World} (h : rwP r x w) : ∃ A n c, x = .slice A n c ∧ ReadsInt w .u8 A n r := by
  obtain ⟨b, n, c, h1, h2, h3, h4, h5⟩ := h
  refine ⟨_, n, c, h1, h2, h3, fun _ => ⟨_, rfl, fun j hj => ?_⟩⟩
  rw [show (⟨b, 0, none⟩ : Addr).add j = ⟨b, j, none⟩ from addr0 b j]
  exact h5 j hj
theorem rwP_of {base n c : Nat} {r : List Int} {A : Option Addr} {w : World} (h : Fresh .u8 base w A n c r) (h1 : 1 < r.length) (h2 : r.length ≤ 9223372036854775807) : rwP r (.slice A n c) w := by
  have hl := h.len
  obtain ⟨b, e, _, _, h3, _⟩ := h.there (by have := h.le; omega)
  subst e
  exact ⟨b, n, c, rfl, hl, by omega, by omega, h3⟩
/-- a value and a row -/
def tuP (mv : Array Value) (r : List Int) (x : Value) (w : World) : Prop := ∃ y, x = .tuple #[.agg mv, y] ∧ rwP r y w
def tuR (B : Nat) (f mv : Array Value) (r : List Int) (u : Tmp) : RelG.Rl (FillO B f) := RelG.of _ u (tuP mv r) (fun x w w' ⟨y, h1, h2⟩ hle => ⟨y, h1, rwP_sta h2 hle⟩)
theorem tuP_sta {B : Nat} {f mv : Array Value} {r : List Int} (x : Value) (w w' : World) (h : tuP mv r x w) (hle : (FillO B f).le w w') : tuP mv r x w' := by
  obtain ⟨y, h1, h2⟩ := h
  exact ⟨y, h1, rwP_sta h2 hle⟩
theorem run_ext0 {P : Program} {b : Act} {w : World} {o : Oper} {t : Nat} {x y : Value} (h : b.eval (.tmp t) = .tuple #[x, y]) (ho : o.op = .extract (.tmp t) 0 := by rfl) : (execOp b.eval o).run P w = .ok (.value x) w := by
  unfold execOp
  simp only [ho, h]
  rfl
theorem run_ext1 {P : Program} {b : Act} {w : World} {o : Oper} {t : Nat} {x y : Value} (h : b.eval (.tmp t) = .tuple #[x, y]) (ho : o.op = .extract (.tmp t) 1 := by rfl) : (execOp b.eval o).run P w = .ok (.value y) w := by
  unfold execOp
  simp only [ho, h]
  rfl
/-- a new cell -/
def ncP (B : Nat) (f : Array Value) (x : Value) (w : World) : Prop := ∃ p, x = .pointer (some ⟨p, 0, none⟩) ∧ B ≤ p ∧ (w.heap[p]? = some (.cells zS tV (0, 0)) ∨ w.heap[p]? = some (.cells f tV (0, 0)))
theorem ncP_sta {B : Nat} {f : Array Value} {x : Value} {w w' : World} (h : ncP B f x w) (hle : (FillO B f).le w w') : ncP B f x w' := by
  obtain ⟨p, h1, h2, h3⟩ := h
  refine ⟨p, h1, h2, ?_⟩
  rcases h3 with h3 | h3
  · rcases hle.2 p _ h3 with h4 | ⟨_, _, h4⟩
    · exact .inl h4
    · exact .inr h4
  · rcases hle.2 p _ h3 with h4 | ⟨_, _, h4⟩
    · exact .inr h4
    · exact .inr h4
def ncR (B : Nat) (f : Array Value) (u : Tmp) : RelG.Rl (FillO B f) := RelG.of _ u (ncP B f) (fun x w w' h hle => ncP_sta h hle)
/-- .. that is filled -/
def flP (B : Nat) (f : Array Value) (x : Value) (w : World) : Prop := ∃ p, x = .pointer (some ⟨p, 0, none⟩) ∧ B ≤ p ∧ w.heap[p]? = some (.cells f tV (0, 0))
def flR (B : Nat) (f : Array Value) (u : Tmp) : RelG.Rl (FillO B f) := RelG.of _ u (flP B f) (fun x w w' ⟨p, h1, h2, h3⟩ hle => by
  rcases hle.2 p _ h3 with h4 | ⟨_, _, h4⟩
  · exact ⟨p, h1, h2, h4⟩
  · exact ⟨p, h1, h2, h4⟩)
section
variable {P : Program} {Q : Exit → Act → World → Prop} {l : List Oper} {G : RelG.Ord} {rs : List (RelG.Rl G)} {a : Act} {n : Nat} {w0 : World}
theorem step_callA {i : Nat} {o : Oper} {f : FuncId} {fn : Func} {xs : Array Operand} {ts : Array TypeId} (hg : o.guard = none) (hf : P.funcs[f]? = some fn) (hname : (fn.name == "runtime.NumGoroutine") = false) (hb : fn.body.isSome = true)
    (hop : o.op = .call { callee := .value (.func f), args := xs, argTypes := ts })
    (h : ∀ b w, RelG.Dep l rs a w0 o b w → ∃ args, xs.map b.eval = args ∧ Calls P f args w fun e w' => ∃ x, e = .returned x ∧ (RelG.at_ rs i).r (RelG.get (b.put o.dst x)) w' ∧ G.le w w') : RelG.Step P l Q rs a w0 i o := fun b w D K hK => by
  obtain ⟨args, h1, h2⟩ := h b w D
  exact goes_ hf hname hb args (by simp [Region.wanted, hg]) rfl hop h1 (h2.mono fun e w' ⟨x, he, hr, hb⟩ => ⟨x, he, hK x w' hr hb⟩)
end
end Go.Proofs.Tryz.Ln
