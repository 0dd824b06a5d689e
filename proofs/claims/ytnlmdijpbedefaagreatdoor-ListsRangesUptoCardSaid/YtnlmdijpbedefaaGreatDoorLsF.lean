import Derived.Test.YtnlmdijpbedefaaGreatDoorLs16
/- Regions that draw their order and put what a request yields into a new cell. -/
namespace Go.Proofs.Tryz.Ln
open Go Go.RowKit Go.Proofs.Mem Go.Proofs.App
open Go.Proofs.YtnlmdijpbedefaaGreatDoorW.PrintWords Go.Proofs.YtnlmdijpbedefaaGreatDoorW.PrintLast
open Go.Proofs.Rel (dsts depsOf)
set_option linter.unusedVariables false
set_option linter.unusedSimpArgs false
theorem wfu8 {x : Int} (h : (Lit.int .u8 x).wf = true) : 0 ≤ x ∧ x ≤ 255 := by
  simp [Lit.wf, go_sem] at h
  exact h
theorem wfu16 {x : Int} (h : (Lit.int .u16 x).wf = true) : 0 ≤ x ∧ x ≤ 65535 := by
  simp [Lit.wf, go_sem] at h
  exact h
theorem fill4 (x y z u : ByteArray) : Instr.fill (fun i => some (i * 1, 1)) ((Array.range (4 * 1)).map ((Value.string ⟨#[]⟩).cells[· % (Value.string ⟨#[]⟩).cells.size]!)) [(0, .string x), (1, .string y), (2, .string z), (3, .string u)] = some #[.string x, .string y, .string z, .string u] := by
  have h : (Array.range (4 * 1)).map ((Value.string ⟨#[]⟩).cells[· % (Value.string ⟨#[]⟩).cells.size]!) = #[.string ⟨#[]⟩, .string ⟨#[]⟩, .string ⟨#[]⟩, .string ⟨#[]⟩] := by
    refine Array.ext (by simp) (fun i h1 h2 => ?_)
    have h3 : i < 4 := h2
    rcases i with _ | _ | _ | _ | i
    · simp [Value.cells]
    · simp [Value.cells]
    · simp [Value.cells]
    · simp [Value.cells]
    · omega
  rw [h]
  rfl
theorem run_texts4 (w : World) (x y z u : ByteArray) : (Instr.buildSlice 22 4 #[(0, .string x), (1, .string y), (2, .string z), (3, .string u)]).run Tryz.prog w = .ok (.slice (some ⟨w.heap.size, 0, none⟩) 4 4) (w.alloc (.cells #[.string x, .string y, .string z, .string u] 9)) := by
  have h := info_str
  cases h1 : Tryz.prog.info? 9 with
  | none => rw [h1] at h; cases h
  | some ie =>
    rw [h1] at h
    have h3 : ie.size = 1 := congrArg Prod.fst (Option.some.inj h)
    have h2 : ie.zero = some (.string ⟨#[]⟩) := congrArg Prod.snd (Option.some.inj h)
    exact run_buildSlice (P := Tryz.prog) w 22 9 4 _ #[.string x, .string y, .string z, .string u] ie _ Tryz.underlying22 h1 h2 (by rw [h3]; decide) (by rw [h3]; decide) (by rw [h3]; exact fill4 x y z u)
def txB (g : Nat) (v : Array Value) (u : Tmp) : RelG.Rl BelO := RelG.of _ u (txP g v) (fun x w w' ⟨b, h1, h2, h3⟩ hle => ⟨b, h1, (Below.block hle _ (Array.getElem?_eq_some_iff.1 h2).1).trans h2, h3⟩)
def prB (g : Nat) (L : List ByteArray) (r : List Int) (u : Tmp) : RelG.Rl BelO := RelG.of _ u (prP g L r) (fun x w w' h hle => prP_w x w w' h (bel_sub _ _ _ _ hle))
def lvB (g : Nat) (L : List ByteArray) (u : Tmp) : RelG.Rl BelO := RelG.of _ u (lvP g L) (fun x w w' ⟨v, base, h1, h2, h3, h4⟩ hle => ⟨v, base, h1, h2, or_goodw h3 h2 (bel_sub g L _ _ hle), h4⟩)
def frB (g : Nat) (r : List Int) (u : Tmp) : RelG.Rl BelO := RelG.of _ u (RelG.frP g r) (fun x w w' h hle => fr_goodw (L := []) h (bel_sub _ _ _ _ hle))
/-- a value that is known, and a reply -/
def cpP (g : Nat) (mv : Array Value) (r : List Int) (x : Value) (w : World) : Prop := ∃ y, x = .tuple #[.agg mv, y] ∧ RelG.frP g r y w
def cpB (g : Nat) (mv : Array Value) (r : List Int) (u : Tmp) : RelG.Rl BelO := RelG.of _ u (cpP g mv r) (fun x w w' ⟨y, h1, h2⟩ hle => ⟨y, h1, fr_goodw (L := []) h2 (bel_sub _ _ _ _ hle)⟩)
def nzP (B : Nat) (x : Value) (w : World) : Prop := ∃ p, x = .pointer (some ⟨p, 0, none⟩) ∧ B ≤ p ∧ w.heap[p]? = some oZ
def nzB (B : Nat) (u : Tmp) : RelG.Rl BelO := RelG.of _ u (nzP B) (fun x w w' ⟨p, h1, h2, h3⟩ hle => ⟨p, h1, h2, (Below.block hle _ (Array.getElem?_eq_some_iff.1 h3).1).trans h3⟩)
/-- all stays, but that new cells of a value, of block B on, may be filled -/
def newLe (B : Nat) (w w' : World) : Prop :=
  (w'.os = w.os ∧ w'.tape = w.tape ∧ w'.output = w.output ∧ w.heap.size ≤ w'.heap.size) ∧ ∀ k o, w.heap[k]? = some o → w'.heap[k]? = some o ∨ (B ≤ k ∧ o = oZ ∧ ∃ c, w'.heap[k]? = some (.cells c tV (0, 0)))
def NewO (B : Nat) : RelG.Ord where
  le := newLe B
  refl w := ⟨⟨rfl, rfl, rfl, Nat.le_refl _⟩, fun _ _ h => .inl h⟩
  trans {a b c} h k := ⟨⟨k.1.1.trans h.1.1, k.1.2.1.trans h.1.2.1, k.1.2.2.1.trans h.1.2.2.1, Nat.le_trans h.1.2.2.2 k.1.2.2.2⟩, fun i o ho => by
    rcases h.2 i o ho with h1 | ⟨h1, h2, c1, h3⟩
    · exact k.2 i o h1
    · rcases k.2 i _ h3 with h4 | ⟨_, _, c2, h4⟩
      · exact .inr ⟨h1, h2, c1, h4⟩
      · exact .inr ⟨h1, h2, c2, h4⟩⟩
  bel {w w'} h := ⟨⟨h.os, h.tape, h.output, h.size⟩, fun k o ho => .inl (by rw [h.block k (Array.getElem?_eq_some_iff.1 ho).1]; exact ho)⟩
theorem new_sub (B : Nat) : ∀ w w', BelO.le w w' → (NewO B).le w w' := fun w w' h => (NewO B).bel h
section
variable {B g : Nat} {w w' : World}
theorem new_ne (hle : (NewO B).le w w') {k : Nat} {o : Obj} (ho : w.heap[k]? = some o) (hne : o ≠ oZ) : w'.heap[k]? = some o := by
  rcases hle.2 k o ho with h | ⟨_, h, _⟩
  · exact h
  · exact absurd h hne
theorem new_below {w0 : World} (hb : Below B w w0) (hle : (NewO B).le w0 w') (hB : B ≤ w0.heap.size) : Below B w w' :=
  ⟨hle.1.1.trans hb.os, hle.1.2.1.trans hb.tape, hle.1.2.2.1.trans hb.output, Nat.le_trans hb.size hle.1.2.2.2, fun k hk => by
    rw [← hb.block k hk]
    have ho : w0.heap[k]? = some w0.heap[k] := Array.getElem?_eq_getElem (by omega)
    rcases hle.2 k _ ho with h | ⟨h, _⟩
    · rw [h, ho]
    · omega⟩
theorem or_new {base : Nat} {v : Value} {L : List ByteArray} (h : OR w base v L) (hle : (NewO B).le w w') : OR w' base v L :=
  own_move h (fun k hk => by
    obtain ⟨cells, hc⟩ := own_typed h k hk
    rw [hc]
    refine new_ne hle hc (fun e => ?_)
    injection e with _ e2
    exact absurd e2 (by decide))
theorem fr_new {r : List Int} {x : Value} (hr : 2 ≤ r.length) (h : RelG.frP g r x w) (hle : (NewO B).le w w') : RelG.frP g r x w' := by
  obtain ⟨A, n, c, base, rfl, hf, hg⟩ := h
  refine ⟨A, n, c, base, rfl, ⟨hf.len, hf.le, fun hp => ?_⟩, hg⟩
  obtain ⟨b, e, h1, h2, hc, hs⟩ := hf.there hp
  have ho : w.heap[b]? = some w.heap[b] := Array.getElem?_eq_getElem h2
  have hbk : w'.heap[b]? = w.heap[b]? := by
    rw [ho]
    refine new_ne hle ho (fun e2 => ?_)
    have := hc 1 (by have := hf.len; omega)
    rw [cell_of_row _ _ _ _ _ _ (ho.trans (congrArg some e2))] at this
    simp [zS] at this
  refine ⟨b, e, h1, Nat.lt_of_lt_of_le h2 hle.1.2.2.2, fun j hj => ?_, fun j hj => ?_⟩
  · rw [← hc j hj]; unfold World.cell?; rw [hbk]
  · have := hs j hj
    unfold World.cell? World.frozen? at this ⊢
    rw [hbk]
    exact this
theorem new_set {p : Nat} (c : Array Value) (hB : B ≤ p) (hg : w.heap[p]? = some oZ) : (NewO B).le w (w.setRow p c) := by
  refine ⟨⟨rfl, rfl, rfl, by simp [World.setRow]⟩, fun k o ho => ?_⟩
  by_cases hk : k = p
  · subst hk
    have e : o = oZ := Option.some.inj (ho.symm.trans hg)
    exact .inr ⟨hB, e, c, setRow_heap w k zS c tV (0, 0) hg⟩
  · left
    unfold World.setRow
    simp only [Array.getElem?_modify]
    rw [if_neg (fun e => hk e.symm)]
    exact ho
end
def frN (B g : Nat) (r : List Int) (hr : 2 ≤ r.length) (u : Tmp) : RelG.Rl (NewO B) := RelG.of _ u (RelG.frP g r) (fun x w w' h hle => fr_new hr h hle)
/-- something and a reply -/
def tyP (g : Nat) (r : List Int) (x : Value) (w : World) : Prop := ∃ u y, x = .tuple #[u, y] ∧ RelG.frP g r y w
def tyN (B g : Nat) (r : List Int) (hr : 2 ≤ r.length) (u : Tmp) : RelG.Rl (NewO B) := RelG.of _ u (tyP g r) (fun x w w' ⟨u, y, h1, h2⟩ hle => ⟨u, y, h1, fr_new hr h2 hle⟩)
/-- a new cell that holds a list -/
def flP (B : Nat) (L : List ByteArray) (x : Value) (w : World) : Prop := ∃ p v base, x = .pointer (some ⟨p, 0, none⟩) ∧ B ≤ p ∧ OR w base v L ∧ w.heap[p]? = some (.cells (lvS L v) tV (0, 0)) ∧ v.oneCell' = true
theorem lvS_nz {L : List ByteArray} (hL : L ≠ []) (v : Value) : (.cells (lvS L v) tV (0, 0) : Obj) ≠ oZ := by
  intro e
  injection e with e
  rw [lvS_ne v hL] at e
  have := congrArg (fun a : Array Value => a[0]?) e
  simp [zS] at this
def flN (B : Nat) (L : List ByteArray) (hL : L ≠ []) (u : Tmp) : RelG.Rl (NewO B) := RelG.of _ u (flP B L) (fun x w w' ⟨p, v, base, h1, h2, h3, h4, h5⟩ hle => ⟨p, v, base, h1, h2, or_new h3 hle, new_ne hle h4 (lvS_nz hL v), h5⟩)
/-- a new cell, whatever it holds -/
def npP (B : Nat) (x : Value) (w : World) : Prop := ∃ p, x = .pointer (some ⟨p, 0, none⟩) ∧ B ≤ p
def npN (B : Nat) (u : Tmp) : RelG.Rl (NewO B) := RelG.of _ u (npP B) (fun x w w' h _ => h)
theorem run_alloc (ρ : Operand → Value) (o : Oper) (w : World) (ho : o.op = .alloc 28) : (execOp ρ o).run Tryz.prog w = .ok (.value (.pointer (some ⟨w.heap.size, 0, none⟩))) (w.alloc (.cells zS tV)) := by
  simp [execOp, ho, go_sem, zS, tV]
theorem reads_at {w : World} {A : Option Addr} {n q : Nat} {l : List ByteArray} {s : ByteArray} (h : ReadsOf Value.string ByteArray.empty w A n l) (hs : l[q]? = some s) : ∃ ad, A = some ad ∧ w.cell? (ad.add q) = some (.string s) := by
  have hq : q < l.length := (List.getElem?_eq_some_iff.1 hs).1
  have hn := h.1
  obtain ⟨ad, e, hc⟩ := h.2.2 (by omega)
  refine ⟨ad, e, ?_⟩
  rw [hc q (by omega)]
  congr 2
  rw [List.getD_eq_getElem?_getD, hs]
  rfl
theorem eraseT (l : List ByteArray) {fr t t1 : Nat} (h : t = t1 + 1) (hf : fr ≤ t1) (ht : t ≤ l.length) : ((l.take t).drop fr).eraseIdx (popI true ((l.take t).drop fr)) = (l.take t1).drop fr := by
  subst h
  rw [List.drop_take, List.drop_take, show t1 + 1 - fr = (t1 - fr) + 1 by omega]
  exact take_pred _ _ (by rw [List.length_drop]; omega)
theorem getF (l : List ByteArray) {fr t : Nat} {s : ByteArray} (h : fr < t) (hs : l[fr]? = some s) : ((l.take t).drop fr)[popI false ((l.take t).drop fr)]? = some s := by
  show ((l.take t).drop fr)[0]? = _
  rw [List.getElem?_drop, List.getElem?_take_of_lt (by omega)]
  exact hs
theorem getB (l : List ByteArray) {fr t t1 : Nat} {s : ByteArray} (h : t = t1 + 1) (hf : fr ≤ t1) (ht : t ≤ l.length) (hs : l[t1]? = some s) : ((l.take t).drop fr)[popI true ((l.take t).drop fr)]? = some s := by
  show ((l.take t).drop fr)[((l.take t).drop fr).length - 1]? = _
  rw [List.getElem?_drop, List.length_drop, List.length_take, Nat.min_eq_left ht, show fr + (t - fr - 1) = t1 by omega, List.getElem?_take_of_lt (by omega)]
  exact hs
theorem YInt_rd {n : Int} {R : List Int} (hR : lineL ⟨#[58]⟩ (numS n) = R) (h9 : R.length ≤ 9223372036854775807) (hn : Int64 n) (w : World) : Calls Tryz.prog 9 #[.int .i64 n] w fun e w' => ∃ x, e = .returned x ∧ (Rel.rd R).1 x w' ∧ Below w.heap.size w w' := by
  subst hR
  exact rdB h9 (YInt_any n w hn)
theorem YBulk_rd {s : ByteArray} {R : List Int} (hR : bulkL s = R) (h9 : R.length ≤ 9223372036854775807) (hs : s.size ≤ 70368744177664) (w : World) : Calls Tryz.prog 10 #[.string s] w fun e w' => ∃ x, e = .returned x ∧ (Rel.rd R).1 x w' ∧ Below w.heap.size w w' := by
  subst hR
  exact rdB h9 (YBulk_any s w hs)
end Go.Proofs.Tryz.Ln
