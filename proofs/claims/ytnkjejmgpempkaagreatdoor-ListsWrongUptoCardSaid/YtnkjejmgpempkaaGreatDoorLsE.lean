import Derived.Test.YtnkjejmgpempkaaGreatDoorLsD
import Derived.Test.YtnkjejmgpempkaaGreatDoorLsC
import Derived.Test.YtnkjejmgpempkaaGreatDoorRelN
import Derived.Deep.Upon
/- What lists.pop leans on: an order of worlds in which one row may lose a text. -/
namespace Go.Proofs.Tryz.Ln
open Go Go.RowKit Go.Proofs.Mem Go.Proofs.App
open Go.Proofs.YtnkjejmgpempkaaGreatDoorW.PrintWords Go.Proofs.YtnkjejmgpempkaaGreatDoorW.PrintLast
set_option linter.unusedVariables false
set_option linter.unusedSimpArgs false
/-- a row of texts that has become L -/
def isDel (L : List ByteArray) (o o' : Obj) : Prop := ∃ (cur cur' : Array Value) (s0 : ByteArray), o = .cells cur 9 (0, 0) ∧ cur[0]? = some (.string s0) ∧ o' = .cells cur' 9 (0, 0) ∧ cur'.size = cur.size ∧ cur'.toList.take L.length = encs Value.string L
def rowLe (B : Nat) (L : List ByteArray) (w w' : World) : Prop :=
  (w'.os = w.os ∧ w'.tape = w.tape ∧ w'.output = w.output ∧ w.heap.size ≤ w'.heap.size) ∧ ∀ k o, w.heap[k]? = some o → w'.heap[k]? = some o ∨ (B ≤ k ∧ ∃ o', w'.heap[k]? = some o' ∧ isDel L o o')
theorem delete_le (v : Value) (l : List ByteArray) (i : Nat) (z1 z2 : Int) (base : Nat) (w : World) (h : OR w base v l) (hi : i < l.length) (hz1 : z1 = i) (hz2 : z2 = ((i + 1 : Nat) : Int)) :
    Calls Tryz.prog 31 #[v, .int .i64 z1, .int .i64 z2] w fun e w' => ∃ v', e = .returned v' ∧ OR w' base v' (l.eraseIdx i) ∧ rowLe base (l.eraseIdx i) w w' := by
  subst hz1
  subst hz2
  have hR := tR_own h
  obtain ⟨hl, hh⟩ := h
  rcases hh with ⟨rfl, hh⟩ | ⟨g, cap, cur, rfl, hB, hx, hc, hm, hs, ht⟩
  · omega
  · obtain ⟨A, c, e1, h1, h2, h3, h4⟩ := hR.ex
    injection e1 with e1 e2 e3
    subst e1
    subst e3
    have hcell : ∀ j, j < l.length → w.cell? ⟨g, 0 + j, none⟩ = some (.string (l.getD j ByteArray.empty)) := fun j hj => by
      obtain ⟨ad, e, hcl⟩ := h4.2.2 (by omega)
      injection e with e
      subst e
      rw [← add_off]
      exact hcl j hj
    refine (Tryz.slices_Delete_string_cells g 0 l.length cap i (i + 1) (fun j => l.getD j ByteArray.empty) w h1 h2 (by omega) (by omega) hcell (fun j _ => by unfold World.frozen?; rw [hx]; simp)).mono ?_
    rintro e w' ⟨rfl, q, rfl⟩
    have hvs : ((Lib.strsOf (fun j => l.getD j ByteArray.empty) l.length).take i ++ (Lib.strsOf (fun j => l.getD j ByteArray.empty) l.length).drop (i + 1) ++ List.replicate (i + 1 - i) []).map encStr = encs Value.string (l.eraseIdx i) ++ [Value.string ⟨#[]⟩] := by
      rw [strsOf_list, List.eraseIdx_eq_take_drop_succ, show i + 1 - i = 1 by omega]
      simp only [← List.map_take, ← List.map_drop, List.map_append, List.map_map, encs]
      rfl
    rw [hvs]
    have hel : (l.eraseIdx i).length = l.length - 1 := List.length_eraseIdx_of_lt hi
    have hwl : (encs Value.string (l.eraseIdx i) ++ [Value.string ⟨#[]⟩]).length = l.length := by simp [encs, hel]; omega
    obtain ⟨cur', k1, k2⟩ := setCells_kind g 9 (encs Value.string (l.eraseIdx i) ++ [Value.string ⟨#[]⟩]) 0 (w.drewN q) cur hx
    have htk : cur'.toList.take (l.eraseIdx i).length = encs Value.string (l.eraseIdx i) := by
      have hcs : cur'.size = cap := by rw [k2, hs]; omega
      refine List.ext_getElem? (fun j => ?_)
      by_cases hj : j < (l.eraseIdx i).length
      · have hj2 : j < (encs Value.string (l.eraseIdx i) ++ [Value.string ⟨#[]⟩]).length := by rw [hwl]; omega
        have hin := World.cell?_setCells_in g (encs Value.string (l.eraseIdx i) ++ [Value.string ⟨#[]⟩]) 0 (w.drewN q) (fun p hp => by
          rw [hwl] at hp
          have := hcell p hp
          show (w.cell? ⟨g, 0 + p, none⟩).isSome = true
          rw [this]; rfl) j hj2
        rw [Nat.zero_add, cell_of_row _ _ _ _ _ _ k1] at hin
        rw [List.getElem?_take, if_pos (by omega), Array.getElem?_toList, hin, List.getElem_append_left (by simpa [encs] using hj)]
        simp [encs, List.getElem?_eq_getElem hj]
      · rw [List.getElem?_eq_none (by simp; omega), List.getElem?_eq_none (by simp [encs]; omega)]
    have hc0 : cur[0]? = some (.string (l.getD 0 ByteArray.empty)) := by
      have := hcell 0 (by omega)
      rw [Nat.zero_add, cell_of_row _ _ _ _ _ _ hx] at this
      exact this
    have hbel := below_setCells (w0 := w) g (Nat.le_refl g) (encs Value.string (l.eraseIdx i) ++ [Value.string ⟨#[]⟩]) 0 _ (pw_below_drewN (Below.refl g w) q)
    refine ⟨_, rfl, ⟨by simp [encs], .inr ⟨g, cap, cur', ?_, hB, k1, by rw [hel]; omega, hm, by rw [k2]; exact hs, by simpa using htk⟩⟩, ⟨hbel.os, hbel.tape, hbel.output, hbel.size⟩, fun k o ho => ?_⟩
    · rw [hel, show i + 1 - i = 1 by omega]
    · by_cases hk : k = g
      · subst hk
        have e : o = .cells cur 9 (0, 0) := Option.some.inj (ho.symm.trans hx)
        exact .inr ⟨hB, _, k1, cur, cur', _, e, hc0, rfl, k2, htk⟩
      · left
        have hlt : k < w.heap.size := (Array.getElem?_eq_some_iff.1 ho).1
        rw [World.heap_setCells_other (w.drewN q) g 0 _ hlt hk]
        exact ho
def popLe (B g : Nat) (L : List ByteArray) (w w' : World) : Prop :=
  (w'.os = w.os ∧ w'.tape = w.tape ∧ w'.output = w.output ∧ w.heap.size ≤ w'.heap.size) ∧ (∀ k o, k ≠ g → w.heap[k]? = some o → w'.heap[k]? = some o ∨ (B ≤ k ∧ ∃ o', w'.heap[k]? = some o' ∧ isDel L o o')) ∧
  (w.heap[g]? = some oZ → w'.heap[g]? = some oZ ∨ Good g L w') ∧ (Good g L w → Good g L w')
theorem or_row {B g base : Nat} {L : List ByteArray} {v : Value} {w w' : World} (h : OR w base v L) (hb : g < base) (hle : ∀ k o, k ≠ g → w.heap[k]? = some o → w'.heap[k]? = some o ∨ (B ≤ k ∧ ∃ o', w'.heap[k]? = some o' ∧ isDel L o o')) : OR w' base v L := by
  obtain ⟨h1, h2⟩ := h
  rcases h2 with h2 | ⟨k, cap, cur, rfl, h3, h4, h5, h6, h7, h8⟩
  · exact ⟨h1, .inl h2⟩
  · rcases hle k _ (by omega) h4 with h9 | ⟨_, o', h9, c, c', s0, e1, _, e2, e3, e4⟩
    · exact ⟨h1, .inr ⟨k, cap, cur, rfl, h3, h9, h5, h6, h7, h8⟩⟩
    · injection e1 with e1
      subst e1
      subst e2
      exact ⟨h1, .inr ⟨k, cap, c', rfl, h3, h9, h5, h6, by rw [e3]; exact h7, by simpa using e4⟩⟩
def PopO (B g : Nat) (L : List ByteArray) : RelG.Ord where
  le := popLe B g L
  refl w := ⟨⟨rfl, rfl, rfl, Nat.le_refl _⟩, fun _ _ _ h => .inl h, fun h => .inl h, fun h => h⟩
  trans {a b c} h k := ⟨⟨k.1.1.trans h.1.1, k.1.2.1.trans h.1.2.1, k.1.2.2.1.trans h.1.2.2.1, Nat.le_trans h.1.2.2.2 k.1.2.2.2⟩, fun i o hi ho => by
      rcases h.2.1 i o hi ho with h1 | ⟨h1, o1, h2, d1⟩
      · exact k.2.1 i o hi h1
      · rcases k.2.1 i o1 hi h2 with h3 | ⟨_, o2, h3, d2⟩
        · exact .inr ⟨h1, o1, h3, d1⟩
        · obtain ⟨c0, c1, s0, e1, e2, e3, e4, e5⟩ := d1
          obtain ⟨c2, c3, s1, f1, f2, f3, f4, f5⟩ := d2
          subst e3
          injection f1 with f1
          subst f1
          exact .inr ⟨h1, o2, h3, c0, c3, s0, e1, e2, f3, f4.trans e4, f5⟩,
    fun hz => by
      rcases h.2.2.1 hz with h1 | h1
      · exact k.2.2.1 h1
      · exact .inr (k.2.2.2 h1), fun hz => k.2.2.2 (h.2.2.2 hz)⟩
  bel {w w'} h := by
    have keep : ∀ {k : Nat} {o : Obj}, w.heap[k]? = some o → w'.heap[k]? = some o := fun {k o} hz => by
      rw [h.block k (Array.getElem?_eq_some_iff.1 hz).1]; exact hz
    exact ⟨⟨h.os, h.tape, h.output, h.size⟩, fun k o _ ho => .inl (keep ho), fun hz => .inl (keep hz), fun ⟨v, base, h1, h2, h3, h4⟩ => ⟨v, base, h1, own_move h2 (fun k hk => h.block k (own_lt h2 k hk)), keep h3, h4⟩⟩
theorem fr_pop {B g : Nat} {L : List ByteArray} {r : List Int} {x : Value} {w w' : World} (hr1 : 1 ≤ r.length) (h : RelG.frP g r x w) (hle : (PopO B g L).le w w') : RelG.frP g r x w' := by
  obtain ⟨A, n, c, base, rfl, hf, hg⟩ := h
  refine ⟨A, n, c, base, rfl, ⟨hf.len, hf.le, fun hp => ?_⟩, hg⟩
  obtain ⟨b, e, h1, h2, hc, hs⟩ := hf.there hp
  have ho : w.heap[b]? = some w.heap[b] := Array.getElem?_eq_getElem h2
  have hbk : w'.heap[b]? = w.heap[b]? := by
    rcases hle.2.1 b _ (by omega) ho with h3 | ⟨_, o', _, c0, c1, s0, e1, e2, _⟩
    · rw [h3, ho]
    · exfalso
      have := hc 0 (by have := hf.len; omega)
      rw [cell_of_row _ _ _ _ _ _ (ho.trans (congrArg some e1)), e2] at this
      cases this
  refine ⟨b, e, h1, Nat.lt_of_lt_of_le h2 hle.1.2.2.2, fun j hj => ?_, fun j hj => ?_⟩
  · rw [← hc j hj]; unfold World.cell?; rw [hbk]
  · have := hs j hj
    unfold World.cell? World.frozen? at this ⊢
    rw [hbk]
    exact this
end Go.Proofs.Tryz.Ln
/- What lists.pop tells. -/
namespace Go.Proofs.Tryz.Ln
open Go Go.RowKit Go.Proofs.Mem Go.Proofs.App
open Go.Proofs.YtnkjejmgpempkaaGreatDoorW.PrintWords Go.Proofs.YtnkjejmgpempkaaGreatDoorW.PrintLast
open Go.Proofs.Rel (dsts depsOf)
set_option linter.unusedVariables false
set_option linter.unusedSimpArgs false
section
variable {P : Program} {Q : Exit → Act → World → Prop} {l : List Oper} {G : RelG.Ord} {rs : List (RelG.Rl G)} {a : Act} {n : Nat} {w0 : World}
theorem storeS_call {G1 : RelG.Ord} {rs1 : List (RelG.Rl G1)} {i : Nat} {o : Oper} {f : FuncId} {fn : Func} {xs : Array Operand} {ts : Array TypeId} (hg : o.guard = none) (hf : P.funcs[f]? = some fn) (hname : (fn.name == "runtime.NumGoroutine") = false) (hb : fn.body.isSome = true)
    (hop : o.op = .call { callee := .value (.func f), args := xs, argTypes := ts })
    (h : ∀ b w, RelG.Dep l rs1 a w0 o b w → ∃ args, xs.map b.eval = args ∧ Calls P f args w fun e w' => ∃ x, e = .returned x ∧ (RelG.at_ rs i).r (RelG.get (b.put o.dst x)) w' ∧ G.le w w') : RelG.StoreS P l Q rs rs1 a w0 i o := fun b w D K hK => by
  obtain ⟨args, h1, h2⟩ := h b w D
  exact goes_ hf hname hb args (by simp [Region.wanted, hg]) rfl hop h1 (h2.mono fun e w' ⟨x, he, hr, hb⟩ => ⟨x, he, hK x w' hr hb⟩)
/-- a row of what can't have come up yet -/
def no (G : RelG.Ord) (t : Tmp) : RelG.Rl G := RelG.of G t (fun _ _ => False) (fun _ _ _ h _ => h)
def noW (G : RelG.Ord) : RelG.Rl G := RelG.wo G (fun _ => False) (fun _ _ h _ => h)
def anyR (G : RelG.Ord) (t : Tmp) : RelG.Rl G := RelG.of G t (fun _ _ => True) (fun _ _ _ h _ => h)
theorem step_no {i j t : Nat} {o : Oper} (hj : (depsOf o).contains j = true) (hr : RelG.at_ rs j = no G t) : RelG.Step P l Q rs a w0 i o := fun b w D K hK => by
  have h := D.rel j hj
  rw [hr] at h
  exact False.elim h
end
section
variable {B g : Nat} {L : List ByteArray} {w w' : World}
theorem pop_of_row {base : Nat} (hB : B ≤ base) (hg : g < B) (h : rowLe base L w w') : (PopO B g L).le w w' := by
  have hgo : ∀ o, w.heap[g]? = some o → w'.heap[g]? = some o := fun o ho => by
    rcases h.2 g o ho with h1 | ⟨h1, _⟩
    · exact h1
    · omega
  have hle : ∀ k o, k ≠ g → w.heap[k]? = some o → w'.heap[k]? = some o ∨ (B ≤ k ∧ ∃ o', w'.heap[k]? = some o' ∧ isDel L o o') := fun k o _ ho => by
    rcases h.2 k o ho with h1 | ⟨h1, h2⟩
    · exact .inl h1
    · exact .inr ⟨by omega, h2⟩
  exact ⟨h.1, hle, fun hz => .inl (hgo _ hz), fun ⟨v, b2, h1, h2, h3, h4⟩ => ⟨v, b2, h1, or_row h2 h1 hle, hgo _ h3, h4⟩⟩
theorem pop_old (h : (PopO B g L).le w w') {k : Nat} {o : Obj} (hk : k ≠ g) (hB : k < B) (ho : w.heap[k]? = some o) : w'.heap[k]? = some o := by
  rcases h.2.1 k o hk ho with h1 | ⟨h1, _⟩
  · exact h1
  · omega
theorem pop_cell (h : (PopO B g L).le w w') {ad : Addr} {v : Value} (hk : ad.block ≠ g) (hB : ad.block < B) (hc : w.cell? ad = some v) : w'.cell? ad = some v := by
  have hl := World.block_lt_of_cell? w _ hc
  have ho : w.heap[ad.block]? = some w.heap[ad.block] := Array.getElem?_eq_getElem hl
  have := pop_old h hk hB ho
  rw [← hc]
  unfold World.cell?
  rw [this, ho]
theorem pop_below {B0 : Nat} {w0 : World} (hb : Below B0 w w0) (h : (PopO B g L).le w0 w') (hg : B0 ≤ g) (hB : B0 ≤ w0.heap.size) (hBB : B0 ≤ B) : Below B0 w w' :=
  ⟨h.1.1.trans hb.os, h.1.2.1.trans hb.tape, h.1.2.2.1.trans hb.output, Nat.le_trans hb.size h.1.2.2.2, fun k hk => by
    rw [← hb.block k hk]
    have ho : w0.heap[k]? = some w0.heap[k] := Array.getElem?_eq_getElem (by omega)
    rw [pop_old h (by omega) (by omega) ho, ho]⟩
theorem or_pop {base : Nat} {v : Value} (h : OR w base v L) (hb : g < base) (hle : (PopO B g L).le w w') : OR w' base v L := or_row h hb hle.2.1
def orP (g : Nat) (L : List ByteArray) (x : Value) (w : World) : Prop := ∃ base, g < base ∧ OR w base x L
def orR (B g : Nat) (L : List ByteArray) (u : Tmp) : RelG.Rl (PopO B g L) := RelG.of _ u (orP g L) (fun x w w' ⟨base, h1, h2⟩ hle => ⟨base, h1, or_pop h2 h1 hle⟩)
def lvD (B g : Nat) (L : List ByteArray) (u : Tmp) : RelG.Rl (PopO B g L) := RelG.of _ u (lvP g L) (fun x w w' ⟨v, base, h1, h2, h3, h4⟩ hle => ⟨v, base, h1, h2, or_pop h3 h2 hle, h4⟩)
def frD (B g : Nat) (L : List ByteArray) (r : List Int) (hr : 1 ≤ r.length) (u : Tmp) : RelG.Rl (PopO B g L) := RelG.of _ u (RelG.frP g r) (fun x w w' h hle => fr_pop hr h hle)
def goodD (B g : Nat) (L : List ByteArray) : RelG.Rl (PopO B g L) := RelG.wo _ (Good g L) (fun w w' h hle => hle.2.2.2 h)
def clP (B : Nat) (l : List ByteArray) (x : Value) (w : World) : Prop := ∃ base, B ≤ base ∧ OR w base x l
def clR (B : Nat) (l : List ByteArray) (u : Tmp) : RelG.Rl BelO := RelG.of _ u (clP B l) (fun x w w' ⟨base, h1, h2⟩ hle => ⟨base, h1, own_move h2 (fun k hk => Below.block hle k (own_lt h2 k hk))⟩)
theorem pop_sub (B g : Nat) (L : List ByteArray) : ∀ w w', BelO.le w w' → (PopO B g L).le w w' := fun w w' h => (PopO B g L).bel h
theorem pop_store {w0 : World} {v : Value} {base : Nat} (h0 : w0.heap[g]? = some oZ) (hle : (PopO B g L).le w0 w) (hb : g < base) (ho : OR w base v L) (h1 : v.oneCell' = true) :
    ∃ old, w.heap[g]? = some (.cells old tV (0, 0)) ∧ old.size = (lvS L v).size ∧ Good g L (w.setRow g (lvS L v)) ∧ (PopO B g L).le w (w.setRow g (lvS L v)) := by
  have : ∃ old, w.heap[g]? = some (.cells old tV (0, 0)) ∧ old.size = 5 := by
    rcases hle.2.2.1 h0 with h | ⟨u, _, _, _, h, _⟩
    · exact ⟨zS, h, rfl⟩
    · exact ⟨_, h, lvS_size _ _⟩
  obtain ⟨old, hg, hs⟩ := this
  have hset := setRow_heap w g old (lvS L v) tV (0, 0) hg
  have hG : Good g L (w.setRow g (lvS L v)) := ⟨v, base, hb, own_setRow ho hg, hset, h1⟩
  refine ⟨old, hg, by rw [hs, lvS_size], hG, ⟨rfl, rfl, rfl, by simp [World.setRow]⟩, fun k o hk ho => .inl ?_, fun _ => .inr hG, fun _ => hG⟩
  unfold World.setRow
  simp only [Array.getElem?_modify]
  rw [if_neg (fun e => hk e.symm)]
  exact ho
end
theorem bulk_pos (s : ByteArray) : 1 ≤ (bulkL s).length := by
  unfold bulkL
  rw [List.length_append, lineL_len]
  omega
set_option maxRecDepth 100000 in
set_option maxHeartbeats 8000000 in
theorem pop_null (k z : Int) (s : ByteArray) (x H Z : Value) (w : World) (hx : tR w x []) (hH : H.oneCell' = true) (hZ : Z.oneCell' = true) :
    Calls Tryz.prog 18 #[.agg #[.int .u8 k, .string s, x, H, Z], .int .i64 z] w (Dres #[.int .u8 k, .string s, x, H, Z] (lineL ⟨#[36]⟩ ⟨#[45, 49]⟩) w) := by
  obtain ⟨A1, c1, e1, _⟩ := hx.ex
  rw [show ([] : List ByteArray).length = 0 from rfl] at e1
  subst e1
  obtain ⟨w2, hw2⟩ : ∃ w2 : World, w2 = (w.alloc (.cells #[.int .u8 k, .string s, .slice A1 0 c1, H, Z] 26)).alloc (.cells #[.int .u8 0, .string ⟨#[]⟩, .slice none 0 0, .slice none 0 0, .slice none 0 0] 26) := ⟨_, rfl⟩
  have hsz2 : w2.heap.size = w.heap.size + 2 := by rw [hw2]; simp
  have hb2 : Below w.heap.size w w2 := by rw [hw2]; exact (below_alloc (Below.refl _ _) _).alloc (by simp) _
  have hx2 : w2.heap[w.heap.size]? = some (.cells #[.int .u8 k, .string s, .slice A1 0 c1, H, Z] 26 (0, 0)) := by rw [hw2]; exact heap_alloc2_old w _ _
  have hz2 : w2.heap[w.heap.size + 1]? = some oZ := by
    rw [hw2]
    have := heap_alloc_last (w.alloc (.cells #[.int .u8 k, .string s, .slice A1 0 c1, H, Z] 26)) (.cells #[.int .u8 0, .string ⟨#[]⟩, .slice none 0 0, .slice none 0 0, .slice none 0 0] 26)
    simpa [oZ, zS] using this
  have hone : Veil ((#[.int .u8 k, .string s, .slice A1 0 c1, H, Z] : Array Value).all (·.oneCell') = true) := veil (one5 k s A1 _ c1 H Z hH hZ)
  obtain ⟨R, hR⟩ : ∃ R, lineL ⟨#[36]⟩ ⟨#[45, 49]⟩ = R := ⟨_, rfl⟩
  have hnull : Veil (∀ w', Calls Tryz.prog 30 #[] w' (Bytes_ R w')) := veil (fun w' => by rw [← hR]; exact Null_any w')
  rw [hR]
  have g2 : w2.cell? ⟨w.heap.size, 2, none⟩ = some (.slice A1 0 c1) := by rw [cell_of_row _ _ _ _ _ _ hx2]; rfl
  have hB2 := veil hb2
  have hX2 := veil hx2
  have hZ2 := veil hz2
  have hw2' := veil hw2
  rw [hw2] at g2
  clear hx hb2 hx2 hz2 hR hH hZ hw2
  go_enter Tryz.func18, Tryz.ntmps18
  go_wp2_with fail
  rw [← hw2'.out]
  refine RelG.wp_region_rel2 (G := (RelG.Stor (w.heap.size + 1) (.cells zS tV (0, 0)) (.cells #[.int .u8 k, .string s, .slice A1 0 c1, H, Z] tV (0, 0)))) (n := 26) [RelG.is _ 10 (.agg #[.int .u8 k, .string s, .slice A1 0 c1, H, Z]), RelG.fr _ _ _ 11 R, RelG.put _ _ _, RelG.fr _ _ _ 5 R] [[10], [11], [], [5]] (by kernel_rfl) rfl rfl (by kernel_rfl) ?_ ?_
  · refine RelG.steps_cons (RelG.step_load (n := 26) (t := 2) (u := 10) (b := w.heap.size) (t' := tV) (cs := #[.int .u8 k, .string s, .slice A1 0 c1, H, Z]) (fr := (0, 0)) rfl rfl rfl rfl (by decide) (by kernel_rfl) (by kernel_rfl) Tryz.underlying26 rfl (info5x _ _ _ _ _) (fun w' hle => RelG.stor_other hle (by omega) hX2.out) rfl) ?_
    refine RelG.steps_cons (RelG.step_call rfl Tryz.func30 (by kernel_rfl) rfl #[] rfl (fun b' w' D => by simp) (fun b' w' D => call_fr (hnull.out w') (by have := stor_size D.bel; omega) (by rw [D.siz]; exact (by decide : 11 < 26)))) ?_
    refine RelG.steps_cons (RelG.step_store (j := 0) (t := 4) (u := 10) rfl rfl rfl (by kernel_rfl) (by kernel_rfl) rfl rfl ⟨zS, rfl, rfl⟩ hZ2.out (info5x _ _ _ _ _) hone.out rfl) ?_
    refine RelG.steps_cons (RelG.step_pass_of (n := 26) (j := 1) (t := 11) (u := 5) (p := RelG.frP (w.heap.size + 1) R) (hp := fun x w w' h hle => RelG.frP_sta _ x w w' h hle) rfl rfl (.inr rfl) rfl (by decide) rfl rfl rfl) ?_
    exact trivial
  intro v e w9 hg hv hle
  have k5 : e 5 = v 3 := hg 3 5 rfl
  have h2 : w9.heap[w.heap.size + 1]? = some (.cells #[.int .u8 k, .string s, .slice A1 0 c1, H, Z] tV (0, 0)) := hv 2 (by decide)
  have h3 : RelG.frP (w.heap.size + 1) R (e 5) w9 := hv 3 (by decide)
  rw [k5] at h3
  simp only [Rel.fill, Act.put, List.setIfInBounds_toArray, List.set_cons_zero, List.set_cons_succ]
  have hD := veil (dres_of (v := #[.int .u8 k, .string s, .slice A1 0 c1, H, Z]) hB2.out hle (by omega) (by omega) h3)
  have h2' := veil h2
  clear hg hv hle h3 h2 k5 g2
  go_wp2_with fail
  refine bodyPost_ret (v := .tuple #[.agg #[.int .u8 k, .string s, .slice A1 0 c1, H, Z], v 3]) ?_ rfl hD.out
  exact RelG.results_cell_tmp (p := 4) (q := 5) (ty := 26) Tryz.results18 _ _ (w.heap.size + 1) tV #[.int .u8 k, .string s, .slice A1 0 c1, H, Z] (0, 0) _ _ rfl rfl h2'.out Tryz.underlying26 rfl (info5x _ _ _ _ _)
set_option maxRecDepth 100000 in
set_option maxHeartbeats 8000000 in
theorem pop_any (k z : Int) (s sx : ByteArray) (x H Z : Value) (l : List ByteArray) (i : Nat) (w : World) (hx : tR w x l) (hs : l[i]? = some sx) (hz : z = i) (hn : l.length ≤ 1000000) (hsx : sx.size ≤ 70368744177664) (hT : Tabs w) :
    Calls Tryz.prog 18 #[.agg #[.int .u8 k, .string s, x, H, Z], .int .i64 z] w (Pres (l.eraseIdx i) (bulkL sx) w) := by
  subst hz
  have hil : i < l.length := (List.getElem?_eq_some_iff.1 hs).1
  obtain ⟨bx, ox, cx, rfl⟩ := tR_some hx (by omega)
  obtain ⟨w2, hw2⟩ : ∃ w2 : World, w2 = (w.alloc (.cells #[.int .u8 k, .string s, .slice (some ⟨bx, ox, none⟩) l.length cx, H, Z] 26)).alloc (.cells #[.int .u8 0, .string ⟨#[]⟩, .slice none 0 0, .slice none 0 0, .slice none 0 0] 26) := ⟨_, rfl⟩
  have hsz2 : w2.heap.size = w.heap.size + 2 := by rw [hw2]; simp
  have hb2 : Below w.heap.size w w2 := by rw [hw2]; exact (below_alloc (Below.refl _ _) _).alloc (by simp) _
  have hx2 : w2.heap[w.heap.size]? = some (.cells #[.int .u8 k, .string s, .slice (some ⟨bx, ox, none⟩) l.length cx, H, Z] 26 (0, 0)) := by rw [hw2]; exact heap_alloc2_old w _ _
  have hz2 : w2.heap[w.heap.size + 1]? = some oZ := by
    rw [hw2]
    have := heap_alloc_last (w.alloc (.cells #[.int .u8 k, .string s, .slice (some ⟨bx, ox, none⟩) l.length cx, H, Z] 26)) (.cells #[.int .u8 0, .string ⟨#[]⟩, .slice none 0 0, .slice none 0 0, .slice none 0 0] 26)
    simpa [oZ, zS] using this
  obtain ⟨L, hL0⟩ : ∃ L, l.eraseIdx i = L := ⟨_, rfl⟩
  obtain ⟨R, hR0⟩ : ∃ R, bulkL sx = R := ⟨_, rfl⟩
  have hR1 : 1 ≤ R.length := by rw [← hR0]; exact bulk_pos sx
  have hdel : Veil (∀ w' base v, OR w' base v l → Calls Tryz.prog 31 #[v, (.int .i64 (i : Nat)), (.int .i64 ((i + 1 : Nat) : Int))] w' fun e w'' => ∃ v', e = .returned v' ∧ OR w'' base v' L ∧ rowLe base L w' w'') := veil (fun w' base v h => by rw [← hL0]; exact delete_le v l i _ _ base w' h hil rfl rfl)
  have hbulk : Veil (∀ w', Below w.heap.size w w' → Calls Tryz.prog 32 #[.string sx] w' (Bytes_ R w')) := veil (fun w' h => by rw [← hR0]; exact Bulk_any sx w' hsx (tabs_below hT h).tab)
  rw [hL0, hR0]
  have c0 := tR_at hx hs
  have hbx : bx < w.heap.size := World.block_lt_of_cell? w _ c0
  have cq := veil ((hb2.cell (p := ⟨bx, ox + i, none⟩) hbx).trans c0)
  have g20 : w2.cell? ⟨w.heap.size, 2, none⟩ = some (.slice (some ⟨bx, ox, none⟩) l.length cx) := by rw [cell_of_row _ _ _ _ _ _ hx2]; rfl
  have g2 := veil g20
  have hxw := veil (hx.below hb2)
  have hB2 := veil hb2
  have hX2 := veil hx2
  have hZ2 := veil hz2
  have hw2' := veil hw2
  have q0 : (0 : Int) ≤ i := by omega
  have qN : (i : Int) < (l.length : Nat) := by omega
  have qM : ¬ ((l.length : Int) ≤ i) := by omega
  have x1 : Veil (IntKind.i64.wrap ((i : Int) + 1) = (i : Int) + 1) := veil (iwrapE (by unfold Int64; omega))
  have h0 : ¬ (l.length : Int) = 0 := by omega
  have h0' : ((l.length : Int) == 0) = false := beq_eq_false_iff_ne.2 h0
  rw [hw2] at g20
  clear hx hs hb2 hx2 hz2 hw2 hL0 hR0 hT c0
  go_enter Tryz.func18, Tryz.ntmps18
  go_wp2_with fail
  rw [← hw2'.out]
  clear g20
  refine RelG.wp_region_relM (G := PopO w2.heap.size (w.heap.size + 1) L) (G1 := BelO) (n := 26) (pop_sub _ _ _) 6 _ [RelG.is _ 12 (.pointer (some ⟨w.heap.size, 2, none⟩)), RelG.is _ 13 (.slice (some ⟨bx, ox, none⟩) l.length cx), clR w2.heap.size l 14, RelG.is _ 15 (.int .i64 (i : Nat)), RelG.is _ 16 (.int .i64 (i : Nat)), RelG.is _ 17 (.int .i64 ((i + 1 : Nat) : Int)), no _ 18, no _ 19, RelG.is _ 20 (.pointer (some ⟨w.heap.size, 2, none⟩)), RelG.is _ 21 (.slice (some ⟨bx, ox, none⟩) l.length cx), RelG.is _ 22 (.int .i64 (i : Nat)), RelG.is _ 23 (.pointer (some ⟨bx, ox + i, none⟩)), RelG.is _ 24 (.string sx), no _ 25, noW _, no _ 5] [RelG.is _ 12 (.pointer (some ⟨w.heap.size, 2, none⟩)), RelG.is _ 13 (.slice (some ⟨bx, ox, none⟩) l.length cx), anyR _ 14, RelG.is _ 15 (.int .i64 (i : Nat)), RelG.is _ 16 (.int .i64 (i : Nat)), RelG.is _ 17 (.int .i64 ((i + 1 : Nat) : Int)), orR _ _ _ 18, lvD _ _ _ 19, RelG.is _ 20 (.pointer (some ⟨w.heap.size, 2, none⟩)), RelG.is _ 21 (.slice (some ⟨bx, ox, none⟩) l.length cx), RelG.is _ 22 (.int .i64 (i : Nat)), RelG.is _ 23 (.pointer (some ⟨bx, ox + i, none⟩)), RelG.is _ 24 (.string sx), frD _ _ _ R hR1 25, goodD _ _ _, frD _ _ _ R hR1 5] [[12], [13], [14], [15], [16], [17], [18], [19], [20], [21], [22], [23], [24], [25], [], [5]] (by kernel_rfl) rfl rfl (by kernel_rfl) rfl rfl ?_ ?_ ?_ ?_ ?_
  · intro j e w' h
    match j, h with
    | 0, h => exact h
    | 1, h => exact h
    | 2, h => trivial
    | 3, h => exact h
    | 4, h => exact h
    | 5, h => exact h
    | 6, h => exact False.elim h
    | 7, h => exact False.elim h
    | 8, h => exact h
    | 9, h => exact h
    | 10, h => exact h
    | 11, h => exact h
    | 12, h => exact h
    | 13, h => exact False.elim h
    | 14, h => exact False.elim h
    | 15, h => exact False.elim h
    | n + 16, h => trivial
  · refine RelG.stepsF_cons (RelG.step_run0 (n := 26) (t := 2) (u := 12) (v := .pointer (some ⟨w.heap.size, 0, none⟩)) rfl rfl rfl (by decide) (by kernel_rfl) (by kernel_rfl) (fun ρ w' hle h _ => by simp [execOp, h, go_sem, Addr.add]) rfl) ?_
    refine RelG.stepsF_cons (RelG.step_run (n := 26) (j := 0) (t := 12) (u := 13) (v := (.pointer (some ⟨w.heap.size, 2, none⟩))) rfl rfl rfl (by decide) rfl rfl (fun ρ w' hle h _ => by
        have c : w'.cell? ⟨w.heap.size, 2, none⟩ = some (.slice (some ⟨bx, ox, none⟩) l.length cx) := (Below.cell hle (p := ⟨w.heap.size, 2, none⟩) (by show w.heap.size < w2.heap.size; omega)).trans g2.out
        simp [execOp, h, go_sem, c]) rfl) ?_
    refine RelG.stepsF_cons (step_callA rfl Tryz.func27 (by kernel_rfl) rfl rfl (fun b w' D => by
        have e1 : b.eval (.tmp 13) = (.slice (some ⟨bx, ox, none⟩) l.length cx) := D.is 1 rfl rfl
        refine ⟨#[(.slice (some ⟨bx, ox, none⟩) l.length cx)], by simp only [List.map_toArray, List.map_cons, List.map_nil, e1], (clone_any _ l w' (hxw.out.below D.bel) hn).mono fun e w'' ⟨v, he, ho, hb⟩ => ⟨_, he, ?_, hb⟩⟩
        show clP _ _ (RelG.get (b.put (some 14) _) 14) w''
        rw [RelG.get_put b 14 _ (by rw [D.siz]; exact (by decide : 14 < 26))]
        exact ⟨_, Below.size D.bel, ho⟩)) ?_
    refine RelG.stepsF_cons (RelG.step_was (n := 26) (t := 1) (u := 15) rfl rfl rfl rfl (by decide) (by kernel_rfl) (by kernel_rfl) rfl) ?_
    refine RelG.stepsF_cons (RelG.step_was (n := 26) (t := 1) (u := 16) rfl rfl rfl rfl (by decide) (by kernel_rfl) (by kernel_rfl) rfl) ?_
    refine RelG.stepsF_cons (RelG.step_run (n := 26) (j := 4) (t := 16) (u := 17) (v := (.int .i64 (i : Nat))) rfl rfl rfl (by decide) rfl rfl (fun ρ w' hle h hk => by simp [execOp, h, hk, go_sem, x1.out]) rfl) ?_
    refine RelG.stepsF_skip (by kernel_rfl) ?_
    refine RelG.stepsF_skip (by kernel_rfl) ?_
    refine RelG.stepsF_cons (RelG.step_run0 (n := 26) (t := 2) (u := 20) (v := .pointer (some ⟨w.heap.size, 0, none⟩)) rfl rfl rfl (by decide) (by kernel_rfl) (by kernel_rfl) (fun ρ w' hle h _ => by simp [execOp, h, go_sem, Addr.add]) rfl) ?_
    refine RelG.stepsF_cons (RelG.step_run (n := 26) (j := 8) (t := 20) (u := 21) (v := (.pointer (some ⟨w.heap.size, 2, none⟩))) rfl rfl rfl (by decide) rfl rfl (fun ρ w' hle h _ => by
        have c : w'.cell? ⟨w.heap.size, 2, none⟩ = some (.slice (some ⟨bx, ox, none⟩) l.length cx) := (Below.cell hle (p := ⟨w.heap.size, 2, none⟩) (by show w.heap.size < w2.heap.size; omega)).trans g2.out
        simp [execOp, h, go_sem, c]) rfl) ?_
    refine RelG.stepsF_cons (RelG.step_was (n := 26) (t := 1) (u := 22) rfl rfl rfl rfl (by decide) (by kernel_rfl) (by kernel_rfl) rfl) ?_
    refine RelG.stepsF_cons (RelG.step_run2 (n := 26) (j := 9) (t := 21) (j2 := 10) (t2 := 22) (u := 23) (v := (.slice (some ⟨bx, ox, none⟩) l.length cx)) (v2 := (.int .i64 (i : Nat))) rfl rfl rfl (by decide) rfl rfl rfl rfl (fun ρ w' hle h h2 hk => by simp [execOp, h, h2, hk, go_sem, q0, qN, qM, add_off]) rfl) ?_
    refine RelG.stepsF_cons (RelG.step_run (n := 26) (j := 11) (t := 23) (u := 24) (v := (.pointer (some ⟨bx, ox + i, none⟩))) rfl rfl rfl (by decide) rfl rfl (fun ρ w' hle h hk => by
        have c : w'.cell? ⟨bx, ox + i, none⟩ = some (.string sx) := (Below.cell hle (p := ⟨bx, ox + i, none⟩) (by show bx < w2.heap.size; omega)).trans cq.out
        simp [execOp, h, hk, go_sem, c]) rfl) ?_
    refine RelG.stepsF_cons (step_no (j := 7) (t := 19) rfl rfl) ?_
    refine RelG.stepsF_skip (by kernel_rfl) ?_
    refine RelG.stepsF_skip (by kernel_rfl) ?_
    exact trivial
  · exact storeS_call rfl Tryz.func31 (by kernel_rfl) rfl rfl (fun b w' D => by
      obtain ⟨base, h1, h2⟩ := D.rel 2 rfl
      generalize e1 : RelG.get b 14 = xv at h2
      have e1' : b.eval (.tmp 14) = xv := e1
      have e2 : b.eval (.tmp 15) = (.int .i64 (i : Nat)) := D.is 3 rfl rfl
      have e3 : b.eval (.tmp 17) = (.int .i64 ((i + 1 : Nat) : Int)) := D.is 5 rfl rfl
      refine ⟨#[xv, (.int .i64 (i : Nat)), (.int .i64 ((i + 1 : Nat) : Int))], by simp only [List.map_toArray, List.map_cons, List.map_nil, e1', e2, e3], (hdel.out w' base xv h2).mono fun e w'' ⟨v', he, ho, hr⟩ => ⟨_, he, ?_, pop_of_row h1 (by omega) hr⟩⟩
      show orP _ _ (RelG.get (b.put (some 18) _) 18) w''
      rw [RelG.get_put b 18 _ (by rw [D.siz]; exact (by decide : 18 < 26))]
      exact ⟨base, by omega, ho⟩)
  · refine RelG.stepsF_cons (RelG.step_run0 (n := 26) (t := 2) (u := 12) (v := .pointer (some ⟨w.heap.size, 0, none⟩)) rfl rfl rfl (by decide) (by kernel_rfl) (by kernel_rfl) (fun ρ w' hle h _ => by simp [execOp, h, go_sem, Addr.add]) rfl) ?_
    refine RelG.stepsF_cons (RelG.step_run (n := 26) (j := 0) (t := 12) (u := 13) (v := (.pointer (some ⟨w.heap.size, 2, none⟩))) rfl rfl rfl (by decide) rfl rfl (fun ρ w' hle h _ => by
        have c : w'.cell? ⟨w.heap.size, 2, none⟩ = some (.slice (some ⟨bx, ox, none⟩) l.length cx) := pop_cell hle (ad := ⟨w.heap.size, 2, none⟩) (by show w.heap.size ≠ w.heap.size + 1; omega) (by show w.heap.size < w2.heap.size; omega) g2.out
        simp [execOp, h, go_sem, c]) rfl) ?_
    refine RelG.stepsF_skip (by kernel_rfl) ?_
    refine RelG.stepsF_skip (by kernel_rfl) ?_
    refine RelG.stepsF_cons (RelG.step_was (n := 26) (t := 1) (u := 16) rfl rfl rfl rfl (by decide) (by kernel_rfl) (by kernel_rfl) rfl) ?_
    refine RelG.stepsF_skip (by kernel_rfl) ?_
    refine RelG.stepsF_skip (by kernel_rfl) ?_
    refine RelG.stepsF_cons (step_callA rfl Tryz.func29 (by kernel_rfl) rfl rfl (fun b w' D => by
        obtain ⟨base, h1, h2⟩ := D.rel 6 rfl
        generalize e1 : RelG.get b 18 = xv at h2
        have e1' : b.eval (.tmp 18) = xv := e1
        refine ⟨#[xv], by simp only [List.map_toArray, List.map_cons, List.map_nil, e1'], (list_any xv L w' (tR_own h2)).mono fun e w'' ⟨he, hb⟩ => ⟨_, he, ?_, (PopO _ _ _).bel hb⟩⟩
        show lvP _ _ (RelG.get (b.put (some 19) _) 19) w''
        rw [RelG.get_put b 19 _ (by rw [D.siz]; exact (by decide : 19 < 26))]
        exact ⟨xv, base, rfl, h1, own_move h2 (fun k hk => hb.block k (own_lt h2 k hk)), or_one h2⟩)) ?_
    refine RelG.stepsF_cons (RelG.step_run0 (n := 26) (t := 2) (u := 20) (v := .pointer (some ⟨w.heap.size, 0, none⟩)) rfl rfl rfl (by decide) (by kernel_rfl) (by kernel_rfl) (fun ρ w' hle h _ => by simp [execOp, h, go_sem, Addr.add]) rfl) ?_
    refine RelG.stepsF_cons (RelG.step_run (n := 26) (j := 8) (t := 20) (u := 21) (v := (.pointer (some ⟨w.heap.size, 2, none⟩))) rfl rfl rfl (by decide) rfl rfl (fun ρ w' hle h _ => by
        have c : w'.cell? ⟨w.heap.size, 2, none⟩ = some (.slice (some ⟨bx, ox, none⟩) l.length cx) := pop_cell hle (ad := ⟨w.heap.size, 2, none⟩) (by show w.heap.size ≠ w.heap.size + 1; omega) (by show w.heap.size < w2.heap.size; omega) g2.out
        simp [execOp, h, go_sem, c]) rfl) ?_
    refine RelG.stepsF_cons (RelG.step_was (n := 26) (t := 1) (u := 22) rfl rfl rfl rfl (by decide) (by kernel_rfl) (by kernel_rfl) rfl) ?_
    refine RelG.stepsF_cons (RelG.step_run2 (n := 26) (j := 9) (t := 21) (j2 := 10) (t2 := 22) (u := 23) (v := (.slice (some ⟨bx, ox, none⟩) l.length cx)) (v2 := (.int .i64 (i : Nat))) rfl rfl rfl (by decide) rfl rfl rfl rfl (fun ρ w' hle h h2 hk => by simp [execOp, h, h2, hk, go_sem, q0, qN, qM, add_off]) rfl) ?_
    refine RelG.stepsF_cons (RelG.step_run (n := 26) (j := 11) (t := 23) (u := 24) (v := (.pointer (some ⟨bx, ox + i, none⟩))) rfl rfl rfl (by decide) rfl rfl (fun ρ w' hle h hk => by
        have c : w'.cell? ⟨bx, ox + i, none⟩ = some (.string sx) := pop_cell hle (ad := ⟨bx, ox + i, none⟩) (by show bx ≠ w.heap.size + 1; omega) (by show bx < w2.heap.size; omega) cq.out
        simp [execOp, h, hk, go_sem, c]) rfl) ?_
    refine RelG.stepsF_cons (step_callA rfl Tryz.func32 (by kernel_rfl) rfl rfl (fun b w' D => by
        have e1 : b.eval (.tmp 24) = .string sx := D.is 12 rfl rfl
        have hw' := D.bel.1.2.2.2
        have hgt : w.heap.size + 1 < w'.heap.size := by omega
        refine ⟨#[.string sx], by simp only [List.map_toArray, List.map_cons, List.map_nil, e1], (hbulk.out w' (pop_below hB2.out D.bel (by omega) (by omega) (by omega))).mono fun e w'' ⟨Ab, cb, he, hf, hb⟩ => ⟨_, he, ?_, (PopO _ _ _).bel hb⟩⟩
        show RelG.frP _ _ (RelG.get (b.put (some 25) _) 25) w''
        rw [RelG.get_put b 25 _ (by rw [D.siz]; exact (by decide : 25 < 26))]
        exact frP_of hf hgt)) ?_
    refine RelG.stepsF_cons (RelG.step_skip rfl rfl fun b w' D => by
        obtain ⟨v, base, h1, h2, h3, h4⟩ := D.rel 7 rfl
        have e2 : b.eval (.tmp 19) = .agg (lvS L v) := h1
        have e1 : b.eval (.tmp 4) = .pointer (some ⟨w.heap.size + 1, 0, none⟩) := (D.was 4 (by kernel_rfl)).trans (by kernel_rfl)
        obtain ⟨old, hg, hs, hG, hle⟩ := pop_store hZ2.out D.bel h2 h3 h4
        refine ⟨w'.setRow (w.heap.size + 1) (lvS L v), ?_, hG, hle⟩
        unfold execOp
        simp only [e1, e2, Instr.storeAt, Instr.sureAddr, Sem.run_bind, Sem.run_pure, Result.andThen_ok, run_storeVar_row (P := Tryz.prog) w' (w.heap.size + 1) tV tV old (lvS L v) hg (by rw [lvS_size]; exact info28) hs (lvS_oneV _ _ h4)]) ?_
    refine RelG.stepsF_cons (RelG.step_pass_of (n := 26) (j := 13) (t := 25) (u := 5) (p := RelG.frP (w.heap.size + 1) R) (hp := fun x w w' h hle => fr_pop hR1 h hle) rfl rfl (.inr rfl) rfl (by decide) rfl rfl rfl) ?_
    exact trivial
  intro v e w9 hg hv hle
  have k5 : e 5 = v 15 := hg 15 5 rfl
  have hgood : Good (w.heap.size + 1) L w9 := hv 14 (by decide)
  have hfr : RelG.frP (w.heap.size + 1) R (e 5) w9 := hv 15 (by decide)
  rw [k5] at hfr
  obtain ⟨u, base, hb1, ho1, hc1', hu1⟩ := hgood
  obtain ⟨Ar, nr, cr, base2, ev, hf2, hbb⟩ := hfr
  have hBf := veil (pop_below hB2.out hle (by omega) (by omega) (by omega))
  simp only [Rel.fill, Act.put, List.setIfInBounds_toArray, List.set_cons_zero, List.set_cons_succ]
  rw [ev]
  have ho1' := veil ho1
  have hc1v := veil hc1'
  have hf2' := veil hf2
  clear hg hv hle k5 ev ho1 hc1' hf2
  go_wp2_with fail
  refine bodyPost_ret (v := .tuple #[.agg (lvS L u), .slice Ar nr cr]) ?_ rfl ⟨u, Ar, nr, cr, rfl, own_weaken ho1'.out (by omega), hf2'.out.base (by omega), hBf.out⟩
  exact RelG.results_cell_tmp (p := 4) (q := 5) (ty := 26) Tryz.results18 _ _ (w.heap.size + 1) 26 (lvS L u) (0, 0) _ _ rfl rfl hc1v.out Tryz.underlying26 rfl (by rw [lvS_size]; exact info28)
end Go.Proofs.Tryz.Ln
/- What lists.Do tells of a text that is taken out. -/
namespace Go.Proofs.Tryz.Ln
open Go Go.RowKit Go.Proofs.Mem Go.Proofs.App
open Go.Proofs.YtnkjejmgpempkaaGreatDoorW.PrintWords Go.Proofs.YtnkjejmgpempkaaGreatDoorW.PrintLast
open Go.Proofs.Rel (dsts depsOf)
set_option linter.unusedVariables false
set_option linter.unusedSimpArgs false
def popN : Bool → ByteArray
  | false => ⟨#[108, 112, 111, 112]⟩
  | true => ⟨#[114, 112, 111, 112]⟩
theorem low_lpop : lowS ⟨#[108, 112, 111, 112]⟩ = popN false := by decide +kernel
theorem low_rpop : lowS ⟨#[114, 112, 111, 112]⟩ = popN true := by decide +kernel
theorem low_llen : lowS ⟨#[108, 108, 101, 110]⟩ = llenN := by decide +kernel
/-- the place that is taken out -/
def popI (back : Bool) (l : List ByteArray) : Nat := if back then l.length - 1 else 0
set_option maxRecDepth 100000 in
set_option maxHeartbeats 8000000 in
theorem do_popnil (back : Bool) (s a0 : ByteArray) (x H Z : Value) (args : List ByteArray) (B : Option Addr) (ac : Nat) (w : World) (hx : tR w x []) (hargs : tR w (.slice B args.length ac) args) (h1 : 1 ≤ args.length) (ha : args[0]? = some a0)
    (hz0 : a0.size ≤ 1000) (hlow : lowS a0 = popN back) (hH : H.oneCell' = true) (hZ : Z.oneCell' = true) (hT : Tabs w) :
    Calls Tryz.prog 8 #[.agg #[.int .u8 0, .string s, x, H, Z], .slice B args.length ac] w (Dres #[.int .u8 0, .string s, x, H, Z] (lineL ⟨#[36]⟩ ⟨#[45, 49]⟩) w) := by
  have hT' := veil hT
  obtain ⟨A1, c1, e1, _⟩ := hx.ex
  rw [show ([] : List ByteArray).length = 0 from rfl] at e1
  subst e1
  obtain ⟨ad, rfl, c0⟩ : ∃ ad, B = some ad ∧ w.cell? ad = some (.string a0) := by
    obtain ⟨A, c, e, _, _, _, h4⟩ := hargs.ex
    injection e with e1 _ _
    subst e1
    obtain ⟨ad, e, hc⟩ := h4.2.2 (by omega)
    refine ⟨ad, e, ?_⟩
    have := hc 0 (by omega)
    rw [List.getD_eq_getElem?_getD, ha, Option.getD_some] at this
    simpa [Addr.add] using this
  obtain ⟨w2, hw2⟩ : ∃ w2 : World, w2 = (w.alloc (.cells #[.int .u8 0, .string s, .slice A1 0 c1, H, Z] 26)).alloc (.cells #[.int .u8 0, .string ⟨#[]⟩, .slice none 0 0, .slice none 0 0, .slice none 0 0] 26) := ⟨_, rfl⟩
  have hsz2 : w2.heap.size = w.heap.size + 2 := by rw [hw2]; simp
  have hb2 : Below w.heap.size w w2 := by rw [hw2]; exact (below_alloc (Below.refl _ _) _).alloc (by simp) _
  have hx2 : w2.heap[w.heap.size]? = some (.cells #[.int .u8 0, .string s, .slice A1 0 c1, H, Z] 26 (0, 0)) := by rw [hw2]; exact heap_alloc2_old w _ _
  have hz2 : w2.heap[w.heap.size + 1]? = some oZ := by
    rw [hw2]
    have := heap_alloc_last (w.alloc (.cells #[.int .u8 0, .string s, .slice A1 0 c1, H, Z] 26)) (.cells #[.int .u8 0, .string ⟨#[]⟩, .slice none 0 0, .slice none 0 0, .slice none 0 0] 26)
    simpa [oZ, zS] using this
  have hadb : ad.block < w.heap.size := World.block_lt_of_cell? w _ c0
  have q0 : w2.cell? ad = some (.string a0) := (hb2.cell hadb).trans c0
  have q00 := q0
  rw [hw2] at q00
  have hB2 := veil hb2
  have hX2 := veil hx2
  have hZ2 := veil hz2
  have hw2' := veil hw2
  have hxw := veil (hx.below hb2)
  have l0 : (0 : Int) < args.length := by omega
  have hone : Veil ((#[.int .u8 0, .string s, .slice A1 0 c1, H, Z] : Array Value).all (·.oneCell') = true) := veil (one5 0 s A1 _ c1 H Z hH hZ)
  obtain ⟨R, hR⟩ : ∃ R, lineL ⟨#[36]⟩ ⟨#[45, 49]⟩ = R := ⟨_, rfl⟩
  have hpop' : Veil (∀ z w', tR w' (.slice A1 0 c1) [] → Tabs w' → Calls Tryz.prog 18 #[.agg #[.int .u8 0, .string s, .slice A1 0 c1, H, Z], .int .i64 z] w' (Dres #[.int .u8 0, .string s, .slice A1 0 c1, H, Z] R w')) := veil (fun z w' h _ => by rw [← hR]; exact pop_null 0 z s _ H Z w' h hH hZ)
  rw [hR]
  clear hT hx hargs c0 ha hR hw2 hb2 hx2 hz2 hH hZ
  cases back with
  | false =>
    have hpop := veil (hpop'.out 0)
    have hlow' : Veil (lowS a0 = ⟨#[108, 112, 111, 112]⟩) := veil hlow
    clear hlow
    go_enter Tryz.func8, Tryz.ntmps8
    go_wp2_with fail
    rw [← hw2'.out]
    refine (low_any a0 w2 (by omega)).mono ?_
    rintro e w3 ⟨rfl, hb3⟩
    rw [hlow'.out]
    have hB4 := veil (two_below hB2.out hb3)
    have hX4 := veil ((hb3.block _ (by omega)).trans hX2.out)
    have hZ4 := veil ((hb3.block _ (by omega)).trans hZ2.out)
    have hx4 := veil (hxw.out.below hb3)
    have hs3 := hb3.size
    clear hb3 q0 q00
    have q1 := cell_of_row _ _ 0 _ _ _ hX4.out
    have q2 := cell_of_row _ _ 2 _ _ _ hX4.out
    simp only [List.getElem?_toArray, List.getElem?_cons_zero, List.getElem?_cons_succ] at q1 q2
    have L4 := hX4.out
    go_wp2_with (refine wpList_load_row rfl tV _ rfl w.heap.size rfl tV (#[.int .u8 0, .string s, .slice A1 0 c1, H, Z]) (0, 0) _ L4 Tryz.underlying26 rfl (info5x _ _ _ _ _) ?_)
    refine (hpop.out w3 hx4.out (tabs_below hT'.out hB4.out)).mono ?_
    rintro e w5 ⟨Ar, nr, cr, rfl, hf5, hb5⟩
    have hB5 := veil (two_below hB4.out hb5)
    have hZ5 := (hb5.block _ (by omega)).trans hZ4.out
    have hs5 := hb5.size
    clear hb5 L4 q1 q2
    go_wp2_with (refine wpList_store_row rfl tV _ _ rfl (w.heap.size + 1) (#[.int .u8 0, .string s, .slice A1 0 c1, H, Z]) rfl rfl tV zS hZ5 (info5x _ _ _ _ _) rfl hone.out ?_)
    refine bodyPost_ret (v := .tuple #[.agg (#[.int .u8 0, .string s, .slice A1 0 c1, H, Z]), .slice Ar nr cr]) ?_ rfl ⟨Ar, nr, cr, rfl, (fresh_setRow hf5 (by omega)).base (by omega), below_setRow hB5.out _ _ (by omega)⟩
    exact RelG.results_cell_tmp (p := 4) (q := 5) (ty := 26) Tryz.results8 _ _ (w.heap.size + 1) tV (#[.int .u8 0, .string s, .slice A1 0 c1, H, Z]) (0, 0) _ _ rfl rfl (setRow_heap _ _ _ _ _ _ hZ5) Tryz.underlying26 rfl (info5x _ _ _ _ _)
  | true =>
    have x2 : IntKind.i64.wrap ((0 : Int) - 1) = -1 := by decide
    have hpop := veil (hpop'.out (-1))
    have hlow' : Veil (lowS a0 = ⟨#[114, 112, 111, 112]⟩) := veil hlow
    clear hlow
    go_enter Tryz.func8, Tryz.ntmps8
    go_wp2_with fail
    rw [← hw2'.out]
    refine (low_any a0 w2 (by omega)).mono ?_
    rintro e w3 ⟨rfl, hb3⟩
    rw [hlow'.out]
    have hB4 := veil (two_below hB2.out hb3)
    have hX4 := veil ((hb3.block _ (by omega)).trans hX2.out)
    have hZ4 := veil ((hb3.block _ (by omega)).trans hZ2.out)
    have hx4 := veil (hxw.out.below hb3)
    have hs3 := hb3.size
    clear hb3 q0 q00
    have q1 := cell_of_row _ _ 0 _ _ _ hX4.out
    have q2 := cell_of_row _ _ 2 _ _ _ hX4.out
    simp only [List.getElem?_toArray, List.getElem?_cons_zero, List.getElem?_cons_succ] at q1 q2
    have L4 := hX4.out
    go_wp2_with (refine wpList_load_row rfl tV _ rfl w.heap.size rfl tV (#[.int .u8 0, .string s, .slice A1 0 c1, H, Z]) (0, 0) _ L4 Tryz.underlying26 rfl (info5x _ _ _ _ _) ?_)
    refine (hpop.out w3 hx4.out (tabs_below hT'.out hB4.out)).mono ?_
    rintro e w5 ⟨Ar, nr, cr, rfl, hf5, hb5⟩
    have hB5 := veil (two_below hB4.out hb5)
    have hZ5 := (hb5.block _ (by omega)).trans hZ4.out
    have hs5 := hb5.size
    clear hb5 L4 q1 q2
    go_wp2_with (refine wpList_store_row rfl tV _ _ rfl (w.heap.size + 1) (#[.int .u8 0, .string s, .slice A1 0 c1, H, Z]) rfl rfl tV zS hZ5 (info5x _ _ _ _ _) rfl hone.out ?_)
    refine bodyPost_ret (v := .tuple #[.agg (#[.int .u8 0, .string s, .slice A1 0 c1, H, Z]), .slice Ar nr cr]) ?_ rfl ⟨Ar, nr, cr, rfl, (fresh_setRow hf5 (by omega)).base (by omega), below_setRow hB5.out _ _ (by omega)⟩
    exact RelG.results_cell_tmp (p := 4) (q := 5) (ty := 26) Tryz.results8 _ _ (w.heap.size + 1) tV (#[.int .u8 0, .string s, .slice A1 0 c1, H, Z]) (0, 0) _ _ rfl rfl (setRow_heap _ _ _ _ _ _ hZ5) Tryz.underlying26 rfl (info5x _ _ _ _ _)
set_option maxRecDepth 100000 in
set_option maxHeartbeats 8000000 in
theorem do_pop (back : Bool) (s a0 sx : ByteArray) (x H Z : Value) (l args : List ByteArray) (B : Option Addr) (ac : Nat) (w : World) (hx : tR w x l) (hargs : tR w (.slice B args.length ac) args) (h1 : 1 ≤ args.length) (ha : args[0]? = some a0)
    (hz0 : a0.size ≤ 1000) (hlow : lowS a0 = popN back) (hs : l[popI back l]? = some sx) (hn : l.length ≤ 1000000) (hsx : sx.size ≤ 70368744177664) (hT : Tabs w) :
    Calls Tryz.prog 8 #[.agg #[.int .u8 2, .string s, x, H, Z], .slice B args.length ac] w (Pres (l.eraseIdx (popI back l)) (bulkL sx) w) := by
  have hT' := veil hT
  obtain ⟨A1, c1, rfl, _⟩ := hx.ex
  have hl1 : 1 ≤ l.length := by have := (List.getElem?_eq_some_iff.1 hs).1; omega
  obtain ⟨ad, rfl, c0⟩ : ∃ ad, B = some ad ∧ w.cell? ad = some (.string a0) := by
    obtain ⟨A, c, e, _, _, _, h4⟩ := hargs.ex
    injection e with e1 _ _
    subst e1
    obtain ⟨ad, e, hc⟩ := h4.2.2 (by omega)
    refine ⟨ad, e, ?_⟩
    have := hc 0 (by omega)
    rw [List.getD_eq_getElem?_getD, ha, Option.getD_some] at this
    simpa [Addr.add] using this
  obtain ⟨w2, hw2⟩ : ∃ w2 : World, w2 = (w.alloc (.cells #[.int .u8 2, .string s, .slice A1 l.length c1, H, Z] 26)).alloc (.cells #[.int .u8 0, .string ⟨#[]⟩, .slice none 0 0, .slice none 0 0, .slice none 0 0] 26) := ⟨_, rfl⟩
  have hsz2 : w2.heap.size = w.heap.size + 2 := by rw [hw2]; simp
  have hb2 : Below w.heap.size w w2 := by rw [hw2]; exact (below_alloc (Below.refl _ _) _).alloc (by simp) _
  have hx2 : w2.heap[w.heap.size]? = some (.cells #[.int .u8 2, .string s, .slice A1 l.length c1, H, Z] 26 (0, 0)) := by rw [hw2]; exact heap_alloc2_old w _ _
  have hz2 : w2.heap[w.heap.size + 1]? = some oZ := by
    rw [hw2]
    have := heap_alloc_last (w.alloc (.cells #[.int .u8 2, .string s, .slice A1 l.length c1, H, Z] 26)) (.cells #[.int .u8 0, .string ⟨#[]⟩, .slice none 0 0, .slice none 0 0, .slice none 0 0] 26)
    simpa [oZ, zS] using this
  have hadb : ad.block < w.heap.size := World.block_lt_of_cell? w _ c0
  have q0 : w2.cell? ad = some (.string a0) := (hb2.cell hadb).trans c0
  have q00 := q0
  rw [hw2] at q00
  have hB2 := veil hb2
  have hX2 := veil hx2
  have hZ2 := veil hz2
  have hw2' := veil hw2
  have hxw := veil (hx.below hb2)
  have l0 : (0 : Int) < args.length := by omega
  obtain ⟨L, hL⟩ : ∃ L, l.eraseIdx (popI back l) = L := ⟨_, rfl⟩
  obtain ⟨R, hR⟩ : ∃ R, bulkL sx = R := ⟨_, rfl⟩
  have hpop' : Veil (∀ z w', z = (popI back l : Int) → tR w' (.slice A1 l.length c1) l → Tabs w' → Calls Tryz.prog 18 #[.agg #[.int .u8 2, .string s, .slice A1 l.length c1, H, Z], .int .i64 z] w' (Pres L R w')) := veil (fun z w' hz h h' => by rw [← hR, ← hL]; exact pop_any 2 z s sx _ H Z l _ w' h hs hz hn hsx h')
  rw [hL, hR]
  clear hT hx hargs c0 ha hR hL hw2 hb2 hx2 hz2 hs
  cases back with
  | false =>
    have hpop := veil (fun w' => hpop'.out 0 w' rfl)
    have hlow' : Veil (lowS a0 = ⟨#[108, 112, 111, 112]⟩) := veil hlow
    clear hlow
    go_enter Tryz.func8, Tryz.ntmps8
    go_wp2_with fail
    rw [← hw2'.out]
    refine (low_any a0 w2 (by omega)).mono ?_
    rintro e w3 ⟨rfl, hb3⟩
    rw [hlow'.out]
    have hB4 := veil (two_below hB2.out hb3)
    have hX4 := veil ((hb3.block _ (by omega)).trans hX2.out)
    have hZ4 := veil ((hb3.block _ (by omega)).trans hZ2.out)
    have hx4 := veil (hxw.out.below hb3)
    have hs3 := hb3.size
    clear hb3 q0 q00
    have q1 := cell_of_row _ _ 0 _ _ _ hX4.out
    have q2 := cell_of_row _ _ 2 _ _ _ hX4.out
    simp only [List.getElem?_toArray, List.getElem?_cons_zero, List.getElem?_cons_succ] at q1 q2
    have L4 := hX4.out
    go_wp2_with (refine wpList_load_row rfl tV _ rfl w.heap.size rfl tV (#[.int .u8 2, .string s, .slice A1 l.length c1, H, Z]) (0, 0) _ L4 Tryz.underlying26 rfl (info5x _ _ _ _ _) ?_)
    refine (hpop.out w3 hx4.out (tabs_below hT'.out hB4.out)).mono ?_
    rintro e w5 ⟨u, Ar, nr, cr, rfl, ho5, hf5, hb5⟩
    have hu1 := or_one ho5
    obtain ⟨mv, hmv⟩ : ∃ mv, lvS L u = mv := ⟨_, rfl⟩
    have hms : mv.size = 5 := by rw [← hmv]; exact lvS_size _ _
    have hmo : mv.all (·.oneCell') = true := by rw [← hmv]; exact lvS_oneV _ _ hu1
    rw [hmv]
    have hmv' := veil hmv
    clear hmv
    have hB5 := veil (two_below hB4.out hb5)
    have hZ5 := (hb5.block _ (by omega)).trans hZ4.out
    have hs5 := hb5.size
    clear hb5 L4 q1 q2
    go_wp2_with (refine wpList_store_row rfl tV _ _ rfl (w.heap.size + 1) (mv) rfl rfl tV zS hZ5 (by rw [hms]; exact info28) hms.symm hmo ?_)
    refine bodyPost_ret (v := .tuple #[.agg (mv), .slice Ar nr cr]) ?_ rfl ⟨u, Ar, nr, cr, by rw [hmv'.out], own_weaken (own_setRow ho5 hZ5) (by omega), (fresh_setRow hf5 (by omega)).base (by omega), below_setRow hB5.out _ _ (by omega)⟩
    exact RelG.results_cell_tmp (p := 4) (q := 5) (ty := 26) Tryz.results8 _ _ (w.heap.size + 1) tV (mv) (0, 0) _ _ rfl rfl (setRow_heap _ _ _ _ _ _ hZ5) Tryz.underlying26 rfl (by rw [hms]; exact info28)
  | true =>
    have x2 : IntKind.i64.wrap ((l.length : Int) - 1) = (l.length : Int) - 1 := iwrapE (by unfold Int64; omega)
    have hpop := veil (fun w' => hpop'.out ((l.length : Int) - 1) w' (by show _ = ((l.length - 1 : Nat) : Int); omega))
    have hlow' : Veil (lowS a0 = ⟨#[114, 112, 111, 112]⟩) := veil hlow
    clear hlow
    go_enter Tryz.func8, Tryz.ntmps8
    go_wp2_with fail
    rw [← hw2'.out]
    refine (low_any a0 w2 (by omega)).mono ?_
    rintro e w3 ⟨rfl, hb3⟩
    rw [hlow'.out]
    have hB4 := veil (two_below hB2.out hb3)
    have hX4 := veil ((hb3.block _ (by omega)).trans hX2.out)
    have hZ4 := veil ((hb3.block _ (by omega)).trans hZ2.out)
    have hx4 := veil (hxw.out.below hb3)
    have hs3 := hb3.size
    clear hb3 q0 q00
    have q1 := cell_of_row _ _ 0 _ _ _ hX4.out
    have q2 := cell_of_row _ _ 2 _ _ _ hX4.out
    simp only [List.getElem?_toArray, List.getElem?_cons_zero, List.getElem?_cons_succ] at q1 q2
    have L4 := hX4.out
    go_wp2_with (refine wpList_load_row rfl tV _ rfl w.heap.size rfl tV (#[.int .u8 2, .string s, .slice A1 l.length c1, H, Z]) (0, 0) _ L4 Tryz.underlying26 rfl (info5x _ _ _ _ _) ?_)
    refine (hpop.out w3 hx4.out (tabs_below hT'.out hB4.out)).mono ?_
    rintro e w5 ⟨u, Ar, nr, cr, rfl, ho5, hf5, hb5⟩
    have hu1 := or_one ho5
    obtain ⟨mv, hmv⟩ : ∃ mv, lvS L u = mv := ⟨_, rfl⟩
    have hms : mv.size = 5 := by rw [← hmv]; exact lvS_size _ _
    have hmo : mv.all (·.oneCell') = true := by rw [← hmv]; exact lvS_oneV _ _ hu1
    rw [hmv]
    have hmv' := veil hmv
    clear hmv
    have hB5 := veil (two_below hB4.out hb5)
    have hZ5 := (hb5.block _ (by omega)).trans hZ4.out
    have hs5 := hb5.size
    clear hb5 L4 q1 q2
    go_wp2_with (refine wpList_store_row rfl tV _ _ rfl (w.heap.size + 1) (mv) rfl rfl tV zS hZ5 (by rw [hms]; exact info28) hms.symm hmo ?_)
    refine bodyPost_ret (v := .tuple #[.agg (mv), .slice Ar nr cr]) ?_ rfl ⟨u, Ar, nr, cr, by rw [hmv'.out], own_weaken (own_setRow ho5 hZ5) (by omega), (fresh_setRow hf5 (by omega)).base (by omega), below_setRow hB5.out _ _ (by omega)⟩
    exact RelG.results_cell_tmp (p := 4) (q := 5) (ty := 26) Tryz.results8 _ _ (w.heap.size + 1) tV (mv) (0, 0) _ _ rfl rfl (setRow_heap _ _ _ _ _ _ hZ5) Tryz.underlying26 rfl (by rw [hms]; exact info28)
end Go.Proofs.Tryz.Ln
