import Derived.Test.YtnkjejmgpempkaaGreatDoorLsC
import Derived.Test.YtnkjejmgpempkaaGreatDoorRelN
import Derived.Great.BuildSlice
/- What the laws of layer 12 lean on: a cell that holds a list, stored anew. -/
namespace Go.Proofs.Tryz.Ln
open Go Go.RowKit Go.Proofs.Mem Go.Proofs.App
open Go.Proofs.YtnkjejmgpempkaaGreatDoorW.PrintWords Go.Proofs.YtnkjejmgpempkaaGreatDoorW.PrintLast
open Go.Proofs.Rel (dsts depsOf)
set_option linter.unusedVariables false
set_option linter.unusedSimpArgs false
/-- nothing of what was turns -/
def BelO : RelG.Ord where
  le w w' := Below w.heap.size w w'
  refl w := Below.refl _ _
  trans h k := two_below h k
  bel h := h
def goodwLe (g : Nat) (L : List ByteArray) (w w' : World) : Prop :=
  (w'.os = w.os ∧ w'.tape = w.tape ∧ w'.output = w.output ∧ w.heap.size ≤ w'.heap.size) ∧ (∀ k, k ≠ g → k < w.heap.size → w'.heap[k]? = w.heap[k]?) ∧ (Good g L w → Good g L w')
/-- all stays but block g, which may hold a list of these texts -/
def GoodW (g : Nat) (L : List ByteArray) : RelG.Ord where
  le := goodwLe g L
  refl w := ⟨⟨rfl, rfl, rfl, Nat.le_refl _⟩, fun _ _ _ => rfl, fun h => h⟩
  trans {a b c} h k := ⟨⟨k.1.1.trans h.1.1, k.1.2.1.trans h.1.2.1, k.1.2.2.1.trans h.1.2.2.1, Nat.le_trans h.1.2.2.2 k.1.2.2.2⟩, fun i hi hl => (k.2.1 i hi (Nat.lt_of_lt_of_le hl h.1.2.2.2)).trans (h.2.1 i hi hl), fun hz => k.2.2 (h.2.2 hz)⟩
  bel {w w'} h := ⟨⟨h.os, h.tape, h.output, h.size⟩, fun k _ hl => h.block k hl, fun ⟨v, base, h1, h2, h3, h4⟩ => ⟨v, base, h1, own_move h2 (fun k hk => h.block k (own_lt h2 k hk)), by rw [h.block g (Array.getElem?_eq_some_iff.1 h3).1]; exact h3, h4⟩⟩
theorem bel_sub (g : Nat) (L : List ByteArray) : ∀ w w', BelO.le w w' → (GoodW g L).le w w' := fun w w' h => (GoodW g L).bel h
section
variable {g : Nat} {L : List ByteArray} {w w' : World}
theorem goodw_below {B : Nat} {w0 : World} (hb : Below B w w0) (h : (GoodW g L).le w0 w') (hg : B ≤ g) (hB : B ≤ w0.heap.size) : Below B w w' :=
  ⟨h.1.1.trans hb.os, h.1.2.1.trans hb.tape, h.1.2.2.1.trans hb.output, Nat.le_trans hb.size h.1.2.2.2, fun k hk => (h.2.1 k (by omega) (by omega)).trans (hb.block k hk)⟩
theorem or_goodw {base : Nat} {v : Value} {M : List ByteArray} (h : OR w base v M) (hb : g < base) (hle : (GoodW g L).le w w') : OR w' base v M :=
  own_move h (fun k hk => hle.2.1 k (by have := own_base h k hk; omega) (own_lt h k hk))
theorem fr_goodw {r : List Int} {x : Value} (h : RelG.frP g r x w) (hle : (GoodW g L).le w w') : RelG.frP g r x w' := by
  obtain ⟨A, n, c, base, rfl, hf, hg⟩ := h
  refine ⟨A, n, c, base, rfl, ⟨hf.len, hf.le, fun hp => ?_⟩, hg⟩
  obtain ⟨b, e, h1, h2, hc, hs⟩ := hf.there hp
  have hbk := hle.2.1 b (by omega) h2
  refine ⟨b, e, h1, Nat.lt_of_lt_of_le h2 hle.1.2.2.2, fun j hj => ?_, fun j hj => ?_⟩
  · rw [← hc j hj]; unfold World.cell?; rw [hbk]
  · have := hs j hj
    unfold World.cell? World.frozen? at this ⊢
    rw [hbk]
    exact this
end
def lvW (g : Nat) (L : List ByteArray) (u : Tmp) : RelG.Rl (GoodW g L) := RelG.of _ u (lvP g L) (fun x w w' ⟨v, base, h1, h2, h3, h4⟩ hle => ⟨v, base, h1, h2, or_goodw h3 h2 hle, h4⟩)
theorem prP_w {g : Nat} {L : List ByteArray} {r : List Int} (x : Value) (w w' : World) (h : prP g L r x w) (hle : (GoodW g L).le w w') : prP g L r x w' := by
  obtain ⟨v, y, base, h1, h2, h3, h4, h5⟩ := h
  exact ⟨v, y, base, h1, h2, or_goodw h3 h2 hle, h4, fr_goodw h5 hle⟩
def prW (g : Nat) (L : List ByteArray) (r : List Int) (u : Tmp) : RelG.Rl (GoodW g L) := RelG.of _ u (prP g L r) prP_w
def frW (g : Nat) (L : List ByteArray) (r : List Int) (u : Tmp) : RelG.Rl (GoodW g L) := RelG.of _ u (RelG.frP g r) (fun x w w' h hle => fr_goodw h hle)
def goodWR (g : Nat) (L : List ByteArray) : RelG.Rl (GoodW g L) := RelG.wo _ (Good g L) (fun w w' h hle => hle.2.2 h)
/-- a row of texts of later on -/
def txP (g : Nat) (v : Array Value) (x : Value) (w : World) : Prop := ∃ b, x = .slice (some ⟨b, 0, none⟩) v.size v.size ∧ w.heap[b]? = some (.cells v 9 (0, 0)) ∧ b ≠ g
def txW (g : Nat) (L : List ByteArray) (v : Array Value) (u : Tmp) : RelG.Rl (GoodW g L) := RelG.of _ u (txP g v) (fun x w w' ⟨b, h1, h2, h3⟩ hle => ⟨b, h1, (hle.2.1 b h3 (Array.getElem?_eq_some_iff.1 h2).1).trans h2, h3⟩)
theorem goodw_store {g : Nat} {L : List ByteArray} {w : World} {v : Value} {old : Array Value} {base : Nat} (hg : w.heap[g]? = some (.cells old tV (0, 0))) (hb : g < base) (ho : OR w base v L) (h1 : v.oneCell' = true) :
    Good g L (w.setRow g (lvS L v)) ∧ (GoodW g L).le w (w.setRow g (lvS L v)) := by
  have hset := setRow_heap w g old (lvS L v) tV (0, 0) hg
  have hG : Good g L (w.setRow g (lvS L v)) := ⟨v, base, hb, own_setRow ho hg, hset, h1⟩
  refine ⟨hG, ⟨rfl, rfl, rfl, by simp [World.setRow]⟩, fun k hk _ => ?_, fun _ => hG⟩
  unfold World.setRow
  simp only [Array.getElem?_modify]
  rw [if_neg (fun e => hk e.symm)]
theorem info_str : (Tryz.prog.info? 9).map (fun i => (i.size, i.zero)) = some (1, some (.string ⟨#[]⟩)) := by kernel_rfl
theorem fill3 (x y z : ByteArray) : Instr.fill (fun i => some (i * 1, 1)) ((Array.range (3 * 1)).map ((Value.string ⟨#[]⟩).cells[· % (Value.string ⟨#[]⟩).cells.size]!)) [(0, .string x), (1, .string y), (2, .string z)] = some #[.string x, .string y, .string z] := by
  have h : (Array.range (3 * 1)).map ((Value.string ⟨#[]⟩).cells[· % (Value.string ⟨#[]⟩).cells.size]!) = #[.string ⟨#[]⟩, .string ⟨#[]⟩, .string ⟨#[]⟩] := by
    refine Array.ext (by simp) (fun i h1 h2 => ?_)
    have h3 : i < 3 := h2
    rcases i with _ | _ | _ | i
    · simp [Value.cells]
    · simp [Value.cells]
    · simp [Value.cells]
    · omega
  rw [h]
  rfl
theorem run_texts3 (w : World) (x y z : ByteArray) : (Instr.buildSlice 22 3 #[(0, .string x), (1, .string y), (2, .string z)]).run Tryz.prog w = .ok (.slice (some ⟨w.heap.size, 0, none⟩) 3 3) (w.alloc (.cells #[.string x, .string y, .string z] 9)) := by
  have h := info_str
  cases h1 : Tryz.prog.info? 9 with
  | none => rw [h1] at h; cases h
  | some ie =>
    rw [h1] at h
    have h3 : ie.size = 1 := congrArg Prod.fst (Option.some.inj h)
    have h2 : ie.zero = some (.string ⟨#[]⟩) := congrArg Prod.snd (Option.some.inj h)
    exact run_buildSlice (P := Tryz.prog) w 22 9 3 _ #[.string x, .string y, .string z] ie _ Tryz.underlying22 h1 h2 (by rw [h3]; decide) (by rw [h3]; decide) (by rw [h3]; exact fill3 x y z)
/-- the first m of a row -/
theorem cutH (A : Option Addr) (n c m : Nat) (hm : m ≤ n) (hc : n ≤ c) : ∀ W : World, (Instr.slice 22 (.slice A n c) none (some (.int .i64 m)) none).run Tryz.prog W = .ok (.slice A m c) W := by
  obtain ⟨i0, hi, hzz⟩ := Option.map_eq_some_iff.1 infoS
  simp only [Prod.mk.injEq] at hzz
  obtain ⟨_, hz1, _⟩ := hzz
  have hu : Tryz.prog.underlying 22 = some (.slice 9) := Tryz.underlying22
  have hel : Tryz.prog.elem 22 = 9 := by simp [Program.elem, hu]
  intro W
  have hu2 : Tryz.prog.underlying 22 = some (.slice (Tryz.prog.elem 22)) := by rw [hel]; exact hu
  rw [run_slice_h W 22 A n c hu2 .i64 m (by omega) (by omega), hel]
  have hA : (if c = 0 then A else A.map (·.add (0 * 1))) = A := by
    cases A with
    | none => simp
    | some ad => simp [Addr.add]
  simp [sizeOf, typeInfo, hi, hz1, sliced, Result.andThen, hA]
end Go.Proofs.Tryz.Ln
/- Lists that are the same are told the same. -/
namespace Go.Proofs.Tryz.Ln
open Go Go.RowKit Go.Proofs.Mem Go.Proofs.App
open Go.Proofs.YtnkjejmgpempkaaGreatDoorW.PrintWords
set_option linter.unusedVariables false
set_option linter.unusedSimpArgs false
theorem tR_at {w : World} {b o n c q : Nat} {l : List ByteArray} {s : ByteArray} (h : tR w (.slice (some ⟨b, o, none⟩) n c) l) (hs : l[q]? = some s) : w.cell? ⟨b, o + q, none⟩ = some (.string s) := by
  obtain ⟨A, c', e, _, _, _, h4⟩ := h.ex
  injection e with e1 _ _
  subst e1
  have hq : q < l.length := (List.getElem?_eq_some_iff.1 hs).1
  obtain ⟨ad, e, hc⟩ := h4.2.2 (by omega)
  injection e with e
  subst e
  have := hc q hq
  rw [add_off, List.getD_eq_getElem?_getD, hs, Option.getD_some] at this
  exact this
theorem tR_some {w : World} {x : Value} {l : List ByteArray} (h : tR w x l) (h1 : 1 ≤ l.length) : ∃ b o c, x = .slice (some ⟨b, o, none⟩) l.length c := by
  obtain ⟨A, c, e, _, _, h3, h4⟩ := h.ex
  obtain ⟨ad, rfl, _⟩ := h4.2.2 (by omega)
  obtain ⟨b, o, sp⟩ := ad
  obtain rfl : sp = none := h3 _ rfl
  exact ⟨b, o, c, e⟩
set_option maxRecDepth 100000 in
set_option maxHeartbeats 8000000 in
theorem texts01_any (x y : Value) (l : List ByteArray) (w : World) (hx : tR w x l) (hy : tR w y l) (h1 : 1 ≤ l.length) (h2 : l.length ≤ 1000000) : Calls Tryz.prog 14 #[x, y] w fun e w' => e = .returned (.bool true) ∧ Below w.heap.size w w' := by
  obtain ⟨b1, o1, c1, rfl⟩ := tR_some hx h1
  obtain ⟨b2, o2, c2, rfl⟩ := tR_some hy h1
  obtain ⟨n, hn⟩ : ∃ n, l.length = n := ⟨_, rfl⟩
  rw [hn] at hx hy h1 h2 ⊢
  have hx' := veil hx
  have hy' := veil hy
  have hn' := veil hn
  clear hx hy hn
  go_enter Tryz.func14, Tryz.ntmps14
  go_wp2_with fail
  go_loopw [5] (fun i wr => ∃ q : Nat, q ≤ n ∧ i = .int .i64 q ∧ Below w.heap.size w wr) (fun i _ => n - (intOf i).toNat)
  case atStart => exact ⟨0, by omega, rfl, Below.refl _ _⟩
  case round =>
    obtain ⟨q, hq, rfl, hb⟩ := hrel
    have hb' := veil hb
    clear hb
    by_cases hlt : q < n
    · have q0 : (0 : Int) ≤ q := by omega
      have qN : (q : Int) < n := by omega
      obtain ⟨s, hs⟩ : ∃ s, l[q]? = some s := ⟨_, List.getElem?_eq_getElem (by rw [hn'.out]; exact hlt)⟩
      have k1 := tR_at (hx'.out.below hb'.out) hs
      have k2 := tR_at (hy'.out.below hb'.out) hs
      have kk := veil (show ((q : Int) + 1) = ((q + 1 : Nat) : Int) by omega)
      clear hs
      go_wp2_with fail
      go_quiet (fail)
      go_wp2_with fail
      go_roundw
      case rel => exact ⟨q + 1, hlt, congrArg (Value.int .i64) kk.out, pw_below_drewN hb'.out _⟩
      case measure => simp [intOf]; omega
    · obtain rfl : n = q := by omega
      go_wp2_with fail
      go_ret
      exact ⟨rfl, hb'.out⟩
set_option maxRecDepth 100000 in
set_option maxHeartbeats 8000000 in
theorem same_any (x y : Value) (l : List ByteArray) (w : World) (hx : tR w x l) (hy : tR w y l) (h1 : 1 ≤ l.length) (h2 : l.length ≤ 1000000) : Calls Tryz.prog 7 #[.agg (lvS l x), .agg (lvS l y)] w fun e w' => e = .returned (.bool true) ∧ Below w.heap.size w w' := by
  have hl : l ≠ [] := fun h => by rw [h] at h1; simp at h1
  rw [show lvS l x = _ from if_neg hl, show lvS l y = _ from if_neg hl]
  obtain ⟨b1, o1, c1, ex⟩ := tR_some hx h1
  obtain ⟨b2, o2, c2, ey⟩ := tR_some hy h1
  rw [ex] at hx ⊢
  rw [ey] at hy ⊢
  clear ex ey
  obtain ⟨w2, hw2⟩ : ∃ w2 : World, w2 = (w.alloc (.cells #[.int .u8 2, .string ⟨#[]⟩, .slice (some ⟨b1, o1, none⟩) l.length c1, nl, nl] 26)).alloc (.cells #[.int .u8 2, .string ⟨#[]⟩, .slice (some ⟨b2, o2, none⟩) l.length c2, nl, nl] 26) := ⟨_, rfl⟩
  have hb2 : Below w.heap.size w w2 := by rw [hw2]; exact (below_alloc (Below.refl _ _) _).alloc (by simp) _
  have hs2 : w2.heap.size = w.heap.size + 2 := by rw [hw2]; simp
  have hu : w2.heap[w.heap.size]? = some (.cells #[.int .u8 2, .string ⟨#[]⟩, .slice (some ⟨b1, o1, none⟩) l.length c1, nl, nl] 26 (0, 0)) := by rw [hw2]; exact heap_alloc2_old w _ _
  have hv : w2.heap[w.heap.size + 1]? = some (.cells #[.int .u8 2, .string ⟨#[]⟩, .slice (some ⟨b2, o2, none⟩) l.length c2, nl, nl] 26 (0, 0)) := by
    rw [hw2]
    have h := heap_alloc_last (w.alloc (.cells #[.int .u8 2, .string ⟨#[]⟩, .slice (some ⟨b1, o1, none⟩) l.length c1, nl, nl] 26)) (.cells #[.int .u8 2, .string ⟨#[]⟩, .slice (some ⟨b2, o2, none⟩) l.length c2, nl, nl] 26)
    rw [show (w.alloc (.cells #[.int .u8 2, .string ⟨#[]⟩, .slice (some ⟨b1, o1, none⟩) l.length c1, nl, nl] 26)).heap.size = w.heap.size + 1 by simp] at h
    exact h
  have hB2 := veil hb2
  have hU := veil hu
  have hV := veil hv
  have hcall := veil (texts01_any _ _ l w2 (hx.below hb2) (hy.below hb2) h1 h2)
  have hw2' := veil hw2
  clear hx hy hw2 hb2 hu hv
  go_enter Tryz.func7, Tryz.ntmps7
  go_wp2_with fail
  rw [← hw2'.out]
  refine hcall.out.mono ?_
  rintro e w3 ⟨rfl, hb3⟩
  have hB3 := veil (two_below hB2.out hb3)
  have u := (hb3.block _ (by omega)).trans hU.out
  have v := (hb3.block _ (by omega)).trans hV.out
  have u0 : w3.cell? ⟨w.heap.size, 0, none⟩ = some (.int .u8 2) := by rw [cell_of_row _ _ _ _ _ _ u]; rfl
  have u1 : w3.cell? ⟨w.heap.size, 1, none⟩ = some (.string ⟨#[]⟩) := by rw [cell_of_row _ _ _ _ _ _ u]; rfl
  have u3 : w3.cell? ⟨w.heap.size, 3, none⟩ = some nl := by rw [cell_of_row _ _ _ _ _ _ u]; rfl
  have u4 : w3.cell? ⟨w.heap.size, 4, none⟩ = some nl := by rw [cell_of_row _ _ _ _ _ _ u]; rfl
  have v0 : w3.cell? ⟨w.heap.size + 1, 0, none⟩ = some (.int .u8 2) := by rw [cell_of_row _ _ _ _ _ _ v]; rfl
  have v1 : w3.cell? ⟨w.heap.size + 1, 1, none⟩ = some (.string ⟨#[]⟩) := by rw [cell_of_row _ _ _ _ _ _ v]; rfl
  have v3 : w3.cell? ⟨w.heap.size + 1, 3, none⟩ = some nl := by rw [cell_of_row _ _ _ _ _ _ v]; rfl
  have v4 : w3.cell? ⟨w.heap.size + 1, 4, none⟩ = some nl := by rw [cell_of_row _ _ _ _ _ _ v]; rfl
  clear hb3 u v
  go_wp2_with fail
  go_loopw [6] (fun i wr => w3 = wr ∧ i = .int .i64 0) (fun i _ => 0)
  case atStart => exact ⟨rfl, rfl⟩
  case round =>
    obtain ⟨rfl, rfl⟩ := hrel
    go_wp2_with fail
    go_loopw [7] (fun i wr => w3 = wr ∧ i = .int .i64 0) (fun i _ => 0)
    case atStart => exact ⟨rfl, rfl⟩
    case round =>
      obtain ⟨rfl, rfl⟩ := hrel
      go_wp2_with fail
      go_ret
      exact ⟨rfl, hB3.out⟩
end Go.Proofs.Tryz.Ln
