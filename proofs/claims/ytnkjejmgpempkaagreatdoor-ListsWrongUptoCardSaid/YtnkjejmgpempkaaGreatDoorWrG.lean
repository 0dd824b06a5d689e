import Derived.Test.YtnkjejmgpempkaaGreatDoorSm
import Derived.Test.YtnkjejmgpempkaaGreatDoorFit8
import Derived.Test.YtnkjejmgpempkaaGreatDoorLsA
/- A request of any words, done: what the statements '..Wrong' lean on. -/
namespace Go.Proofs.Tryz.Vl
open Go Go.RowKit Go.Proofs.Mem Go.Proofs.App
open Go.Proofs.YtnkjejmgpempkaaGreatDoorW.PrintWords Go.Proofs.YtnkjejmgpempkaaGreatDoorW.PrintLast
open Go.Proofs.Rel (dsts depsOf)
open Go.Proofs.Tryz.Ln (tR TR lineL)
set_option linter.unusedVariables false
set_option linter.unusedSimpArgs false
theorem tR_of_gR {w : World} {x : Value} {l : List BA} (h : gR w x l.length (scs l)) : tR w x l := by
  obtain ⟨A, c, rfl, h1, h2, h3, h4⟩ := h.ex
  refine ⟨A, c, rfl, h1, h2, h3, ?_⟩
  have := gR_reads h rfl (Nat.le_refl _)
  rwa [List.take_of_length_le (Nat.le_refl _)] at this
theorem gR_of_tR {w : World} {x : Value} {l : List BA} (h : tR w x l) : gR w x l.length (scs l) := by
  obtain ⟨A, c, rfl, h1, h2, h3, h4⟩ := h.ex
  refine ⟨A, c, rfl, h1, h2, h3, fun h0 => ?_⟩
  obtain ⟨ad, e, hc⟩ := h4.2.2 h0
  refine ⟨ad, e, fun j u hu => ?_⟩
  have hj : j < l.length := by
    have := (List.getElem?_eq_some_iff.1 hu).1
    rwa [scs_len] at this
  have h5 := scs_at l j l[j] (List.getElem?_eq_getElem hj)
  rw [h5] at hu
  obtain rfl := Option.some.inj hu
  rw [hc j hj]
  congr 2
  rw [List.getD_eq_getElem?_getD, List.getElem?_eq_getElem hj]
  rfl
theorem gR_C {w : World} {A : Option Addr} {c : Nat} {l : List BA} (h : gR w (.slice A l.length c) l.length (scs l)) : Kd.C Kd.string w A l.length l := by
  have := gR_reads h rfl (Nat.le_refl _)
  rw [List.take_of_length_le (Nat.le_refl _)] at this
  exact Kd.C_of_reads this
/-- a row that does not lie in block g -/
structure gN (g : Nat) (w : World) (x : Value) (n : Nat) (cs : List Value) : Prop where
  r : gR w x n cs
  ne : 0 < n → ∀ b, x.ownBlock = some b → b ≠ g
theorem gN.kp {g : Nat} {w w' : World} {x : Value} {n : Nat} {cs : List Value} (h : gN g w x n cs) (hk : Kp g w w') : gN g w' x n cs := by
  refine ⟨?_, h.ne⟩
  obtain ⟨A, c, rfl, h1, h2, h3, h4⟩ := h.r.ex
  refine ⟨A, c, rfl, h1, h2, h3, fun h0 => ?_⟩
  obtain ⟨ad, rfl, hc⟩ := h4 h0
  refine ⟨ad, rfl, fun j u hu => ?_⟩
  have h5 := hc j u hu
  have hb : (ad.add j).block = ad.block := by unfold Addr.add; split <;> rfl
  have hne : (ad.add j).block ≠ g := by rw [hb]; exact h.ne h0 _ rfl
  rw [World.cell?_of_block (hk.blk _ hne (World.block_lt_of_cell? w _ h5))]
  exact h5
theorem gN.below {g : Nat} {w w' : World} {x : Value} {n : Nat} {cs : List Value} (h : gN g w x n cs) (hb : Below w.heap.size w w') : gN g w' x n cs := ⟨h.r.below hb, h.ne⟩
theorem gN_old {g : Nat} {w : World} {x : Value} {n : Nat} {cs : List Value} (h : gR w x n cs) (hg : w.heap.size ≤ g) (h0 : 0 < n → 0 < cs.length) : gN g w x n cs := by
  refine ⟨h, fun hn b hb e => ?_⟩
  obtain ⟨A, c, rfl, h1, h2, h3, h4⟩ := h.ex
  obtain ⟨ad, rfl, hc⟩ := h4 hn
  have hb' : b = ad.block := by simpa [Value.ownBlock] using hb.symm
  have h5 := hc 0 _ (List.getElem?_eq_getElem (h0 hn))
  have h6 := World.block_lt_of_cell? w _ h5
  have h7 : (ad.add 0).block = ad.block := by unfold Addr.add; split <;> rfl
  omega
theorem gN_own {g base : Nat} {e : TypeId} {k n : Nat} {w : World} {x : Value} {cs : List Value} (h : w.ownsRow base e k x n cs) (hg : g < base) : gN g w x n cs :=
  ⟨gR_own h, fun _ b hb e => by have := own_base h b hb; omega⟩
theorem gN_nil (g : Nat) (w : World) : gN g w nlv 0 [] := ⟨gR_nil w, fun h => absurd h (by simp)⟩
/-- the cells of a value, none of whose rows lies in block g -/
structure IsVg (g : Nat) (w : World) (cs : Array Value) (v : VV) : Prop where
  ex : ∃ xL xH xZ, cs = #[.int .u8 v.k, .string v.s, xL, xH, xZ] ∧ gN g w xL v.l.length (scs v.l) ∧ gN g w xH v.h.length (pcs v.h) ∧ gN g w xZ v.z.length (mcs v.z)
theorem IsVg.v {g : Nat} {w : World} {cs : Array Value} {v : VV} (h : IsVg g w cs v) : IsV w cs v := by
  obtain ⟨x, y, z, e, h1, h2, h3⟩ := h.ex
  exact ⟨x, y, z, e, h1.r, h2.r, h3.r⟩
theorem IsVg.kp {g : Nat} {w w' : World} {cs : Array Value} {v : VV} (h : IsVg g w cs v) (hk : Kp g w w') : IsVg g w' cs v := by
  obtain ⟨x, y, z, e, h1, h2, h3⟩ := h.ex
  exact ⟨x, y, z, e, h1.kp hk, h2.kp hk, h3.kp hk⟩
theorem IsVg.below {g : Nat} {w w' : World} {cs : Array Value} {v : VV} (h : IsVg g w cs v) (hk : Below w.heap.size w w') : IsVg g w' cs v := h.kp (Kp.of hk)
theorem IsV.below {w w' : World} {cs : Array Value} {v : VV} (h : IsV w cs v) (hb : Below w.heap.size w w') : IsV w' cs v := by
  obtain ⟨x, y, z, e, h1, h2, h3⟩ := h.ex
  exact ⟨x, y, z, e, h1.below hb, h2.below hb, h3.below hb⟩
theorem IsV.g {g : Nat} {w : World} {cs : Array Value} {v : VV} (h : IsV w cs v) (hg : w.heap.size ≤ g) : IsVg g w cs v := by
  obtain ⟨x, y, z, e, h1, h2, h3⟩ := h.ex
  exact ⟨x, y, z, e, gN_old h1 hg (fun h => by rw [scs_len]; exact h), gN_old h2 hg (fun h => by rw [pcs_len]; omega), gN_old h3 hg (fun h => by rw [mcs_len]; omega)⟩
theorem gR_one {w : World} {x : Value} {n : Nat} {cs : List Value} (h : gR w x n cs) : x.oneCell' = true := by
  obtain ⟨A, c, rfl, _⟩ := h.slice
  rfl
theorem IsV.one {w : World} {cs : Array Value} {v : VV} (h : IsV w cs v) : cs.all (·.oneCell') = true := by
  obtain ⟨x, y, z, rfl, h1, h2, h3⟩ := h.ex
  obtain ⟨_, _, rfl, _⟩ := h1.slice
  obtain ⟨_, _, rfl, _⟩ := h2.slice
  obtain ⟨_, _, rfl, _⟩ := h3.slice
  exact one5v _ _ _ _ _ _ _ _ _ _ _
theorem IsV.siz {w : World} {cs : Array Value} {v : VV} (h : IsV w cs v) : cs.size = 5 := by
  obtain ⟨x, y, z, rfl, _⟩ := h.ex
  rfl
theorem info5s {cs : Array Value} (h : cs.size = 5) : (Tryz.prog.info? vT).map (·.size) = some cs.size := by rw [h]; exact info5v .nilIface .nilIface .nilIface .nilIface .nilIface
/-- what Do yields: a value of these contents, this reply; same: the very cells handed in -/
def DoR (g : Nat) (cs : Array Value) (v' : VV) (r : List Int) (same : Prop) (w : World) (e : Ending) (w' : World) : Prop := ∃ cs' A n c, e = .returned (.tuple #[.agg cs', .slice A n c]) ∧ Fresh .u8 w.heap.size w' A n c r ∧ IsVg g w' cs' v' ∧ (same → cs' = cs) ∧ Below w.heap.size w w'
def DoW (cs : Array Value) (v' : VV) (r : List Int) (same : Prop) (w : World) (e : Ending) (w' : World) : Prop := ∃ cs' A n c, e = .returned (.tuple #[.agg cs', .slice A n c]) ∧ Fresh .u8 w.heap.size w' A n c r ∧ IsV w' cs' v' ∧ (same → cs' = cs) ∧ Below w.heap.size w w'
/-- block g holds such a value -/
def Pv (g : Nat) (cs : Array Value) (v' : VV) (same : Prop) (W : World) : Prop := ∃ cs', W.heap[g]? = some (.cells cs' vT (0, 0)) ∧ IsVg g W cs' v' ∧ (same → cs' = cs)
theorem Pv_bel (g : Nat) (cs : Array Value) (v' : VV) (same : Prop) : ∀ W W' : World, Pv g cs v' same W → Below W.heap.size W W' → Pv g cs v' same W' := fun W W' ⟨c, h1, h2, h3⟩ hb => ⟨c, (hb.block _ (Array.getElem?_eq_some_iff.1 h1).1).trans h1, h2.below hb, h3⟩
/-- what a slot holds: the value and the reply -/
def dP (g : Nat) (cs : Array Value) (v' : VV) (r : List Int) (same : Prop) (x : Value) (w : World) : Prop := ∃ cs' y, x = .tuple #[.agg cs', y] ∧ IsVg g w cs' v' ∧ (same → cs' = cs) ∧ RelG.frP g r y w
def vP (g : Nat) (cs : Array Value) (v' : VV) (same : Prop) (x : Value) (w : World) : Prop := ∃ cs', x = .agg cs' ∧ IsVg g w cs' v' ∧ (same → cs' = cs)
theorem frP_kp {g : Nat} {r : List Int} {x : Value} {w w' : World} (h : RelG.frP g r x w) (hk : Kp g w w') : RelG.frP g r x w' := by
  obtain ⟨A, n, c, base, rfl, hf, hg⟩ := h
  refine ⟨A, n, c, base, rfl, ⟨hf.len, hf.le, fun hp => ?_⟩, hg⟩
  obtain ⟨b, e, h1, h2, hc, hs⟩ := hf.there hp
  have hbk := hk.blk b (by omega) h2
  refine ⟨b, e, h1, Nat.lt_of_lt_of_le h2 hk.size, fun j hj => ?_, fun j hj => ?_⟩
  · rw [← hc j hj]; unfold World.cell?; rw [hbk]
  · have := hs j hj
    unfold World.cell? World.frozen? at this ⊢
    rw [hbk]
    exact this
end Go.Proofs.Tryz.Vl
