import Derived.Test.YtcdcbkopapedhaaGreatDoorSm
import Derived.Test.YtcdcbkopapedhaaGreatDoorFit8
import Derived.Test.YtcdcbkopapedhaaGreatDoorRelN
/- A request of any words, done: what the statements '..Wrong' lean on. -/
namespace Go.Proofs.Tryz.Vl
open Go Go.RowKit Go.Proofs.Mem Go.Proofs.App
open Go.Proofs.YtcdcbkopapedhaaGreatDoorW.PrintWords Go.Proofs.YtcdcbkopapedhaaGreatDoorW.PrintLast
open Go.Proofs.Rel (dsts depsOf)
open Go.Proofs.Tryz.Ln (lineL)
set_option linter.unusedVariables false
set_option linter.unusedSimpArgs false
theorem gR_C {w : World} {A : Option Addr} {c : Nat} {l : List BA} (h : gR w (.slice A l.length c) l.length (scs l)) : Kd.C Kd.string w A l.length l := by
  have := gR_reads h rfl (Nat.le_refl _)
  rw [List.take_of_length_le (Nat.le_refl _)] at this
  exact Kd.C_of_reads this
/-- a row that does not lie in block g; and lies below B, or begins its block -/
structure gN (g B : Nat) (w : World) (x : Value) (n : Nat) (cs : List Value) : Prop where
  r : gR w x n cs
  ne : 0 < n → ∀ b, x.ownBlock = some b → b ≠ g
  ok : 0 < n → ∀ ad m c, x = .slice (some ad) m c → ad.block < B ∨ ad.off = 0
/-- .. the last alone -/
structure gB (B : Nat) (w : World) (x : Value) (n : Nat) (cs : List Value) : Prop where
  r : gR w x n cs
  ok : 0 < n → ∀ ad m c, x = .slice (some ad) m c → ad.block < B ∨ ad.off = 0
theorem gN.b {g B : Nat} {w : World} {x : Value} {n : Nat} {cs : List Value} (h : gN g B w x n cs) : gB B w x n cs := ⟨h.r, h.ok⟩
theorem gN.kp {g B : Nat} {w w' : World} {x : Value} {n : Nat} {cs : List Value} (h : gN g B w x n cs) (hk : Kp g w w') : gN g B w' x n cs := by
  refine ⟨?_, h.ne, h.ok⟩
  obtain ⟨A, c, rfl, h1, h2, h3, h4⟩ := h.r.ex
  refine ⟨A, c, rfl, h1, h2, h3, fun h0 => ?_⟩
  obtain ⟨ad, rfl, hc⟩ := h4 h0
  refine ⟨ad, rfl, fun j u hu => ?_⟩
  have h5 := hc j u hu
  have hb : (ad.add j).block = ad.block := by unfold Addr.add; split <;> rfl
  have hne : (ad.add j).block ≠ g := by rw [hb]; exact h.ne h0 _ rfl
  rw [World.cell?_of_block (hk.blk _ hne (World.block_lt_of_cell? w _ h5))]
  exact h5
theorem gB.below {B : Nat} {w w' : World} {x : Value} {n : Nat} {cs : List Value} (h : gB B w x n cs) (hb : Below w.heap.size w w') : gB B w' x n cs := ⟨h.r.below hb, h.ok⟩
theorem gR_lt {w : World} {x : Value} {n : Nat} {cs : List Value} (h : gR w x n cs) (h0 : 0 < n → 0 < cs.length) : 0 < n → ∀ ad m c, x = .slice (some ad) m c → ad.block < w.heap.size := by
  intro hn ad m c e
  obtain ⟨A, c', e', h1, h2, h3, h4⟩ := h.ex
  rw [e] at e'
  injection e' with e1 _ _
  subst e1
  obtain ⟨ad', e2, hc⟩ := h4 hn
  injection e2 with e2
  subst e2
  have h5 := hc 0 _ (List.getElem?_eq_getElem (h0 hn))
  have h6 := World.block_lt_of_cell? w _ h5
  have h7 : (ad.add 0).block = ad.block := by unfold Addr.add; split <;> rfl
  omega
theorem gB_old {w : World} {x : Value} {n : Nat} {cs : List Value} (h : gR w x n cs) (h0 : 0 < n → 0 < cs.length) : gB w.heap.size w x n cs := ⟨h, fun hn ad m c e => .inl (gR_lt h h0 hn ad m c e)⟩
theorem gB.g {g B : Nat} {w : World} {x : Value} {n : Nat} {cs : List Value} (h : gB B w x n cs) (hg : w.heap.size ≤ g) (h0 : 0 < n → 0 < cs.length) : gN g B w x n cs := by
  refine ⟨h.r, fun hn b hb e => ?_, h.ok⟩
  obtain ⟨A, c, rfl, h1, h2, h3, h4⟩ := h.r.ex
  obtain ⟨ad, rfl, hc⟩ := h4 hn
  have h5 := gR_lt h.r h0 hn ad _ _ rfl
  have hb' : b = ad.block := by simpa [Value.ownBlock] using hb.symm
  omega
theorem own_off {base : Nat} {e : TypeId} {k n : Nat} {w : World} {x : Value} {cs : List Value} (h : w.ownsRow base e k x n cs) : ∀ ad m c, x = .slice (some ad) m c → ad.off = 0 := by
  intro ad m c e'
  rcases h.2 with ⟨rfl, _⟩ | ⟨g, cap, cur, rfl, _⟩
  · injection e' with e1 _ _
    cases e1
  · injection e' with e1 _ _
    injection e1 with e1
    subst e1
    rfl
theorem gN_own {g B base : Nat} {e : TypeId} {k n : Nat} {w : World} {x : Value} {cs : List Value} (h : w.ownsRow base e k x n cs) (hg : g < base) : gN g B w x n cs :=
  ⟨gR_own h, fun _ b hb e => (by have := own_base h b hb; omega), fun _ ad m c e => .inr (own_off h ad m c e)⟩
theorem gN_nil (g B : Nat) (w : World) : gN g B w nlv 0 [] := ⟨gR_nil w, fun h => absurd h (by simp), fun h => absurd h (by simp)⟩
/-- the cells of a value, none of whose rows lies in block g -/
structure IsVg (g B : Nat) (w : World) (cs : Array Value) (v : VV) : Prop where
  ex : ∃ xL xH xZ, cs = #[.int .u8 v.k, .string v.s, xL, xH, xZ] ∧ gN g B w xL v.l.length (scs v.l) ∧ gN g B w xH v.h.length (pcs v.h) ∧ gN g B w xZ v.z.length (mcs v.z)
structure IsVb (B : Nat) (w : World) (cs : Array Value) (v : VV) : Prop where
  ex : ∃ xL xH xZ, cs = #[.int .u8 v.k, .string v.s, xL, xH, xZ] ∧ gB B w xL v.l.length (scs v.l) ∧ gB B w xH v.h.length (pcs v.h) ∧ gB B w xZ v.z.length (mcs v.z)
theorem IsVb.v {B : Nat} {w : World} {cs : Array Value} {v : VV} (h : IsVb B w cs v) : IsV w cs v := by
  obtain ⟨x, y, z, e, h1, h2, h3⟩ := h.ex
  exact ⟨x, y, z, e, h1.r, h2.r, h3.r⟩
theorem IsVg.b {g B : Nat} {w : World} {cs : Array Value} {v : VV} (h : IsVg g B w cs v) : IsVb B w cs v := by
  obtain ⟨x, y, z, e, h1, h2, h3⟩ := h.ex
  exact ⟨x, y, z, e, h1.b, h2.b, h3.b⟩
theorem IsVg.v {g B : Nat} {w : World} {cs : Array Value} {v : VV} (h : IsVg g B w cs v) : IsV w cs v := h.b.v
theorem IsVg.kp {g B : Nat} {w w' : World} {cs : Array Value} {v : VV} (h : IsVg g B w cs v) (hk : Kp g w w') : IsVg g B w' cs v := by
  obtain ⟨x, y, z, e, h1, h2, h3⟩ := h.ex
  exact ⟨x, y, z, e, h1.kp hk, h2.kp hk, h3.kp hk⟩
theorem IsVg.below {g B : Nat} {w w' : World} {cs : Array Value} {v : VV} (h : IsVg g B w cs v) (hk : Below w.heap.size w w') : IsVg g B w' cs v := h.kp (Kp.of hk)
theorem IsV.below {w w' : World} {cs : Array Value} {v : VV} (h : IsV w cs v) (hb : Below w.heap.size w w') : IsV w' cs v := by
  obtain ⟨x, y, z, e, h1, h2, h3⟩ := h.ex
  exact ⟨x, y, z, e, h1.below hb, h2.below hb, h3.below hb⟩
theorem IsVb.below {B : Nat} {w w' : World} {cs : Array Value} {v : VV} (h : IsVb B w cs v) (hb : Below w.heap.size w w') : IsVb B w' cs v := by
  obtain ⟨x, y, z, e, h1, h2, h3⟩ := h.ex
  exact ⟨x, y, z, e, h1.below hb, h2.below hb, h3.below hb⟩
theorem IsV.b {w : World} {cs : Array Value} {v : VV} (h : IsV w cs v) : IsVb w.heap.size w cs v := by
  obtain ⟨x, y, z, e, h1, h2, h3⟩ := h.ex
  exact ⟨x, y, z, e, gB_old h1 (fun h => by rw [scs_len]; exact h), gB_old h2 (fun h => by rw [pcs_len]; omega), gB_old h3 (fun h => by rw [mcs_len]; omega)⟩
theorem IsVb.g {g B : Nat} {w : World} {cs : Array Value} {v : VV} (h : IsVb B w cs v) (hg : w.heap.size ≤ g) : IsVg g B w cs v := by
  obtain ⟨x, y, z, e, h1, h2, h3⟩ := h.ex
  exact ⟨x, y, z, e, h1.g hg (fun h => by rw [scs_len]; exact h), h2.g hg (fun h => by rw [pcs_len]; omega), h3.g hg (fun h => by rw [mcs_len]; omega)⟩
theorem gR_one {w : World} {x : Value} {n : Nat} {cs : List Value} (h : gR w x n cs) : x.oneCell' = true := by
  obtain ⟨A, c, rfl, _⟩ := h.slice
  rfl
theorem IsV.one {w : World} {cs : Array Value} {v : VV} (h : IsV w cs v) : cs.all (·.oneCell') = true := by
  obtain ⟨x, y, z, rfl, h1, h2, h3⟩ := h.ex
  obtain ⟨_, _, rfl, _⟩ := h1.slice
  obtain ⟨_, _, rfl, _⟩ := h2.slice
  obtain ⟨_, _, rfl, _⟩ := h3.slice
  exact one5v _ _ _ _ _ _ _ _ _ _ _
theorem IsV.siz {w : World} {cs : Array Value} {v : VV} (h : IsV w cs v) : cs.size = 5 := by
  obtain ⟨x, y, z, rfl, _⟩ := h.ex
  rfl
theorem info5s {cs : Array Value} (h : cs.size = 5) : (Tryz.prog.info? vT).map (·.size) = some cs.size := by rw [h]; exact info5v .nilIface .nilIface .nilIface .nilIface .nilIface
/-- what Do yields: a value of these contents, this reply; same: the very cells handed in -/
def DoR (g B : Nat) (cs : Array Value) (v' : VV) (r : List Int) (same : Prop) (w : World) (e : Ending) (w' : World) : Prop := ∃ cs' A n c, e = .returned (.tuple #[.agg cs', .slice A n c]) ∧ Fresh .u8 w.heap.size w' A n c r ∧ IsVg g B w' cs' v' ∧ (same → cs' = cs) ∧ Below w.heap.size w w'
def DoW (B : Nat) (cs : Array Value) (v' : VV) (r : List Int) (same : Prop) (w : World) (e : Ending) (w' : World) : Prop := ∃ cs' A n c, e = .returned (.tuple #[.agg cs', .slice A n c]) ∧ Fresh .u8 w.heap.size w' A n c r ∧ IsVb B w' cs' v' ∧ (same → cs' = cs) ∧ Below w.heap.size w w'
/-- block g holds such a value -/
def Pv (g B : Nat) (cs : Array Value) (v' : VV) (same : Prop) (W : World) : Prop := ∃ cs', W.heap[g]? = some (.cells cs' vT (0, 0)) ∧ IsVg g B W cs' v' ∧ (same → cs' = cs)
theorem Pv_bel (g B : Nat) (cs : Array Value) (v' : VV) (same : Prop) : ∀ W W' : World, Pv g B cs v' same W → Below W.heap.size W W' → Pv g B cs v' same W' := fun W W' ⟨c, h1, h2, h3⟩ hb => ⟨c, (hb.block _ (Array.getElem?_eq_some_iff.1 h1).1).trans h1, h2.below hb, h3⟩
/-- what a slot holds: the value and the reply -/
def dP (g B : Nat) (cs : Array Value) (v' : VV) (r : List Int) (same : Prop) (x : Value) (w : World) : Prop := ∃ cs' y, x = .tuple #[.agg cs', y] ∧ IsVg g B w cs' v' ∧ (same → cs' = cs) ∧ RelG.frP g r y w
def vP (g B : Nat) (cs : Array Value) (v' : VV) (same : Prop) (x : Value) (w : World) : Prop := ∃ cs', x = .agg cs' ∧ IsVg g B w cs' v' ∧ (same → cs' = cs)
theorem frP_kp {g : Nat} {r : List Int} {x : Value} {w w' : World} (h : RelG.frP g r x w) (hk : Kp g w w') : RelG.frP g r x w' := by
  obtain ⟨A, n, c, base, rfl, hf, hg⟩ := h
  refine ⟨A, n, c, base, rfl, ⟨hf.len, hf.le, fun hp => ?_⟩, hg⟩
  obtain ⟨b, e, h1, h2, hc, hs⟩ := hf.there hp
  have hbk := hk.blk b (by omega) h2
  refine ⟨b, e, h1, Nat.lt_of_lt_of_le h2 hk.size, fun j hj => ?_, fun j hj => ?_⟩
  · rw [← hc j hj]; unfold World.cell?; rw [hbk]
  · have := hs j hj
    unfold World.cell? World.frozen? at this ⊢
    rw [hbk]
    exact this
/-- what a layer answers to a request of these words at a value: E is its answer at a kind that is not its own -/
def LayerC (T : World → Prop) (f : FuncId) (E : List Int) (own : Int) (v : VV) (M : List BA) : Prop := ∃ (v' : VV) (r : List Int) (same : Prop), (∀ (g B : Nat) (w' : World) (x : Value) (cs : Array Value), g < w'.heap.size → IsVg g B w' cs v → gR w' x M.length (scs M) → T w' → Calls Tryz.prog f #[.agg cs, x] w' (DoR g B cs v' r same w')) ∧ 2 ≤ r.length ∧ r.length ≤ 70368744177664 ∧ (v.k ≠ 0 → v.k ≠ own → same ∧ r = E) ∧ (r[0]? = some 45 → same) ∧ (same → v' = v) ∧ v'.l.length ≤ 1000000 ∧ v'.h.length ≤ 1000000 ∧ v'.z.length ≤ 1000000
end Go.Proofs.Tryz.Vl
/- Regions that draw their order, make a cell of a value and fill it: an order in which such cells, of block B on, may be filled. -/
namespace Go.Proofs.Tryz.Vl
open Go Go.RowKit Go.Proofs.Mem Go.Proofs.App
open Go.Proofs.YtcdcbkopapedhaaGreatDoorW.PrintWords Go.Proofs.YtcdcbkopapedhaaGreatDoorW.PrintLast
set_option linter.unusedVariables false
set_option linter.unusedSimpArgs false
/-- block k holds a value -/
def Vlk (w : World) (k : Nat) : Prop := ∃ a s x y z, w.heap[k]? = some (.cells #[.int .u8 a, .string s, x, y, z] vT (0, 0))
structure NewLe (B : Nat) (G : Nat → World → Prop) (w w' : World) : Prop where
  os : w'.os = w.os
  tape : w'.tape = w.tape
  out : w'.output = w.output
  size : w.heap.size ≤ w'.heap.size
  blk : ∀ k, k < w.heap.size → w'.heap[k]? = w.heap[k]? ∨ (B ≤ k ∧ Vlk w k ∧ G k w')
  good : ∀ p, B ≤ p → G p w → G p w'
def NewG (B : Nat) (G : Nat → World → Prop) (hG : ∀ p w w', G p w → Below w.heap.size w w' → G p w') : RelG.Ord where
  le := NewLe B G
  refl w := ⟨rfl, rfl, rfl, Nat.le_refl _, fun _ _ => .inl rfl, fun _ _ h => h⟩
  trans {a b c} h k := ⟨k.os.trans h.os, k.tape.trans h.tape, k.out.trans h.out, Nat.le_trans h.size k.size, fun i hi => by
    rcases h.blk i hi with h1 | ⟨h1, h2, h3⟩
    · rcases k.blk i (Nat.lt_of_lt_of_le hi h.size) with h4 | ⟨h4, ⟨x, s, y, z, u, h5⟩, h6⟩
      · exact .inl (h4.trans h1)
      · exact .inr ⟨h4, ⟨x, s, y, z, u, by rw [← h1]; exact h5⟩, h6⟩
    · exact .inr ⟨h1, h2, k.good i h1 h3⟩, fun p hp hg => k.good p hp (h.good p hp hg)⟩
  bel {w w'} h := ⟨h.os, h.tape, h.output, h.size, fun k hk => .inl (h.block k hk), fun p _ hg => hG p w w' hg h⟩
section
variable {B : Nat} {G : Nat → World → Prop} {w w' : World}
theorem NewLe.old (h : NewLe B G w w') {k : Nat} {o : Obj} (hk : k < B) (ho : w.heap[k]? = some o) : w'.heap[k]? = some o := by
  rcases h.blk k (Array.getElem?_eq_some_iff.1 ho).1 with h1 | ⟨h1, _⟩
  · exact h1.trans ho
  · omega
theorem NewLe.other (h : NewLe B G w w') {k : Nat} {c : Array Value} {t : TypeId} (ht : t ≠ vT) (ho : w.heap[k]? = some (.cells c t (0, 0))) : w'.heap[k]? = some (.cells c t (0, 0)) := by
  rcases h.blk k (Array.getElem?_eq_some_iff.1 ho).1 with h1 | ⟨_, ⟨x, s, y, z, u, h5⟩, _⟩
  · exact h1.trans ho
  · rw [ho] at h5
    injection h5 with h5
    injection h5 with _ h5 _
    exact absurd h5 ht
theorem NewLe.below {A : Nat} {w0 : World} (h : NewLe B G w w') (hb : Below A w0 w) (hA : A ≤ B) (hs : A ≤ w.heap.size) : Below A w0 w' :=
  ⟨h.os.trans hb.os, h.tape.trans hb.tape, h.out.trans hb.output, Nat.le_trans hb.size h.size, fun k hk => by
    rcases h.blk k (by omega) with h1 | ⟨h1, _⟩
    · exact h1.trans (hb.block k hk)
    · omega⟩
theorem gB.new {x : Value} {n : Nat} {cs : List Value} (h : gB B w x n cs) (hf : 0 < n → ∃ s, cs[0]? = some (.string s)) (hle : NewLe B G w w') : gB B w' x n cs := by
  refine ⟨?_, h.ok⟩
  obtain ⟨A, c, rfl, h1, h2, h3, h4⟩ := h.r.ex
  refine ⟨A, c, rfl, h1, h2, h3, fun h0 => ?_⟩
  obtain ⟨ad, rfl, hc⟩ := h4 h0
  have hsp := h3 ad rfl
  refine ⟨ad, rfl, fun j u hu => ?_⟩
  have h5 := hc j u hu
  have hb : (ad.add j).block = ad.block := by unfold Addr.add; split <;> rfl
  have hlt := World.block_lt_of_cell? w _ h5
  rcases hle.blk _ hlt with h6 | ⟨h6, ⟨a, s, y, z, v, h7⟩, _⟩
  · rw [World.cell?_of_block h6]
    exact h5
  · exfalso
    rw [hb] at h6 h7
    rcases h.ok h0 ad _ _ rfl with h8 | h8
    · omega
    · obtain ⟨s0, hs0⟩ := hf h0
      have h9 := hc 0 _ hs0
      have h10 : (ad.add 0) = ad := by unfold Addr.add; split <;> simp_all
      rw [h10] at h9
      unfold World.cell? at h9
      rw [h7, hsp, h8] at h9
      simp at h9
theorem IsVb.new {cs : Array Value} {v : VV} (h : IsVb B w cs v) (hle : NewLe B G w w') : IsVb B w' cs v := by
  obtain ⟨x, y, z, e, h1, h2, h3⟩ := h.ex
  refine ⟨x, y, z, e, h1.new (fun h0 => ?_) hle, h2.new (fun h0 => ?_) hle, h3.new (fun h0 => ?_) hle⟩
  · exact ⟨_, scs_at v.l 0 _ (List.getElem?_eq_getElem h0)⟩
  · have := (pcs_at v.h 0 _ (List.getElem?_eq_getElem h0)).1
    exact ⟨_, this⟩
  · have := (mcs_at v.z 0 _ (List.getElem?_eq_getElem h0)).1
    exact ⟨_, this⟩
end
/-- the value that a filled cell holds -/
def Gv (B : Nat) (cs : Array Value) (v' : VV) (same : Prop) (p : Nat) (w : World) : Prop := ∃ cs', w.heap[p]? = some (.cells cs' vT (0, 0)) ∧ IsVb B w cs' v' ∧ (same → cs' = cs)
theorem Gv_bel (B : Nat) (cs : Array Value) (v' : VV) (same : Prop) : ∀ p w w', Gv B cs v' same p w → Below w.heap.size w w' → Gv B cs v' same p w' := fun p w w' ⟨c, h1, h2, h3⟩ hb => ⟨c, (hb.block _ (Array.getElem?_eq_some_iff.1 h1).1).trans h1, h2.below hb, h3⟩
theorem Gv.vlk {B : Nat} {cs : Array Value} {v' : VV} {same : Prop} {p : Nat} {w : World} (h : Gv B cs v' same p w) : Vlk w p := by
  obtain ⟨c, h1, h2, _⟩ := h
  obtain ⟨x, y, z, rfl, _⟩ := h2.ex
  exact ⟨_, _, _, _, _, h1⟩
abbrev NO (B : Nat) (cs : Array Value) (v' : VV) (same : Prop) : RelG.Ord := NewG B (Gv B cs v' same) (Gv_bel B cs v' same)
/-- a reply of two bytes at least -/
def rpP (r : List Int) (x : Value) (w : World) : Prop := 2 ≤ r.length ∧ ∃ A n c base, x = .slice A n c ∧ Fresh .u8 base w A n c r
theorem rpP_new {B : Nat} {G : Nat → World → Prop} {w w' : World} {r : List Int} {x : Value} (h : rpP r x w) (hle : NewLe B G w w') : rpP r x w' := by
  obtain ⟨h2, A, n, c, base, rfl, hf⟩ := h
  refine ⟨h2, A, n, c, base, rfl, ⟨hf.len, hf.le, fun hp => ?_⟩⟩
  obtain ⟨b, e, h1, hlt, hc, hs⟩ := hf.there hp
  have hbk : w'.heap[b]? = w.heap[b]? := by
    rcases hle.blk b hlt with h3 | ⟨_, ⟨a, s, y, z, v, h7⟩, _⟩
    · exact h3
    · exfalso
      have h9 := hc 1 (by have := hf.len; omega)
      unfold World.cell? at h9
      rw [h7] at h9
      simp at h9
  refine ⟨b, e, h1, Nat.lt_of_lt_of_le hlt hle.size, fun j hj => ?_, fun j hj => ?_⟩
  · rw [← hc j hj]; unfold World.cell?; rw [hbk]
  · have := hs j hj
    unfold World.cell? World.frozen? at this ⊢
    rw [hbk]
    exact this
/-- what do yields -/
def dbP (B : Nat) (cs : Array Value) (v' : VV) (r : List Int) (same : Prop) (x : Value) (w : World) : Prop := ∃ cs' y, x = .tuple #[.agg cs', y] ∧ IsVb B w cs' v' ∧ (same → cs' = cs) ∧ rpP r y w
def dbR (B : Nat) (cs : Array Value) (v' : VV) (r : List Int) (same : Prop) (u : Tmp) : RelG.Rl (NO B cs v' same) := RelG.of _ u (dbP B cs v' r same) (fun x w w' ⟨c, y, h1, h2, h3, h4⟩ hle => ⟨c, y, h1, h2.new hle, h3, rpP_new h4 hle⟩)
def vbP (B : Nat) (cs : Array Value) (v' : VV) (same : Prop) (x : Value) (w : World) : Prop := ∃ cs', x = .agg cs' ∧ IsVb B w cs' v' ∧ (same → cs' = cs)
def vbR (B : Nat) (cs : Array Value) (v' : VV) (same : Prop) (u : Tmp) : RelG.Rl (NO B cs v' same) := RelG.of _ u (vbP B cs v' same) (fun x w w' ⟨c, h1, h2, h3⟩ hle => ⟨c, h1, h2.new hle, h3⟩)
def rpR (B : Nat) (cs : Array Value) (v' : VV) (r : List Int) (same : Prop) (u : Tmp) : RelG.Rl (NO B cs v' same) := RelG.of _ u (rpP r) (fun x w w' h hle => rpP_new h hle)
/-- a new cell of a value; and filled -/
def ptV (B : Nat) (x : Value) (w : World) : Prop := ∃ p, x = .pointer (some ⟨p, 0, none⟩) ∧ B ≤ p ∧ Vlk w p
def ptR' (B : Nat) (cs : Array Value) (v' : VV) (same : Prop) (u : Tmp) : RelG.Rl (NO B cs v' same) := RelG.of _ u (ptV B) (fun x w w' ⟨p, h1, h2, h3⟩ hle => ⟨p, h1, h2, by
  obtain ⟨a, s, y, z, v, h7⟩ := h3
  rcases hle.blk p (Array.getElem?_eq_some_iff.1 h7).1 with h4 | ⟨_, _, h4⟩
  · exact ⟨a, s, y, z, v, h4.trans h7⟩
  · exact h4.vlk⟩)
def flV (B : Nat) (cs : Array Value) (v' : VV) (same : Prop) (x : Value) (w : World) : Prop := ∃ p, x = .pointer (some ⟨p, 0, none⟩) ∧ B ≤ p ∧ Gv B cs v' same p w
def flR' (B : Nat) (cs : Array Value) (v' : VV) (same : Prop) (u : Tmp) : RelG.Rl (NO B cs v' same) := RelG.of _ u (flV B cs v' same) (fun x w w' ⟨p, h1, h2, h3⟩ hle => ⟨p, h1, h2, hle.good p h2 h3⟩)
theorem fill_le {B : Nat} {cs cs' : Array Value} {v' : VV} {same : Prop} {w : World} {p : Nat} (hB : B ≤ p) (hp : Vlk w p) (hv : IsVb B w cs' v') (hs : same → cs' = cs) : (NO B cs v' same).le w (w.setRow p cs') ∧ Gv B cs v' same p (w.setRow p cs') := by
  obtain ⟨a, s, y, z, v, h7⟩ := hp
  have hset := setRow_heap w p _ cs' vT (0, 0) h7
  have hpure : NewLe B (fun _ _ => True) w (w.setRow p cs') := ⟨rfl, rfl, rfl, by simp [World.setRow], fun k hk => by
    by_cases h : k = p
    · subst h; exact .inr ⟨hB, ⟨a, s, y, z, v, h7⟩, trivial⟩
    · exact .inl (setRow_other _ _ _ _ h), fun _ _ _ => trivial⟩
  have hG : Gv B cs v' same p (w.setRow p cs') := ⟨cs', hset, hv.new hpure, hs⟩
  refine ⟨⟨rfl, rfl, rfl, by simp [World.setRow], fun k hk => ?_, fun q hq hg => ?_⟩, hG⟩
  · by_cases h : k = p
    · subst h; exact .inr ⟨hB, ⟨a, s, y, z, v, h7⟩, hG⟩
    · exact .inl (setRow_other _ _ _ _ h)
  · by_cases h : q = p
    · subst h; exact hG
    · obtain ⟨c, h1, h2, h3⟩ := hg
      exact ⟨c, (setRow_other _ _ _ _ h).trans h1, h2.new hpure, h3⟩
end Go.Proofs.Tryz.Vl
/- A request of a command of this layer, of any words: do. -/
namespace Go.Proofs.Tryz.Vl
open Go Go.RowKit Go.Proofs.Mem Go.Proofs.App
open Go.Proofs.YtcdcbkopapedhaaGreatDoorW.PrintWords Go.Proofs.YtcdcbkopapedhaaGreatDoorW.PrintLast
open Go.Proofs.Rel (dsts depsOf)
open Go.Proofs.Tryz.Ln (lineL)
set_option linter.unusedVariables false
set_option linter.unusedSimpArgs false
section
variable {P : Program} {Q : Exit → Act → World → Prop} {l : List Oper} {G : RelG.Ord} {rs : List (RelG.Rl G)} {a : Act} {n : Nat} {w0 : World}
theorem step_callV {i : Nat} {o : Oper} {f : FuncId} {fn : Func} {xs : Array Operand} {ts : Array TypeId} (hg : o.guard = none) (hf : P.funcs[f]? = some fn) (hname : (fn.name == "runtime.NumGoroutine") = false) (hb : fn.body.isSome = true)
    (hop : o.op = .call { callee := .value (.func f), args := xs, argTypes := ts })
    (h : ∀ b w, RelG.Dep l rs a w0 o b w → ∃ args, xs.map b.eval = args ∧ Calls P f args w fun e w' => ∃ x, e = .returned x ∧ (RelG.at_ rs i).r (RelG.get (b.put o.dst x)) w' ∧ G.le w w') : RelG.Step P l Q rs a w0 i o := fun b w D K hK => by
  obtain ⟨args, h1, h2⟩ := h b w D
  exact goes_ hf hname hb args (by simp [Region.wanted, hg]) rfl hop h1 (h2.mono fun e w' ⟨x, he, hr, hb⟩ => ⟨x, he, hK x w' hr hb⟩)
end
theorem run_exV0 {P : Program} {b : Act} {w : World} {o : Oper} {t : Nat} {x y : Value} (h : b.eval (.tmp t) = .tuple #[x, y]) (ho : o.op = .extract (.tmp t) 0 := by rfl) : (execOp b.eval o).run P w = .ok (.value x) w := by
  unfold execOp
  simp only [ho, h]
  simp [go_sem]
theorem run_exV1 {P : Program} {b : Act} {w : World} {o : Oper} {t : Nat} {x y : Value} (h : b.eval (.tmp t) = .tuple #[x, y]) (ho : o.op = .extract (.tmp t) 1 := by rfl) : (execOp b.eval o).run P w = .ok (.value y) w := by
  unfold execOp
  simp only [ho, h]
  simp [go_sem]
def dpR (g B : Nat) (cs : Array Value) (v' : VV) (r : List Int) (same : Prop) (u : Tmp) : RelG.Rl (FldO g (Pv g B cs v' same) (Pv_bel g B cs v' same)) := RelG.of _ u (dP g B cs v' r same) (fun x w w' ⟨c, y, h1, h2, h3, h4⟩ hle => ⟨c, y, h1, h2.kp hle.1, h3, frP_kp h4 hle.1⟩)
def vpR (g B : Nat) (cs : Array Value) (v' : VV) (same : Prop) (u : Tmp) : RelG.Rl (FldO g (Pv g B cs v' same) (Pv_bel g B cs v' same)) := RelG.of _ u (vP g B cs v' same) (fun x w w' ⟨c, h1, h2, h3⟩ hle => ⟨c, h1, h2.kp hle.1, h3⟩)
def fpR (g B : Nat) (cs : Array Value) (v' : VV) (r : List Int) (same : Prop) (u : Tmp) : RelG.Rl (FldO g (Pv g B cs v' same) (Pv_bel g B cs v' same)) := RelG.of _ u (RelG.frP g r) (fun x w w' h hle => frP_kp h hle.1)
/-- a row of texts of one's own, behind block g -/
def txP (g : Nat) (M : List BA) (x : Value) (w : World) : Prop := ∃ base, g < base ∧ w.ownsRow base 9 1 x M.length (encs Value.string M)
def txR (g B : Nat) (cs : Array Value) (v' : VV) (same : Prop) (M : List BA) (u : Tmp) : RelG.Rl (FldO g (Pv g B cs v' same) (Pv_bel g B cs v' same)) := RelG.of _ u (txP g M) (fun x w w' ⟨base, h1, h2⟩ hle => ⟨base, h1, Kp.own h2 h1 hle.1⟩)
set_option maxRecDepth 100000 in
set_option maxHeartbeats 8000000 in
theorem do_any (B : Nat) (w : World) (cs : Array Value) (v v' : VV) (r : List Int) (same : Prop) (id : Int) (A : Option Addr) (n c : Nat) (M : List BA) (hcs : IsVb B w cs v)
    (hfit : ∀ w', Below w.heap.size w w' → Calls Tryz.prog 14 #[.int .i64 id, .slice A n c] w' fun e w'' => ∃ x, e = .returned x ∧ w''.ownsRow w'.heap.size 9 1 x M.length (encs Value.string M) ∧ Below w'.heap.size w' w'')
    (hdo : ∀ w' x, Below w.heap.size w w' → w.heap.size + 1 < w'.heap.size → gR w' x M.length (scs M) → Calls Tryz.prog 9 #[.agg cs, x] w' (DoR (w.heap.size + 1) B cs v' r same w')) :
    Calls Tryz.prog 6 #[.agg cs, .int .i64 id, .slice A n c] w (DoW B cs v' r same w) := by
  obtain ⟨w2, hw2⟩ : ∃ w2 : World, w2 = (w.alloc (.cells cs vT)).alloc (.cells #[.int .u8 0, .string ⟨#[]⟩, nlv, nlv, nlv] vT) := ⟨_, rfl⟩
  have hb2 : Below w.heap.size w w2 := by rw [hw2]; exact (below_alloc (Below.refl _ _) _).alloc (by simp) _
  have hs2 : w2.heap.size = w.heap.size + 2 := by rw [hw2]; simp
  have hx2 : w2.heap[w.heap.size]? = some (.cells cs vT (0, 0)) := by rw [hw2]; exact heap_alloc2_old w _ _
  have hz2 : w2.heap[w.heap.size + 1]? = some (.cells #[.int .u8 0, .string ⟨#[]⟩, nlv, nlv, nlv] vT (0, 0)) := by
    rw [hw2]
    have h := heap_alloc_last (w.alloc (.cells cs vT)) (.cells #[.int .u8 0, .string ⟨#[]⟩, nlv, nlv, nlv] vT)
    simpa using h
  have hsz5 := veil hcs.v.siz
  have hone := veil hcs.v.one
  have hB2 := veil hb2
  have hX2 := veil hx2
  have hZ2 := veil hz2
  have hw2' := veil hw2
  have hfit' := veil hfit
  have hdo' := veil hdo
  have hgl : w.heap.size + 1 < w2.heap.size := by omega
  have hl0 : w.heap.size < w2.heap.size := by omega
  clear hb2 hs2 hx2 hz2 hw2 hfit hdo hcs
  go_enter Tryz.func6, Tryz.ntmps6
  go_wp2_with fail
  rw [← hw2'.out]
  refine RelG.wp_region_relS (G := FldO (w.heap.size + 1) (Pv (w.heap.size + 1) B cs v' same) (Pv_bel _ _ _ _ _)) (G1 := BelV) (n := 15) (bel_fld _ _ _) 7 _ [6, 8] [RelG.is _ 8 (.agg cs), RelG.is _ 9 (.int .i64 id), RelG.is _ 10 (.slice A n c), txR _ _ _ _ _ M 11, dpR _ _ _ _ r _ 12, vpR _ _ _ _ _ 13, fpR _ _ _ _ r _ 14, RelG.wo _ (Pv (w.heap.size + 1) B cs v' same) (fun W W' h hle => hle.2 h), fpR _ _ _ _ r _ 7] [[8], [9], [10], [11], [12], [13], [14], [], [7]] (by kernel_rfl) rfl rfl (by kernel_rfl) rfl (by kernel_rfl) ?_ ?_ ?_ ?_
  · refine RelG.stepsS_cons (RelG.step_load (n := 15) (t := 3) (u := 8) (b := w.heap.size) (t' := vT) (cs := cs) (fr := (0, 0)) rfl rfl rfl rfl (by decide) (by kernel_rfl) (by kernel_rfl) Tryz.underlying26 rfl (info5s hsz5.out) (fun w' hle => (Below.block hle _ hl0).trans hX2.out) rfl) ?_
    refine RelG.stepsS_cons (RelG.step_was (n := 15) (t := 1) (u := 9) rfl rfl rfl rfl (by decide) (by kernel_rfl) (by kernel_rfl) rfl) ?_
    refine RelG.stepsS_cons (RelG.step_was (n := 15) (t := 2) (u := 10) rfl rfl rfl rfl (by decide) (by kernel_rfl) (by kernel_rfl) rfl) ?_
    refine RelG.stepsS_cons (step_callV rfl Tryz.func14 (by kernel_rfl) rfl rfl (fun b w' D => by
        have e1 : b.eval (.tmp 9) = .int .i64 id := D.is 1 rfl rfl
        have e2 : b.eval (.tmp 10) = .slice A n c := D.is 2 rfl rfl
        refine ⟨#[.int .i64 id, .slice A n c], by simp only [List.map_toArray, List.map_cons, List.map_nil, e1, e2], (hfit'.out w' (two_below hB2.out D.bel)).mono fun e w'' ⟨x, he, ho, hb⟩ => ⟨x, he, ?_, hb⟩⟩
        show txP _ _ (RelG.get (b.put (some 11) _) 11) w''
        rw [RelG.get_put b 11 _ (by rw [D.siz]; exact (by decide : 11 < 15))]
        exact ⟨_, by have := Below.size D.bel; omega, ho⟩)) ?_
    refine RelG.stepsS_cons (step_callV rfl Tryz.func9 (by kernel_rfl) rfl rfl (fun b w' D => by
        obtain ⟨base, h1, h2⟩ := D.rel 3 rfl
        have e1 : b.eval (.tmp 8) = .agg cs := D.is 0 rfl rfl
        obtain ⟨x, hx⟩ : ∃ x, b.eval (.tmp 11) = x := ⟨_, rfl⟩
        have h2' : w'.ownsRow base 9 1 x M.length (encs Value.string M) := hx ▸ h2
        have hgt : w.heap.size + 1 < w'.heap.size := by have := Below.size D.bel; omega
        refine ⟨#[.agg cs, x], by simp only [List.map_toArray, List.map_cons, List.map_nil, e1, hx], (hdo'.out w' x (two_below hB2.out D.bel) hgt (gR_own (by rw [scs_encs]; exact h2'))).mono fun e w'' ⟨cs', A', n', c', he, hf, hv, hs, hb⟩ => ⟨_, he, ?_, hb⟩⟩
        show dP _ _ _ _ _ _ (RelG.get (b.put (some 12) _) 12) w''
        rw [RelG.get_put b 12 _ (by rw [D.siz]; exact (by decide : 12 < 15))]
        exact ⟨cs', _, rfl, hv, hs, ⟨A', n', c', _, rfl, hf, hgt⟩⟩)) ?_
    refine RelG.stepsS_cons (RelG.step_val rfl fun b w' D => by
        obtain ⟨cs', y, h1, h2, h3, h4⟩ := D.rel 4 rfl
        have e1 : b.eval (.tmp 12) = .tuple #[.agg cs', y] := h1
        exact ⟨.agg cs', run_exV0 e1, by
          show vP _ _ _ _ _ (RelG.get (b.put (some 13) _) 13) w'
          rw [RelG.get_put b 13 _ (by rw [D.siz]; exact (by decide : 13 < 15))]
          exact ⟨cs', rfl, h2, h3⟩⟩) ?_
    refine RelG.stepsS_cons (RelG.step_val rfl fun b w' D => by
        obtain ⟨cs', y, h1, h2, h3, h4⟩ := D.rel 4 rfl
        have e1 : b.eval (.tmp 12) = .tuple #[.agg cs', y] := h1
        exact ⟨y, run_exV1 e1, by
          show RelG.frP _ _ (RelG.get (b.put (some 14) _) 14) w'
          rw [RelG.get_put b 14 _ (by rw [D.siz]; exact (by decide : 14 < 15))]
          exact h4⟩) ?_
    refine RelG.stepsS_skip ?_
    refine RelG.stepsS_cons (RelG.step_pass_of (n := 15) (j := 6) (t := 14) (u := 7) (p := RelG.frP (w.heap.size + 1) r) (hp := fun x w w' h hle => frP_kp h (Kp.of hle)) rfl rfl (.inr rfl) rfl (by decide) rfl rfl rfl) ?_
    exact trivial
  · exact RelG.storeS_skip rfl rfl fun b w' D => by
      obtain ⟨cs', h1, h2, h3⟩ := D.rel 5 rfl
      have e2 : b.eval (.tmp 13) = .agg cs' := h1
      have e1 : b.eval (.tmp 6) = .pointer (some ⟨w.heap.size + 1, 0, none⟩) := (D.was 6 (by kernel_rfl)).trans (by kernel_rfl)
      have hgo := (Below.block D.bel _ hgl).trans hZ2.out
      have hP : Pv (w.heap.size + 1) B cs v' same (w'.setRow (w.heap.size + 1) cs') := ⟨cs', setRow_heap w' _ _ cs' vT (0, 0) hgo, h2.kp (setRow_kp _), h3⟩
      refine ⟨w'.setRow (w.heap.size + 1) cs', ?_, hP, ⟨setRow_kp _, fun _ => hP⟩⟩
      unfold execOp
      simp only [e1, e2, Instr.storeAt, Instr.sureAddr, Sem.run_bind, Sem.run_pure, Result.andThen_ok, run_storeVar_row (P := Tryz.prog) w' (w.heap.size + 1) vT vT #[.int .u8 0, .string ⟨#[]⟩, nlv, nlv, nlv] cs' hgo (info5s h2.v.siz) (by rw [h2.v.siz]; rfl) h2.v.one]
  · intro i hi oo ho
    have hi2 : i = 6 ∨ i = 8 := by simpa using hi
    rcases hi2 with rfl | rfl
    rotate_left
    · obtain rfl := Option.some.inj ho
      exact RelG.pureS_val rfl fun b w' hz hn => by
        have h := hn 6 (List.contains_iff_mem.1 (by kernel_rfl))
        refine ⟨b.eval (.tmp 14), BigFrame.run_assign _ rfl w', ?_⟩
        show RelG.frP _ _ (RelG.get (b.put (some 7) _) 7) w'
        rw [RelG.get_put b 7 _ (by rw [hz]; exact (by decide : 7 < 15))]
        exact h
    obtain rfl := Option.some.inj ho
    exact RelG.pureS_val rfl fun b w' hz hn => by
      obtain ⟨cs', y, h1, h2, h3, h4⟩ := hn 4 (List.contains_iff_mem.1 (by kernel_rfl))
      have e1 : b.eval (.tmp 12) = .tuple #[.agg cs', y] := h1
      exact ⟨y, run_exV1 e1, by
        show RelG.frP _ _ (RelG.get (b.put (some 14) _) 14) w'
        rw [RelG.get_put b 14 _ (by rw [hz]; exact (by decide : 14 < 15))]
        exact h4⟩
  intro u e w9 hg hv hle
  have hPv : Pv (w.heap.size + 1) B cs v' same w9 := hv 7 (by decide)
  obtain ⟨cs', hc1, hc2, hc3⟩ := hPv
  have hfr : RelG.frP (w.heap.size + 1) r (e 7) w9 := hv 8 (by decide)
  have k7 : e 7 = u 8 := hg 8 7 rfl
  rw [k7] at hfr
  have hkp : Kp (w.heap.size + 1) w2 w9 := hle.1
  simp only [Rel.fill, Act.put, List.setIfInBounds_toArray, List.set_cons_zero, List.set_cons_succ]
  have hbf := veil (Kp.below hB2.out hkp (by omega) (by omega))
  have hc1' := veil hc1
  have hc2' := veil hc2.b
  have hc3' := veil hc3
  have hfr' := veil hfr
  clear hg hv hle hc1 hc2 hc3 hfr k7 hkp
  go_wp2_with fail
  obtain ⟨A', n', c', base, ex, hf, hgb⟩ := hfr'.out
  rw [ex]
  refine bodyPost_ret (v := .tuple #[.agg cs', .slice A' n' c']) ?_ rfl ⟨cs', A', n', c', rfl, ⟨hf.len, hf.le, fun hp => ?_⟩, hc2'.out, hc3'.out, hbf.out⟩
  · exact RelG.results_cell_tmp (p := 6) (q := 7) (ty := vT) Tryz.results6 _ _ (w.heap.size + 1) vT cs' (0, 0) _ _ rfl rfl hc1'.out Tryz.underlying26 rfl (info5s hc2'.out.v.siz)
  · obtain ⟨b, e, h1, h2, h3, h4⟩ := hf.there hp
    exact ⟨b, e, by omega, h2, h3, h4⟩
end Go.Proofs.Tryz.Vl
