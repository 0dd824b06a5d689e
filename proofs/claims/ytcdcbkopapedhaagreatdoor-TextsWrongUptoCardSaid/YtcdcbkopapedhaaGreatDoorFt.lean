import Derived.Test.YtcdcbkopapedhaaGreatDoorPu
import Derived.Test.YtcdcbkopapedhaaGreatDoorRelN
import Derived.Test.YtcdcbkopapedhaaGreatDoorWMore
/- All stays but one block; a region that draws its order and whose last operation stores one cell of that block. -/
namespace Go.Proofs.Tryz.Vl
open Go Go.RowKit Go.Proofs.Mem Go.Proofs.App
open Go.Proofs.YtcdcbkopapedhaaGreatDoorW.PrintWords Go.Proofs.YtcdcbkopapedhaaGreatDoorW.PrintLast
open Go.Proofs.Rel (dsts depsOf)
set_option linter.unusedVariables false
set_option linter.unusedSimpArgs false
/-- all that was stays, but block g -/
structure Kp (g : Nat) (w w' : World) : Prop where
  os : w'.os = w.os
  tape : w'.tape = w.tape
  out : w'.output = w.output
  size : w.heap.size ≤ w'.heap.size
  blk : ∀ k, k ≠ g → k < w.heap.size → w'.heap[k]? = w.heap[k]?
section
variable {g : Nat} {w w1 w2 : World}
theorem Kp.refl (g : Nat) (w : World) : Kp g w w := ⟨rfl, rfl, rfl, Nat.le_refl _, fun _ _ _ => rfl⟩
theorem Kp.trans (h : Kp g w w1) (k : Kp g w1 w2) : Kp g w w2 :=
  ⟨k.os.trans h.os, k.tape.trans h.tape, k.out.trans h.out, Nat.le_trans h.size k.size, fun i hi hl => (k.blk i hi (Nat.lt_of_lt_of_le hl h.size)).trans (h.blk i hi hl)⟩
theorem Kp.of (h : Below w.heap.size w w1) : Kp g w w1 := ⟨h.os, h.tape, h.output, h.size, fun k _ hl => h.block k hl⟩
theorem Kp.below {B : Nat} (hb : Below B w w1) (h : Kp g w1 w2) (hg : B ≤ g) (hB : B ≤ w1.heap.size) : Below B w w2 :=
  ⟨h.os.trans hb.os, h.tape.trans hb.tape, h.out.trans hb.output, Nat.le_trans hb.size h.size, fun k hk => (h.blk k (by omega) (by omega)).trans (hb.block k hk)⟩
theorem Kp.own {base : Nat} {e : TypeId} {k n : Nat} {v : Value} {cs : List Value} (h : w.ownsRow base e k v n cs) (hb : g < base) (hk : Kp g w w1) : w1.ownsRow base e k v n cs :=
  own_move h (fun j hj => hk.blk j (by have := own_base h j hj; omega) (own_lt h j hj))
theorem setCell_kp (i : Nat) (v : Value) : Kp g w (w.setCell ⟨g, i, none⟩ v) :=
  ⟨rfl, rfl, rfl, by simp [World.setCell], fun k hk _ => by
    unfold World.setCell
    simp only [Array.getElem?_modify]
    rw [if_neg (fun e => hk e.symm)]⟩
theorem setCell_heap (i : Nat) (v : Value) (cs : Array Value) (t : TypeId) (hg : w.heap[g]? = some (.cells cs t (0, 0))) : (w.setCell ⟨g, i, none⟩ v).heap[g]? = some (.cells (cs.setIfInBounds i v) t (0, 0)) := by
  unfold World.setCell
  simp only [Array.getElem?_modify]
  simp [hg]
end
/-- what holds of the block is told by P -/
def FldO (g : Nat) (P : World → Prop) (hP : ∀ w w', P w → Below w.heap.size w w' → P w') : RelG.Ord where
  le w w' := Kp g w w' ∧ (P w → P w')
  refl w := ⟨Kp.refl g w, fun h => h⟩
  trans {a b c} h k := ⟨h.1.trans k.1, fun hz => k.2 (h.2 hz)⟩
  bel {w w'} h := ⟨Kp.of h, fun hp => hP _ _ hp h⟩
/-- nothing of what was turns -/
def BelV : RelG.Ord where
  le w w' := Below w.heap.size w w'
  refl w := Below.refl _ _
  trans h k := two_below h k
  bel h := h
end Go.Proofs.Tryz.Vl
/- ref09.Fit. -/
namespace Go.Proofs.Tryz.Vl
open Go Go.RowKit Go.Proofs.Mem Go.Proofs.App
open Go.Proofs.YtcdcbkopapedhaaGreatDoorW.PrintWords Go.Proofs.YtcdcbkopapedhaaGreatDoorW.PrintLast Go.Proofs.YtcdcbkopapedhaaGreatDoorW.PrintMore
open Go.Proofs.Rel (dsts depsOf)
set_option linter.unusedVariables false
set_option linter.unusedSimpArgs false
def mnI (x y : Int) : Int := if y < x then y else x
theorem vmin2 (k k' : IntKind) (x y : Int) : Builtin.min2 (.int k x) (.int k' y) = pure (.int k (mnI x y)) := by simp only [Builtin.min2, mnI]
attribute [local go_sem] vmin2 min_two
theorem mnv (n : Nat) : mnI (n : Int) 8 = ((min n 8 : Nat) : Int) := by unfold mnI; split <;> omega
abbrev vT : TypeId := 26
abbrev nlv : Value := .slice none 0 0
theorem addV (b o i : Nat) : (⟨b, o, none⟩ : Addr).add i = ⟨b, o + i, none⟩ := by unfold Addr.add; split <;> simp_all
/-- the first m of a row of texts -/
theorem cutV (A : Option Addr) (n c m : Nat) (hm : m ≤ n) (hc : n ≤ c) : ∀ W : World, (Instr.slice 22 (.slice A n c) none (some (.int .i64 m)) none).run Tryz.prog W = .ok (.slice A m c) W := by
  obtain ⟨i0, hi, hzz⟩ := Option.map_eq_some_iff.1 infoT
  simp only [Prod.mk.injEq] at hzz
  obtain ⟨_, hz1, _⟩ := hzz
  have hu : Tryz.prog.underlying 22 = some (.slice 9) := Tryz.underlying22
  have hel : Tryz.prog.elem 22 = 9 := by simp [Program.elem, hu]
  intro W
  have hu2 : Tryz.prog.underlying 22 = some (.slice (Tryz.prog.elem 22)) := by rw [hel]; exact hu
  rw [run_slice_h W 22 A n c hu2 .i64 m (by omega) (by omega), hel]
  have hA : (if c = 0 then A else A.map (·.add (0 * 1))) = A := by
    cases A with
    | none => simp
    | some ad => simp [Addr.add]
  simp [sizeOf, typeInfo, hi, hz1, sliced, Result.andThen, hA]
theorem three (w : World) (c1 c2 c3 : Array Value) (w3 : World) (h : w3 = ((w.alloc (.cells c1 vT)).alloc (.cells c2 vT)).alloc (.cells c3 vT)) :
    w3.heap[w.heap.size]? = some (.cells c1 vT (0, 0)) ∧ w3.heap[w.heap.size + 1]? = some (.cells c2 vT (0, 0)) ∧ w3.heap[w.heap.size + 1 + 1]? = some (.cells c3 vT (0, 0)) ∧ w3.heap.size = w.heap.size + 3 ∧ Below w.heap.size w w3 := by
  subst h
  refine ⟨?_, ?_, ?_, by simp, ((below_alloc (Below.refl _ _) _).alloc (by simp) _).alloc (by simp; omega) _⟩
  · rw [(below_alloc (Below.refl _ _) _).block _ (by simp; omega), (below_alloc (Below.refl _ _) _).block _ (by simp)]
    exact heap_alloc_new w _
  · rw [(below_alloc (Below.refl _ _) _).block _ (by simp)]
    have := heap_alloc_last (w.alloc (.cells c1 vT)) (.cells c2 vT)
    simpa using this
  · have := heap_alloc_last ((w.alloc (.cells c1 vT)).alloc (.cells c2 vT)) (.cells c3 vT)
    simpa using this
theorem take_mn {α : Type} (l : List α) (n m : Nat) (h : l.length = n) (hm : min n 8 = m) : l.take m = l.take 8 := by
  subst h
  subst hm
  rcases Nat.le_total l.length 8 with h | h
  · rw [Nat.min_eq_left h, List.take_of_length_le (Nat.le_refl _), List.take_of_length_le h]
  · rw [Nat.min_eq_right h]
/-- one after the other, put -/
def putAll {α : Type} (f : α → List α → List α) (l : List α) : List α := l.foldl (fun o y => f y o) []
theorem putAll_succ {α : Type} (f : α → List α → List α) (l : List α) (q : Nat) (y : α) (h : l[q]? = some y) : putAll f (l.take (q + 1)) = f y (putAll f (l.take q)) := by
  unfold putAll
  rw [List.take_add_one, h, List.foldl_append]
  rfl
theorem putAll_len {α : Type} (f : α → List α → List α) (hf : ∀ x l, (f x l).length ≤ 2 * l.length + 1) (l : List α) (hl : l.length ≤ 8) : (putAll f l).length ≤ 1000 := by
  have h : ∀ (l : List α) (o : List α), (l.foldl (fun o y => f y o) o).length + 1 ≤ 2 ^ l.length * (o.length + 1) := by
    intro l
    induction l with
    | nil => intro o; simp
    | cons y r ih =>
      intro o
      have h1 := ih (f y o)
      have h2 := hf y o
      simp only [List.foldl_cons, List.length_cons, Nat.pow_succ]
      refine Nat.le_trans h1 ?_
      rw [Nat.mul_assoc]
      exact Nat.mul_le_mul_left _ (by omega)
  have h1 := h l []
  have h2 : 2 ^ l.length ≤ 2 ^ 8 := Nat.pow_le_pow_right (by decide) hl
  unfold putAll
  simp only [List.length_nil] at h1
  omega
theorem own_slice {w : World} {base : Nat} {e : TypeId} {k n : Nat} {v : Value} {cs : List Value} (h : w.ownsRow base e k v n cs) : ∃ A n c, v = .slice A n c := by
  rcases h.2 with ⟨rfl, _⟩ | ⟨g, cap, cur, rfl, _⟩
  · exact ⟨_, _, _, rfl⟩
  · exact ⟨_, _, _, rfl⟩
theorem own_slice_len {w : World} {base : Nat} {e : TypeId} {k n m c : Nat} {A : Option Addr} {cs : List Value} (h : w.ownsRow base e k (.slice A m c) n cs) : m = n := by
  rcases h.2 with ⟨h1, h2⟩ | ⟨g, cap, cur, h1, _⟩
  · injection h1 with _ h1 _; omega
  · injection h1 with _ h1 _
theorem bel_fld (g : Nat) (P : World → Prop) (hP : ∀ w w', P w → Below w.heap.size w w' → P w') : ∀ w w', BelV.le w w' → (FldO g P hP).le w w' := fun w w' h => (FldO g P hP).bel h
/-- a row of one's own, behind block g -/
def ownP (g : Nat) (e : TypeId) (k n : Nat) (cs : List Value) (x : Value) (w : World) : Prop := ∃ base, g < base ∧ w.ownsRow base e k x n cs
def ownW (g : Nat) (P : World → Prop) (hP : ∀ w w', P w → Below w.heap.size w w' → P w') (u : Tmp) (e : TypeId) (k n : Nat) (cs : List Value) : RelG.Rl (FldO g P hP) :=
  RelG.of _ u (ownP g e k n cs) (fun x w w' ⟨base, h1, h2⟩ hle => ⟨base, h1, Kp.own h2 h1 hle.1⟩)
/-- block g holds cells with such a row among them -/
def Pg (g : Nat) (f : Value → Array Value) (e : TypeId) (k n : Nat) (cs : List Value) (W : World) : Prop := ∃ v, W.heap[g]? = some (.cells (f v) vT (0, 0)) ∧ W.ownsRow (g + 1) e k v n cs
theorem Pg_bel (g : Nat) (f : Value → Array Value) (e : TypeId) (k n : Nat) (cs : List Value) : ∀ W W' : World, Pg g f e k n cs W → Below W.heap.size W W' → Pg g f e k n cs W' := fun W W' ⟨v, h1, h2⟩ hb => ⟨v, (hb.block _ (Array.getElem?_eq_some_iff.1 h1).1).trans h1, own_move h2 (fun k hk => hb.block k (own_lt h2 k hk))⟩
theorem setRow_kp {w : World} {g : Nat} (cs : Array Value) : Kp g w (w.setRow g cs) :=
  ⟨rfl, rfl, rfl, by simp [World.setRow], fun k hk _ => setRow_other _ _ _ _ hk⟩
theorem info5v (a b c d e : Value) : (Tryz.prog.info? vT).map (·.size) = some (#[a, b, c, d, e] : Array Value).size := by
  show _ = some 5
  kernel_rfl
theorem one5v (k : Int) (s : BA) (A1 A2 A3 : Option Addr) (n1 n2 n3 c1 c2 c3 : Nat) : (#[.int .u8 k, .string s, .slice A1 n1 c1, .slice A2 n2 c2, .slice A3 n3 c3] : Array Value).all (·.oneCell') = true := by simp [Value.oneCell']
/-- a value, told whole -/
structure VV where
  k : Int
  s : BA
  l : List BA
  h : List PR
  z : List MK
/-- the cells of a value that is read -/
structure IsV (w : World) (cs : Array Value) (v : VV) : Prop where
  ex : ∃ xL xH xZ, cs = #[.int .u8 v.k, .string v.s, xL, xH, xZ] ∧ gR w xL v.l.length (scs v.l) ∧ gR w xH v.h.length (pcs v.h) ∧ gR w xZ v.z.length (mcs v.z)
def zeroV : VV := ⟨0, ⟨#[]⟩, [], [], []⟩
def vvSet (l : List BA) : VV := if l = [] then zeroV else ⟨4, ⟨#[]⟩, l, [], []⟩
def vvList (l : List BA) : VV := if l = [] then zeroV else ⟨2, ⟨#[]⟩, l, [], []⟩
def vvHash (l : List PR) : VV := if l = [] then zeroV else ⟨3, ⟨#[]⟩, [], l, []⟩
def vvSorted (l : List MK) : VV := if l = [] then zeroV else ⟨5, ⟨#[]⟩, [], [], l⟩
def FitP (v : VV) (w : World) (e : Ending) (w' : World) : Prop := ∃ cs, e = .returned (.agg cs) ∧ IsV w' cs v ∧ Below w.heap.size w w'
set_option maxRecDepth 100000 in
set_option maxHeartbeats 16000000 in
theorem Fit_set (k : Int) (s : BA) (A1 A2 A3 : Option Addr) (n1 n2 n3 c1 c2 c3 : Nat) (l : List BA) (w : World) (hk : 0 ≤ k ∧ k ≤ 255) (hr : k % 6 = 4) (hL : gR w (.slice A1 n1 c1) n1 (scs l)) (hl : l.length = n1) (hc1 : n1 ≤ c1) (hc2 : n2 ≤ c2) (hc3 : n3 ≤ c3) :
    Calls Tryz.prog 5 #[.agg #[.int .u8 k, .string s, .slice A1 n1 c1, .slice A2 n2 c2, .slice A3 n3 c3]] w (FitP (vvSet (putAll (putF id) (l.take 8))) w) := by
  have hkm : Int.tmod k 6 = 4 := by rw [Int.tmod_eq_emod_of_nonneg hk.1]; exact hr
  obtain ⟨m, hmm⟩ : ∃ m, min n1 8 = m := ⟨_, rfl⟩
  have hm := mnv n1
  rw [hmm] at hm
  have hm8 : m ≤ 8 := by omega
  have hmn : m ≤ n1 := by omega
  have hcut := cutV A1 n1 c1 m hmn hc1
  obtain ⟨w3, hw3⟩ : ∃ w3 : World, w3 = ((w.alloc (.cells #[.int .u8 k, .string s, .slice A1 n1 c1, .slice A2 n2 c2, .slice A3 n3 c3] vT)).alloc (.cells #[.int .u8 0, .string ⟨#[]⟩, nlv, nlv, nlv] vT)).alloc (.cells #[.int .u8 0, .string ⟨#[]⟩, nlv, nlv, nlv] vT) := ⟨_, rfl⟩
  obtain ⟨hp3, hr3, hg3, hs3, hb3⟩ := three w #[.int .u8 k, .string s, .slice A1 n1 c1, .slice A2 n2 c2, .slice A3 n3 c3] #[.int .u8 0, .string ⟨#[]⟩, nlv, nlv, nlv] #[.int .u8 0, .string ⟨#[]⟩, nlv, nlv, nlv] w3 hw3
  have hmt : Veil (l.take m = l.take 8) := veil (take_mn l _ m hl hmm)
  have hL' := veil hL
  have hl' := veil hl
  have hp3' := veil hp3
  have hr3' := veil hr3
  have hg3' := veil hg3
  have hs3' := veil hs3
  have hb3' := veil hb3
  have hw3' := veil hw3
  clear hL hp3 hr3 hg3 hs3 hb3 hw3 hmm
  go_enter Tryz.func5, Tryz.ntmps5
  go_wp2_with fail
  rw [← hw3'.out]
  go_loopw [5] (fun i wr => ∃ (q : Nat) (v : Value), q ≤ m ∧ i = .int .i64 q ∧ wr.heap[(w.heap.size + 1 + 1)]? = some (.cells #[.int .u8 0, .string ⟨#[]⟩, v, nlv, nlv] vT (0, 0)) ∧ wr.ownsRow ((w.heap.size + 1 + 1) + 1) 9 1 v (putAll (putF id) (l.take q)).length (scs (putAll (putF id) (l.take q))) ∧ Kp (w.heap.size + 1 + 1) w3 wr) (fun i _ => m - (intOf i).toNat)
  case atStart => exact ⟨0, nlv, by omega, rfl, hg3'.out, World.ownsRow_nil _ _ _ _, Kp.refl _ _⟩
  case round =>
    obtain ⟨q, v, hq, rfl, hgr, hor, hkp⟩ := hrel
    have hor' := veil hor
    have hgr' := veil hgr
    have hkp' := veil hkp
    clear hor hgr hkp
    by_cases hlt : q < m
    · have q0 : (0 : Int) ≤ q := by omega
      have qN : (q : Int) < m := by omega
      have qM : ¬ ((m : Int) ≤ q) := by omega
      have qn : (q : Int) < n1 := by omega
      have qNM : ¬ ((n1 : Int) ≤ q) := by omega
      have q8 : (q : Int) < 8 := by omega
      obtain ⟨b, o', c', e, _, _⟩ := hL'.out.there (by omega)
      injection e with e1 _ e2
      subst e1
      subst e2
      obtain ⟨y, hy⟩ : ∃ y, l[q]? = some y := ⟨_, List.getElem?_eq_getElem (by rw [hl'.out]; omega)⟩
      have hyc := scs_at l q y hy
      have hS := putAll_succ (putF id) l q y hy
      obtain ⟨L, hLd⟩ : ∃ L, putAll (putF id) (l.take q) = L := ⟨_, rfl⟩
      have hLn : L.length ≤ 1000 := by rw [← hLd]; exact putAll_len (putF id) (putF_len id) (l.take q) (by rw [List.length_take]; omega)
      rw [hLd] at hS hor'
      have hS' := veil hS
      have hbw : Below w.heap.size w wr := Kp.below hb3'.out hkp'.out (by omega) (by have := hs3'.out; omega)
      have kk := veil (show ((q : Int) + 1) = ((q + 1 : Nat) : Int) by omega)
      have hblt : b < wr.heap.size := by
        obtain ⟨_, hh⟩ := List.getElem?_eq_some_iff.1 hyc
        exact World.block_lt_of_cell? wr _ ((hL'.out.below hbw).cells (by omega) _ _ hyc)
      have cq := (hL'.out.below hbw).cells (by omega) _ _ hyc
      have hglt : (w.heap.size + 1 + 1) < wr.heap.size := (Array.getElem?_eq_some_iff.1 hgr'.out).1
      have cg := veil (show wr.cell? ⟨(w.heap.size + 1 + 1), 2, none⟩ = some v by rw [cell_of_row _ _ _ _ _ _ hgr'.out]; rfl)
      have hcall := veil (fun (w' : World) (hw' : Below wr.heap.size wr w') => Put_any v L y w' ((gR_own hor'.out).below hw') (by omega))
      clear hS hyc hLd
      obtain ⟨PG, hPG⟩ : ∃ PG, (Pg (w.heap.size + 1 + 1) (fun v => #[.int .u8 0, .string ⟨#[]⟩, v, nlv, nlv]) 9 1 (putF id y L).length (scs (putF id y L))) = PG := ⟨_, rfl⟩
      have hP0 : ∀ W W' : World, PG W → Below W.heap.size W W' → PG W' := hPG ▸ Pg_bel _ _ _ _ _ _
      go_wp2_with fail
      refine RelG.wp_region_relS (G := FldO (w.heap.size + 1 + 1) PG hP0) (G1 := BelV) (n := 104) (bel_fld _ _ _) 8 _ [] [RelG.is _ 44 (.pointer (some ⟨(w.heap.size + 1 + 1), 2, none⟩)), RelG.is _ 45 v, RelG.is _ 46 (.slice (some ⟨b, o', none⟩) m c1), RelG.is _ 47 (.int .i64 q), RelG.is _ 48 (.pointer (some ⟨b, o' + q, none⟩)), RelG.is _ 49 (.string y), ownW (w.heap.size + 1 + 1) PG hP0 50 9 1 (putF id y L).length (scs (putF id y L)), RelG.is _ 51 (.pointer (some ⟨(w.heap.size + 1 + 1), 2, none⟩)), RelG.wo _ PG (fun W W' h hle => hle.2 h)] [[44], [45], [46], [47], [48], [49], [50], [51], []] (by kernel_rfl) rfl rfl (by kernel_rfl) rfl (by kernel_rfl) ?_ ?_ (fun i hi => by cases hi) ?_
      · refine RelG.stepsS_cons (RelG.step_run0 (n := 104) (t := 3) (u := 44) (v := .pointer (some ⟨(w.heap.size + 1 + 1), 0, none⟩)) rfl rfl rfl (by decide) (by kernel_rfl) (by kernel_rfl) (fun ρ w' hle h hk => by simp [execOp, h, hk, go_sem]) rfl) ?_
        refine RelG.stepsS_cons (RelG.step_run (n := 104) (j := 0) (t := 44) (u := 45) (v := .pointer (some ⟨(w.heap.size + 1 + 1), 2, none⟩)) rfl rfl rfl (by decide) rfl rfl (fun ρ w' hle h hk => by
            have c := (Below.cell hle (p := ⟨(w.heap.size + 1 + 1), 2, none⟩) hglt).trans cg.out
            simp [execOp, h, hk, go_sem, c]) rfl) ?_
        refine RelG.stepsS_cons (RelG.step_was (n := 104) (t := 4) (u := 46) rfl rfl rfl rfl (by decide) (by kernel_rfl) (by kernel_rfl) rfl) ?_
        refine RelG.stepsS_cons (RelG.step_was (n := 104) (t := 5) (u := 47) rfl rfl rfl rfl (by decide) (by kernel_rfl) (by kernel_rfl) rfl) ?_
        refine RelG.stepsS_cons (RelG.step_run2 (n := 104) (j := 2) (t := 46) (j2 := 3) (t2 := 47) (u := 48) (v := .slice (some ⟨b, o', none⟩) m c1) (v2 := .int .i64 q) rfl rfl rfl (by decide) rfl rfl rfl rfl (fun ρ w' hle h h2 hk => by simp [execOp, h, h2, hk, go_sem, q0, qN, qM, qn, qNM, addV]) rfl) ?_
        refine RelG.stepsS_cons (RelG.step_run (n := 104) (j := 4) (t := 48) (u := 49) (v := .pointer (some ⟨b, o' + q, none⟩)) rfl rfl rfl (by decide) rfl rfl (fun ρ w' hle h hk => by
            have d0 := (Below.cell hle (p := ⟨b, o' + q, none⟩) hblt).trans cq
            simp [execOp, h, hk, go_sem, d0]) rfl) ?_
        refine RelG.stepsS_cons (RelG.step_call rfl Tryz.func10 (by kernel_rfl) rfl #[v, .string y] rfl (fun b' w' D => by
            have e1 : b'.eval (.tmp 45) = v := D.is 1 rfl rfl
            have e2 : b'.eval (.tmp 49) = .string y := D.is 5 rfl rfl
            simp only [List.map_toArray, List.map_cons, List.map_nil, e1, e2]) (fun b' w' D => (hcall.out w' D.bel).mono fun ee w'' ⟨u, he, ho, hb⟩ => ⟨u, he, by
              show ownP _ _ _ _ _ (RelG.get (b'.put (some 50) u) 50) w''
              rw [RelG.get_put b' 50 _ (by rw [D.siz]; exact (by decide : 50 < 104))]
              exact ⟨_, by have := Below.size D.bel; omega, ho⟩, hb⟩)) ?_
        refine RelG.stepsS_cons (RelG.step_run0 (n := 104) (t := 3) (u := 51) (v := .pointer (some ⟨(w.heap.size + 1 + 1), 0, none⟩)) rfl rfl rfl (by decide) (by kernel_rfl) (by kernel_rfl) (fun ρ w' hle h hk => by simp [execOp, h, hk, go_sem]) rfl) ?_
        exact RelG.stepsS_skip trivial
      · refine RelG.storeS_skip rfl rfl fun b' w' D => ?_
        have e1 : b'.eval (.tmp 51) = .pointer (some ⟨(w.heap.size + 1 + 1), 2, none⟩) := D.is 7 rfl rfl
        obtain ⟨base, hb1, hb2⟩ := D.rel 6 rfl
        obtain ⟨u, hu⟩ : ∃ u, b'.eval (.tmp 50) = u := ⟨_, rfl⟩
        have hb2' : w'.ownsRow base 9 1 u (putF id y L).length (scs (putF id y L)) := hu ▸ hb2
        have hgw := (Below.block D.bel _ hglt).trans hgr'.out
        have z1 : w'.cell? ⟨(w.heap.size + 1 + 1), 2, none⟩ = some v := by rw [cell_of_row _ _ _ _ _ _ hgw]; rfl
        have z2 : w'.frozen? ⟨(w.heap.size + 1 + 1), 2, none⟩ = false := by simp [World.frozen?, hgw]
        have h1 := setCell_heap 2 u _ _ hgw
        refine ⟨w'.setCell ⟨(w.heap.size + 1 + 1), 2, none⟩ u, ?_, ?_, setCell_kp _ _, fun _ => ?_⟩
        · obtain ⟨A, n, c, rfl⟩ := own_slice hb2'
          unfold execOp
          simp only [e1, hu]
          simp [go_sem, z1, z2]
        · show PG _
          rw [← hPG]
          exact ⟨u, h1, own_weaken (Kp.own hb2' hb1 (setCell_kp _ _)) (by omega)⟩
        · rw [← hPG]
          exact ⟨u, h1, own_weaken (Kp.own hb2' hb1 (setCell_kp _ _)) (by omega)⟩
      · intro vs e w9 hg hv hle
        have hv8 : PG w9 := hv 8 (by decide)
        rw [← hPG] at hv8
        obtain ⟨v9, hg9, ho9⟩ := hv8
        clear hv
        have hkp9 : Kp (w.heap.size + 1 + 1) wr w9 := hle.1
        simp only [Rel.fill, Act.put, List.setIfInBounds_toArray, List.set_cons_zero, List.set_cons_succ]
        have hg9' := veil hg9
        have ho9' := veil ho9
        have hkp9' := veil hkp9
        clear hg hle hg9 ho9 hkp9 cg hcall hblt cq hglt
        go_wp2_with fail
        go_roundw
        case rel => exact ⟨q + 1, v9, hlt, congrArg (Value.int .i64) kk.out, hg9'.out, by rw [hS'.out]; exact ho9'.out, hkp'.out.trans hkp9'.out⟩
        case measure => simp [intOf]; omega
    · obtain rfl : m = q := by omega
      have hor2 : wr.ownsRow ((w.heap.size + 1 + 1) + 1) 9 1 v (putAll (putF id) (l.take 8)).length (scs (putAll (putF id) (l.take 8))) := by rw [← hmt.out]; exact hor'.out
      obtain ⟨M, hM⟩ : ∃ M, putAll (putF id) (l.take 8) = M := ⟨_, rfl⟩
      rw [hM] at hor2 ⊢
      have hMn : M.length ≤ 1000 := by rw [← hM]; exact putAll_len (putF id) (putF_len id) (l.take 8) (by rw [List.length_take]; omega)
      obtain ⟨A, n, c, rfl⟩ := own_slice hor2
      obtain rfl : n = M.length := own_slice_len hor2
      have hor3 := veil hor2
      have hM' := veil hM
      have d0 : wr.cell? ⟨(w.heap.size + 1 + 1), 0, none⟩ = some (.int .u8 0) := by rw [cell_of_row _ _ _ _ _ _ hgr'.out]; rfl
      have bd : wr.cell? ⟨(w.heap.size + 1 + 1), 1, none⟩ = some (.string ⟨#[]⟩) := by rw [cell_of_row _ _ _ _ _ _ hgr'.out]; rfl
      have cd : wr.cell? ⟨(w.heap.size + 1 + 1), 2, none⟩ = some (.slice A M.length c) := by rw [cell_of_row _ _ _ _ _ _ hgr'.out]; rfl
      have dd : wr.cell? ⟨(w.heap.size + 1 + 1), 3, none⟩ = some (nlv) := by rw [cell_of_row _ _ _ _ _ _ hgr'.out]; rfl
      have ed : wr.cell? ⟨(w.heap.size + 1 + 1), 4, none⟩ = some (nlv) := by rw [cell_of_row _ _ _ _ _ _ hgr'.out]; rfl
      have d1 : wr.frozen? ⟨(w.heap.size + 1 + 1), 0, none⟩ = false := by simp [World.frozen?, hgr'.out]
      obtain ⟨wS, hwS⟩ : ∃ wS : World, wS = wr.setCell ⟨(w.heap.size + 1 + 1), 0, none⟩ (.int .u8 4) := ⟨_, rfl⟩
      have hgS : Veil (wS.heap[(w.heap.size + 1 + 1)]? = some (.cells #[.int .u8 4, .string ⟨#[]⟩, .slice A M.length c, nlv, nlv] vT (0, 0))) := veil (by rw [hwS]; exact setCell_heap 0 _ _ _ hgr'.out)
      have hkS : Veil (Kp (w.heap.size + 1 + 1) w3 wS) := veil (hkp'.out.trans (by rw [hwS]; exact setCell_kp _ _))
      have hoS : Veil (wS.ownsRow ((w.heap.size + 1 + 1) + 1) 9 1 (.slice A M.length c) M.length (scs M)) := veil (Kp.own hor3.out (Nat.lt_succ_self _) (by rw [hwS]; exact setCell_kp _ _))
      have hwS' := veil hwS
      clear hor2 hor3 hM hwS hor'
      have f0 : ¬ ((m : Int) < m) := by omega
      go_wp2_with fail
      rw [← hwS'.out]
      have hl1 := hgS.out
      clear d0 d1 bd cd dd ed
      go_wp2_with fail
      refine (Size_any 4 ⟨#[]⟩ _ _ _ _ _ _ _ _ _ wS (by decide)).mono ?_
      rintro e w4 ⟨rfl, hb4⟩
      rw [show sizeF 4 M.length 0 0 = M.length by simp [sizeF]]
      have hr4 : w4.heap[w.heap.size + 1]? = some (.cells #[.int .u8 0, .string ⟨#[]⟩, nlv, nlv, nlv] vT (0, 0)) := ((hb4.block _ (by have := hkS.out.size; have := hs3'.out; omega)).trans (hkS.out.blk _ (by omega) (by have := hs3'.out; omega))).trans hr3'.out
      have hg4 : w4.heap[(w.heap.size + 1 + 1)]? = some (.cells #[.int .u8 4, .string ⟨#[]⟩, .slice A M.length c, nlv, nlv] vT (0, 0)) := (hb4.block _ (by have := hkS.out.size; have := hs3'.out; omega)).trans hgS.out
      have hb5 : Veil (Below w.heap.size w w4) := veil (two_below (Kp.below hb3'.out hkS.out (by omega) (by have := hs3'.out; omega)) hb4)
      have ho4 : Veil (w4.ownsRow ((w.heap.size + 1 + 1) + 1) 9 1 (.slice A M.length c) M.length (scs M)) := veil (own_move hoS.out (fun k hk => hb4.block k (own_lt hoS.out k hk)))
      have hr4' := veil hr4
      have hg4' := veil hg4
      clear hb4 hr4
      clear hg4
      rcases Nat.eq_zero_or_pos M.length with hM0 | hM0
      · have hz : ((M.length : Int) == 0) = true := by simp [hM0]
        have hMn0 : M = [] := List.eq_nil_of_length_eq_zero hM0
        have hb6 := hb5
        clear hM0
        go_wp2_with (refine wpList_store_row rfl vT _ _ rfl (w.heap.size + 1) #[.int .u8 0, .string ⟨#[]⟩, nlv, nlv, nlv] rfl rfl vT #[.int .u8 0, .string ⟨#[]⟩, nlv, nlv, nlv] hr4'.out (info5v _ _ _ _ _) rfl (one5v _ _ _ _ _ _ _ _ _ _ _) ?_)
        refine bodyPost_ret (v := .agg #[.int .u8 0, .string ⟨#[]⟩, nlv, nlv, nlv]) ?_ rfl ⟨#[.int .u8 0, .string ⟨#[]⟩, nlv, nlv, nlv], rfl, ⟨⟨nlv, nlv, nlv, by rw [hM'.out, hMn0]; rfl, by rw [hM'.out, hMn0]; exact gR_nil _, by rw [hM'.out, hMn0]; exact gR_nil _, by rw [hM'.out, hMn0]; exact gR_nil _⟩⟩, below_setRow hb5.out _ _ (by omega)⟩
        exact results_cell_row (p := 2) (ty := vT) Tryz.results5 _ _ (w.heap.size + 1) vT #[.int .u8 0, .string ⟨#[]⟩, nlv, nlv, nlv] (0, 0) _ rfl (setRow_heap _ _ _ _ _ (0, 0) hr4'.out) Tryz.underlying26 rfl (info5v _ _ _ _ _)
      · have hz : ((M.length : Int) == 0) = false := by rw [beq_eq_false_iff_ne]; omega
        have hMn0 : M ≠ [] := fun h => by rw [h] at hM0; simp at hM0
        have l4a : w4.cell? ⟨(w.heap.size + 1 + 1), 0, none⟩ = some (.int .u8 4) := by rw [cell_of_row _ _ _ _ _ _ hg4'.out]; rfl
        have l4b : w4.cell? ⟨(w.heap.size + 1 + 1), 1, none⟩ = some (.string ⟨#[]⟩) := by rw [cell_of_row _ _ _ _ _ _ hg4'.out]; rfl
        have l4c : w4.cell? ⟨(w.heap.size + 1 + 1), 2, none⟩ = some (.slice A M.length c) := by rw [cell_of_row _ _ _ _ _ _ hg4'.out]; rfl
        have l4d : w4.cell? ⟨(w.heap.size + 1 + 1), 3, none⟩ = some (nlv) := by rw [cell_of_row _ _ _ _ _ _ hg4'.out]; rfl
        have l4e : w4.cell? ⟨(w.heap.size + 1 + 1), 4, none⟩ = some (nlv) := by rw [cell_of_row _ _ _ _ _ _ hg4'.out]; rfl
        go_wp2_with (refine wpList_store_row rfl vT _ _ rfl (w.heap.size + 1) #[.int .u8 4, .string ⟨#[]⟩, .slice A M.length c, nlv, nlv] rfl rfl vT #[.int .u8 0, .string ⟨#[]⟩, nlv, nlv, nlv] hr4'.out (info5v _ _ _ _ _) rfl (one5v _ _ _ _ _ _ _ _ _ _ _) ?_)
        have hvv : vvSet M = _ := if_neg hMn0
        refine bodyPost_ret (v := .agg #[.int .u8 4, .string ⟨#[]⟩, .slice A M.length c, nlv, nlv]) ?_ rfl ⟨#[.int .u8 4, .string ⟨#[]⟩, .slice A M.length c, nlv, nlv], rfl, ⟨⟨.slice A M.length c, nlv, nlv, by rw [hM'.out, hvv], by rw [hM'.out, hvv]; exact gR_own (Kp.own ho4.out (by omega) (setRow_kp _)), by rw [hM'.out, hvv]; exact gR_nil _, by rw [hM'.out, hvv]; exact gR_nil _⟩⟩, below_setRow hb5.out _ _ (by omega)⟩
        exact results_cell_row (p := 2) (ty := vT) Tryz.results5 _ _ (w.heap.size + 1) vT #[.int .u8 4, .string ⟨#[]⟩, .slice A M.length c, nlv, nlv] (0, 0) _ rfl (setRow_heap _ _ _ _ _ (0, 0) hr4'.out) Tryz.underlying26 rfl (info5v _ _ _ _ _)
set_option maxRecDepth 100000 in
set_option maxHeartbeats 16000000 in
theorem Fit_hash (k : Int) (s : BA) (A1 A2 A3 : Option Addr) (n1 n2 n3 c1 c2 c3 : Nat) (l : List PR) (w : World) (hk : 0 ≤ k ∧ k ≤ 255) (hr : k % 6 = 3) (hL : gR w (.slice A2 n2 c2) n2 (pcs l)) (hl : l.length = n2) (hc1 : n1 ≤ c1) (hc2 : n2 ≤ c2) (hc3 : n3 ≤ c3) :
    Calls Tryz.prog 5 #[.agg #[.int .u8 k, .string s, .slice A1 n1 c1, .slice A2 n2 c2, .slice A3 n3 c3]] w (FitP (vvHash (putAll (putF Prod.fst) (l.take 8))) w) := by
  have hkm : Int.tmod k 6 = 3 := by rw [Int.tmod_eq_emod_of_nonneg hk.1]; exact hr
  obtain ⟨m, hmm⟩ : ∃ m, min n2 8 = m := ⟨_, rfl⟩
  have hm := mnv n2
  rw [hmm] at hm
  have hm8 : m ≤ 8 := by omega
  have hmn : m ≤ n2 := by omega
  have hmq : Veil (m < n2 → m = 8) := veil (fun h => by omega)
  obtain ⟨m1, hm1⟩ : ∃ m1, min n1 8 = m1 := ⟨_, rfl⟩
  have hmm1 := mnv n1
  rw [hm1] at hmm1
  have hcut := cutV A1 n1 c1 m1 (by omega) hc1
  obtain ⟨w3, hw3⟩ : ∃ w3 : World, w3 = ((w.alloc (.cells #[.int .u8 k, .string s, .slice A1 n1 c1, .slice A2 n2 c2, .slice A3 n3 c3] vT)).alloc (.cells #[.int .u8 0, .string ⟨#[]⟩, nlv, nlv, nlv] vT)).alloc (.cells #[.int .u8 0, .string ⟨#[]⟩, nlv, nlv, nlv] vT) := ⟨_, rfl⟩
  obtain ⟨hp3, hr3, hg3, hs3, hb3⟩ := three w #[.int .u8 k, .string s, .slice A1 n1 c1, .slice A2 n2 c2, .slice A3 n3 c3] #[.int .u8 0, .string ⟨#[]⟩, nlv, nlv, nlv] #[.int .u8 0, .string ⟨#[]⟩, nlv, nlv, nlv] w3 hw3
  have hmt : Veil (l.take m = l.take 8) := veil (take_mn l _ m hl hmm)
  have hL' := veil hL
  have hl' := veil hl
  have hp3' := veil hp3
  have hr3' := veil hr3
  have hg3' := veil hg3
  have hs3' := veil hs3
  have hb3' := veil hb3
  have hw3' := veil hw3
  clear hL hp3 hr3 hg3 hs3 hb3 hw3 hmm
  go_enter Tryz.func5, Tryz.ntmps5
  go_wp2_with fail
  rw [← hw3'.out]
  go_loopw [6] (fun i wr => ∃ (q : Nat) (v : Value), q ≤ m ∧ i = .int .i64 q ∧ wr.heap[(w.heap.size + 1 + 1)]? = some (.cells #[.int .u8 0, .string ⟨#[]⟩, nlv, v, nlv] vT (0, 0)) ∧ wr.ownsRow ((w.heap.size + 1 + 1) + 1) 40 2 v (putAll (putF Prod.fst) (l.take q)).length (pcs (putAll (putF Prod.fst) (l.take q))) ∧ Kp (w.heap.size + 1 + 1) w3 wr) (fun i _ => m - (intOf i).toNat)
  case atStart => exact ⟨0, nlv, by omega, rfl, hg3'.out, World.ownsRow_nil _ _ _ _, Kp.refl _ _⟩
  case round =>
    obtain ⟨q, v, hq, rfl, hgr, hor, hkp⟩ := hrel
    have hor' := veil hor
    have hgr' := veil hgr
    have hkp' := veil hkp
    clear hor hgr hkp
    by_cases hlt : q < m
    · have q0 : (0 : Int) ≤ q := by omega
      have qN : (q : Int) < m := by omega
      have qM : ¬ ((m : Int) ≤ q) := by omega
      have qn : (q : Int) < n2 := by omega
      have qNM : ¬ ((n2 : Int) ≤ q) := by omega
      have q8 : (q : Int) < 8 := by omega
      obtain ⟨b, o', c', e, _, _⟩ := hL'.out.there (by omega)
      injection e with e1 _ e2
      subst e1
      subst e2
      obtain ⟨y, hy⟩ : ∃ y, l[q]? = some y := ⟨_, List.getElem?_eq_getElem (by rw [hl'.out]; omega)⟩
      have hyc := pcs_at l q y hy
      have hS := putAll_succ (putF Prod.fst) l q y hy
      obtain ⟨L, hLd⟩ : ∃ L, putAll (putF Prod.fst) (l.take q) = L := ⟨_, rfl⟩
      have hLn : L.length ≤ 1000 := by rw [← hLd]; exact putAll_len (putF Prod.fst) (putF_len Prod.fst) (l.take q) (by rw [List.length_take]; omega)
      rw [hLd] at hS hor'
      have hS' := veil hS
      have hbw : Below w.heap.size w wr := Kp.below hb3'.out hkp'.out (by omega) (by have := hs3'.out; omega)
      have kk := veil (show ((q : Int) + 1) = ((q + 1 : Nat) : Int) by omega)
      have hblt : b < wr.heap.size := by
        obtain ⟨_, hh⟩ := List.getElem?_eq_some_iff.1 hyc.1
        exact World.block_lt_of_cell? wr _ ((hL'.out.below hbw).cells (by omega) _ _ hyc.1)
      have cq := (hL'.out.below hbw).cells (by omega) _ _ hyc.1
      have cq2 := (hL'.out.below hbw).cells (by omega) _ _ hyc.2
      have hpr : wr.heap[w.heap.size]? = some (.cells #[.int .u8 k, .string s, .slice A1 n1 c1, .slice (some ⟨b, o', none⟩) n2 c2, .slice A3 n3 c3] vT (0, 0)) := (hkp'.out.blk _ (by omega) (by have := hs3'.out; omega)).trans hp3'.out
      have hplt := (Array.getElem?_eq_some_iff.1 hpr).1
      have cp := veil (show wr.cell? ⟨w.heap.size, 3, none⟩ = some (.slice (some ⟨b, o', none⟩) n2 c2) by rw [cell_of_row _ _ _ _ _ _ hpr]; rfl)
      have hglt : (w.heap.size + 1 + 1) < wr.heap.size := (Array.getElem?_eq_some_iff.1 hgr'.out).1
      have cg := veil (show wr.cell? ⟨(w.heap.size + 1 + 1), 3, none⟩ = some v by rw [cell_of_row _ _ _ _ _ _ hgr'.out]; rfl)
      have hcall := veil (fun (w' : World) (hw' : Below wr.heap.size wr w') => PutPair_any v L y w' ((gR_own hor'.out).below hw') (by omega))
      clear hS hyc hLd
      clear hpr
      obtain ⟨PG, hPG⟩ : ∃ PG, (Pg (w.heap.size + 1 + 1) (fun v => #[.int .u8 0, .string ⟨#[]⟩, nlv, v, nlv]) 40 2 (putF Prod.fst y L).length (pcs (putF Prod.fst y L))) = PG := ⟨_, rfl⟩
      have hP0 : ∀ W W' : World, PG W → Below W.heap.size W W' → PG W' := hPG ▸ Pg_bel _ _ _ _ _ _
      have cpw := cp.out
      go_wp2_with fail
      refine RelG.wp_region_relS (G := FldO (w.heap.size + 1 + 1) PG hP0) (G1 := BelV) (n := 104) (bel_fld _ _ _) 9 _ [] [RelG.is _ 66 (.pointer (some ⟨(w.heap.size + 1 + 1), 3, none⟩)), RelG.is _ 67 v, RelG.is _ 68 (.pointer (some ⟨w.heap.size, 3, none⟩)), RelG.is _ 69 (.slice (some ⟨b, o', none⟩) n2 c2), RelG.is _ 70 (.int .i64 q), RelG.is _ 71 (.pointer (some ⟨b, o' + q * 2, none⟩)), RelG.is _ 72 (.agg #[.string y.1, .string y.2]), ownW (w.heap.size + 1 + 1) PG hP0 73 40 2 (putF Prod.fst y L).length (pcs (putF Prod.fst y L)), RelG.is _ 74 (.pointer (some ⟨(w.heap.size + 1 + 1), 3, none⟩)), RelG.wo _ PG (fun W W' h hle => hle.2 h)] [[66], [67], [68], [69], [70], [71], [72], [73], [74], []] (by kernel_rfl) rfl rfl (by kernel_rfl) rfl (by kernel_rfl) ?_ ?_ (fun i hi => by cases hi) ?_
      · refine RelG.stepsS_cons (RelG.step_run0 (n := 104) (t := 3) (u := 66) (v := .pointer (some ⟨(w.heap.size + 1 + 1), 0, none⟩)) rfl rfl rfl (by decide) (by kernel_rfl) (by kernel_rfl) (fun ρ w' hle h hk => by simp [execOp, h, hk, go_sem]) rfl) ?_
        refine RelG.stepsS_cons (RelG.step_run (n := 104) (j := 0) (t := 66) (u := 67) (v := .pointer (some ⟨(w.heap.size + 1 + 1), 3, none⟩)) rfl rfl rfl (by decide) rfl rfl (fun ρ w' hle h hk => by
            have c := (Below.cell hle (p := ⟨(w.heap.size + 1 + 1), 3, none⟩) hglt).trans cg.out
            simp [execOp, h, hk, go_sem, c]) rfl) ?_
        refine RelG.stepsS_cons (RelG.step_run0 (n := 104) (t := 1) (u := 68) (v := .pointer (some ⟨w.heap.size, 0, none⟩)) rfl rfl rfl (by decide) (by kernel_rfl) (by kernel_rfl) (fun ρ w' hle h hk => by simp [execOp, h, hk, go_sem]) rfl) ?_
        refine RelG.stepsS_cons (RelG.step_run (n := 104) (j := 2) (t := 68) (u := 69) (v := .pointer (some ⟨w.heap.size, 3, none⟩)) rfl rfl rfl (by decide) rfl rfl (fun ρ w' hle h hk => by
            have c := (Below.cell hle (p := ⟨w.heap.size, 3, none⟩) hplt).trans cp.out
            simp [execOp, h, hk, go_sem, c]) rfl) ?_
        refine RelG.stepsS_cons (RelG.step_was (n := 104) (t := 6) (u := 70) rfl rfl rfl rfl (by decide) (by kernel_rfl) (by kernel_rfl) rfl) ?_
        refine RelG.stepsS_cons (RelG.step_run2 (n := 104) (j := 3) (t := 69) (j2 := 4) (t2 := 70) (u := 71) (v := .slice (some ⟨b, o', none⟩) n2 c2) (v2 := .int .i64 q) rfl rfl rfl (by decide) rfl rfl rfl rfl (fun ρ w' hle h h2 hk => by simp [execOp, h, h2, hk, go_sem, q0, qN, qM, qn, qNM, addV]) rfl) ?_
        refine RelG.stepsS_cons (RelG.step_run (n := 104) (j := 5) (t := 71) (u := 72) (v := .pointer (some ⟨b, o' + q * 2, none⟩)) rfl rfl rfl (by decide) rfl rfl (fun ρ w' hle h hk => by
            have d0 := (Below.cell hle (p := ⟨b, o' + q * 2, none⟩) hblt).trans cq
            have d1 := (Below.cell hle (p := ⟨b, o' + q * 2 + 1, none⟩) hblt).trans cq2
            simp [execOp, h, hk, go_sem, d0, d1]) rfl) ?_
        refine RelG.stepsS_cons (RelG.step_call rfl Tryz.func11 (by kernel_rfl) rfl #[v, .agg #[.string y.1, .string y.2]] rfl (fun b' w' D => by
            have e1 : b'.eval (.tmp 67) = v := D.is 1 rfl rfl
            have e2 : b'.eval (.tmp 72) = .agg #[.string y.1, .string y.2] := D.is 6 rfl rfl
            simp only [List.map_toArray, List.map_cons, List.map_nil, e1, e2]) (fun b' w' D => (hcall.out w' D.bel).mono fun ee w'' ⟨u, he, ho, hb⟩ => ⟨u, he, by
              show ownP _ _ _ _ _ (RelG.get (b'.put (some 73) u) 73) w''
              rw [RelG.get_put b' 73 _ (by rw [D.siz]; exact (by decide : 73 < 104))]
              exact ⟨_, by have := Below.size D.bel; omega, ho⟩, hb⟩)) ?_
        refine RelG.stepsS_cons (RelG.step_run0 (n := 104) (t := 3) (u := 74) (v := .pointer (some ⟨(w.heap.size + 1 + 1), 0, none⟩)) rfl rfl rfl (by decide) (by kernel_rfl) (by kernel_rfl) (fun ρ w' hle h hk => by simp [execOp, h, hk, go_sem]) rfl) ?_
        exact RelG.stepsS_skip trivial
      · refine RelG.storeS_skip rfl rfl fun b' w' D => ?_
        have e1 : b'.eval (.tmp 74) = .pointer (some ⟨(w.heap.size + 1 + 1), 3, none⟩) := D.is 8 rfl rfl
        obtain ⟨base, hb1, hb2⟩ := D.rel 7 rfl
        obtain ⟨u, hu⟩ : ∃ u, b'.eval (.tmp 73) = u := ⟨_, rfl⟩
        have hb2' : w'.ownsRow base 40 2 u (putF Prod.fst y L).length (pcs (putF Prod.fst y L)) := hu ▸ hb2
        have hgw := (Below.block D.bel _ hglt).trans hgr'.out
        have z1 : w'.cell? ⟨(w.heap.size + 1 + 1), 3, none⟩ = some v := by rw [cell_of_row _ _ _ _ _ _ hgw]; rfl
        have z2 : w'.frozen? ⟨(w.heap.size + 1 + 1), 3, none⟩ = false := by simp [World.frozen?, hgw]
        have h1 := setCell_heap 3 u _ _ hgw
        refine ⟨w'.setCell ⟨(w.heap.size + 1 + 1), 3, none⟩ u, ?_, ?_, setCell_kp _ _, fun _ => ?_⟩
        · obtain ⟨A, n, c, rfl⟩ := own_slice hb2'
          unfold execOp
          simp only [e1, hu]
          simp [go_sem, z1, z2]
        · show PG _
          rw [← hPG]
          exact ⟨u, h1, own_weaken (Kp.own hb2' hb1 (setCell_kp _ _)) (by omega)⟩
        · rw [← hPG]
          exact ⟨u, h1, own_weaken (Kp.own hb2' hb1 (setCell_kp _ _)) (by omega)⟩
      · intro vs e w9 hg hv hle
        have hv8 : PG w9 := hv 9 (by decide)
        rw [← hPG] at hv8
        obtain ⟨v9, hg9, ho9⟩ := hv8
        clear hv
        have hkp9 : Kp (w.heap.size + 1 + 1) wr w9 := hle.1
        simp only [Rel.fill, Act.put, List.setIfInBounds_toArray, List.set_cons_zero, List.set_cons_succ]
        have hg9' := veil hg9
        have ho9' := veil ho9
        have hkp9' := veil hkp9
        clear hg hle hg9 ho9 hkp9 cg hcall hblt cq hglt cq2 cp cpw hplt
        go_wp2_with fail
        go_roundw
        case rel => exact ⟨q + 1, v9, hlt, congrArg (Value.int .i64) kk.out, hg9'.out, by rw [hS'.out]; exact ho9'.out, hkp'.out.trans hkp9'.out⟩
        case measure => simp [intOf]; omega
    · obtain rfl : m = q := by omega
      have hor2 : wr.ownsRow ((w.heap.size + 1 + 1) + 1) 40 2 v (putAll (putF Prod.fst) (l.take 8)).length (pcs (putAll (putF Prod.fst) (l.take 8))) := by rw [← hmt.out]; exact hor'.out
      obtain ⟨M, hM⟩ : ∃ M, putAll (putF Prod.fst) (l.take 8) = M := ⟨_, rfl⟩
      rw [hM] at hor2 ⊢
      have hMn : M.length ≤ 1000 := by rw [← hM]; exact putAll_len (putF Prod.fst) (putF_len Prod.fst) (l.take 8) (by rw [List.length_take]; omega)
      obtain ⟨A, n, c, rfl⟩ := own_slice hor2
      obtain rfl : n = M.length := own_slice_len hor2
      have hprE : wr.heap[w.heap.size]? = some (.cells #[.int .u8 k, .string s, .slice A1 n1 c1, .slice A2 n2 c2, .slice A3 n3 c3] vT (0, 0)) := (hkp'.out.blk _ (by omega) (by have := hs3'.out; omega)).trans hp3'.out
      have cpE : wr.cell? ⟨w.heap.size, 3, none⟩ = some (.slice A2 n2 c2) := by rw [cell_of_row _ _ _ _ _ _ hprE]; rfl
      clear hprE
      have hor3 := veil hor2
      have hM' := veil hM
      have d0 : wr.cell? ⟨(w.heap.size + 1 + 1), 0, none⟩ = some (.int .u8 0) := by rw [cell_of_row _ _ _ _ _ _ hgr'.out]; rfl
      have bd : wr.cell? ⟨(w.heap.size + 1 + 1), 1, none⟩ = some (.string ⟨#[]⟩) := by rw [cell_of_row _ _ _ _ _ _ hgr'.out]; rfl
      have cd : wr.cell? ⟨(w.heap.size + 1 + 1), 2, none⟩ = some (nlv) := by rw [cell_of_row _ _ _ _ _ _ hgr'.out]; rfl
      have dd : wr.cell? ⟨(w.heap.size + 1 + 1), 3, none⟩ = some (.slice A M.length c) := by rw [cell_of_row _ _ _ _ _ _ hgr'.out]; rfl
      have ed : wr.cell? ⟨(w.heap.size + 1 + 1), 4, none⟩ = some (nlv) := by rw [cell_of_row _ _ _ _ _ _ hgr'.out]; rfl
      have d1 : wr.frozen? ⟨(w.heap.size + 1 + 1), 0, none⟩ = false := by simp [World.frozen?, hgr'.out]
      obtain ⟨wS, hwS⟩ : ∃ wS : World, wS = wr.setCell ⟨(w.heap.size + 1 + 1), 0, none⟩ (.int .u8 3) := ⟨_, rfl⟩
      have hgS : Veil (wS.heap[(w.heap.size + 1 + 1)]? = some (.cells #[.int .u8 3, .string ⟨#[]⟩, nlv, .slice A M.length c, nlv] vT (0, 0))) := veil (by rw [hwS]; exact setCell_heap 0 _ _ _ hgr'.out)
      have hkS : Veil (Kp (w.heap.size + 1 + 1) w3 wS) := veil (hkp'.out.trans (by rw [hwS]; exact setCell_kp _ _))
      have hoS : Veil (wS.ownsRow ((w.heap.size + 1 + 1) + 1) 40 2 (.slice A M.length c) M.length (pcs M)) := veil (Kp.own hor3.out (Nat.lt_succ_self _) (by rw [hwS]; exact setCell_kp _ _))
      have hwS' := veil hwS
      clear hor2 hor3 hM hwS hor'
      rcases Nat.lt_or_ge m n2 with hmx | hmx
      have f1 : (m : Int) < n2 := by omega
      have f2 : ¬ ((m : Int) < 8) := by have := hmq.out hmx; omega
      rotate_left
      have f1 : ¬ ((m : Int) < n2) := by omega
      have f2 : (0 : Int) ≤ 0 := Int.le_refl _
      rotate_left
      all_goals
        go_wp2_with fail
        rw [← hwS'.out]
        have hl1 := hgS.out
        clear d0 d1 bd cd dd ed
        go_wp2_with fail
        refine (Size_any 3 ⟨#[]⟩ _ _ _ _ _ _ _ _ _ wS (by decide)).mono ?_
        rintro e w4 ⟨rfl, hb4⟩
        rw [show sizeF 3 0 M.length 0 = M.length by simp [sizeF]]
        have hr4 : w4.heap[w.heap.size + 1]? = some (.cells #[.int .u8 0, .string ⟨#[]⟩, nlv, nlv, nlv] vT (0, 0)) := ((hb4.block _ (by have := hkS.out.size; have := hs3'.out; omega)).trans (hkS.out.blk _ (by omega) (by have := hs3'.out; omega))).trans hr3'.out
        have hg4 : w4.heap[(w.heap.size + 1 + 1)]? = some (.cells #[.int .u8 3, .string ⟨#[]⟩, nlv, .slice A M.length c, nlv] vT (0, 0)) := (hb4.block _ (by have := hkS.out.size; have := hs3'.out; omega)).trans hgS.out
        have hb5 : Veil (Below w.heap.size w w4) := veil (two_below (Kp.below hb3'.out hkS.out (by omega) (by have := hs3'.out; omega)) hb4)
        have ho4 : Veil (w4.ownsRow ((w.heap.size + 1 + 1) + 1) 40 2 (.slice A M.length c) M.length (pcs M)) := veil (own_move hoS.out (fun k hk => hb4.block k (own_lt hoS.out k hk)))
        have hr4' := veil hr4
        have hg4' := veil hg4
        clear hb4 hr4
        clear hg4
        rcases Nat.eq_zero_or_pos M.length with hM0 | hM0
        · have hz : ((M.length : Int) == 0) = true := by simp [hM0]
          have hMn0 : M = [] := List.eq_nil_of_length_eq_zero hM0
          have hb6 := hb5
          clear hM0
          go_wp2_with (refine wpList_store_row rfl vT _ _ rfl (w.heap.size + 1) #[.int .u8 0, .string ⟨#[]⟩, nlv, nlv, nlv] rfl rfl vT #[.int .u8 0, .string ⟨#[]⟩, nlv, nlv, nlv] hr4'.out (info5v _ _ _ _ _) rfl (one5v _ _ _ _ _ _ _ _ _ _ _) ?_)
          refine bodyPost_ret (v := .agg #[.int .u8 0, .string ⟨#[]⟩, nlv, nlv, nlv]) ?_ rfl ⟨#[.int .u8 0, .string ⟨#[]⟩, nlv, nlv, nlv], rfl, ⟨⟨nlv, nlv, nlv, by rw [hM'.out, hMn0]; rfl, by rw [hM'.out, hMn0]; exact gR_nil _, by rw [hM'.out, hMn0]; exact gR_nil _, by rw [hM'.out, hMn0]; exact gR_nil _⟩⟩, below_setRow hb5.out _ _ (by omega)⟩
          exact results_cell_row (p := 2) (ty := vT) Tryz.results5 _ _ (w.heap.size + 1) vT #[.int .u8 0, .string ⟨#[]⟩, nlv, nlv, nlv] (0, 0) _ rfl (setRow_heap _ _ _ _ _ (0, 0) hr4'.out) Tryz.underlying26 rfl (info5v _ _ _ _ _)
        · have hz : ((M.length : Int) == 0) = false := by rw [beq_eq_false_iff_ne]; omega
          have hMn0 : M ≠ [] := fun h => by rw [h] at hM0; simp at hM0
          have l4a : w4.cell? ⟨(w.heap.size + 1 + 1), 0, none⟩ = some (.int .u8 3) := by rw [cell_of_row _ _ _ _ _ _ hg4'.out]; rfl
          have l4b : w4.cell? ⟨(w.heap.size + 1 + 1), 1, none⟩ = some (.string ⟨#[]⟩) := by rw [cell_of_row _ _ _ _ _ _ hg4'.out]; rfl
          have l4c : w4.cell? ⟨(w.heap.size + 1 + 1), 2, none⟩ = some (nlv) := by rw [cell_of_row _ _ _ _ _ _ hg4'.out]; rfl
          have l4d : w4.cell? ⟨(w.heap.size + 1 + 1), 3, none⟩ = some (.slice A M.length c) := by rw [cell_of_row _ _ _ _ _ _ hg4'.out]; rfl
          have l4e : w4.cell? ⟨(w.heap.size + 1 + 1), 4, none⟩ = some (nlv) := by rw [cell_of_row _ _ _ _ _ _ hg4'.out]; rfl
          go_wp2_with (refine wpList_store_row rfl vT _ _ rfl (w.heap.size + 1) #[.int .u8 3, .string ⟨#[]⟩, nlv, .slice A M.length c, nlv] rfl rfl vT #[.int .u8 0, .string ⟨#[]⟩, nlv, nlv, nlv] hr4'.out (info5v _ _ _ _ _) rfl (one5v _ _ _ _ _ _ _ _ _ _ _) ?_)
          have hvv : vvHash M = _ := if_neg hMn0
          refine bodyPost_ret (v := .agg #[.int .u8 3, .string ⟨#[]⟩, nlv, .slice A M.length c, nlv]) ?_ rfl ⟨#[.int .u8 3, .string ⟨#[]⟩, nlv, .slice A M.length c, nlv], rfl, ⟨⟨nlv, .slice A M.length c, nlv, by rw [hM'.out, hvv], by rw [hM'.out, hvv]; exact gR_nil _, by rw [hM'.out, hvv]; exact gR_own (Kp.own ho4.out (by omega) (setRow_kp _)), by rw [hM'.out, hvv]; exact gR_nil _⟩⟩, below_setRow hb5.out _ _ (by omega)⟩
          exact results_cell_row (p := 2) (ty := vT) Tryz.results5 _ _ (w.heap.size + 1) vT #[.int .u8 3, .string ⟨#[]⟩, nlv, .slice A M.length c, nlv] (0, 0) _ rfl (setRow_heap _ _ _ _ _ (0, 0) hr4'.out) Tryz.underlying26 rfl (info5v _ _ _ _ _)
set_option maxRecDepth 100000 in
set_option maxHeartbeats 16000000 in
theorem Fit_sorted (k : Int) (s : BA) (A1 A2 A3 : Option Addr) (n1 n2 n3 c1 c2 c3 : Nat) (l : List MK) (w : World) (hk : 0 ≤ k ∧ k ≤ 255) (hr : k % 6 = 5) (hL : gR w (.slice A3 n3 c3) n3 (mcs l)) (hl : l.length = n3) (hc1 : n1 ≤ c1) (hc2 : n2 ≤ c2) (hc3 : n3 ≤ c3) :
    Calls Tryz.prog 5 #[.agg #[.int .u8 k, .string s, .slice A1 n1 c1, .slice A2 n2 c2, .slice A3 n3 c3]] w (FitP (vvSorted (putAll (putM) (l.take 8))) w) := by
  have hkm : Int.tmod k 6 = 5 := by rw [Int.tmod_eq_emod_of_nonneg hk.1]; exact hr
  obtain ⟨m, hmm⟩ : ∃ m, min n3 8 = m := ⟨_, rfl⟩
  have hm := mnv n3
  rw [hmm] at hm
  have hm8 : m ≤ 8 := by omega
  have hmn : m ≤ n3 := by omega
  have hmq : Veil (m < n3 → m = 8) := veil (fun h => by omega)
  obtain ⟨m1, hm1⟩ : ∃ m1, min n1 8 = m1 := ⟨_, rfl⟩
  have hmm1 := mnv n1
  rw [hm1] at hmm1
  have hcut := cutV A1 n1 c1 m1 (by omega) hc1
  obtain ⟨w3, hw3⟩ : ∃ w3 : World, w3 = ((w.alloc (.cells #[.int .u8 k, .string s, .slice A1 n1 c1, .slice A2 n2 c2, .slice A3 n3 c3] vT)).alloc (.cells #[.int .u8 0, .string ⟨#[]⟩, nlv, nlv, nlv] vT)).alloc (.cells #[.int .u8 0, .string ⟨#[]⟩, nlv, nlv, nlv] vT) := ⟨_, rfl⟩
  obtain ⟨hp3, hr3, hg3, hs3, hb3⟩ := three w #[.int .u8 k, .string s, .slice A1 n1 c1, .slice A2 n2 c2, .slice A3 n3 c3] #[.int .u8 0, .string ⟨#[]⟩, nlv, nlv, nlv] #[.int .u8 0, .string ⟨#[]⟩, nlv, nlv, nlv] w3 hw3
  have hmt : Veil (l.take m = l.take 8) := veil (take_mn l _ m hl hmm)
  have hL' := veil hL
  have hl' := veil hl
  have hp3' := veil hp3
  have hr3' := veil hr3
  have hg3' := veil hg3
  have hs3' := veil hs3
  have hb3' := veil hb3
  have hw3' := veil hw3
  clear hL hp3 hr3 hg3 hs3 hb3 hw3 hmm
  go_enter Tryz.func5, Tryz.ntmps5
  go_wp2_with fail
  rw [← hw3'.out]
  go_loopw [7] (fun i wr => ∃ (q : Nat) (v : Value), q ≤ m ∧ i = .int .i64 q ∧ wr.heap[(w.heap.size + 1 + 1)]? = some (.cells #[.int .u8 0, .string ⟨#[]⟩, nlv, nlv, v] vT (0, 0)) ∧ wr.ownsRow ((w.heap.size + 1 + 1) + 1) 43 2 v (putAll (putM) (l.take q)).length (mcs (putAll (putM) (l.take q))) ∧ Kp (w.heap.size + 1 + 1) w3 wr) (fun i _ => m - (intOf i).toNat)
  case atStart => exact ⟨0, nlv, by omega, rfl, hg3'.out, World.ownsRow_nil _ _ _ _, Kp.refl _ _⟩
  case round =>
    obtain ⟨q, v, hq, rfl, hgr, hor, hkp⟩ := hrel
    have hor' := veil hor
    have hgr' := veil hgr
    have hkp' := veil hkp
    clear hor hgr hkp
    by_cases hlt : q < m
    · have q0 : (0 : Int) ≤ q := by omega
      have qN : (q : Int) < m := by omega
      have qM : ¬ ((m : Int) ≤ q) := by omega
      have qn : (q : Int) < n3 := by omega
      have qNM : ¬ ((n3 : Int) ≤ q) := by omega
      have q8 : (q : Int) < 8 := by omega
      obtain ⟨b, o', c', e, _, _⟩ := hL'.out.there (by omega)
      injection e with e1 _ e2
      subst e1
      subst e2
      obtain ⟨y, hy⟩ : ∃ y, l[q]? = some y := ⟨_, List.getElem?_eq_getElem (by rw [hl'.out]; omega)⟩
      have hyc := mcs_at l q y hy
      have hS := putAll_succ (putM) l q y hy
      obtain ⟨L, hLd⟩ : ∃ L, putAll (putM) (l.take q) = L := ⟨_, rfl⟩
      have hLn : L.length ≤ 1000 := by rw [← hLd]; exact putAll_len (putM) putM_len (l.take q) (by rw [List.length_take]; omega)
      rw [hLd] at hS hor'
      have hS' := veil hS
      have hbw : Below w.heap.size w wr := Kp.below hb3'.out hkp'.out (by omega) (by have := hs3'.out; omega)
      have kk := veil (show ((q : Int) + 1) = ((q + 1 : Nat) : Int) by omega)
      have hblt : b < wr.heap.size := by
        obtain ⟨_, hh⟩ := List.getElem?_eq_some_iff.1 hyc.1
        exact World.block_lt_of_cell? wr _ ((hL'.out.below hbw).cells (by omega) _ _ hyc.1)
      have cq := (hL'.out.below hbw).cells (by omega) _ _ hyc.1
      have cq2 := (hL'.out.below hbw).cells (by omega) _ _ hyc.2
      have hpr : wr.heap[w.heap.size]? = some (.cells #[.int .u8 k, .string s, .slice A1 n1 c1, .slice A2 n2 c2, .slice (some ⟨b, o', none⟩) n3 c3] vT (0, 0)) := (hkp'.out.blk _ (by omega) (by have := hs3'.out; omega)).trans hp3'.out
      have hplt := (Array.getElem?_eq_some_iff.1 hpr).1
      have cp := veil (show wr.cell? ⟨w.heap.size, 4, none⟩ = some (.slice (some ⟨b, o', none⟩) n3 c3) by rw [cell_of_row _ _ _ _ _ _ hpr]; rfl)
      have hglt : (w.heap.size + 1 + 1) < wr.heap.size := (Array.getElem?_eq_some_iff.1 hgr'.out).1
      have cg := veil (show wr.cell? ⟨(w.heap.size + 1 + 1), 4, none⟩ = some v by rw [cell_of_row _ _ _ _ _ _ hgr'.out]; rfl)
      have hcall := veil (fun (w' : World) (hw' : Below wr.heap.size wr w') => PutMark_any v L y w' ((gR_own hor'.out).below hw') (by omega))
      clear hS hyc hLd
      clear hpr
      obtain ⟨PG, hPG⟩ : ∃ PG, (Pg (w.heap.size + 1 + 1) (fun v => #[.int .u8 0, .string ⟨#[]⟩, nlv, nlv, v]) 43 2 (putM y L).length (mcs (putM y L))) = PG := ⟨_, rfl⟩
      have hP0 : ∀ W W' : World, PG W → Below W.heap.size W W' → PG W' := hPG ▸ Pg_bel _ _ _ _ _ _
      have cpw := cp.out
      go_wp2_with fail
      refine RelG.wp_region_relS (G := FldO (w.heap.size + 1 + 1) PG hP0) (G1 := BelV) (n := 104) (bel_fld _ _ _) 9 _ [] [RelG.is _ 89 (.pointer (some ⟨(w.heap.size + 1 + 1), 4, none⟩)), RelG.is _ 90 v, RelG.is _ 91 (.pointer (some ⟨w.heap.size, 4, none⟩)), RelG.is _ 92 (.slice (some ⟨b, o', none⟩) n3 c3), RelG.is _ 93 (.int .i64 q), RelG.is _ 94 (.pointer (some ⟨b, o' + q * 2, none⟩)), RelG.is _ 95 (.agg #[.string y.1, .int .i64 y.2]), ownW (w.heap.size + 1 + 1) PG hP0 96 43 2 (putM y L).length (mcs (putM y L)), RelG.is _ 97 (.pointer (some ⟨(w.heap.size + 1 + 1), 4, none⟩)), RelG.wo _ PG (fun W W' h hle => hle.2 h)] [[89], [90], [91], [92], [93], [94], [95], [96], [97], []] (by kernel_rfl) rfl rfl (by kernel_rfl) rfl (by kernel_rfl) ?_ ?_ (fun i hi => by cases hi) ?_
      · refine RelG.stepsS_cons (RelG.step_run0 (n := 104) (t := 3) (u := 89) (v := .pointer (some ⟨(w.heap.size + 1 + 1), 0, none⟩)) rfl rfl rfl (by decide) (by kernel_rfl) (by kernel_rfl) (fun ρ w' hle h hk => by simp [execOp, h, hk, go_sem]) rfl) ?_
        refine RelG.stepsS_cons (RelG.step_run (n := 104) (j := 0) (t := 89) (u := 90) (v := .pointer (some ⟨(w.heap.size + 1 + 1), 4, none⟩)) rfl rfl rfl (by decide) rfl rfl (fun ρ w' hle h hk => by
            have c := (Below.cell hle (p := ⟨(w.heap.size + 1 + 1), 4, none⟩) hglt).trans cg.out
            simp [execOp, h, hk, go_sem, c]) rfl) ?_
        refine RelG.stepsS_cons (RelG.step_run0 (n := 104) (t := 1) (u := 91) (v := .pointer (some ⟨w.heap.size, 0, none⟩)) rfl rfl rfl (by decide) (by kernel_rfl) (by kernel_rfl) (fun ρ w' hle h hk => by simp [execOp, h, hk, go_sem]) rfl) ?_
        refine RelG.stepsS_cons (RelG.step_run (n := 104) (j := 2) (t := 91) (u := 92) (v := .pointer (some ⟨w.heap.size, 4, none⟩)) rfl rfl rfl (by decide) rfl rfl (fun ρ w' hle h hk => by
            have c := (Below.cell hle (p := ⟨w.heap.size, 4, none⟩) hplt).trans cp.out
            simp [execOp, h, hk, go_sem, c]) rfl) ?_
        refine RelG.stepsS_cons (RelG.step_was (n := 104) (t := 7) (u := 93) rfl rfl rfl rfl (by decide) (by kernel_rfl) (by kernel_rfl) rfl) ?_
        refine RelG.stepsS_cons (RelG.step_run2 (n := 104) (j := 3) (t := 92) (j2 := 4) (t2 := 93) (u := 94) (v := .slice (some ⟨b, o', none⟩) n3 c3) (v2 := .int .i64 q) rfl rfl rfl (by decide) rfl rfl rfl rfl (fun ρ w' hle h h2 hk => by simp [execOp, h, h2, hk, go_sem, q0, qN, qM, qn, qNM, addV]) rfl) ?_
        refine RelG.stepsS_cons (RelG.step_run (n := 104) (j := 5) (t := 94) (u := 95) (v := .pointer (some ⟨b, o' + q * 2, none⟩)) rfl rfl rfl (by decide) rfl rfl (fun ρ w' hle h hk => by
            have d0 := (Below.cell hle (p := ⟨b, o' + q * 2, none⟩) hblt).trans cq
            have d1 := (Below.cell hle (p := ⟨b, o' + q * 2 + 1, none⟩) hblt).trans cq2
            simp [execOp, h, hk, go_sem, d0, d1]) rfl) ?_
        refine RelG.stepsS_cons (RelG.step_call rfl Tryz.func12 (by kernel_rfl) rfl #[v, .agg #[.string y.1, .int .i64 y.2]] rfl (fun b' w' D => by
            have e1 : b'.eval (.tmp 90) = v := D.is 1 rfl rfl
            have e2 : b'.eval (.tmp 95) = .agg #[.string y.1, .int .i64 y.2] := D.is 6 rfl rfl
            simp only [List.map_toArray, List.map_cons, List.map_nil, e1, e2]) (fun b' w' D => (hcall.out w' D.bel).mono fun ee w'' ⟨u, he, ho, hb⟩ => ⟨u, he, by
              show ownP _ _ _ _ _ (RelG.get (b'.put (some 96) u) 96) w''
              rw [RelG.get_put b' 96 _ (by rw [D.siz]; exact (by decide : 96 < 104))]
              exact ⟨_, by have := Below.size D.bel; omega, ho⟩, hb⟩)) ?_
        refine RelG.stepsS_cons (RelG.step_run0 (n := 104) (t := 3) (u := 97) (v := .pointer (some ⟨(w.heap.size + 1 + 1), 0, none⟩)) rfl rfl rfl (by decide) (by kernel_rfl) (by kernel_rfl) (fun ρ w' hle h hk => by simp [execOp, h, hk, go_sem]) rfl) ?_
        exact RelG.stepsS_skip trivial
      · refine RelG.storeS_skip rfl rfl fun b' w' D => ?_
        have e1 : b'.eval (.tmp 97) = .pointer (some ⟨(w.heap.size + 1 + 1), 4, none⟩) := D.is 8 rfl rfl
        obtain ⟨base, hb1, hb2⟩ := D.rel 7 rfl
        obtain ⟨u, hu⟩ : ∃ u, b'.eval (.tmp 96) = u := ⟨_, rfl⟩
        have hb2' : w'.ownsRow base 43 2 u (putM y L).length (mcs (putM y L)) := hu ▸ hb2
        have hgw := (Below.block D.bel _ hglt).trans hgr'.out
        have z1 : w'.cell? ⟨(w.heap.size + 1 + 1), 4, none⟩ = some v := by rw [cell_of_row _ _ _ _ _ _ hgw]; rfl
        have z2 : w'.frozen? ⟨(w.heap.size + 1 + 1), 4, none⟩ = false := by simp [World.frozen?, hgw]
        have h1 := setCell_heap 4 u _ _ hgw
        refine ⟨w'.setCell ⟨(w.heap.size + 1 + 1), 4, none⟩ u, ?_, ?_, setCell_kp _ _, fun _ => ?_⟩
        · obtain ⟨A, n, c, rfl⟩ := own_slice hb2'
          unfold execOp
          simp only [e1, hu]
          simp [go_sem, z1, z2]
        · show PG _
          rw [← hPG]
          exact ⟨u, h1, own_weaken (Kp.own hb2' hb1 (setCell_kp _ _)) (by omega)⟩
        · rw [← hPG]
          exact ⟨u, h1, own_weaken (Kp.own hb2' hb1 (setCell_kp _ _)) (by omega)⟩
      · intro vs e w9 hg hv hle
        have hv8 : PG w9 := hv 9 (by decide)
        rw [← hPG] at hv8
        obtain ⟨v9, hg9, ho9⟩ := hv8
        clear hv
        have hkp9 : Kp (w.heap.size + 1 + 1) wr w9 := hle.1
        simp only [Rel.fill, Act.put, List.setIfInBounds_toArray, List.set_cons_zero, List.set_cons_succ]
        have hg9' := veil hg9
        have ho9' := veil ho9
        have hkp9' := veil hkp9
        clear hg hle hg9 ho9 hkp9 cg hcall hblt cq hglt cq2 cp cpw hplt
        go_wp2_with fail
        go_roundw
        case rel => exact ⟨q + 1, v9, hlt, congrArg (Value.int .i64) kk.out, hg9'.out, by rw [hS'.out]; exact ho9'.out, hkp'.out.trans hkp9'.out⟩
        case measure => simp [intOf]; omega
    · obtain rfl : m = q := by omega
      have hor2 : wr.ownsRow ((w.heap.size + 1 + 1) + 1) 43 2 v (putAll (putM) (l.take 8)).length (mcs (putAll (putM) (l.take 8))) := by rw [← hmt.out]; exact hor'.out
      obtain ⟨M, hM⟩ : ∃ M, putAll (putM) (l.take 8) = M := ⟨_, rfl⟩
      rw [hM] at hor2 ⊢
      have hMn : M.length ≤ 1000 := by rw [← hM]; exact putAll_len (putM) putM_len (l.take 8) (by rw [List.length_take]; omega)
      obtain ⟨A, n, c, rfl⟩ := own_slice hor2
      obtain rfl : n = M.length := own_slice_len hor2
      have hprE : wr.heap[w.heap.size]? = some (.cells #[.int .u8 k, .string s, .slice A1 n1 c1, .slice A2 n2 c2, .slice A3 n3 c3] vT (0, 0)) := (hkp'.out.blk _ (by omega) (by have := hs3'.out; omega)).trans hp3'.out
      have cpE : wr.cell? ⟨w.heap.size, 4, none⟩ = some (.slice A3 n3 c3) := by rw [cell_of_row _ _ _ _ _ _ hprE]; rfl
      clear hprE
      have hor3 := veil hor2
      have hM' := veil hM
      have d0 : wr.cell? ⟨(w.heap.size + 1 + 1), 0, none⟩ = some (.int .u8 0) := by rw [cell_of_row _ _ _ _ _ _ hgr'.out]; rfl
      have bd : wr.cell? ⟨(w.heap.size + 1 + 1), 1, none⟩ = some (.string ⟨#[]⟩) := by rw [cell_of_row _ _ _ _ _ _ hgr'.out]; rfl
      have cd : wr.cell? ⟨(w.heap.size + 1 + 1), 2, none⟩ = some (nlv) := by rw [cell_of_row _ _ _ _ _ _ hgr'.out]; rfl
      have dd : wr.cell? ⟨(w.heap.size + 1 + 1), 3, none⟩ = some (nlv) := by rw [cell_of_row _ _ _ _ _ _ hgr'.out]; rfl
      have ed : wr.cell? ⟨(w.heap.size + 1 + 1), 4, none⟩ = some (.slice A M.length c) := by rw [cell_of_row _ _ _ _ _ _ hgr'.out]; rfl
      have d1 : wr.frozen? ⟨(w.heap.size + 1 + 1), 0, none⟩ = false := by simp [World.frozen?, hgr'.out]
      obtain ⟨wS, hwS⟩ : ∃ wS : World, wS = wr.setCell ⟨(w.heap.size + 1 + 1), 0, none⟩ (.int .u8 5) := ⟨_, rfl⟩
      have hgS : Veil (wS.heap[(w.heap.size + 1 + 1)]? = some (.cells #[.int .u8 5, .string ⟨#[]⟩, nlv, nlv, .slice A M.length c] vT (0, 0))) := veil (by rw [hwS]; exact setCell_heap 0 _ _ _ hgr'.out)
      have hkS : Veil (Kp (w.heap.size + 1 + 1) w3 wS) := veil (hkp'.out.trans (by rw [hwS]; exact setCell_kp _ _))
      have hoS : Veil (wS.ownsRow ((w.heap.size + 1 + 1) + 1) 43 2 (.slice A M.length c) M.length (mcs M)) := veil (Kp.own hor3.out (Nat.lt_succ_self _) (by rw [hwS]; exact setCell_kp _ _))
      have hwS' := veil hwS
      clear hor2 hor3 hM hwS hor'
      rcases Nat.lt_or_ge m n3 with hmx | hmx
      have f1 : (m : Int) < n3 := by omega
      have f2 : ¬ ((m : Int) < 8) := by have := hmq.out hmx; omega
      rotate_left
      have f1 : ¬ ((m : Int) < n3) := by omega
      have f2 : (0 : Int) ≤ 0 := Int.le_refl _
      rotate_left
      all_goals
        go_wp2_with fail
        rw [← hwS'.out]
        have hl1 := hgS.out
        clear d0 d1 bd cd dd ed
        go_wp2_with fail
        refine (Size_any 5 ⟨#[]⟩ _ _ _ _ _ _ _ _ _ wS (by decide)).mono ?_
        rintro e w4 ⟨rfl, hb4⟩
        rw [show sizeF 5 0 0 M.length = M.length by simp [sizeF]]
        have hr4 : w4.heap[w.heap.size + 1]? = some (.cells #[.int .u8 0, .string ⟨#[]⟩, nlv, nlv, nlv] vT (0, 0)) := ((hb4.block _ (by have := hkS.out.size; have := hs3'.out; omega)).trans (hkS.out.blk _ (by omega) (by have := hs3'.out; omega))).trans hr3'.out
        have hg4 : w4.heap[(w.heap.size + 1 + 1)]? = some (.cells #[.int .u8 5, .string ⟨#[]⟩, nlv, nlv, .slice A M.length c] vT (0, 0)) := (hb4.block _ (by have := hkS.out.size; have := hs3'.out; omega)).trans hgS.out
        have hb5 : Veil (Below w.heap.size w w4) := veil (two_below (Kp.below hb3'.out hkS.out (by omega) (by have := hs3'.out; omega)) hb4)
        have ho4 : Veil (w4.ownsRow ((w.heap.size + 1 + 1) + 1) 43 2 (.slice A M.length c) M.length (mcs M)) := veil (own_move hoS.out (fun k hk => hb4.block k (own_lt hoS.out k hk)))
        have hr4' := veil hr4
        have hg4' := veil hg4
        clear hb4 hr4
        clear hg4
        rcases Nat.eq_zero_or_pos M.length with hM0 | hM0
        · have hz : ((M.length : Int) == 0) = true := by simp [hM0]
          have hMn0 : M = [] := List.eq_nil_of_length_eq_zero hM0
          have hb6 := hb5
          clear hM0
          go_wp2_with (refine wpList_store_row rfl vT _ _ rfl (w.heap.size + 1) #[.int .u8 0, .string ⟨#[]⟩, nlv, nlv, nlv] rfl rfl vT #[.int .u8 0, .string ⟨#[]⟩, nlv, nlv, nlv] hr4'.out (info5v _ _ _ _ _) rfl (one5v _ _ _ _ _ _ _ _ _ _ _) ?_)
          refine bodyPost_ret (v := .agg #[.int .u8 0, .string ⟨#[]⟩, nlv, nlv, nlv]) ?_ rfl ⟨#[.int .u8 0, .string ⟨#[]⟩, nlv, nlv, nlv], rfl, ⟨⟨nlv, nlv, nlv, by rw [hM'.out, hMn0]; rfl, by rw [hM'.out, hMn0]; exact gR_nil _, by rw [hM'.out, hMn0]; exact gR_nil _, by rw [hM'.out, hMn0]; exact gR_nil _⟩⟩, below_setRow hb5.out _ _ (by omega)⟩
          exact results_cell_row (p := 2) (ty := vT) Tryz.results5 _ _ (w.heap.size + 1) vT #[.int .u8 0, .string ⟨#[]⟩, nlv, nlv, nlv] (0, 0) _ rfl (setRow_heap _ _ _ _ _ (0, 0) hr4'.out) Tryz.underlying26 rfl (info5v _ _ _ _ _)
        · have hz : ((M.length : Int) == 0) = false := by rw [beq_eq_false_iff_ne]; omega
          have hMn0 : M ≠ [] := fun h => by rw [h] at hM0; simp at hM0
          have l4a : w4.cell? ⟨(w.heap.size + 1 + 1), 0, none⟩ = some (.int .u8 5) := by rw [cell_of_row _ _ _ _ _ _ hg4'.out]; rfl
          have l4b : w4.cell? ⟨(w.heap.size + 1 + 1), 1, none⟩ = some (.string ⟨#[]⟩) := by rw [cell_of_row _ _ _ _ _ _ hg4'.out]; rfl
          have l4c : w4.cell? ⟨(w.heap.size + 1 + 1), 2, none⟩ = some (nlv) := by rw [cell_of_row _ _ _ _ _ _ hg4'.out]; rfl
          have l4d : w4.cell? ⟨(w.heap.size + 1 + 1), 3, none⟩ = some (nlv) := by rw [cell_of_row _ _ _ _ _ _ hg4'.out]; rfl
          have l4e : w4.cell? ⟨(w.heap.size + 1 + 1), 4, none⟩ = some (.slice A M.length c) := by rw [cell_of_row _ _ _ _ _ _ hg4'.out]; rfl
          go_wp2_with (refine wpList_store_row rfl vT _ _ rfl (w.heap.size + 1) #[.int .u8 5, .string ⟨#[]⟩, nlv, nlv, .slice A M.length c] rfl rfl vT #[.int .u8 0, .string ⟨#[]⟩, nlv, nlv, nlv] hr4'.out (info5v _ _ _ _ _) rfl (one5v _ _ _ _ _ _ _ _ _ _ _) ?_)
          have hvv : vvSorted M = _ := if_neg hMn0
          refine bodyPost_ret (v := .agg #[.int .u8 5, .string ⟨#[]⟩, nlv, nlv, .slice A M.length c]) ?_ rfl ⟨#[.int .u8 5, .string ⟨#[]⟩, nlv, nlv, .slice A M.length c], rfl, ⟨⟨nlv, nlv, .slice A M.length c, by rw [hM'.out, hvv], by rw [hM'.out, hvv]; exact gR_nil _, by rw [hM'.out, hvv]; exact gR_nil _, by rw [hM'.out, hvv]; exact gR_own (Kp.own ho4.out (by omega) (setRow_kp _))⟩⟩, below_setRow hb5.out _ _ (by omega)⟩
          exact results_cell_row (p := 2) (ty := vT) Tryz.results5 _ _ (w.heap.size + 1) vT #[.int .u8 5, .string ⟨#[]⟩, nlv, nlv, .slice A M.length c] (0, 0) _ rfl (setRow_heap _ _ _ _ _ (0, 0) hr4'.out) Tryz.underlying26 rfl (info5v _ _ _ _ _)
end Go.Proofs.Tryz.Vl
/- ref09.Fit, whole. -/
namespace Go.Proofs.Tryz.Vl
open Go Go.RowKit Go.Proofs.Mem Go.Proofs.App
open Go.Proofs.YtcdcbkopapedhaaGreatDoorW.PrintWords Go.Proofs.YtcdcbkopapedhaaGreatDoorW.PrintLast Go.Proofs.YtcdcbkopapedhaaGreatDoorW.PrintMore
open Go.Proofs.Rel (dsts depsOf)
set_option linter.unusedVariables false
set_option linter.unusedSimpArgs false
attribute [local go_sem] vmin2 min_two
set_option maxRecDepth 100000 in
set_option maxHeartbeats 4000000 in
theorem Size_none (s : BA) (x y z : Value) (w : World) :
    Calls Tryz.prog 13 #[.agg #[.int .u8 0, .string s, x, y, z]] w fun e w' => e = .returned (.int .i64 0) ∧ Below w.heap.size w w' := by
  go_enter Tryz.func13, Tryz.ntmps13
  go_wp2_with fail
  go_ret
  exact ⟨rfl, below_alloc (Below.refl _ _) _⟩
def vvText (s : BA) : VV := ⟨1, s.extract 0 (mnI s.size 40).toNat, [], [], []⟩
theorem isV_zero (w : World) : IsV w #[.int .u8 0, .string ⟨#[]⟩, nlv, nlv, nlv] zeroV := ⟨⟨nlv, nlv, nlv, rfl, gR_nil _, gR_nil _, gR_nil _⟩⟩
set_option maxRecDepth 100000 in
set_option maxHeartbeats 8000000 in
theorem Fit_none (k : Int) (s : BA) (A1 A2 A3 : Option Addr) (n1 n2 n3 c1 c2 c3 : Nat) (w : World) (hk : 0 ≤ k ∧ k ≤ 255) (hr : k % 6 = 0) (hc1 : n1 ≤ c1) :
    Calls Tryz.prog 5 #[.agg #[.int .u8 k, .string s, .slice A1 n1 c1, .slice A2 n2 c2, .slice A3 n3 c3]] w (FitP zeroV w) := by
  have hkm : Int.tmod k 6 = 0 := by rw [Int.tmod_eq_emod_of_nonneg hk.1]; exact hr
  obtain ⟨m1, hm1⟩ : ∃ m1, min n1 8 = m1 := ⟨_, rfl⟩
  have hmm1 := mnv n1
  rw [hm1] at hmm1
  have hcut := cutV A1 n1 c1 m1 (by omega) hc1
  obtain ⟨w3, hw3⟩ : ∃ w3 : World, w3 = ((w.alloc (.cells #[.int .u8 k, .string s, .slice A1 n1 c1, .slice A2 n2 c2, .slice A3 n3 c3] vT)).alloc (.cells #[.int .u8 0, .string ⟨#[]⟩, nlv, nlv, nlv] vT)).alloc (.cells #[.int .u8 0, .string ⟨#[]⟩, nlv, nlv, nlv] vT) := ⟨_, rfl⟩
  obtain ⟨hp3, hr3, hg3, hs3, hb3⟩ := three w #[.int .u8 k, .string s, .slice A1 n1 c1, .slice A2 n2 c2, .slice A3 n3 c3] #[.int .u8 0, .string ⟨#[]⟩, nlv, nlv, nlv] #[.int .u8 0, .string ⟨#[]⟩, nlv, nlv, nlv] w3 hw3
  have hr3' := veil hr3
  have hs3' := veil hs3
  have hb3' := veil hb3
  have hw3' := veil hw3
  clear hp3 hr3 hg3 hs3 hb3 hw3 hm1
  go_enter Tryz.func5, Tryz.ntmps5
  go_wp2_with fail
  rw [← hw3'.out]
  refine (Size_none _ _ _ _ w3).mono ?_
  rintro e w4 ⟨rfl, hb4⟩
  have hr4' := veil ((hb4.block _ (by have := hs3'.out; omega)).trans hr3'.out)
  have hb5 := veil (two_below hb3'.out hb4)
  clear hb4
  go_wp2_with (refine wpList_store_row rfl vT _ _ rfl (w.heap.size + 1) #[.int .u8 0, .string ⟨#[]⟩, nlv, nlv, nlv] rfl rfl vT #[.int .u8 0, .string ⟨#[]⟩, nlv, nlv, nlv] hr4'.out (info5v _ _ _ _ _) rfl (one5v _ _ _ _ _ _ _ _ _ _ _) ?_)
  refine bodyPost_ret (v := .agg #[.int .u8 0, .string ⟨#[]⟩, nlv, nlv, nlv]) ?_ rfl ⟨#[.int .u8 0, .string ⟨#[]⟩, nlv, nlv, nlv], rfl, isV_zero _, below_setRow hb5.out _ _ (by omega)⟩
  exact results_cell_row (p := 2) (ty := vT) Tryz.results5 _ _ (w.heap.size + 1) vT #[.int .u8 0, .string ⟨#[]⟩, nlv, nlv, nlv] (0, 0) _ rfl (setRow_heap _ _ _ _ _ (0, 0) hr4'.out) Tryz.underlying26 rfl (info5v _ _ _ _ _)
set_option maxRecDepth 100000 in
set_option maxHeartbeats 8000000 in
theorem Fit_text (k : Int) (s : BA) (A1 A2 A3 : Option Addr) (n1 n2 n3 c1 c2 c3 : Nat) (w : World) (hk : 0 ≤ k ∧ k ≤ 255) (hr : k % 6 = 1) (hc1 : n1 ≤ c1) :
    Calls Tryz.prog 5 #[.agg #[.int .u8 k, .string s, .slice A1 n1 c1, .slice A2 n2 c2, .slice A3 n3 c3]] w (FitP (vvText s) w) := by
  have hkm : Int.tmod k 6 = 1 := by rw [Int.tmod_eq_emod_of_nonneg hk.1]; exact hr
  obtain ⟨m1, hm1⟩ : ∃ m1, min n1 8 = m1 := ⟨_, rfl⟩
  have hmm1 := mnv n1
  rw [hm1] at hmm1
  have hcut := cutV A1 n1 c1 m1 (by omega) hc1
  have hs0 : 0 ≤ mnI s.size 40 := by unfold mnI; split <;> omega
  have hs1 : mnI s.size 40 ≤ s.size := by unfold mnI; split <;> omega
  obtain ⟨w3, hw3⟩ : ∃ w3 : World, w3 = ((w.alloc (.cells #[.int .u8 k, .string s, .slice A1 n1 c1, .slice A2 n2 c2, .slice A3 n3 c3] vT)).alloc (.cells #[.int .u8 0, .string ⟨#[]⟩, nlv, nlv, nlv] vT)).alloc (.cells #[.int .u8 0, .string ⟨#[]⟩, nlv, nlv, nlv] vT) := ⟨_, rfl⟩
  obtain ⟨hp3, hr3, hg3, hs3, hb3⟩ := three w #[.int .u8 k, .string s, .slice A1 n1 c1, .slice A2 n2 c2, .slice A3 n3 c3] #[.int .u8 0, .string ⟨#[]⟩, nlv, nlv, nlv] #[.int .u8 0, .string ⟨#[]⟩, nlv, nlv, nlv] w3 hw3
  have hr3' := veil hr3
  have hs3' := veil hs3
  have hb3' := veil hb3
  have hw3' := veil hw3
  clear hp3 hr3 hg3 hs3 hb3 hw3 hm1
  obtain ⟨t, ht⟩ : ∃ t, s.extract 0 (mnI s.size 40).toNat = t := ⟨_, rfl⟩
  have hT : Veil (vvText s = ⟨1, t, [], [], []⟩) := veil (by unfold vvText; rw [ht])
  go_enter Tryz.func5, Tryz.ntmps5
  go_wp2_with (refine wpList_store_row rfl vT _ _ rfl (w.heap.size + 1) #[.int .u8 1, .string t, nlv, nlv, nlv] rfl rfl vT #[.int .u8 0, .string ⟨#[]⟩, nlv, nlv, nlv] (hw3'.out ▸ hr3'.out) (info5v _ _ _ _ _) rfl (one5v _ _ _ _ _ _ _ _ _ _ _) ?_)
  rw [← hw3'.out]
  refine bodyPost_ret (v := .agg #[.int .u8 1, .string t, nlv, nlv, nlv]) ?_ rfl ⟨#[.int .u8 1, .string t, nlv, nlv, nlv], rfl, ⟨⟨nlv, nlv, nlv, by rw [hT.out], by rw [hT.out]; exact gR_nil _, by rw [hT.out]; exact gR_nil _, by rw [hT.out]; exact gR_nil _⟩⟩, below_setRow hb3'.out _ _ (by omega)⟩
  exact results_cell_row (p := 2) (ty := vT) Tryz.results5 _ _ (w.heap.size + 1) vT #[.int .u8 1, .string t, nlv, nlv, nlv] (0, 0) _ rfl (setRow_heap _ _ _ _ _ (0, 0) hr3'.out) Tryz.underlying26 rfl (info5v _ _ _ _ _)
theorem gR_reads {w : World} {A : Option Addr} {n c m : Nat} {l : List BA} (h : gR w (.slice A n c) n (scs l)) (hl : l.length = n) (hm : m ≤ n) : ReadsOf Value.string ByteArray.empty w A m (l.take m) := by
  refine ⟨by rw [List.length_take]; omega, ?_, fun h0 => ?_⟩
  · obtain ⟨A', c', e, h1, h2, _⟩ := h.ex
    injection e with _ _ e
    subst e
    omega
  · obtain ⟨A', c', e, h1, h2, h3, h4⟩ := h.ex
    injection e with e1 _ e
    subst e
    subst e1
    obtain ⟨ad, rfl, hc⟩ := h4 (by omega)
    refine ⟨ad, rfl, fun j hj => ?_⟩
    have hy : l[j]? = some (l[j]'(by omega)) := List.getElem?_eq_getElem (by omega)
    rw [hc j _ (scs_at l j _ hy)]
    congr 2
    rw [List.getD_eq_getElem?_getD, List.getElem?_take_of_lt hj, hy]
    rfl
set_option maxRecDepth 100000 in
set_option maxHeartbeats 8000000 in
theorem Fit_list (k : Int) (s : BA) (A1 A2 A3 : Option Addr) (n1 n2 n3 c1 c2 c3 : Nat) (l : List BA) (w : World) (hk : 0 ≤ k ∧ k ≤ 255) (hr : k % 6 = 2) (hL : gR w (.slice A1 n1 c1) n1 (scs l)) (hl : l.length = n1) (hc1 : n1 ≤ c1) :
    Calls Tryz.prog 5 #[.agg #[.int .u8 k, .string s, .slice A1 n1 c1, .slice A2 n2 c2, .slice A3 n3 c3]] w (FitP (vvList (l.take 8)) w) := by
  have hkm : Int.tmod k 6 = 2 := by rw [Int.tmod_eq_emod_of_nonneg hk.1]; exact hr
  obtain ⟨m, hmm⟩ : ∃ m, min n1 8 = m := ⟨_, rfl⟩
  have hm := mnv n1
  rw [hmm] at hm
  have hm8 : m ≤ 8 := by omega
  have hmn : m ≤ n1 := by omega
  have hcut := cutV A1 n1 c1 m hmn hc1
  obtain ⟨w3, hw3⟩ : ∃ w3 : World, w3 = ((w.alloc (.cells #[.int .u8 k, .string s, .slice A1 n1 c1, .slice A2 n2 c2, .slice A3 n3 c3] vT)).alloc (.cells #[.int .u8 0, .string ⟨#[]⟩, nlv, nlv, nlv] vT)).alloc (.cells #[.int .u8 0, .string ⟨#[]⟩, nlv, nlv, nlv] vT) := ⟨_, rfl⟩
  obtain ⟨hp3, hr3, hg3, hs3, hb3⟩ := three w #[.int .u8 k, .string s, .slice A1 n1 c1, .slice A2 n2 c2, .slice A3 n3 c3] #[.int .u8 0, .string ⟨#[]⟩, nlv, nlv, nlv] #[.int .u8 0, .string ⟨#[]⟩, nlv, nlv, nlv] w3 hw3
  have hmt : Veil (l.take m = l.take 8) := veil (take_mn l _ m hl hmm)
  obtain ⟨wE, hwE⟩ : ∃ wE : World, wE = w3.alloc (.cells #[] 9) := ⟨_, rfl⟩
  have hbE : Below w3.heap.size w3 wE := by rw [hwE]; exact below_alloc (Below.refl _ _) _
  have hoE : Veil (wE.ownsRow w3.heap.size 9 1 (.slice (some ⟨w3.heap.size, 0, none⟩) 0 0) ([] : List BA).length (encs Value.string [])) := veil (by rw [hwE]; exact ownNew _ _ _ (Nat.le_refl _))
  have hrE := veil (gR_reads ((hL.below hb3).below hbE) hl hmn)
  have hr3' := veil hr3
  have hg3' := veil hg3
  have hs3' := veil hs3
  have hb3' := veil hb3
  have hbE' := veil hbE
  have hwE' := veil (show wE = (((w.alloc (.cells #[.int .u8 k, .string s, .slice A1 n1 c1, .slice A2 n2 c2, .slice A3 n3 c3] vT)).alloc (.cells #[.int .u8 0, .string ⟨#[]⟩, nlv, nlv, nlv] vT)).alloc (.cells #[.int .u8 0, .string ⟨#[]⟩, nlv, nlv, nlv] vT)).alloc (.cells #[] 9) by rw [hwE, hw3])
  have hgb : Veil (w3.heap.size = w.heap.size + 1 + 1 + 1) := veil (by omega)
  have hsz : w3.heap.size ≤ wE.heap.size := hbE.size
  have hlm : (l.take m).length = m := by rw [List.length_take]; omega
  clear hp3 hr3 hg3 hs3 hb3 hw3 hmm hL hwE hbE
  go_enter Tryz.func5, Tryz.ntmps5
  go_wp2_with (refine at_app _ _ _ rfl ?_)
  refine veil ?_
  rw [← hwE'.out]
  refine print_append_row_of (w0 := w3) Value.string ByteArray.empty w3.heap.size rfl (.tmp 31) (.tmp 32) 22 9 (.string ⟨#[]⟩) 16 rfl Tryz.underlying22 infoT rfl (by decide) (fun _ => rfl) (.slice (some ⟨w3.heap.size, 0, none⟩) 0 0) [] (l.take m) A1 m c1 (by rw [hgb.out]; rfl) rfl hoE.out hrE.out hbE'.out hsz (by simp; omega) ?_
  intro v1 w1 ho1 hb1 _ _
  have hoM : Veil (w1.ownsRow (w.heap.size + 1 + 1 + 1) 9 1 v1 (l.take 8).length (scs (l.take 8))) := veil (by rw [← hgb.out, ← hmt.out, scs_encs]; exact ho1)
  have hg1 := (hb1.block _ (by have := hs3'.out; omega)).trans hg3'.out
  have hr1 := veil ((hb1.block _ (by have := hs3'.out; omega)).trans hr3'.out)
  have hbw := veil (two_below hb3'.out hb1)
  obtain ⟨M, hM⟩ : ∃ M, l.take 8 = M := ⟨_, rfl⟩
  rw [hM] at hoM ⊢
  have hMn : M.length ≤ 8 := by rw [← hM, List.length_take]; omega
  obtain ⟨A, n, c, rfl⟩ := own_slice hoM.out
  obtain rfl : n = M.length := own_slice_len hoM.out
  have d0 : w1.cell? ⟨w.heap.size + 1 + 1, 0, none⟩ = some (.int .u8 0) := by rw [cell_of_row _ _ _ _ _ _ hg1]; rfl
  have dd1 : w1.cell? ⟨w.heap.size + 1 + 1, 1, none⟩ = some (.string ⟨#[]⟩) := by rw [cell_of_row _ _ _ _ _ _ hg1]; rfl
  have dd2 : w1.cell? ⟨w.heap.size + 1 + 1, 2, none⟩ = some nlv := by rw [cell_of_row _ _ _ _ _ _ hg1]; rfl
  have dd3 : w1.cell? ⟨w.heap.size + 1 + 1, 3, none⟩ = some nlv := by rw [cell_of_row _ _ _ _ _ _ hg1]; rfl
  have dd4 : w1.cell? ⟨w.heap.size + 1 + 1, 4, none⟩ = some nlv := by rw [cell_of_row _ _ _ _ _ _ hg1]; rfl
  have f0 : w1.frozen? ⟨w.heap.size + 1 + 1, 0, none⟩ = false := by simp [World.frozen?, hg1]
  have f2 : w1.frozen? ⟨w.heap.size + 1 + 1, 2, none⟩ = false := by simp [World.frozen?, hg1]
  obtain ⟨wS, hwS⟩ : ∃ wS : World, wS = (w1.setCell ⟨w.heap.size + 1 + 1, 2, none⟩ (.slice A M.length c)).setCell ⟨w.heap.size + 1 + 1, 0, none⟩ (.int .u8 2) := ⟨_, rfl⟩
  have hgS : Veil (wS.heap[w.heap.size + 1 + 1]? = some (.cells #[.int .u8 2, .string ⟨#[]⟩, .slice A M.length c, nlv, nlv] vT (0, 0))) := veil (by rw [hwS]; exact setCell_heap 0 _ _ _ (setCell_heap 2 _ _ _ hg1))
  have hkS : Veil (Kp (w.heap.size + 1 + 1) w1 wS) := veil (by rw [hwS]; exact (setCell_kp _ _).trans (setCell_kp _ _))
  have hoS := veil (Kp.own hoM.out (Nat.lt_succ_self _) hkS.out)
  have hwS' := veil hwS
  have hs1 := veil (show w.heap.size + 3 ≤ w1.heap.size by have := hb1.size; have := hs3'.out; omega)
  clear ho1 hb1 hg1 hoM hwS
  go_wp2_with fail
  rw [← hwS'.out]
  clear d0 dd1 dd2 dd3 dd4 f0 f2
  refine (Size_any 2 ⟨#[]⟩ _ _ _ _ _ _ _ _ _ wS (by decide)).mono ?_
  rintro e w4 ⟨rfl, hb4⟩
  rw [show sizeF 2 M.length 0 0 = M.length by simp [sizeF]]
  have hr4' := veil (((hb4.block _ (by have := hkS.out.size; have := hs1.out; omega)).trans (hkS.out.blk _ (by omega) (by have := hs1.out; omega))).trans hr1.out)
  have hg4' := veil ((hb4.block _ (by have := hkS.out.size; have := hs1.out; omega)).trans hgS.out)
  have hb5 : Veil (Below w.heap.size w w4) := veil (two_below (Kp.below hbw.out hkS.out (by omega) (by have := hs1.out; omega)) hb4)
  have ho4 : Veil (w4.ownsRow (w.heap.size + 1 + 1 + 1) 9 1 (.slice A M.length c) M.length (scs M)) := veil (own_move hoS.out (fun k hk => hb4.block k (own_lt hoS.out k hk)))
  have hM' := veil hM
  clear hb4 hM
  rcases Nat.eq_zero_or_pos M.length with hM0 | hM0
  · have hz : ((M.length : Int) == 0) = true := by simp [hM0]
    have hMn0 : M = [] := List.eq_nil_of_length_eq_zero hM0
    clear hM0
    go_wp2_with (refine wpList_store_row rfl vT _ _ rfl (w.heap.size + 1) #[.int .u8 0, .string ⟨#[]⟩, nlv, nlv, nlv] rfl rfl vT #[.int .u8 0, .string ⟨#[]⟩, nlv, nlv, nlv] hr4'.out (info5v _ _ _ _ _) rfl (one5v _ _ _ _ _ _ _ _ _ _ _) ?_)
    refine bodyPost_ret (v := .agg #[.int .u8 0, .string ⟨#[]⟩, nlv, nlv, nlv]) ?_ rfl ⟨#[.int .u8 0, .string ⟨#[]⟩, nlv, nlv, nlv], rfl, by rw [hM'.out, hMn0]; exact isV_zero _, below_setRow hb5.out _ _ (by omega)⟩
    exact results_cell_row (p := 2) (ty := vT) Tryz.results5 _ _ (w.heap.size + 1) vT #[.int .u8 0, .string ⟨#[]⟩, nlv, nlv, nlv] (0, 0) _ rfl (setRow_heap _ _ _ _ _ (0, 0) hr4'.out) Tryz.underlying26 rfl (info5v _ _ _ _ _)
  · have hz : ((M.length : Int) == 0) = false := by rw [beq_eq_false_iff_ne]; omega
    have hMn0 : M ≠ [] := fun h => by rw [h] at hM0; simp at hM0
    have l4a : w4.cell? ⟨w.heap.size + 1 + 1, 0, none⟩ = some (.int .u8 2) := by rw [cell_of_row _ _ _ _ _ _ hg4'.out]; rfl
    have l4b : w4.cell? ⟨w.heap.size + 1 + 1, 1, none⟩ = some (.string ⟨#[]⟩) := by rw [cell_of_row _ _ _ _ _ _ hg4'.out]; rfl
    have l4c : w4.cell? ⟨w.heap.size + 1 + 1, 2, none⟩ = some (.slice A M.length c) := by rw [cell_of_row _ _ _ _ _ _ hg4'.out]; rfl
    have l4d : w4.cell? ⟨w.heap.size + 1 + 1, 3, none⟩ = some nlv := by rw [cell_of_row _ _ _ _ _ _ hg4'.out]; rfl
    have l4e : w4.cell? ⟨w.heap.size + 1 + 1, 4, none⟩ = some nlv := by rw [cell_of_row _ _ _ _ _ _ hg4'.out]; rfl
    go_wp2_with (refine wpList_store_row rfl vT _ _ rfl (w.heap.size + 1) #[.int .u8 2, .string ⟨#[]⟩, .slice A M.length c, nlv, nlv] rfl rfl vT #[.int .u8 0, .string ⟨#[]⟩, nlv, nlv, nlv] hr4'.out (info5v _ _ _ _ _) rfl (one5v _ _ _ _ _ _ _ _ _ _ _) ?_)
    have hvv : vvList M = _ := if_neg hMn0
    refine bodyPost_ret (v := .agg #[.int .u8 2, .string ⟨#[]⟩, .slice A M.length c, nlv, nlv]) ?_ rfl ⟨#[.int .u8 2, .string ⟨#[]⟩, .slice A M.length c, nlv, nlv], rfl, ⟨⟨.slice A M.length c, nlv, nlv, by rw [hM'.out, hvv], by rw [hM'.out, hvv]; exact gR_own (Kp.own ho4.out (by omega) (setRow_kp _)), by rw [hM'.out, hvv]; exact gR_nil _, by rw [hM'.out, hvv]; exact gR_nil _⟩⟩, below_setRow hb5.out _ _ (by omega)⟩
    exact results_cell_row (p := 2) (ty := vT) Tryz.results5 _ _ (w.heap.size + 1) vT #[.int .u8 2, .string ⟨#[]⟩, .slice A M.length c, nlv, nlv] (0, 0) _ rfl (setRow_heap _ _ _ _ _ (0, 0) hr4'.out) Tryz.underlying26 rfl (info5v _ _ _ _ _)
/-- what becomes of a value -/
def fitV (k : Int) (s : BA) (l : List BA) (h : List PR) (z : List MK) : VV :=
  if k % 6 = 1 then vvText s else if k % 6 = 2 then vvList (l.take 8) else if k % 6 = 4 then vvSet (putAll (putF id) (l.take 8))
  else if k % 6 = 3 then vvHash (putAll (putF Prod.fst) (h.take 8)) else if k % 6 = 5 then vvSorted (putAll putM (z.take 8)) else zeroV
theorem Fit_any (k : Int) (s : BA) (x y u : Value) (l : List BA) (h : List PR) (z : List MK) (w : World) (hk : 0 ≤ k ∧ k ≤ 255) (hx : gR w x l.length (scs l)) (hy : gR w y h.length (pcs h)) (hu : gR w u z.length (mcs z)) :
    Calls Tryz.prog 5 #[.agg #[.int .u8 k, .string s, x, y, u]] w (FitP (fitV k s l h z) w) := by
  obtain ⟨A1, c1, rfl, hc1⟩ := hx.slice
  obtain ⟨A2, c2, rfl, hc2⟩ := hy.slice
  obtain ⟨A3, c3, rfl, hc3⟩ := hu.slice
  unfold fitV
  by_cases h1 : k % 6 = 1
  · rw [if_pos h1]; exact Fit_text k s A1 A2 A3 _ _ _ c1 c2 c3 w hk h1 hc1
  rw [if_neg h1]
  by_cases h2 : k % 6 = 2
  · rw [if_pos h2]; exact Fit_list k s A1 A2 A3 _ _ _ c1 c2 c3 l w hk h2 hx rfl hc1
  rw [if_neg h2]
  by_cases h4 : k % 6 = 4
  · rw [if_pos h4]; exact Fit_set k s A1 A2 A3 _ _ _ c1 c2 c3 l w hk h4 hx rfl hc1 hc2 hc3
  rw [if_neg h4]
  by_cases h3 : k % 6 = 3
  · rw [if_pos h3]; exact Fit_hash k s A1 A2 A3 _ _ _ c1 c2 c3 h w hk h3 hy rfl hc1 hc2 hc3
  rw [if_neg h3]
  by_cases h5 : k % 6 = 5
  · rw [if_pos h5]; exact Fit_sorted k s A1 A2 A3 _ _ _ c1 c2 c3 z w hk h5 hu rfl hc1 hc2 hc3
  rw [if_neg h5]
  exact Fit_none k s A1 A2 A3 _ _ _ c1 c2 c3 w hk (by omega) hc1
end Go.Proofs.Tryz.Vl
