import Derived.Test.YtnlmdijpbedefaaGreatDoorRelG
import Derived.Test.YtnlmdijpbedefaaGreatDoorBase
/- Regions that call, and store a whole struct into the result's own cells: the order of worlds, and what each operation does in it. -/
namespace Go.Proofs.RelG
open Go Go.RowKit Go.Proofs.Mem Go.Proofs.App Go.Proofs.YtnlmdijpbedefaaGreatDoorW.PrintWords Go.Proofs.YtnlmdijpbedefaaGreatDoorW.PrintLast
open Go.Proofs.Rel (dsts depsOf fill)
set_option linter.unusedVariables false
/-- THE LAW, and what each slot holds at the end -/
theorem wp_region_rel2 {P : Program} {Q : Exit → Act → World → Prop} {l : List Oper} {G : Ord} {a : Act} {n : Nat} {id : Nat} {w : World} (rs : List (Rl G)) (fs : List (List Tmp)) (hm : P.follows .mixedOrders = true) (hn : a.tmps.size = n) (hfs : rs.map Rl.foot = fs) (hok : okB l n fs = true) (hs : Steps P l Q rs a w 0 l)
    (he : ∀ (v : Nat → Value) (e : Tmp → Value) (w' : World), (∀ j t, (l[j]?).bind (·.dst) = some t → e t = v j) → (∀ j, j < l.length → (at_ rs j).r e w') → G.le w w' → Q .normal (fill l 0 v a) w') : (Code.region id l.toArray true).wp P Q a w := by
  have hok' := hok
  simp only [okB, Bool.and_eq_true, decide_eq_true_eq, List.all_eq_true] at hok'
  obtain ⟨⟨⟨_, hnd⟩, hdd⟩, _⟩ := hok'
  refine wp_region_rel rs fs hm hn hfs hok hs fun v w' hv hle => he v (get (fill l 0 v a)) w' (fun j t hj => ?_) hv hle
  cases ho : l[j]? with
  | none => rw [ho] at hj; cases hj
  | some o =>
    rw [ho] at hj
    have ht : t < a.tmps.size := by
      have := hdd o (List.mem_of_getElem? ho)
      rw [show o.dst = some t from hj] at this
      rw [hn]
      simpa using this
    have := fill_new l 0 v a hnd j o t ho hj ht
    rwa [Nat.zero_add] at this
/-- all stays but block g, which goes from oz to o' at most once -/
def storLe (g : Nat) (oz o' : Obj) (w w' : World) : Prop :=
  (w'.os = w.os ∧ w'.tape = w.tape ∧ w'.output = w.output ∧ w.heap.size ≤ w'.heap.size) ∧ (∀ k, k ≠ g → k < w.heap.size → w'.heap[k]? = w.heap[k]?) ∧
  (w.heap[g]? = some oz → w'.heap[g]? = some oz ∨ w'.heap[g]? = some o') ∧ (w.heap[g]? = some o' → w'.heap[g]? = some o')
def Stor (g : Nat) (oz o' : Obj) : Ord where
  le := storLe g oz o'
  refl w := ⟨⟨rfl, rfl, rfl, Nat.le_refl _⟩, fun _ _ _ => rfl, fun h => .inl h, fun h => h⟩
  trans {a b c} h k := ⟨⟨k.1.1.trans h.1.1, k.1.2.1.trans h.1.2.1, k.1.2.2.1.trans h.1.2.2.1, Nat.le_trans h.1.2.2.2 k.1.2.2.2⟩, fun i hi hl => (k.2.1 i hi (Nat.lt_of_lt_of_le hl h.1.2.2.2)).trans (h.2.1 i hi hl),
    fun hz => by
      rcases h.2.2.1 hz with h1 | h1
      · exact k.2.2.1 h1
      · exact .inr (k.2.2.2 h1), fun hz => k.2.2.2 (h.2.2.2 hz)⟩
  bel {w w'} h := by
    have keep : ∀ {o : Obj}, w.heap[g]? = some o → w'.heap[g]? = some o := fun {o} hz => by
      rw [h.block g (Array.getElem?_eq_some_iff.1 hz).1]; exact hz
    exact ⟨⟨h.os, h.tape, h.output, h.size⟩, fun k _ hl => h.block k hl, fun hz => .inl (keep hz), fun hz => keep hz⟩
theorem stor_other {g : Nat} {oz o' o : Obj} {w w' : World} (h : (Stor g oz o').le w w') {k : Nat} (hk : k ≠ g) (ho : w.heap[k]? = some o) : w'.heap[k]? = some o := by
  rw [h.2.1 k hk (Array.getElem?_eq_some_iff.1 ho).1]; exact ho
theorem stor_below {g : Nat} {oz o' : Obj} {B : Nat} {w w0 w' : World} (hb : Below B w w0) (h : (Stor g oz o').le w0 w') (hg : B ≤ g) (hB : B ≤ w0.heap.size) : Below B w w' :=
  ⟨h.1.1.trans hb.os, h.1.2.1.trans hb.tape, h.1.2.2.1.trans hb.output, Nat.le_trans hb.size h.1.2.2.2, fun k hk => (h.2.1 k (by omega) (by omega)).trans (hb.block k hk)⟩
theorem stor_set (g : Nat) (t : TypeId) (old cells : Array Value) (oz : Obj) (w : World) (hg : w.heap[g]? = some (.cells old t (0, 0))) : (Stor g oz (.cells cells t (0, 0))).le w (w.setRow g cells) := by
  have hs := setRow_heap w g old cells t (0, 0) hg
  refine ⟨⟨rfl, rfl, rfl, by simp [World.setRow]⟩, fun k hk _ => ?_, fun _ => .inr hs, fun _ => hs⟩
  unfold World.setRow
  simp only [Array.getElem?_modify]
  rw [if_neg (fun e => hk e.symm)]
/-- a row of a later base than g -/
def frP (g : Nat) (r : List Int) (x : Value) (w : World) : Prop := ∃ A n c base, x = .slice A n c ∧ Fresh .u8 base w A n c r ∧ g < base
theorem frP_sta {g : Nat} {oz o' : Obj} (r : List Int) (x : Value) (w w' : World) (h : frP g r x w) (hle : (Stor g oz o').le w w') : frP g r x w' := by
  obtain ⟨A, n, c, base, rfl, hf, hg⟩ := h
  refine ⟨A, n, c, base, rfl, ⟨hf.len, hf.le, fun hp => ?_⟩, hg⟩
  obtain ⟨b, e, h1, h2, hc, hs⟩ := hf.there hp
  have hbk := hle.2.1 b (by omega) h2
  refine ⟨b, e, h1, Nat.lt_of_lt_of_le h2 hle.1.2.2.2, fun j hj => ?_, fun j hj => ?_⟩
  · rw [← hc j hj]; unfold World.cell?; rw [hbk]
  · have := hs j hj
    unfold World.cell? World.frozen? at this ⊢
    rw [hbk]
    exact this
def fr (g : Nat) (oz o' : Obj) (t : Tmp) (r : List Int) : Rl (Stor g oz o') := of (Stor g oz o') t (frP g r) (fun x w w' h hle => frP_sta r x w w' h hle)
/-- the result's cells hold it -/
def put (g : Nat) (oz o' : Obj) : Rl (Stor g oz o') := wo (Stor g oz o') (fun w => w.heap[g]? = some o') (fun w w' h hle => hle.2.2.2 h)
section
variable {P : Program} {Q : Exit → Act → World → Prop} {l : List Oper} {G : Ord} {rs : List (Rl G)} {a : Act} {n : Nat} {w0 : World}
/-- a whole struct, loaded from where a slot points -/
theorem step_load {i t u b : Nat} {o : Oper} {ty t' : TypeId} {cs : Array Value} {fr : Nat × Nat} {d : TypeDesc} (hn : a.tmps.size = n) (hg : o.guard = none) (ho : o.op = .load ty (.tmp t)) (hdst : o.dst = some u) (hu : u < n) (h : (dsts l).contains (some t) = false) (hv : a.tmps.getD t undef = .pointer (some ⟨b, 0, none⟩))
    (hud : P.underlying ty = some d) (hd : (match d with | .struct _ | .array _ _ => true | _ => false) = true) (hi : (P.info? ty).map (·.size) = some cs.size) (hcell : ∀ w, G.le w0 w → w.heap[b]? = some (.cells cs t' fr)) (hr : at_ rs i = RelG.is G u (.agg cs)) : Step P l Q rs a w0 i o :=
  step_val hg fun b' w D => ⟨.agg cs, by
    have e := D.was t h
    rw [hv] at e
    unfold execOp
    simp only [ho, e, Instr.loadAt, Instr.sureAddr, Sem.run_bind, Sem.run_pure, Result.andThen_ok, run_loadVar_row w b t' ty cs fr d (hcell w D.bel) hud hd hi], by
    rw [hr, hdst]
    exact get_put b' u _ (by rw [D.siz, hn]; exact hu)⟩
/-- what meets p is handed on -/
theorem step_pass_of {i j t u : Nat} {o : Oper} {p : Value → World → Prop} {hp : ∀ x w w', p x w → G.le w w' → p x w'} (hn : a.tmps.size = n) (hg : o.guard = none) (ho : o.op = .move (.tmp t) ∨ o.op = .assign (.tmp t)) (hd : o.dst = some u) (hu : u < n) (hj : (depsOf o).contains j = true) (hv : at_ rs j = RelG.of G t p hp) (hr : at_ rs i = RelG.of G u p hp) : Step P l Q rs a w0 i o :=
  step_val hg fun b w D => ⟨b.eval (.tmp t), by
    rcases ho with ho | ho
    · exact BigFrame.run_move _ ho w
    · exact BigFrame.run_assign _ ho w, by
    have h := D.rel j hj
    rw [hv] at h
    rw [hr, hd]
    show p (get (b.put (some u) _) u) w
    rw [get_put b u _ (by rw [D.siz, hn]; exact hu)]
    exact h⟩
/-- an operation of one slot, as it is run -/
theorem step_run {i j t u : Nat} {o : Oper} {v x : Value} (hn : a.tmps.size = n) (hg : o.guard = none) (hd : o.dst = some u) (hu : u < n) (hj : (depsOf o).contains j = true) (hv : at_ rs j = RelG.is G t v)
    (hx : ∀ (ρ : Operand → Value) (w : World), G.le w0 w → ρ (.tmp t) = v → (∀ y, ρ (.const y) = y) → (execOp ρ o).run P w = .ok (.value x) w) (hr : at_ rs i = RelG.is G u x) : Step P l Q rs a w0 i o :=
  step_val hg fun b w D => ⟨x, hx b.eval w D.bel (D.is j hj hv) (fun _ => rfl), by
    rw [hr, hd]
    exact get_put b u x (by rw [D.siz, hn]; exact hu)⟩
/-- .. of two -/
theorem step_run2 {i j t j2 t2 u : Nat} {o : Oper} {v v2 x : Value} (hn : a.tmps.size = n) (hg : o.guard = none) (hd : o.dst = some u) (hu : u < n) (hj : (depsOf o).contains j = true) (hv : at_ rs j = RelG.is G t v) (hj2 : (depsOf o).contains j2 = true) (hv2 : at_ rs j2 = RelG.is G t2 v2)
    (hx : ∀ (ρ : Operand → Value) (w : World), G.le w0 w → ρ (.tmp t) = v → ρ (.tmp t2) = v2 → (∀ y, ρ (.const y) = y) → (execOp ρ o).run P w = .ok (.value x) w) (hr : at_ rs i = RelG.is G u x) : Step P l Q rs a w0 i o :=
  step_val hg fun b w D => ⟨x, hx b.eval w D.bel (D.is j hj hv) (D.is j2 hj2 hv2) (fun _ => rfl), by
    rw [hr, hd]
    exact get_put b u x (by rw [D.siz, hn]; exact hu)⟩
/-- .. of a slot that was there -/
theorem step_run0 {i t u : Nat} {o : Oper} {v x : Value} (hn : a.tmps.size = n) (hg : o.guard = none) (hd : o.dst = some u) (hu : u < n) (h : (dsts l).contains (some t) = false) (hv : a.tmps.getD t undef = v)
    (hx : ∀ (ρ : Operand → Value) (w : World), G.le w0 w → ρ (.tmp t) = v → (∀ y, ρ (.const y) = y) → (execOp ρ o).run P w = .ok (.value x) w) (hr : at_ rs i = RelG.is G u x) : Step P l Q rs a w0 i o :=
  step_val hg fun b w D => ⟨x, hx b.eval w D.bel ((D.was t h).trans hv) (fun _ => rfl), by
    rw [hr, hd]
    exact get_put b u x (by rw [D.siz, hn]; exact hu)⟩
end
section
variable {P : Program} {Q : Exit → Act → World → Prop} {l : List Oper} {g : Nat} {oz : Obj} {tg : TypeId} {cells : Array Value} {rs : List (Rl (Stor g oz (.cells cells tg (0, 0))))} {a : Act} {n : Nat} {w0 : World}
/-- the struct, stored into the result's cells -/
theorem step_store {i j t u : Nat} {o : Oper} {ty : TypeId} (hg : o.guard = none) (hdst : o.dst = none) (ho : o.op = .store ty (.tmp t) (.tmp u)) (h : (dsts l).contains (some t) = false) (hv : a.tmps.getD t undef = .pointer (some ⟨g, 0, none⟩)) (hj : (depsOf o).contains j = true) (hjr : at_ rs j = RelG.is _ u (.agg cells))
    (hz : ∃ old, oz = .cells old tg (0, 0) ∧ old.size = cells.size) (h0 : w0.heap[g]? = some oz) (hi : (P.info? ty).map (·.size) = some cells.size) (h1 : cells.all (·.oneCell') = true) (hr : at_ rs i = RelG.put g oz (.cells cells tg (0, 0))) : Step P l Q rs a w0 i o :=
  step_skip hg hdst fun b w D => by
    obtain ⟨old, rfl, hold⟩ := hz
    have e := D.was t h
    rw [hv] at e
    have e2 := D.is j hj hjr
    have hgw : ∃ old', w.heap[g]? = some (.cells old' tg (0, 0)) ∧ old'.size = cells.size := by
      rcases D.bel.2.2.1 h0 with h' | h'
      · exact ⟨old, h', hold⟩
      · exact ⟨cells, h', rfl⟩
    obtain ⟨old', hg', hs'⟩ := hgw
    refine ⟨w.setRow g cells, ?_, ?_, stor_set g tg old' cells _ w hg'⟩
    · unfold execOp
      simp only [ho, e, e2, Instr.storeAt, Instr.sureAddr, Sem.run_bind, Sem.run_pure, Result.andThen_ok, run_storeVar_row w g tg ty old' cells hg' hi hs' h1]
    · rw [hr]
      exact setRow_heap w g old' cells tg (0, 0) hg'
/-- a pair of a struct and a row -/
def tpP (g : Nat) (mv : Array Value) (r : List Int) (x : Value) (w : World) : Prop := ∃ y, x = .tuple #[.agg mv, y] ∧ frP g r y w
def tp (g : Nat) (oz o' : Obj) (t : Tmp) (mv : Array Value) (r : List Int) : Rl (Stor g oz o') := of (Stor g oz o') t (tpP g mv r) (fun x w w' ⟨y, h1, h2⟩ hle => ⟨y, h1, frP_sta r y w w' h2 hle⟩)
theorem step_tup0 {i j t u : Nat} {o : Oper} {mv : Array Value} {r : List Int} (hn : a.tmps.size = n) (hg : o.guard = none) (ho : o.op = .extract (.tmp t) 0) (hd : o.dst = some u) (hu : u < n) (hj : (depsOf o).contains j = true) (hv : at_ rs j = RelG.tp g oz (.cells cells tg (0, 0)) t mv r) (hr : at_ rs i = RelG.is _ u (.agg mv)) : Step P l Q rs a w0 i o :=
  step_val hg fun b w D => ⟨.agg mv, by
    have h := D.rel j hj
    rw [hv] at h
    obtain ⟨y, h1, _⟩ := h
    have h1' : b.eval (.tmp t) = .tuple #[.agg mv, y] := h1
    unfold execOp
    simp only [ho, h1']
    simp [go_sem], by
    rw [hr, hd]
    exact get_put b u _ (by rw [D.siz, hn]; exact hu)⟩
theorem step_tup1 {i j t u : Nat} {o : Oper} {mv : Array Value} {r : List Int} (hn : a.tmps.size = n) (hg : o.guard = none) (ho : o.op = .extract (.tmp t) 1) (hd : o.dst = some u) (hu : u < n) (hj : (depsOf o).contains j = true) (hv : at_ rs j = RelG.tp g oz (.cells cells tg (0, 0)) t mv r) (hr : at_ rs i = RelG.fr g oz (.cells cells tg (0, 0)) u r) : Step P l Q rs a w0 i o :=
  step_val hg fun b w D => by
    have h := D.rel j hj
    rw [hv] at h
    obtain ⟨y, h1, h2⟩ := h
    have h1' : b.eval (.tmp t) = .tuple #[.agg mv, y] := h1
    refine ⟨y, ?_, ?_⟩
    · unfold execOp
      simp only [ho, h1']
      simp [go_sem]
    · rw [hr, hd]
      show frP g r (get (b.put (some u) y) u) w
      rw [get_put b u y (by rw [D.siz, hn]; exact hu)]
      exact h2
end
/-- two results: a whole struct out of its cells, and a slot -/
theorem results_cell_tmp {P : Program} {fn : Func} {p q : Tmp} {ty : TypeId} (h : fn.results = #[.cell p ty, .tmp q]) (tmps : Array Value) (w : World) (g : Nat) (t : TypeId) (cs : Array Value) (fr : Nat × Nat) (d : TypeDesc) (x : Value)
    (hp : tmps.getD p undef = .pointer (some ⟨g, 0, none⟩)) (hq : tmps.getD q undef = x) (hg : w.heap[g]? = some (.cells cs t fr))
    (hu : P.underlying ty = some d) (hd : (match d with | .struct _ | .array _ _ => true | _ => false) = true) (hi : (P.info? ty).map (·.size) = some cs.size) :
    (results fn tmps).run P w = .ok (.tuple #[.agg cs, x]) w := by
  have hp' : tmps[p]?.getD undef = .pointer (some ⟨g, 0, none⟩) := by simpa using hp
  have hq' : tmps[q]?.getD undef = x := by simpa using hq
  simp [results, h, hp', hq', asAddr, run_loadVar_row w g t ty cs fr d hg hu hd hi]
/-- a whole struct, stored cell by cell -/
theorem storeCells_row {P : Program} (w : World) (g : Nat) (t : TypeId) (old cells : Array Value) (hg : w.heap[g]? = some (.cells old t (0, 0))) (ho : old.size = cells.size) (h1 : cells.all (·.oneCell') = true) :
    (storeCells ⟨g, 0, none⟩ cells.toList).run P w = .ok () (w.setRow g cells) := by
  have := run_storeCells_from (P := P) g t cells.toList 0 old w hg (by simp; omega) (fun v hv => (Array.all_eq_true_iff_forall_mem.1 h1) v (by simpa using hv))
  have e : (⟨g, 0, none⟩ : Addr).add 0 = ⟨g, 0, none⟩ := by unfold Addr.add; rfl
  simpa [ho] using this
end Go.Proofs.RelG
