import Derived.Test.YtcdcbkopapedhaaGreatDoorRel
import Derived.Test.YtcdcbkopapedhaaGreatDoorBase
/- Regions that call, and store a whole struct into the result's own cells: the order of worlds, and what each operation does in it. -/
namespace Go.Proofs.RelG
open Go Go.RowKit Go.Proofs.Mem Go.Proofs.App Go.Proofs.YtcdcbkopapedhaaGreatDoorW.PrintWords Go.Proofs.YtcdcbkopapedhaaGreatDoorW.PrintLast
open Go.Proofs.Rel (dsts depsOf fill)
set_option linter.unusedVariables false
/-- THE LAW, and what each slot holds at the end -/
theorem wp_region_rel2 {P : Program} {Q : Exit → Act → World → Prop} {l : List Oper} {G : Ord} {a : Act} {n : Nat} {id : Nat} {w : World} (rs : List (Rl G)) (fs : List (List Tmp)) (hm : P.follows .mixedOrders = true) (hn : a.tmps.size = n) (hfs : rs.map Rl.foot = fs) (hok : okB l n fs = true) (hs : Steps P l Q rs a w 0 l)
    (he : ∀ (v : Nat → Value) (e : Tmp → Value) (w' : World), (∀ j t, (l[j]?).bind (·.dst) = some t → e t = v j) → (∀ j, j < l.length → (at_ rs j).r e w') → G.le w w' → Q .normal (fill l 0 v a) w') : (Code.region id l.toArray true).wp P Q a w := by
  have hok' := hok
  simp only [okB, Bool.and_eq_true, decide_eq_true_eq, List.all_eq_true] at hok'
  obtain ⟨⟨⟨_, hnd⟩, hdd⟩, _⟩ := hok'
  refine wp_region_rel rs fs hm hn hfs hok hs fun v w' hv hle => he v (get (fill l 0 v a)) w' (fun j t hj => ?_) hv hle
  cases ho : l[j]? with
  | none => rw [ho] at hj; cases hj
  | some o =>
    rw [ho] at hj
    have ht : t < a.tmps.size := by
      have := hdd o (List.mem_of_getElem? ho)
      rw [show o.dst = some t from hj] at this
      rw [hn]
      simpa using this
    have := fill_new l 0 v a hnd j o t ho hj ht
    rwa [Nat.zero_add] at this
/-- all stays but block g, which goes from oz to o' at most once -/
def storLe (g : Nat) (oz o' : Obj) (w w' : World) : Prop :=
  (w'.os = w.os ∧ w'.tape = w.tape ∧ w'.output = w.output ∧ w.heap.size ≤ w'.heap.size) ∧ (∀ k, k ≠ g → k < w.heap.size → w'.heap[k]? = w.heap[k]?) ∧
  (w.heap[g]? = some oz → w'.heap[g]? = some oz ∨ w'.heap[g]? = some o') ∧ (w.heap[g]? = some o' → w'.heap[g]? = some o')
def Stor (g : Nat) (oz o' : Obj) : Ord where
  le := storLe g oz o'
  refl w := ⟨⟨rfl, rfl, rfl, Nat.le_refl _⟩, fun _ _ _ => rfl, fun h => .inl h, fun h => h⟩
  trans {a b c} h k := ⟨⟨k.1.1.trans h.1.1, k.1.2.1.trans h.1.2.1, k.1.2.2.1.trans h.1.2.2.1, Nat.le_trans h.1.2.2.2 k.1.2.2.2⟩, fun i hi hl => (k.2.1 i hi (Nat.lt_of_lt_of_le hl h.1.2.2.2)).trans (h.2.1 i hi hl),
    fun hz => by
      rcases h.2.2.1 hz with h1 | h1
      · exact k.2.2.1 h1
      · exact .inr (k.2.2.2 h1), fun hz => k.2.2.2 (h.2.2.2 hz)⟩
  bel {w w'} h := by
    have keep : ∀ {o : Obj}, w.heap[g]? = some o → w'.heap[g]? = some o := fun {o} hz => by
      rw [h.block g (Array.getElem?_eq_some_iff.1 hz).1]; exact hz
    exact ⟨⟨h.os, h.tape, h.output, h.size⟩, fun k _ hl => h.block k hl, fun hz => .inl (keep hz), fun hz => keep hz⟩
theorem stor_other {g : Nat} {oz o' o : Obj} {w w' : World} (h : (Stor g oz o').le w w') {k : Nat} (hk : k ≠ g) (ho : w.heap[k]? = some o) : w'.heap[k]? = some o := by
  rw [h.2.1 k hk (Array.getElem?_eq_some_iff.1 ho).1]; exact ho
theorem stor_below {g : Nat} {oz o' : Obj} {B : Nat} {w w0 w' : World} (hb : Below B w w0) (h : (Stor g oz o').le w0 w') (hg : B ≤ g) (hB : B ≤ w0.heap.size) : Below B w w' :=
  ⟨h.1.1.trans hb.os, h.1.2.1.trans hb.tape, h.1.2.2.1.trans hb.output, Nat.le_trans hb.size h.1.2.2.2, fun k hk => (h.2.1 k (by omega) (by omega)).trans (hb.block k hk)⟩
theorem stor_set (g : Nat) (t : TypeId) (old cells : Array Value) (oz : Obj) (w : World) (hg : w.heap[g]? = some (.cells old t (0, 0))) : (Stor g oz (.cells cells t (0, 0))).le w (w.setRow g cells) := by
  have hs := setRow_heap w g old cells t (0, 0) hg
  refine ⟨⟨rfl, rfl, rfl, by simp [World.setRow]⟩, fun k hk _ => ?_, fun _ => .inr hs, fun _ => hs⟩
  unfold World.setRow
  simp only [Array.getElem?_modify]
  rw [if_neg (fun e => hk e.symm)]
/-- a row of a later base than g -/
def frP (g : Nat) (r : List Int) (x : Value) (w : World) : Prop := ∃ A n c base, x = .slice A n c ∧ Fresh .u8 base w A n c r ∧ g < base
theorem frP_sta {g : Nat} {oz o' : Obj} (r : List Int) (x : Value) (w w' : World) (h : frP g r x w) (hle : (Stor g oz o').le w w') : frP g r x w' := by
  obtain ⟨A, n, c, base, rfl, hf, hg⟩ := h
  refine ⟨A, n, c, base, rfl, ⟨hf.len, hf.le, fun hp => ?_⟩, hg⟩
  obtain ⟨b, e, h1, h2, hc, hs⟩ := hf.there hp
  have hbk := hle.2.1 b (by omega) h2
  refine ⟨b, e, h1, Nat.lt_of_lt_of_le h2 hle.1.2.2.2, fun j hj => ?_, fun j hj => ?_⟩
  · rw [← hc j hj]; unfold World.cell?; rw [hbk]
  · have := hs j hj
    unfold World.cell? World.frozen? at this ⊢
    rw [hbk]
    exact this
def fr (g : Nat) (oz o' : Obj) (t : Tmp) (r : List Int) : Rl (Stor g oz o') := of (Stor g oz o') t (frP g r) (fun x w w' h hle => frP_sta r x w w' h hle)
/-- the result's cells hold it -/
def put (g : Nat) (oz o' : Obj) : Rl (Stor g oz o') := wo (Stor g oz o') (fun w => w.heap[g]? = some o') (fun w w' h hle => hle.2.2.2 h)
section
variable {P : Program} {Q : Exit → Act → World → Prop} {l : List Oper} {G : Ord} {rs : List (Rl G)} {a : Act} {n : Nat} {w0 : World}
/-- a whole struct, loaded from where a slot points -/
theorem step_load {i t u b : Nat} {o : Oper} {ty t' : TypeId} {cs : Array Value} {fr : Nat × Nat} {d : TypeDesc} (hn : a.tmps.size = n) (hg : o.guard = none) (ho : o.op = .load ty (.tmp t)) (hdst : o.dst = some u) (hu : u < n) (h : (dsts l).contains (some t) = false) (hv : a.tmps.getD t undef = .pointer (some ⟨b, 0, none⟩))
    (hud : P.underlying ty = some d) (hd : (match d with | .struct _ | .array _ _ => true | _ => false) = true) (hi : (P.info? ty).map (·.size) = some cs.size) (hcell : ∀ w, G.le w0 w → w.heap[b]? = some (.cells cs t' fr)) (hr : at_ rs i = RelG.is G u (.agg cs)) : Step P l Q rs a w0 i o :=
  step_val hg fun b' w D => ⟨.agg cs, by
    have e := D.was t h
    rw [hv] at e
    unfold execOp
    simp only [ho, e, Instr.loadAt, Instr.sureAddr, Sem.run_bind, Sem.run_pure, Result.andThen_ok, run_loadVar_row w b t' ty cs fr d (hcell w D.bel) hud hd hi], by
    rw [hr, hdst]
    exact get_put b' u _ (by rw [D.siz, hn]; exact hu)⟩
/-- what meets p is handed on -/
theorem step_pass_of {i j t u : Nat} {o : Oper} {p : Value → World → Prop} {hp : ∀ x w w', p x w → G.le w w' → p x w'} (hn : a.tmps.size = n) (hg : o.guard = none) (ho : o.op = .move (.tmp t) ∨ o.op = .assign (.tmp t)) (hd : o.dst = some u) (hu : u < n) (hj : (depsOf o).contains j = true) (hv : at_ rs j = RelG.of G t p hp) (hr : at_ rs i = RelG.of G u p hp) : Step P l Q rs a w0 i o :=
  step_val hg fun b w D => ⟨b.eval (.tmp t), by
    rcases ho with ho | ho
    · exact BigFrame.run_move _ ho w
    · exact BigFrame.run_assign _ ho w, by
    have h := D.rel j hj
    rw [hv] at h
    rw [hr, hd]
    show p (get (b.put (some u) _) u) w
    rw [get_put b u _ (by rw [D.siz, hn]; exact hu)]
    exact h⟩
/-- an operation of one slot, as it is run -/
theorem step_run {i j t u : Nat} {o : Oper} {v x : Value} (hn : a.tmps.size = n) (hg : o.guard = none) (hd : o.dst = some u) (hu : u < n) (hj : (depsOf o).contains j = true) (hv : at_ rs j = RelG.is G t v)
    (hx : ∀ (ρ : Operand → Value) (w : World), G.le w0 w → ρ (.tmp t) = v → (∀ y, ρ (.const y) = y) → (execOp ρ o).run P w = .ok (.value x) w) (hr : at_ rs i = RelG.is G u x) : Step P l Q rs a w0 i o :=
  step_val hg fun b w D => ⟨x, hx b.eval w D.bel (D.is j hj hv) (fun _ => rfl), by
    rw [hr, hd]
    exact get_put b u x (by rw [D.siz, hn]; exact hu)⟩
/-- .. of two -/
theorem step_run2 {i j t j2 t2 u : Nat} {o : Oper} {v v2 x : Value} (hn : a.tmps.size = n) (hg : o.guard = none) (hd : o.dst = some u) (hu : u < n) (hj : (depsOf o).contains j = true) (hv : at_ rs j = RelG.is G t v) (hj2 : (depsOf o).contains j2 = true) (hv2 : at_ rs j2 = RelG.is G t2 v2)
    (hx : ∀ (ρ : Operand → Value) (w : World), G.le w0 w → ρ (.tmp t) = v → ρ (.tmp t2) = v2 → (∀ y, ρ (.const y) = y) → (execOp ρ o).run P w = .ok (.value x) w) (hr : at_ rs i = RelG.is G u x) : Step P l Q rs a w0 i o :=
  step_val hg fun b w D => ⟨x, hx b.eval w D.bel (D.is j hj hv) (D.is j2 hj2 hv2) (fun _ => rfl), by
    rw [hr, hd]
    exact get_put b u x (by rw [D.siz, hn]; exact hu)⟩
/-- .. of a slot that was there -/
theorem step_run0 {i t u : Nat} {o : Oper} {v x : Value} (hn : a.tmps.size = n) (hg : o.guard = none) (hd : o.dst = some u) (hu : u < n) (h : (dsts l).contains (some t) = false) (hv : a.tmps.getD t undef = v)
    (hx : ∀ (ρ : Operand → Value) (w : World), G.le w0 w → ρ (.tmp t) = v → (∀ y, ρ (.const y) = y) → (execOp ρ o).run P w = .ok (.value x) w) (hr : at_ rs i = RelG.is G u x) : Step P l Q rs a w0 i o :=
  step_val hg fun b w D => ⟨x, hx b.eval w D.bel ((D.was t h).trans hv) (fun _ => rfl), by
    rw [hr, hd]
    exact get_put b u x (by rw [D.siz, hn]; exact hu)⟩
end
section
variable {P : Program} {Q : Exit → Act → World → Prop} {l : List Oper} {g : Nat} {oz : Obj} {tg : TypeId} {cells : Array Value} {rs : List (Rl (Stor g oz (.cells cells tg (0, 0))))} {a : Act} {n : Nat} {w0 : World}
/-- the struct, stored into the result's cells -/
theorem step_store {i j t u : Nat} {o : Oper} {ty : TypeId} (hg : o.guard = none) (hdst : o.dst = none) (ho : o.op = .store ty (.tmp t) (.tmp u)) (h : (dsts l).contains (some t) = false) (hv : a.tmps.getD t undef = .pointer (some ⟨g, 0, none⟩)) (hj : (depsOf o).contains j = true) (hjr : at_ rs j = RelG.is _ u (.agg cells))
    (hz : ∃ old, oz = .cells old tg (0, 0) ∧ old.size = cells.size) (h0 : w0.heap[g]? = some oz) (hi : (P.info? ty).map (·.size) = some cells.size) (h1 : cells.all (·.oneCell') = true) (hr : at_ rs i = RelG.put g oz (.cells cells tg (0, 0))) : Step P l Q rs a w0 i o :=
  step_skip hg hdst fun b w D => by
    obtain ⟨old, rfl, hold⟩ := hz
    have e := D.was t h
    rw [hv] at e
    have e2 := D.is j hj hjr
    have hgw : ∃ old', w.heap[g]? = some (.cells old' tg (0, 0)) ∧ old'.size = cells.size := by
      rcases D.bel.2.2.1 h0 with h' | h'
      · exact ⟨old, h', hold⟩
      · exact ⟨cells, h', rfl⟩
    obtain ⟨old', hg', hs'⟩ := hgw
    refine ⟨w.setRow g cells, ?_, ?_, stor_set g tg old' cells _ w hg'⟩
    · unfold execOp
      simp only [ho, e, e2, Instr.storeAt, Instr.sureAddr, Sem.run_bind, Sem.run_pure, Result.andThen_ok, run_storeVar_row w g tg ty old' cells hg' hi hs' h1]
    · rw [hr]
      exact setRow_heap w g old' cells tg (0, 0) hg'
/-- a pair of a struct and a row -/
def tpP (g : Nat) (mv : Array Value) (r : List Int) (x : Value) (w : World) : Prop := ∃ y, x = .tuple #[.agg mv, y] ∧ frP g r y w
def tp (g : Nat) (oz o' : Obj) (t : Tmp) (mv : Array Value) (r : List Int) : Rl (Stor g oz o') := of (Stor g oz o') t (tpP g mv r) (fun x w w' ⟨y, h1, h2⟩ hle => ⟨y, h1, frP_sta r y w w' h2 hle⟩)
theorem step_tup0 {i j t u : Nat} {o : Oper} {mv : Array Value} {r : List Int} (hn : a.tmps.size = n) (hg : o.guard = none) (ho : o.op = .extract (.tmp t) 0) (hd : o.dst = some u) (hu : u < n) (hj : (depsOf o).contains j = true) (hv : at_ rs j = RelG.tp g oz (.cells cells tg (0, 0)) t mv r) (hr : at_ rs i = RelG.is _ u (.agg mv)) : Step P l Q rs a w0 i o :=
  step_val hg fun b w D => ⟨.agg mv, by
    have h := D.rel j hj
    rw [hv] at h
    obtain ⟨y, h1, _⟩ := h
    have h1' : b.eval (.tmp t) = .tuple #[.agg mv, y] := h1
    unfold execOp
    simp only [ho, h1']
    simp [go_sem], by
    rw [hr, hd]
    exact get_put b u _ (by rw [D.siz, hn]; exact hu)⟩
theorem step_tup1 {i j t u : Nat} {o : Oper} {mv : Array Value} {r : List Int} (hn : a.tmps.size = n) (hg : o.guard = none) (ho : o.op = .extract (.tmp t) 1) (hd : o.dst = some u) (hu : u < n) (hj : (depsOf o).contains j = true) (hv : at_ rs j = RelG.tp g oz (.cells cells tg (0, 0)) t mv r) (hr : at_ rs i = RelG.fr g oz (.cells cells tg (0, 0)) u r) : Step P l Q rs a w0 i o :=
  step_val hg fun b w D => by
    have h := D.rel j hj
    rw [hv] at h
    obtain ⟨y, h1, h2⟩ := h
    have h1' : b.eval (.tmp t) = .tuple #[.agg mv, y] := h1
    refine ⟨y, ?_, ?_⟩
    · unfold execOp
      simp only [ho, h1']
      simp [go_sem]
    · rw [hr, hd]
      show frP g r (get (b.put (some u) y) u) w
      rw [get_put b u y (by rw [D.siz, hn]; exact hu)]
      exact h2
end
/-- two results: a whole struct out of its cells, and a slot -/
theorem results_cell_tmp {P : Program} {fn : Func} {p q : Tmp} {ty : TypeId} (h : fn.results = #[.cell p ty, .tmp q]) (tmps : Array Value) (w : World) (g : Nat) (t : TypeId) (cs : Array Value) (fr : Nat × Nat) (d : TypeDesc) (x : Value)
    (hp : tmps.getD p undef = .pointer (some ⟨g, 0, none⟩)) (hq : tmps.getD q undef = x) (hg : w.heap[g]? = some (.cells cs t fr))
    (hu : P.underlying ty = some d) (hd : (match d with | .struct _ | .array _ _ => true | _ => false) = true) (hi : (P.info? ty).map (·.size) = some cs.size) :
    (results fn tmps).run P w = .ok (.tuple #[.agg cs, x]) w := by
  have hp' : tmps[p]?.getD undef = .pointer (some ⟨g, 0, none⟩) := by simpa using hp
  have hq' : tmps[q]?.getD undef = x := by simpa using hq
  simp [results, h, hp', hq', asAddr, run_loadVar_row w g t ty cs fr d hg hu hd hi]
/-- a whole struct, stored cell by cell -/
theorem storeCells_row {P : Program} (w : World) (g : Nat) (t : TypeId) (old cells : Array Value) (hg : w.heap[g]? = some (.cells old t (0, 0))) (ho : old.size = cells.size) (h1 : cells.all (·.oneCell') = true) :
    (storeCells ⟨g, 0, none⟩ cells.toList).run P w = .ok () (w.setRow g cells) := by
  have := run_storeCells_from (P := P) g t cells.toList 0 old w hg (by simp; omega) (fun v hv => (Array.all_eq_true_iff_forall_mem.1 h1) v (by simpa using hv))
  have e : (⟨g, 0, none⟩ : Addr).add 0 = ⟨g, 0, none⟩ := by unfold Addr.add; rfl
  simpa [ho] using this
end Go.Proofs.RelG
/- Regions that draw their order and whose one store writes what they load: before the store the order G1 holds, behind it G. -/
namespace Go.Proofs.RelG
open Go Go.RowKit Go.Proofs.Mem Go.Proofs.App Go.Proofs.YtcdcbkopapedhaaGreatDoorW.PrintWords Go.Proofs.YtcdcbkopapedhaaGreatDoorW.PrintLast
open Go.Proofs.Rel (dsts depsOf lexOk lexOk_get put_size put_dfr put_ne put_eq fill fill_size fill_dfr fill_old act_ext)
set_option linter.unusedVariables false
def lower {G1 G : Ord} (h : ∀ w w', G1.le w w' → G.le w w') (r : Rl G) : Rl G1 := ⟨r.foot, r.r, r.ext, fun e w w' h1 h2 => r.sta e w w' h1 (h _ _ h2)⟩
section
variable {P : Program} {Q : Exit → Act → World → Prop} {l : List Oper} {G : Ord} {rs : List (Rl G)} {a : Act} {n : Nat} {w0 : World}
theorem at_lower {G1 : Ord} {h : ∀ w w', G1.le w w' → G.le w w'} (i : Nat) : (at_ (rs.map (lower h)) i).r = (at_ rs i).r := by
  unfold at_
  rw [List.getD_eq_getElem?_getD, List.getD_eq_getElem?_getD, List.getElem?_map]
  cases rs[i]? <;> rfl
def StepsS {G1 : Ord} (P : Program) (l : List Oper) (Q : Exit → Act → World → Prop) (rs : List (Rl G1)) (s : Nat) (a : Act) (w0 : World) : Nat → List Oper → Prop
  | _, [] => True
  | i, o :: r => (i ≠ s → Step P l Q rs a w0 i o) ∧ StepsS P l Q rs s a w0 (i + 1) r
theorem stepsS_cons {G1 : Ord} {rs : List (Rl G1)} {s i : Nat} {o : Oper} {r : List Oper} (h : Step P l Q rs a w0 i o) (hs : StepsS P l Q rs s a w0 (i + 1) r) : StepsS P l Q rs s a w0 i (o :: r) := ⟨fun _ => h, hs⟩
theorem stepsS_skip {G1 : Ord} {rs : List (Rl G1)} {s : Nat} {o : Oper} {r : List Oper} (hs : StepsS P l Q rs s a w0 (s + 1) r) : StepsS P l Q rs s a w0 s (o :: r) := ⟨fun h => absurd rfl h, hs⟩
theorem stepsS_get {G1 : Ord} {rs : List (Rl G1)} {s : Nat} : ∀ {r : List Oper} {i : Nat}, StepsS P l Q rs s a w0 i r → ∀ j o, r[j]? = some o → i + j ≠ s → Step P l Q rs a w0 (i + j) o
  | [], _, _, j, o, h, _ => by simp at h
  | o' :: r, i, hs, 0, o, h, hne => by
    simp at h
    subst h
    exact hs.1 hne
  | o' :: r, i, hs, j + 1, o, h, hne => by
    simp at h
    have := stepsS_get hs.2 j o h (by omega)
    rwa [show i + 1 + j = i + (j + 1) from by omega] at this
/-- the store: G1 holds till then, G behind it -/
def StoreS {G1 : Ord} (P : Program) (l : List Oper) (Q : Exit → Act → World → Prop) (rs : List (Rl G)) (rs1 : List (Rl G1)) (a : Act) (w0 : World) (i : Nat) (o : Oper) : Prop :=
  ∀ (b : Act) (w : World), Dep l rs1 a w0 o b w → ∀ K : Act → World → Prop, (∀ x w', (at_ rs i).r (get (b.put o.dst x)) w' → G.le w w' → K (b.put o.dst x) w') →
    if Region.wanted o (yielded l.toArray b.tmps) = true then Oper.wp P o b w K Q else K (b.put o.dst undef) w
/-- what the store doesn't wait for: it reads slots alone -/
def PureS (P : Program) (l : List Oper) (rs : List (Rl G)) (a : Act) (i : Nat) (o : Oper) : Prop :=
  ∀ (Q : Exit → Act → World → Prop) (b : Act) (w : World), b.tmps.size = a.tmps.size → (∀ t, some t ∉ dsts l → get b t = get a t) → (∀ d ∈ depsOf o, (at_ rs d).r (get b) w) → ∀ K : Act → World → Prop, (∀ x, (at_ rs i).r (get (b.put o.dst x)) w → K (b.put o.dst x) w) →
    if Region.wanted o (yielded l.toArray b.tmps) = true then Oper.wp P o b w K Q else K (b.put o.dst undef) w
theorem pureS_val {i : Nat} {o : Oper} (hg : o.guard = none) (h : ∀ b w, b.tmps.size = a.tmps.size → (∀ d ∈ depsOf o, (at_ rs d).r (get b) w) → ∃ x, (execOp b.eval o).run P w = .ok (.value x) w ∧ (at_ rs i).r (get (b.put o.dst x)) w) : PureS P l rs a i o := fun Q b w hz _ hn K hK => by
  obtain ⟨x, hx, hr⟩ := h b w hz hn
  exact value_ (by simp [Region.wanted, hg]) rfl hx (hK x hr)
theorem storeS_skip {G1 : Ord} {rs1 : List (Rl G1)} {i : Nat} {o : Oper} (hg : o.guard = none) (hd : o.dst = none) (h : ∀ b w, Dep l rs1 a w0 o b w → ∃ w', (execOp b.eval o).run P w = .ok .skip w' ∧ (at_ rs i).r (get b) w' ∧ G.le w w') : StoreS P l Q rs rs1 a w0 i o := fun b w D K hK => by
  obtain ⟨w', hx, hr, hle⟩ := h b w D
  have hk := hK undef w' (by rw [hd]; exact hr) hle
  rw [hd] at hk ⊢
  exact skip_ (by simp [Region.wanted, hg]) hd hx hk
theorem getD_set_eq (l : Array Bool) (i : Nat) (x : Bool) (h : i < l.size) : (l.setIfInBounds i x).getD i false = x := by
  rw [Array.getD_eq_getD_getElem?]
  simp [h]
structure EnvS (l : List Oper) (rs : List (Rl G)) (G1 : Ord) (s : Nat) (a : Act) (w0 : World) (listed : Array Bool) (b : Act) (w : World) : Prop where
  siz : b.tmps.size = a.tmps.size
  dfr : b.defers = a.defers
  old : ∀ t, some t ∉ dsts l → get b t = get a t
  new : ∀ j, j < l.length → listed.getD j false = true → (at_ rs j).r (get b) w
  clo : ∀ j o, l[j]? = some o → listed.getD j false = true → ∀ d ∈ depsOf o, listed.getD d false = true
  bel : G.le w0 w
  un : listed.getD s false = false → G1.le w0 w
theorem any_relS {fs : List (List Tmp)} {G1 : Ord} {hsub : ∀ w w', G1.le w w' → G.le w w'} {s : Nat} {os : Oper} (hos : l[s]? = some os) (hlex : lexOk l 0 = true) (hnd : (l.filterMap (·.dst)).Nodup) (hd : ∀ o ∈ l, ∀ t, o.dst = some t → t < a.tmps.size) (hfoot : footOk l fs = true) (hfs : ∀ j, (at_ rs j).foot = fs.getD j []) (hs : StepsS P l Q (rs.map (lower hsub)) s a w0 0 l) (hst : StoreS P l Q rs (rs.map (lower hsub)) a w0 s os) (hC : ∀ i o, l[i]? = some o → i ≠ s → (depsOf os).contains i = false → PureS P l rs a i o)
    (he : ∀ b w', b.tmps.size = a.tmps.size → b.defers = a.defers → (∀ t, some t ∉ dsts l → get b t = get a t) → (∀ j, j < l.length → (at_ rs j).r (get b) w') → G.le w0 w' → Q .normal b w') :
    ∀ (fuel : Nat) (listed : Array Bool) (b : Act) (w : World), listed.size = l.length → listed.toList.countP (fun x => !x) ≤ fuel → EnvS l rs G1 s a w0 listed b w → wpAny P .any l.toArray Q fuel listed b w := by
  have hend : ∀ (listed : Array Bool) (b : Act) (w : World), listed.size = l.length → EnvS l rs G1 s a w0 listed b w → Region.ready .any l.toArray listed = [] → Q .normal b w := by
    intro listed b w hl E hr
    have hall : ∀ j, j < l.length → listed.getD j false = true := by
      intro j
      induction j using Nat.strongRecOn with
      | _ j ih =>
        intro hj
        cases hc : listed.getD j false with
        | true => rfl
        | false =>
          exfalso
          have hj' : j < listed.size := by omega
          have hm : j ∈ Region.ready .any l.toArray listed := by
            refine mem_ready.2 ⟨?_, l[j], by simp [hj], fun e hee hb => ?_⟩
            · rw [Array.getD_eq_getD_getElem?] at hc ⊢
              simp [hj'] at hc ⊢
              exact hc
            · have := lexOk_get hlex j l[j] (by simp [hj]) e.on (List.mem_map.2 ⟨e, List.mem_filter.2 ⟨by simpa using hee, hb⟩, rfl⟩)
              exact ih e.on (by omega) (by omega)
          rw [hr] at hm
          cases hm
    exact he b w E.siz E.dfr E.old (fun j hj => E.new j hj (hall j hj)) E.bel
  intro fuel
  induction fuel with
  | zero =>
    intro listed b w hl hc E
    have hr : Region.ready .any l.toArray listed = [] := by
      refine List.eq_nil_iff_forall_not_mem.2 fun j hj => ?_
      have h1 := (mem_ready.1 hj).1
      have hj' : j < listed.size := by
        rcases Nat.lt_or_ge j listed.size with h | h
        · exact h
        · rw [Array.getD_eq_getD_getElem?] at h1
          simp [Array.getElem?_eq_none h] at h1
      rw [Array.getD_eq_getD_getElem?] at h1
      simp [hj'] at h1
      have h2 := List.countP_eq_zero.1 (Nat.le_zero.1 hc) listed[j] (by simp)
      rw [h1] at h2
      exact h2 rfl
    exact ⟨hr, hend listed b w hl E hr⟩
  | succ fuel ih =>
    intro listed b w hl hc E
    refine ⟨hend listed b w hl E, fun i hi => ?_⟩
    obtain ⟨hiun, o, ho, hdep⟩ := mem_ready.1 hi
    have ho' : l[i]? = some o := by simpa using ho
    have hil : i < listed.size := by rw [hl]; exact (List.getElem?_eq_some_iff.1 ho').1
    have hif : listed[i] = false := by
      rw [Array.getD_eq_getD_getElem?] at hiun
      simpa [hil] using hiun
    have hif2 : listed.getD i false = false := by
      rw [Array.getD_eq_getD_getElem?]
      simp [hil, hif]
    have hdl : ∀ d ∈ depsOf o, listed.getD d false = true := fun d hd' => by
      obtain ⟨e, hee, rfl⟩ := List.mem_map.1 hd'
      obtain ⟨h1, h2⟩ := List.mem_filter.1 hee
      exact hdep e (by simpa using h1) h2
    refine wpOp_step ho fun K' hK => ?_
    have hlenOf : ∀ d, listed.getD d false = true → d < l.length := fun d hd' => by
      rcases Nat.lt_or_ge d listed.size with h | h
      · omega
      · rw [Array.getD_eq_getD_getElem?] at hd'
        simp [Array.getElem?_eq_none h] at hd'
    have hnew : ∀ d ∈ depsOf o, (at_ rs d).r (get b) w := fun j hj => E.new j (hlenOf j (hdl j hj)) (hdl j hj)
    have go : ∀ x w', (at_ rs i).r (get (b.put o.dst x)) w' → G.le w w' → (i ≠ s → listed.getD s false = false → G1.le w w') → K' (b.put o.dst x) w' := fun x w' hx hb hb1 => by
      refine hK _ _ (ih _ _ _ ?_ ?_ ⟨?_, ?_, ?_, ?_, ?_, ?_, ?_⟩)
      · simpa using hl
      · rw [Array.toList_setIfInBounds, List.countP_set (by simpa using hil)]
        simp only [Array.getElem_toList, hif, Bool.not_false, Bool.not_true, if_true, Bool.false_eq_true, if_false]
        omega
      · rw [put_size]; exact E.siz
      · rw [put_dfr]; exact E.dfr
      · intro t' ht'
        have : get (b.put o.dst x) t' = get b t' := put_ne _ _ _ _ (fun e => ht' (by rw [← e]; exact List.mem_map.2 ⟨o, List.mem_of_getElem? ho', rfl⟩))
        rw [this]
        exact E.old t' ht'
      · intro j hjl hlj
        by_cases hji : j = i
        · subst hji
          exact hx
        · have hlj' : listed.getD j false = true := by rw [← getD_set_ne false (Ne.symm hji)]; exact hlj
          refine (at_ rs j).sta _ _ _ ((at_ rs j).ext _ _ _ (fun t ht => ?_) (E.new j hjl hlj')) hb
          refine (put_ne _ _ _ _ (fun e => ?_)).symm
          -- t is a slot of j, or of what j waits for: none of them is i
          rw [hfs j] at ht
          have h1 := List.all_eq_true.1 hfoot j (List.mem_range.2 hjl)
          have h2 := List.all_eq_true.1 h1 t ht
          cases hoj : l[j]? with
          | none => rw [hoj] at h2; cases h2
          | some oj =>
            rw [hoj] at h2
            simp only [Bool.or_eq_true, beq_iff_eq, List.any_eq_true] at h2
            rcases h2 with h2 | ⟨d, hd1, hd2⟩
            · exact hji (dst_inj hnd hoj ho' h2 e)
            · have hdt := E.clo j oj hoj hlj' d hd1
              cases hod : l[d]? with
              | none => rw [hod] at hd2; cases hd2
              | some od =>
                rw [hod] at hd2
                have : d = i := dst_inj hnd hod ho' hd2 e
                subst this
                rw [hif2] at hdt
                cases hdt
      · intro j oj hoj hlj d hd'
        have keep : listed.getD d false = true → (listed.setIfInBounds i true).getD d false = true := fun h => by
          by_cases hdi : i = d
          · subst hdi
            rw [hif2] at h
            cases h
          · rw [getD_set_ne false hdi]; exact h
        by_cases hji : j = i
        · subst hji
          rw [ho'] at hoj
          injection hoj with hoj
          subst hoj
          exact keep (hdl d hd')
        · have hlj' : listed.getD j false = true := by rw [← getD_set_ne false (Ne.symm hji)]; exact hlj
          exact keep (E.clo j oj hoj hlj' d hd')
      · exact G.trans E.bel hb
      · intro hun
        by_cases his : i = s
        · subst his
          rw [getD_set_eq] at hun
          · cases hun
          · exact hil
        · rw [getD_set_ne false his] at hun
          exact G1.trans (E.un hun) (hb1 his hun)
    by_cases his : i = s
    · subst his
      have e : os = o := by rw [ho'] at hos; exact (Option.some.inj hos).symm
      subst e
      have hun := E.un hif2
      exact hst b w ⟨hun, E.siz, E.old, fun j hj => by rw [at_lower]; exact hnew j hj⟩ K' fun x w' hx hb => go x w' hx hb (fun h => absurd rfl h)
    · cases hls : listed.getD s false with
      | false =>
        have S := stepsS_get hs i o ho' (by rw [Nat.zero_add]; exact his)
        rw [Nat.zero_add] at S
        exact S b w ⟨E.un hls, E.siz, E.old, fun j hj => by rw [at_lower]; exact hnew j hj⟩ K' fun x w' hx hb => go x w' (by rw [at_lower] at hx; exact hx) (hsub _ _ hb) (fun _ _ => hb)
      | true =>
        have hnot : (depsOf os).contains i = false := by
          cases hc : (depsOf os).contains i with
          | false => rfl
          | true =>
            have := E.clo s os hos hls i (List.contains_iff_mem.1 hc)
            rw [hif2] at this
            cases this
        exact hC i o ho' his hnot _ b w E.siz E.old hnew K' fun x hx => go x w hx (G.refl w) (fun _ h => by rw [hls] at h; cases h)

/-- THE LAW -/
theorem wp_region_relS {id : Nat} {w : World} {G1 : Ord} (hsub : ∀ w w', G1.le w w' → G.le w w') (s : Nat) (os : Oper) (C : List Nat) (rs : List (Rl G)) (fs : List (List Tmp)) (hm : P.follows .mixedOrders = true) (hn : a.tmps.size = n) (hfs : rs.map Rl.foot = fs) (hok : okB l n fs = true) (hos : l[s]? = some os) (hcov : ((List.range l.length).all fun i => i == s || (depsOf os).contains i || C.contains i) = true) (hs : StepsS P l Q (rs.map (lower hsub)) s a w 0 l) (hst : StoreS P l Q rs (rs.map (lower hsub)) a w s os) (hC : ∀ i ∈ C, ∀ o, l[i]? = some o → PureS P l rs a i o)
    (he : ∀ (v : Nat → Value) (e : Tmp → Value) (w' : World), (∀ j t, (l[j]?).bind (·.dst) = some t → e t = v j) → (∀ j, j < l.length → (at_ rs j).r e w') → G.le w w' → Q .normal (fill l 0 v a) w') : (Code.region id l.toArray true).wp P Q a w := by
  simp only [okB, Bool.and_eq_true, decide_eq_true_eq, List.all_eq_true] at hok
  obtain ⟨⟨⟨hlex, hnd⟩, hdd⟩, hfoot⟩ := hok
  have hd : ∀ o ∈ l, ∀ t, o.dst = some t → t < a.tmps.size := fun o ho t ht => by
    have := hdd o ho
    rw [ht] at this
    rw [hn]
    simpa using this
  have hfs' : ∀ j, (at_ rs j).foot = fs.getD j [] := fun j => by
    subst hfs
    unfold at_
    rw [List.getD_eq_getElem?_getD, List.getD_eq_getElem?_getD, List.getElem?_map]
    cases rs[j]? <;> rfl
  have hC' : ∀ i o, l[i]? = some o → i ≠ s → (depsOf os).contains i = false → PureS P l rs a i o := fun i o ho hne hc => by
    have h := List.all_eq_true.1 hcov i (List.mem_range.2 (List.getElem?_eq_some_iff.1 ho).1)
    simp only [hc, Bool.or_false, Bool.or_eq_true, beq_iff_eq] at h
    rcases h with h | h
    · exact absurd h hne
    · exact hC i (List.contains_iff_mem.1 h) o ho
  refine wp_region_any hm (any_relS (rs := rs) (a := a) (w0 := w) (hsub := hsub) hos hlex hnd hd hfoot hfs' hs hst hC' (fun b w' h1 h2 h3 h4 h5 => ?_) _ _ _ _ (by simp) ?_ ⟨rfl, rfl, fun _ _ => rfl, fun j _ hl => ?_, fun j o ho hl => ?_, G.bel ⟨(Below.refl w.heap.size w).os, (Below.refl w.heap.size w).tape, (Below.refl w.heap.size w).output, Nat.le_refl _, fun _ _ => rfl⟩, fun _ => G1.bel ⟨(Below.refl w.heap.size w).os, (Below.refl w.heap.size w).tape, (Below.refl w.heap.size w).output, Nat.le_refl _, fun _ _ => rfl⟩⟩)
  · have hb : b = fill l 0 (fun j => get b (((l[j]?).bind (·.dst)).getD 0)) a := by
      refine act_ext (by rw [fill_size, h1]) (by rw [fill_dfr, h2]) fun t => ?_
      by_cases ht : some t ∈ dsts l
      · obtain ⟨o, ho, hot⟩ := List.mem_map.1 ht
        obtain ⟨j, hj⟩ := List.mem_iff_getElem?.1 ho
        rw [fill_new l 0 _ a hnd j o t hj hot (hd o ho t hot), Nat.zero_add, hj]
        simp [hot, get]
      · rw [fill_old l 0 _ a t ht]
        exact h3 t ht
    have hq := he _ (get (fill l 0 (fun j => get b (((l[j]?).bind (·.dst)).getD 0)) a)) w' (fun j t hj => by
      cases ho : l[j]? with
      | none => rw [ho] at hj; cases hj
      | some o =>
        rw [ho] at hj
        have hot : o.dst = some t := hj
        have h := fill_new l 0 (fun j => get b (((l[j]?).bind (·.dst)).getD 0)) a hnd j o t ho hot (hd o (List.mem_of_getElem? ho) t hot)
        rw [Nat.zero_add] at h
        exact h) (fun j hj => by rw [← hb]; exact h4 j hj) h5
    rw [← hb] at hq
    exact hq
  · have : (Array.replicate l.toArray.size false).toList.countP (fun x => !x) ≤ (Array.replicate l.toArray.size false).toList.length := List.countP_le_length
    simpa using this
  · rw [Array.getD_eq_getD_getElem?, Array.getElem?_replicate] at hl
    split at hl <;> simp at hl
  · rw [Array.getD_eq_getD_getElem?, Array.getElem?_replicate] at hl
    split at hl <;> simp at hl
end
end Go.Proofs.RelG
/- Regions that draw their order, one operation of which (s) turns what was: till then rs1 holds, over the order G1; behind it rs, over G. -/
namespace Go.Proofs.RelG
open Go Go.RowKit Go.Proofs.Mem Go.Proofs.App Go.Proofs.YtcdcbkopapedhaaGreatDoorW.PrintWords Go.Proofs.YtcdcbkopapedhaaGreatDoorW.PrintLast
open Go.Proofs.Rel (dsts depsOf lexOk lexOk_get put_size put_dfr put_ne put_eq fill fill_size fill_dfr fill_old act_ext)
set_option linter.unusedVariables false
section
variable {P : Program} {Q : Exit → Act → World → Prop} {l : List Oper} {G : Ord} {rs : List (Rl G)} {a : Act} {n : Nat} {w0 : World}
/-- the steps of those operations that p names -/
def StepsF {G1 : Ord} (P : Program) (l : List Oper) (Q : Exit → Act → World → Prop) (rs : List (Rl G1)) (p : Nat → Bool) (a : Act) (w0 : World) : Nat → List Oper → Prop
  | _, [] => True
  | i, o :: r => (p i = true → Step P l Q rs a w0 i o) ∧ StepsF P l Q rs p a w0 (i + 1) r
theorem stepsF_cons {G1 : Ord} {rs : List (Rl G1)} {p : Nat → Bool} {i : Nat} {o : Oper} {r : List Oper} (h : Step P l Q rs a w0 i o) (hs : StepsF P l Q rs p a w0 (i + 1) r) : StepsF P l Q rs p a w0 i (o :: r) := ⟨fun _ => h, hs⟩
theorem stepsF_skip {G1 : Ord} {rs : List (Rl G1)} {p : Nat → Bool} {i : Nat} {o : Oper} {r : List Oper} (h : p i = false) (hs : StepsF P l Q rs p a w0 (i + 1) r) : StepsF P l Q rs p a w0 i (o :: r) := ⟨(fun h' => by rw [h] at h'; cases h'), hs⟩
theorem stepsF_get {G1 : Ord} {rs : List (Rl G1)} {p : Nat → Bool} : ∀ {r : List Oper} {i : Nat}, StepsF P l Q rs p a w0 i r → ∀ j o, r[j]? = some o → p (i + j) = true → Step P l Q rs a w0 (i + j) o
  | [], _, _, j, o, h, _ => by simp at h
  | o' :: r, i, hs, 0, o, h, hp => by
    simp at h
    subst h
    exact hs.1 hp
  | o' :: r, i, hs, j + 1, o, h, hp => by
    simp at h
    have := stepsF_get hs.2 j o h (by rw [show i + 1 + j = i + (j + 1) from by omega]; exact hp)
    rwa [show i + 1 + j = i + (j + 1) from by omega] at this
/-- may come up ahead of s; may come up behind s -/
def ahead (l : List Oper) (s i : Nat) : Bool := !(i == s) && !(((l[i]?).map fun o => (depsOf o).contains s).getD false)
def behind (l : List Oper) (s i : Nat) : Bool := !(i == s) && !(((l[s]?).map fun o => (depsOf o).contains i).getD false)
structure EnvM (l : List Oper) (rs : List (Rl G)) {G1 : Ord} (rs1 : List (Rl G1)) (s : Nat) (a : Act) (w0 : World) (listed : Array Bool) (b : Act) (w : World) : Prop where
  siz : b.tmps.size = a.tmps.size
  dfr : b.defers = a.defers
  old : ∀ t, some t ∉ dsts l → get b t = get a t
  new : listed.getD s false = true → ∀ j, j < l.length → listed.getD j false = true → (at_ rs j).r (get b) w
  new1 : listed.getD s false = false → ∀ j, j < l.length → listed.getD j false = true → (at_ rs1 j).r (get b) w
  clo : ∀ j o, l[j]? = some o → listed.getD j false = true → ∀ d ∈ depsOf o, listed.getD d false = true
  bel : G.le w0 w
  un : listed.getD s false = false → G1.le w0 w
theorem any_relM {fs : List (List Tmp)} {G1 : Ord} {rs1 : List (Rl G1)} (hsub : ∀ w w', G1.le w w' → G.le w w') (himp : ∀ j e w, (at_ rs1 j).r e w → (at_ rs j).r e w) {s : Nat} {os : Oper} (hos : l[s]? = some os) (hlex : lexOk l 0 = true) (hnd : (l.filterMap (·.dst)).Nodup) (hd : ∀ o ∈ l, ∀ t, o.dst = some t → t < a.tmps.size) (hfoot : footOk l fs = true) (hfs : ∀ j, (at_ rs j).foot = fs.getD j []) (hfs1 : ∀ j, (at_ rs1 j).foot = fs.getD j []) (hs1 : StepsF P l Q rs1 (ahead l s) a w0 0 l) (hst : StoreS P l Q rs rs1 a w0 s os) (hs2 : StepsF P l Q rs (behind l s) a w0 0 l)
    (he : ∀ b w', b.tmps.size = a.tmps.size → b.defers = a.defers → (∀ t, some t ∉ dsts l → get b t = get a t) → (∀ j, j < l.length → (at_ rs j).r (get b) w') → G.le w0 w' → Q .normal b w') :
    ∀ (fuel : Nat) (listed : Array Bool) (b : Act) (w : World), listed.size = l.length → listed.toList.countP (fun x => !x) ≤ fuel → EnvM l rs rs1 s a w0 listed b w → wpAny P .any l.toArray Q fuel listed b w := by
  have hend : ∀ (listed : Array Bool) (b : Act) (w : World), listed.size = l.length → EnvM l rs rs1 s a w0 listed b w → Region.ready .any l.toArray listed = [] → Q .normal b w := by
    intro listed b w hl E hr
    have hall : ∀ j, j < l.length → listed.getD j false = true := by
      intro j
      induction j using Nat.strongRecOn with
      | _ j ih =>
        intro hj
        cases hc : listed.getD j false with
        | true => rfl
        | false =>
          exfalso
          have hj' : j < listed.size := by omega
          have hm : j ∈ Region.ready .any l.toArray listed := by
            refine mem_ready.2 ⟨?_, l[j], by simp [hj], fun e hee hb => ?_⟩
            · rw [Array.getD_eq_getD_getElem?] at hc ⊢
              simp [hj'] at hc ⊢
              exact hc
            · have := lexOk_get hlex j l[j] (by simp [hj]) e.on (List.mem_map.2 ⟨e, List.mem_filter.2 ⟨by simpa using hee, hb⟩, rfl⟩)
              exact ih e.on (by omega) (by omega)
          rw [hr] at hm
          cases hm
    exact he b w E.siz E.dfr E.old (fun j hj => E.new (hall s (List.getElem?_eq_some_iff.1 hos).1) j hj (hall j hj)) E.bel
  intro fuel
  induction fuel with
  | zero =>
    intro listed b w hl hc E
    have hr : Region.ready .any l.toArray listed = [] := by
      refine List.eq_nil_iff_forall_not_mem.2 fun j hj => ?_
      have h1 := (mem_ready.1 hj).1
      have hj' : j < listed.size := by
        rcases Nat.lt_or_ge j listed.size with h | h
        · exact h
        · rw [Array.getD_eq_getD_getElem?] at h1
          simp [Array.getElem?_eq_none h] at h1
      rw [Array.getD_eq_getD_getElem?] at h1
      simp [hj'] at h1
      have h2 := List.countP_eq_zero.1 (Nat.le_zero.1 hc) listed[j] (by simp)
      rw [h1] at h2
      exact h2 rfl
    exact ⟨hr, hend listed b w hl E hr⟩
  | succ fuel ih =>
    intro listed b w hl hc E
    refine ⟨hend listed b w hl E, fun i hi => ?_⟩
    obtain ⟨hiun, o, ho, hdep⟩ := mem_ready.1 hi
    have ho' : l[i]? = some o := by simpa using ho
    have hil : i < listed.size := by rw [hl]; exact (List.getElem?_eq_some_iff.1 ho').1
    have hif : listed[i] = false := by
      rw [Array.getD_eq_getD_getElem?] at hiun
      simpa [hil] using hiun
    have hif2 : listed.getD i false = false := by
      rw [Array.getD_eq_getD_getElem?]
      simp [hil, hif]
    have hdl : ∀ d ∈ depsOf o, listed.getD d false = true := fun d hd' => by
      obtain ⟨e, hee, rfl⟩ := List.mem_map.1 hd'
      obtain ⟨h1, h2⟩ := List.mem_filter.1 hee
      exact hdep e (by simpa using h1) h2
    refine wpOp_step ho fun K' hK => ?_
    have hlenOf : ∀ d, listed.getD d false = true → d < l.length := fun d hd' => by
      rcases Nat.lt_or_ge d listed.size with h | h
      · omega
      · rw [Array.getD_eq_getD_getElem?] at hd'
        simp [Array.getElem?_eq_none h] at hd'
    have keepOld : ∀ x, ∀ t', some t' ∉ dsts l → get (b.put o.dst x) t' = get a t' := fun x t' ht' => by
      have : get (b.put o.dst x) t' = get b t' := put_ne _ _ _ _ (fun e => ht' (by rw [← e]; exact List.mem_map.2 ⟨o, List.mem_of_getElem? ho', rfl⟩))
      rw [this]
      exact E.old t' ht'
    have hclo : ∀ j oj, l[j]? = some oj → (listed.setIfInBounds i true).getD j false = true → ∀ d ∈ depsOf oj, (listed.setIfInBounds i true).getD d false = true := by
      intro j oj hoj hlj d hd'
      have keep : listed.getD d false = true → (listed.setIfInBounds i true).getD d false = true := fun h => by
        by_cases hdi : i = d
        · subst hdi
          rw [hif2] at h
          cases h
        · rw [getD_set_ne false hdi]; exact h
      by_cases hji : j = i
      · subst hji
        rw [ho'] at hoj
        injection hoj with hoj
        subst hoj
        exact keep (hdl d hd')
      · have hlj' : listed.getD j false = true := by rw [← getD_set_ne false (Ne.symm hji)]; exact hlj
        exact keep (E.clo j oj hoj hlj' d hd')
    -- what was told of those that came up stays told, of slots that this one doesn't write
    have carry : ∀ {GX : Ord} (rx : List (Rl GX)), (∀ j, (at_ rx j).foot = fs.getD j []) → ∀ x w' j, j < l.length → j ≠ i → listed.getD j false = true → (at_ rx j).r (get b) w → GX.le w w' → (at_ rx j).r (get (b.put o.dst x)) w' := by
      intro GX rx hfx x w' j hjl hji hlj' hr hb
      refine (at_ rx j).sta _ _ _ ((at_ rx j).ext _ _ _ (fun t ht => ?_) hr) hb
      refine (put_ne _ _ _ _ (fun e => ?_)).symm
      rw [hfx j] at ht
      have h1 := List.all_eq_true.1 hfoot j (List.mem_range.2 hjl)
      have h2 := List.all_eq_true.1 h1 t ht
      cases hoj : l[j]? with
      | none => rw [hoj] at h2; cases h2
      | some oj =>
        rw [hoj] at h2
        simp only [Bool.or_eq_true, beq_iff_eq, List.any_eq_true] at h2
        rcases h2 with h2 | ⟨d, hd1, hd2⟩
        · exact hji (dst_inj hnd hoj ho' h2 e)
        · have hdt := E.clo j oj hoj hlj' d hd1
          cases hod : l[d]? with
          | none => rw [hod] at hd2; cases hd2
          | some od =>
            rw [hod] at hd2
            have : d = i := dst_inj hnd hod ho' hd2 e
            subst this
            rw [hif2] at hdt
            cases hdt
    have hsz' : (listed.setIfInBounds i true).size = l.length := by simpa using hl
    have hcnt : (listed.setIfInBounds i true).toList.countP (fun x => !x) ≤ fuel := by
      rw [Array.toList_setIfInBounds, List.countP_set (by simpa using hil)]
      simp only [Array.getElem_toList, hif, Bool.not_false, Bool.not_true, if_true, Bool.false_eq_true, if_false]
      omega
    have other : ∀ j, (listed.setIfInBounds i true).getD j false = true → j ≠ i → listed.getD j false = true := fun j h hji => by rw [← getD_set_ne false (Ne.symm hji)]; exact h
    by_cases his : i = s
    · subst his
      have e : os = o := by rw [ho'] at hos; exact (Option.some.inj hos).symm
      subst e
      have hset : (listed.setIfInBounds i true).getD i false = true := getD_set_eq _ _ _ hil
      exact hst b w ⟨E.un hif2, E.siz, E.old, fun j hj => E.new1 hif2 j (hlenOf j (hdl j hj)) (hdl j hj)⟩ K' fun x w' hx hb => hK _ _ (ih _ _ _ hsz' hcnt
        ⟨by rw [put_size]; exact E.siz, by rw [put_dfr]; exact E.dfr, keepOld x, (fun _ j hjl hlj => by
          by_cases hji : j = i
          · subst hji; exact hx
          · exact carry rs hfs x w' j hjl hji (other j hlj hji) (himp _ _ _ (E.new1 hif2 j hjl (other j hlj hji))) hb), (fun h => by rw [hset] at h; cases h), hclo, G.trans E.bel hb, (fun h => by rw [hset] at h; cases h)⟩)
    · have hsame : (listed.setIfInBounds i true).getD s false = listed.getD s false := getD_set_ne false his
      cases hls : listed.getD s false with
      | false =>
        have hah : ahead l s i = true := by
          unfold ahead
          have h1 : (i == s) = false := by simp [his]
          have h2 : (depsOf o).contains s = false := by
            cases hc : (depsOf o).contains s with
            | false => rfl
            | true =>
              have := hdl s (List.contains_iff_mem.1 hc)
              rw [hls] at this
              cases this
          rw [h1, ho']
          show (!false && !((depsOf o).contains s)) = true
          rw [h2]
          rfl
        have S := stepsF_get hs1 i o ho' (by rw [Nat.zero_add]; exact hah)
        rw [Nat.zero_add] at S
        exact S b w ⟨E.un hls, E.siz, E.old, fun j hj => E.new1 hls j (hlenOf j (hdl j hj)) (hdl j hj)⟩ K' fun x w' hx hb => hK _ _ (ih _ _ _ hsz' hcnt
          ⟨by rw [put_size]; exact E.siz, by rw [put_dfr]; exact E.dfr, keepOld x, (fun h => by rw [hsame, hls] at h; cases h), (fun _ j hjl hlj => by
            by_cases hji : j = i
            · subst hji; exact hx
            · exact carry rs1 hfs1 x w' j hjl hji (other j hlj hji) (E.new1 hls j hjl (other j hlj hji)) hb), hclo, G.trans E.bel (hsub _ _ hb), fun _ => G1.trans (E.un hls) hb⟩)
      | true =>
        have hbe : behind l s i = true := by
          unfold behind
          have h1 : (i == s) = false := by simp [his]
          have h2 : (depsOf os).contains i = false := by
            cases hc : (depsOf os).contains i with
            | false => rfl
            | true =>
              have := E.clo s os hos hls i (List.contains_iff_mem.1 hc)
              rw [hif2] at this
              cases this
          rw [h1, hos]
          show (!false && !((depsOf os).contains i)) = true
          rw [h2]
          rfl
        have S := stepsF_get hs2 i o ho' (by rw [Nat.zero_add]; exact hbe)
        rw [Nat.zero_add] at S
        exact S b w ⟨E.bel, E.siz, E.old, fun j hj => E.new hls j (hlenOf j (hdl j hj)) (hdl j hj)⟩ K' fun x w' hx hb => hK _ _ (ih _ _ _ hsz' hcnt
          ⟨by rw [put_size]; exact E.siz, by rw [put_dfr]; exact E.dfr, keepOld x, (fun _ j hjl hlj => by
            by_cases hji : j = i
            · subst hji; exact hx
            · exact carry rs hfs x w' j hjl hji (other j hlj hji) (E.new hls j hjl (other j hlj hji)) hb), (fun h => by rw [hsame, hls] at h; cases h), hclo, G.trans E.bel hb, (fun h => by rw [hsame, hls] at h; cases h)⟩)
theorem wp_region_relM {id : Nat} {w : World} {G1 : Ord} (hsub : ∀ w w', G1.le w w' → G.le w w') (s : Nat) (os : Oper) (rs1 : List (Rl G1)) (rs : List (Rl G)) (fs : List (List Tmp)) (hm : P.follows .mixedOrders = true) (hn : a.tmps.size = n) (hfs : rs.map Rl.foot = fs) (hok : okB l n fs = true) (hos : l[s]? = some os) (hfs1 : rs1.map Rl.foot = fs) (himp : ∀ j e w, (at_ rs1 j).r e w → (at_ rs j).r e w) (hs1 : StepsF P l Q rs1 (ahead l s) a w 0 l) (hst : StoreS P l Q rs rs1 a w s os) (hs2 : StepsF P l Q rs (behind l s) a w 0 l)
    (he : ∀ (v : Nat → Value) (e : Tmp → Value) (w' : World), (∀ j t, (l[j]?).bind (·.dst) = some t → e t = v j) → (∀ j, j < l.length → (at_ rs j).r e w') → G.le w w' → Q .normal (fill l 0 v a) w') : (Code.region id l.toArray true).wp P Q a w := by
  simp only [okB, Bool.and_eq_true, decide_eq_true_eq, List.all_eq_true] at hok
  obtain ⟨⟨⟨hlex, hnd⟩, hdd⟩, hfoot⟩ := hok
  have hd : ∀ o ∈ l, ∀ t, o.dst = some t → t < a.tmps.size := fun o ho t ht => by
    have := hdd o ho
    rw [ht] at this
    rw [hn]
    simpa using this
  have hfs' : ∀ j, (at_ rs j).foot = fs.getD j [] := fun j => by
    subst hfs
    unfold at_
    rw [List.getD_eq_getElem?_getD, List.getD_eq_getElem?_getD, List.getElem?_map]
    cases rs[j]? <;> rfl
  have hfs1' : ∀ j, (at_ rs1 j).foot = fs.getD j [] := fun j => by
    rw [← hfs1]
    unfold at_
    rw [List.getD_eq_getElem?_getD, List.getD_eq_getElem?_getD, List.getElem?_map]
    cases rs1[j]? <;> rfl
  refine wp_region_any hm (any_relM (rs := rs) (rs1 := rs1) (a := a) (w0 := w) hsub himp hos hlex hnd hd hfoot hfs' hfs1' hs1 hst hs2 (fun b w' h1 h2 h3 h4 h5 => ?_) _ _ _ _ (by simp) ?_ ⟨rfl, rfl, fun _ _ => rfl, fun hl => ?_, fun _ j _ hl => ?_, fun j o ho hl => ?_, G.bel ⟨(Below.refl w.heap.size w).os, (Below.refl w.heap.size w).tape, (Below.refl w.heap.size w).output, Nat.le_refl _, fun _ _ => rfl⟩, fun _ => G1.bel ⟨(Below.refl w.heap.size w).os, (Below.refl w.heap.size w).tape, (Below.refl w.heap.size w).output, Nat.le_refl _, fun _ _ => rfl⟩⟩)
  · have hb : b = fill l 0 (fun j => get b (((l[j]?).bind (·.dst)).getD 0)) a := by
      refine act_ext (by rw [fill_size, h1]) (by rw [fill_dfr, h2]) fun t => ?_
      by_cases ht : some t ∈ dsts l
      · obtain ⟨o, ho, hot⟩ := List.mem_map.1 ht
        obtain ⟨j, hj⟩ := List.mem_iff_getElem?.1 ho
        rw [fill_new l 0 _ a hnd j o t hj hot (hd o ho t hot), Nat.zero_add, hj]
        simp [hot, get]
      · rw [fill_old l 0 _ a t ht]
        exact h3 t ht
    have hq := he _ (get (fill l 0 (fun j => get b (((l[j]?).bind (·.dst)).getD 0)) a)) w' (fun j t hj => by
      cases ho : l[j]? with
      | none => rw [ho] at hj; cases hj
      | some o =>
        rw [ho] at hj
        have hot : o.dst = some t := hj
        have h := fill_new l 0 (fun j => get b (((l[j]?).bind (·.dst)).getD 0)) a hnd j o t ho hot (hd o (List.mem_of_getElem? ho) t hot)
        rw [Nat.zero_add] at h
        exact h) (fun j hj => by rw [← hb]; exact h4 j hj) h5
    rw [← hb] at hq
    exact hq
  · have : (Array.replicate l.toArray.size false).toList.countP (fun x => !x) ≤ (Array.replicate l.toArray.size false).toList.length := List.countP_le_length
    simpa using this
  · rw [Array.getD_eq_getD_getElem?, Array.getElem?_replicate] at hl
    split at hl <;> simp at hl
  · rw [Array.getD_eq_getD_getElem?, Array.getElem?_replicate] at hl
    split at hl <;> simp at hl
  · rw [Array.getD_eq_getD_getElem?, Array.getElem?_replicate] at hl
    split at hl <;> simp at hl
end
end Go.Proofs.RelG
