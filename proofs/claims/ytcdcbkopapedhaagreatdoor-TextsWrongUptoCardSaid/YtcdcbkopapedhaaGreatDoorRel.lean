import Derived.Test.YtcdcbkopapedhaaGreatDoorWLast
import Derived.Test.YtcdcbkopapedhaaGreatDoorWWords
import Derived.Orders
import Derived.RegionTactic
import Derived.BigRegion
import Derived.Below
/- A region that draws its order, whose calls make memory and hand on what lies there: each operation is shown once, by what it asks of those that it waits for; no order is looked at. -/
namespace Go.Proofs.Rel
open Go Go.RowKit Go.Proofs.YtcdcbkopapedhaaGreatDoorW.PrintWords Go.Proofs.YtcdcbkopapedhaaGreatDoorW.PrintLast
set_option linter.unusedVariables false
/-- what is told of a value, in a world and in all that keep it -/
def Rl : Type := {r : Value → World → Prop // ∀ x w w', r x w → Below w.heap.size w w' → r x w'}
def triv : Rl := ⟨fun _ _ => True, fun _ _ _ h _ => h⟩
def is (v : Value) : Rl := ⟨fun x _ => x = v, fun _ _ _ h _ => h⟩
def rd (r : List Int) : Rl := ⟨fun x w => ∃ A n c, x = .slice A n c ∧ ReadsInt w .u8 A n r, fun _ _ _ ⟨A, n, c, e, h⟩ hb => ⟨A, n, c, e, h.below hb⟩⟩
def at_ (rs : List Rl) (i : Nat) : Rl := rs.getD i triv
def dsts (l : List Oper) : List (Option Tmp) := l.map (·.dst)
def depsOf (o : Oper) : List Nat := (o.after.toList.filter (Region.binds .any)).map (·.on)
def lexOk : List Oper → Nat → Bool
  | [], _ => true
  | o :: r, i => (depsOf o).all (fun j => decide (j < i)) && lexOk r (i + 1)
def okB (l : List Oper) (n : Nat) : Bool := lexOk l 0 && decide ((dsts l).Nodup) && (l.all fun o => match o.dst with | some t => decide (t < n) | none => false)
theorem lexOk_get : ∀ {l : List Oper} {i : Nat}, lexOk l i = true → ∀ j o, l[j]? = some o → ∀ d ∈ depsOf o, d < i + j
  | [], _, _, j, o, h, _, _ => by simp at h
  | o' :: r, i, hl, 0, o, h, d, hd => by
    simp only [lexOk, Bool.and_eq_true, List.all_eq_true, decide_eq_true_eq] at hl
    simp at h
    subst h
    exact hl.1 d hd
  | o' :: r, i, hl, j + 1, o, h, d, hd => by
    simp only [lexOk, Bool.and_eq_true] at hl
    simp at h
    have := lexOk_get hl.2 j o h d hd
    omega
section
variable {P : Program} {Q : Exit → Act → World → Prop} {l : List Oper} {rs : List Rl} {a : Act} {n : Nat} {w0 : World}
/-- what an operation may lean on -/
structure Dep (l : List Oper) (rs : List Rl) (a : Act) (w0 : World) (o : Oper) (b : Act) (w : World) : Prop where
  bel : Below w0.heap.size w0 w
  siz : b.tmps.size = a.tmps.size
  old : ∀ t, some t ∉ dsts l → b.tmps.getD t undef = a.tmps.getD t undef
  new : ∀ j ∈ depsOf o, ∀ t oj, l[j]? = some oj → oj.dst = some t → (at_ rs j).1 (b.tmps.getD t undef) w
theorem Dep.was {o : Oper} {b : Act} {w : World} (D : Dep l rs a w0 o b w) (t : Nat) (h : (dsts l).contains (some t) = false) : b.eval (.tmp t) = a.tmps.getD t undef :=
  D.old t (fun hm => by rw [List.contains_iff_mem.2 hm] at h; cases h)
theorem Dep.rel {o : Oper} {b : Act} {w : World} (D : Dep l rs a w0 o b w) (j t : Nat) (hj : (depsOf o).contains j = true) (hd : (l[j]?).bind (·.dst) = some t) : (at_ rs j).1 (b.eval (.tmp t)) w := by
  cases ho : l[j]? with
  | none => rw [ho] at hd; cases hd
  | some oj => rw [ho] at hd; exact D.new j (List.contains_iff_mem.1 hj) t oj ho hd
theorem Dep.is {o : Oper} {b : Act} {w : World} {v : Value} (D : Dep l rs a w0 o b w) (j t : Nat) (hj : (depsOf o).contains j = true) (hd : (l[j]?).bind (·.dst) = some t) (hr : at_ rs j = Rel.is v) : b.eval (.tmp t) = v := by
  have := D.rel j t hj hd
  rw [hr] at this
  exact this
def Step (P : Program) (l : List Oper) (Q : Exit → Act → World → Prop) (rs : List Rl) (a : Act) (w0 : World) (i : Nat) (o : Oper) : Prop :=
  ∀ (b : Act) (w : World), Dep l rs a w0 o b w → ∀ K : Act → World → Prop, (∀ x w', (at_ rs i).1 x w' → Below w.heap.size w w' → K (b.put o.dst x) w') →
    if Region.wanted o (yielded l.toArray b.tmps) = true then Oper.wp P o b w K Q else K (b.put o.dst undef) w
def Steps (P : Program) (l : List Oper) (Q : Exit → Act → World → Prop) (rs : List Rl) (a : Act) (w0 : World) : Nat → List Oper → Prop
  | _, [] => True
  | i, o :: r => Step P l Q rs a w0 i o ∧ Steps P l Q rs a w0 (i + 1) r
theorem steps_cons {i : Nat} {o : Oper} {r : List Oper} (h : Step P l Q rs a w0 i o) (hs : Steps P l Q rs a w0 (i + 1) r) : Steps P l Q rs a w0 i (o :: r) := ⟨h, hs⟩
theorem steps_get : ∀ {r : List Oper} {i : Nat}, Steps P l Q rs a w0 i r → ∀ j o, r[j]? = some o → Step P l Q rs a w0 (i + j) o
  | [], _, _, j, o, h => by simp at h
  | o' :: r, i, hs, 0, o, h => by
    simp at h
    subst h
    exact hs.1
  | o' :: r, i, hs, j + 1, o, h => by
    simp at h
    have := steps_get hs.2 j o h
    rwa [show i + 1 + j = i + (j + 1) from by omega] at this
theorem put_size (b : Act) (d : Option Tmp) (v : Value) : (b.put d v).tmps.size = b.tmps.size := by
  cases d <;> simp [Act.put]
theorem put_dfr (b : Act) (d : Option Tmp) (v : Value) : (b.put d v).defers = b.defers := by cases d <;> rfl
theorem put_ne (b : Act) (t : Tmp) (d : Option Tmp) (v : Value) (h : d ≠ some t) : (b.put d v).tmps.getD t undef = b.tmps.getD t undef := by
  cases d with
  | none => rfl
  | some d =>
    have : d ≠ t := fun e => h (by rw [e])
    simp only [Act.put, Array.getD_eq_getD_getElem?, Array.getElem?_setIfInBounds]
    rw [if_neg this]
theorem put_eq (b : Act) (t : Tmp) (v : Value) (h : t < b.tmps.size) : (b.put (some t) v).tmps.getD t undef = v := by
  simp only [Act.put, Array.getD_eq_getD_getElem?, Array.getElem?_setIfInBounds]
  simp [h]
theorem dst_inj (hn : (dsts l).Nodup) {i j : Nat} {oi oj : Oper} (hi : l[i]? = some oi) (hj : l[j]? = some oj) (h : oi.dst = oj.dst) : i = j := by
  have e1 : (dsts l)[i]? = some oi.dst := by simp [dsts, hi]
  have e2 : (dsts l)[j]? = some oj.dst := by simp [dsts, hj]
  obtain ⟨h1, h1'⟩ := List.getElem?_eq_some_iff.1 e1
  obtain ⟨h2, h2'⟩ := List.getElem?_eq_some_iff.1 e2
  exact (List.getElem_inj hn).1 (by rw [h1', h2', h])
structure Env (l : List Oper) (rs : List Rl) (a : Act) (w0 : World) (listed : Array Bool) (b : Act) (w : World) : Prop where
  siz : b.tmps.size = a.tmps.size
  dfr : b.defers = a.defers
  old : ∀ t, some t ∉ dsts l → b.tmps.getD t undef = a.tmps.getD t undef
  new : ∀ j o t, l[j]? = some o → o.dst = some t → listed.getD j false = true → (at_ rs j).1 (b.tmps.getD t undef) w
  bel : Below w0.heap.size w0 w
theorem any_rel (hlex : lexOk l 0 = true) (hnd : (dsts l).Nodup) (hd : ∀ o ∈ l, ∃ t, o.dst = some t ∧ t < a.tmps.size) (hs : Steps P l Q rs a w0 0 l)
    (he : ∀ b w', b.tmps.size = a.tmps.size → b.defers = a.defers → (∀ t, some t ∉ dsts l → b.tmps.getD t undef = a.tmps.getD t undef) → (∀ j o t, l[j]? = some o → o.dst = some t → (at_ rs j).1 (b.tmps.getD t undef) w') → Below w0.heap.size w0 w' → Q .normal b w') :
    ∀ (fuel : Nat) (listed : Array Bool) (b : Act) (w : World), listed.size = l.length → listed.toList.countP (fun x => !x) ≤ fuel → Env l rs a w0 listed b w → wpAny P .any l.toArray Q fuel listed b w := by
  have hend : ∀ (listed : Array Bool) (b : Act) (w : World), listed.size = l.length → Env l rs a w0 listed b w → Region.ready .any l.toArray listed = [] → Q .normal b w := by
    intro listed b w hl E hr
    have hall : ∀ j, j < l.length → listed.getD j false = true := by
      intro j
      induction j using Nat.strongRecOn with
      | _ j ih =>
        intro hj
        cases hc : listed.getD j false with
        | true => rfl
        | false =>
          exfalso
          have hj' : j < listed.size := by omega
          have hm : j ∈ Region.ready .any l.toArray listed := by
            refine mem_ready.2 ⟨?_, l[j], by simp [hj], fun e hee hb => ?_⟩
            · rw [Array.getD_eq_getD_getElem?] at hc ⊢
              simp [hj'] at hc ⊢
              exact hc
            · have := lexOk_get hlex j l[j] (by simp [hj]) e.on (List.mem_map.2 ⟨e, List.mem_filter.2 ⟨by simpa using hee, hb⟩, rfl⟩)
              exact ih e.on (by omega) (by omega)
          rw [hr] at hm
          cases hm
    refine he b w E.siz E.dfr E.old (fun j o t ho ht => E.new j o t ho ht (hall j ?_)) E.bel
    exact (List.getElem?_eq_some_iff.1 ho).1
  intro fuel
  induction fuel with
  | zero =>
    intro listed b w hl hc E
    have hr : Region.ready .any l.toArray listed = [] := by
      refine List.eq_nil_iff_forall_not_mem.2 fun j hj => ?_
      have h1 := (mem_ready.1 hj).1
      have hj' : j < listed.size := by
        rcases Nat.lt_or_ge j listed.size with h | h
        · exact h
        · rw [Array.getD_eq_getD_getElem?] at h1
          simp [Array.getElem?_eq_none h] at h1
      rw [Array.getD_eq_getD_getElem?] at h1
      simp [hj'] at h1
      have h2 := List.countP_eq_zero.1 (Nat.le_zero.1 hc) listed[j] (by simp)
      rw [h1] at h2
      exact h2 rfl
    exact ⟨hr, hend listed b w hl E hr⟩
  | succ fuel ih =>
    intro listed b w hl hc E
    refine ⟨hend listed b w hl E, fun i hi => ?_⟩
    obtain ⟨hiun, o, ho, hdep⟩ := mem_ready.1 hi
    have ho' : l[i]? = some o := by simpa using ho
    have hil : i < listed.size := by rw [hl]; exact (List.getElem?_eq_some_iff.1 ho').1
    have hif : listed[i] = false := by
      rw [Array.getD_eq_getD_getElem?] at hiun
      simpa [hil] using hiun
    obtain ⟨t, ht, htn⟩ := hd o (List.mem_of_getElem? ho')
    refine wpOp_step ho fun K' hK => ?_
    have S := steps_get hs i o ho'
    rw [Nat.zero_add] at S
    refine S b w ⟨E.bel, E.siz, E.old, fun j hj tj oj hoj htj => ?_⟩ K' fun x w' hx hb => hK _ _ (ih _ _ _ ?_ ?_ ⟨?_, ?_, ?_, ?_, ?_⟩)
    · obtain ⟨e, hee, rfl⟩ := List.mem_map.1 hj
      obtain ⟨h1, h2⟩ := List.mem_filter.1 hee
      exact E.new e.on oj tj hoj htj (hdep e (by simpa using h1) h2)
    · simpa using hl
    · rw [Array.toList_setIfInBounds, List.countP_set (by simpa using hil)]
      simp only [Array.getElem_toList, hif, Bool.not_false, Bool.not_true, if_true, Bool.false_eq_true, if_false]
      omega
    · rw [put_size]; exact E.siz
    · rw [put_dfr]; exact E.dfr
    · intro t' ht'
      rw [put_ne _ _ _ _ (fun e => ht' (by rw [← e]; exact List.mem_map.2 ⟨o, List.mem_of_getElem? ho', rfl⟩))]
      exact E.old t' ht'
    · intro j oj tj hoj htj hlj
      by_cases hji : j = i
      · subst hji
        rw [ho'] at hoj
        injection hoj with hoj
        subst hoj
        rw [ht] at htj
        injection htj with htj
        subst htj
        rw [ht, put_eq _ _ _ (by rw [E.siz]; exact htn)]
        exact hx
      · rw [put_ne _ _ _ _ (fun e => hji (dst_inj hnd hoj ho' (by rw [htj, e])))]
        have hlj' : listed.getD j false = true := by rw [← getD_set_ne false (Ne.symm hji)]; exact hlj
        exact (at_ rs j).2 _ _ _ (E.new j oj tj hoj htj hlj') hb
    · exact E.bel.trans (hb.mono E.bel.size)
/-- the act with all that has come up -/
def fill : List Oper → Nat → (Nat → Value) → Act → Act
  | [], _, _, a => a
  | o :: r, i, v, a => fill r (i + 1) v (a.put o.dst (v i))
theorem fill_size : ∀ (l : List Oper) (i : Nat) (v : Nat → Value) (a : Act), (fill l i v a).tmps.size = a.tmps.size
  | [], _, _, _ => rfl
  | o :: r, i, v, a => by rw [fill, fill_size r, put_size]
theorem fill_dfr : ∀ (l : List Oper) (i : Nat) (v : Nat → Value) (a : Act), (fill l i v a).defers = a.defers
  | [], _, _, _ => rfl
  | o :: r, i, v, a => by rw [fill, fill_dfr r, put_dfr]
theorem fill_old : ∀ (l : List Oper) (i : Nat) (v : Nat → Value) (a : Act) (t : Tmp), some t ∉ dsts l → (fill l i v a).tmps.getD t undef = a.tmps.getD t undef
  | [], _, _, _, _, _ => rfl
  | o :: r, i, v, a, t, h => by
    simp only [dsts, List.map_cons, List.mem_cons, not_or] at h
    rw [fill, fill_old r _ _ _ t h.2, put_ne _ _ _ _ (Ne.symm h.1)]
theorem fill_new : ∀ (l : List Oper) (i : Nat) (v : Nat → Value) (a : Act), (dsts l).Nodup → ∀ (j : Nat) (o : Oper) (t : Tmp), l[j]? = some o → o.dst = some t → t < a.tmps.size → (fill l i v a).tmps.getD t undef = v (i + j)
  | [], _, _, _, _, j, o, t, h, _, _ => by simp at h
  | o' :: r, i, v, a, hn, 0, o, t, h, ht, hl => by
    simp at h
    subst h
    simp only [dsts, List.map_cons, List.nodup_cons] at hn
    rw [fill, fill_old r _ _ _ t (by rw [← ht]; exact hn.1), ht, put_eq _ _ _ hl]
    rfl
  | o' :: r, i, v, a, hn, j + 1, o, t, h, ht, hl => by
    simp at h
    simp only [dsts, List.map_cons, List.nodup_cons] at hn
    rw [fill, fill_new r (i + 1) v _ hn.2 j o t h ht (by rw [put_size]; exact hl), show i + 1 + j = i + (j + 1) from by omega]
theorem act_ext {b c : Act} (h1 : b.tmps.size = c.tmps.size) (h2 : b.defers = c.defers) (h : ∀ t, b.tmps.getD t undef = c.tmps.getD t undef) : b = c := by
  cases b with
  | mk bt bd =>
    cases c with
    | mk ct cd =>
      simp only at h1 h2 h
      subst h2
      congr 1
      apply Array.ext h1
      intro i hi hi'
      have := h i
      rw [Array.getD_eq_getD_getElem?, Array.getD_eq_getD_getElem?] at this
      simpa [hi, hi'] using this
/-- THE LAW -/
theorem wp_region_rel {id : Nat} {w : World} (rs : List Rl) (hm : P.follows .mixedOrders = true) (hn : a.tmps.size = n) (hok : okB l n = true) (hs : Steps P l Q rs a w 0 l)
    (he : ∀ (v : Nat → Value) (w' : World), (∀ j, j < l.length → (at_ rs j).1 (v j) w') → Below w.heap.size w w' → Q .normal (fill l 0 v a) w') : (Code.region id l.toArray true).wp P Q a w := by
  simp only [okB, Bool.and_eq_true, decide_eq_true_eq, List.all_eq_true] at hok
  obtain ⟨⟨hlex, hnd⟩, hdd⟩ := hok
  have hd : ∀ o ∈ l, ∃ t, o.dst = some t ∧ t < a.tmps.size := fun o ho => by
    have := hdd o ho
    cases hdst : o.dst with
    | none => rw [hdst] at this; cases this
    | some t => rw [hdst] at this; exact ⟨t, rfl, by rw [hn]; simpa using this⟩
  refine wp_region_any hm (any_rel (rs := rs) (a := a) (w0 := w) hlex hnd hd hs (fun b w' h1 h2 h3 h4 h5 => ?_) _ _ _ _ (by simp) ?_ ⟨rfl, rfl, fun _ _ => rfl, fun j o t ho _ hl => ?_, ⟨(Below.refl w.heap.size w).os, (Below.refl w.heap.size w).tape, (Below.refl w.heap.size w).output, Nat.le_refl _, fun _ _ => rfl⟩⟩)
  · have hb : b = fill l 0 (fun j => b.tmps.getD (((l[j]?).bind (·.dst)).getD 0) undef) a := by
      refine act_ext (by rw [fill_size, h1]) (by rw [fill_dfr, h2]) fun t => ?_
      by_cases ht : some t ∈ dsts l
      · obtain ⟨o, ho, hot⟩ := List.mem_map.1 ht
        obtain ⟨j, hj⟩ := List.mem_iff_getElem?.1 ho
        obtain ⟨t', ht', htn⟩ := hd o ho
        have htt : t' = t := Option.some.inj (ht'.symm.trans hot)
        subst htt
        rw [fill_new l 0 _ a hnd j o t' hj ht' htn, Nat.zero_add, hj]
        simp [ht']
      · rw [fill_old l 0 _ a t ht, h3 t ht]
    rw [hb]
    refine he _ w' (fun j hj => ?_) h5
    obtain ⟨t, ht, _⟩ := hd l[j] (List.getElem_mem hj)
    have := h4 j l[j] t (by simp [hj]) ht
    simpa [hj, ht] using this
  · have : (Array.replicate l.toArray.size false).toList.countP (fun x => !x) ≤ (Array.replicate l.toArray.size false).toList.length := List.countP_le_length
    simpa using this
  · rw [Array.getD_eq_getD_getElem?, Array.getElem?_replicate] at hl
    split at hl <;> simp at hl
/-- is an operation's guard on? -/
def On (l : List Oper) (rs : List Rl) (n : Nat) (o : Oper) : Prop := o.guard = none ∨ ∃ g t, o.guard = some (g, true) ∧ (depsOf o).contains g = true ∧ (l[g]?).bind (·.dst) = some t ∧ t < n ∧ at_ rs g = Rel.is (.bool true)
theorem wanted_of {o : Oper} {b : Act} {w : World} (hn : a.tmps.size = n) (h : On l rs n o) (D : Dep l rs a w0 o b w) : Region.wanted o (yielded l.toArray b.tmps) = true := by
  rcases h with h | ⟨g, t, h1, h2, h3, h4, h5⟩
  · simp [Region.wanted, h]
  · have hv := D.is g t h2 h3 h5
    have e : b.tmps[t]? = some (.bool true) := by
      have hl : t < b.tmps.size := by rw [D.siz, hn]; exact h4
      have : b.tmps.getD t undef = .bool true := hv
      rw [Array.getD_eq_getD_getElem?] at this
      simpa [hl] using this
    have hy : yielded l.toArray b.tmps g = some true := by
      unfold yielded
      rw [show (l.toArray[g]?).bind (·.dst) = some t by simpa using h3]
      simp [e]
    simp [Region.wanted, h1, hy]
/-- an operation that yields a value and makes nothing -/
theorem step_val {i : Nat} {o : Oper} (hn : a.tmps.size = n) (hg : On l rs n o) (h : ∀ b w, Dep l rs a w0 o b w → ∃ x, (execOp b.eval o).run P w = .ok (.value x) w ∧ (at_ rs i).1 x w) : Step P l Q rs a w0 i o := fun b w D K hK => by
  obtain ⟨x, hx, hr⟩ := h b w D
  exact value_ (wanted_of hn hg D) rfl hx (hK x w hr (Below.refl _ _))
theorem step_call {i : Nat} {o : Oper} {f : FuncId} {fn : Func} {as : Array Operand} {ts : Array TypeId} (hn : a.tmps.size = n) (hg : On l rs n o) (hf : P.funcs[f]? = some fn) (hname : (fn.name == "runtime.NumGoroutine") = false) (hb : fn.body.isSome = true) (args : Array Value)
    (hop : o.op = .call { callee := .value (.func f), args := as, argTypes := ts }) (hargs : ∀ b w, Dep l rs a w0 o b w → as.map b.eval = args)
    (h : ∀ w, Below w0.heap.size w0 w → Calls P f args w fun e w' => ∃ x, e = .returned x ∧ (at_ rs i).1 x w' ∧ Below w.heap.size w w') : Step P l Q rs a w0 i o := fun b w D K hK =>
  goes_ hf hname hb args (wanted_of hn hg D) rfl hop (hargs b w D) ((h w D.bel).mono fun e w' ⟨x, he, hr, hb⟩ => ⟨x, he, hK x w' hr hb⟩)
/-- what hands on a slot that was there, or one of this region -/
theorem step_was {i t : Nat} {o : Oper} {v : Value} (hn : a.tmps.size = n) (hg : On l rs n o) (ho : o.op = .move (.tmp t)) (h : (dsts l).contains (some t) = false) (hv : a.tmps.getD t undef = v) (hr : at_ rs i = Rel.is v) : Step P l Q rs a w0 i o :=
  step_val hn hg fun b w D => ⟨_, BigFrame.run_move _ ho w, by rw [hr, D.was t h, hv]; rfl⟩
theorem step_pass {i j t : Nat} {o : Oper} {v : Value} (hn : a.tmps.size = n) (hg : On l rs n o) (ho : o.op = .move (.tmp t)) (hj : (depsOf o).contains j = true) (hd : (l[j]?).bind (·.dst) = some t) (hv : at_ rs j = Rel.is v) (hr : at_ rs i = Rel.is v) : Step P l Q rs a w0 i o :=
  step_val hn hg fun b w D => ⟨_, BigFrame.run_move _ ho w, by rw [hr, D.is j t hj hd hv]; rfl⟩
theorem step_take {i j t : Nat} {o : Oper} {v : Value} (hn : a.tmps.size = n) (hg : On l rs n o) (ho : o.op = .assign (.tmp t)) (hj : (depsOf o).contains j = true) (hd : (l[j]?).bind (·.dst) = some t) (hv : at_ rs j = Rel.is v) (hr : at_ rs i = Rel.is v) : Step P l Q rs a w0 i o :=
  step_val hn hg fun b w D => ⟨_, BigFrame.run_assign _ ho w, by rw [hr, D.is j t hj hd hv]; rfl⟩
/-- '&&': both are true -/
theorem step_pick {i j t j2 t2 : Nat} {o : Oper} (hn : a.tmps.size = n) (hg : On l rs n o) (ho : o.op = .pick (.tmp t) (.tmp t2) (.const (.bool false))) (hj : (depsOf o).contains j = true) (hd : (l[j]?).bind (·.dst) = some t) (hv : at_ rs j = Rel.is (.bool true))
    (hj2 : (depsOf o).contains j2 = true) (hd2 : (l[j2]?).bind (·.dst) = some t2) (hv2 : at_ rs j2 = Rel.is (.bool true)) (hr : at_ rs i = Rel.is (.bool true)) : Step P l Q rs a w0 i o :=
  step_val hn hg fun b w D => ⟨.bool true, by unfold execOp; rw [ho]; simp [D.is j t hj hd hv, D.is j2 t2 hj2 hd2 hv2, asBool], by rw [hr]; rfl⟩
/-- two texts that are one -/
theorem step_eq {i j t j2 t2 : Nat} {o : Oper} {s : ByteArray} {ty ty2 : TypeId} (hn : a.tmps.size = n) (hg : On l rs n o) (ho : o.op = .binOp .eql ty (.tmp t) (.tmp t2) ty2) (hT : P.underlying ty = some .string) (hj : (depsOf o).contains j = true) (hd : (l[j]?).bind (·.dst) = some t) (hv : at_ rs j = Rel.is (.string s))
    (hj2 : (depsOf o).contains j2 = true) (hd2 : (l[j2]?).bind (·.dst) = some t2) (hv2 : at_ rs j2 = Rel.is (.string s)) (hr : at_ rs i = Rel.is (.bool true)) : Step P l Q rs a w0 i o :=
  step_val hn hg fun b w D => ⟨.bool true, by unfold execOp; simp only [ho, D.is j t hj hd hv, D.is j2 t2 hj2 hd2 hv2]; simp [go_sem], by rw [hr]; rfl⟩
/-- a row that was there -/
theorem step_rd {i t : Nat} {o : Oper} {r : List Int} (hn : a.tmps.size = n) (hg : On l rs n o) (ho : o.op = .move (.tmp t)) (h : (dsts l).contains (some t) = false) {A : Option Addr} {m c : Nat} (hv : a.tmps.getD t undef = .slice A m c) (hr0 : ReadsInt w0 .u8 A m r) (hr : at_ rs i = Rel.rd r) : Step P l Q rs a w0 i o :=
  step_val hn hg fun b w D => ⟨_, BigFrame.run_move _ ho w, by rw [hr, D.was t h, hv]; exact ⟨A, m, c, rfl, hr0.below D.bel⟩⟩
/-- .. its length -/
theorem step_len {i j t : Nat} {o : Oper} {r : List Int} {ty e : TypeId} (hn : a.tmps.size = n) (hg : On l rs n o) (ho : o.op = .call { callee := .builtin .len, args := #[.tmp t], argTypes := #[ty] }) (hT : P.underlying ty = some (.slice e)) (hj : (depsOf o).contains j = true) (hd : (l[j]?).bind (·.dst) = some t) (hv : at_ rs j = Rel.rd r)
    (hr : at_ rs i = Rel.is (.int .i64 r.length)) : Step P l Q rs a w0 i o :=
  step_val hn hg fun b w D => by
    have h := D.rel j t hj hd
    rw [hv] at h
    obtain ⟨A, m, c, e1, h1⟩ := h
    have hm : r.length = m := h1.1
    subst hm
    refine ⟨.int .i64 r.length, ?_, by rw [hr]; rfl⟩
    unfold execOp
    simp only [ho, resolve, invoke, builtin, List.map_toArray, List.map_cons, List.map_nil, e1]
    simp [go_sem, hT]
/-- an operation over what is known of two -/
theorem step_two {i j t j2 t2 : Nat} {o : Oper} {x y v : Value} {op : BinOp} {ty ty2 : TypeId} (hn : a.tmps.size = n) (hg : On l rs n o) (ho : o.op = .binOp op ty (.tmp t) (.tmp t2) ty2) (hj : (depsOf o).contains j = true) (hd : (l[j]?).bind (·.dst) = some t) (hv : at_ rs j = Rel.is x)
    (hj2 : (depsOf o).contains j2 = true) (hd2 : (l[j2]?).bind (·.dst) = some t2) (hv2 : at_ rs j2 = Rel.is y) (hx : ∀ w, (do eqGuard op ty (.tmp t) (.tmp t2) x y; binOp op ty x y : Sem Value).run P w = .ok v w) (hr : at_ rs i = Rel.is v) : Step P l Q rs a w0 i o :=
  step_val hn hg fun b w D => by
    refine ⟨v, ?_, by rw [hr]; rfl⟩
    have h := hx w
    unfold execOp
    simp only [ho, D.is j t hj hd hv, D.is j2 t2 hj2 hd2 hv2]
    simp only [Sem.run_bind] at h ⊢
    rw [h]
    rfl
/-- .. and over a constant -/
theorem step_cst {i j t : Nat} {o : Oper} {x y v : Value} {op : BinOp} {ty ty2 : TypeId} (hn : a.tmps.size = n) (hg : On l rs n o) (ho : o.op = .binOp op ty (.tmp t) (.const y) ty2) (hj : (depsOf o).contains j = true) (hd : (l[j]?).bind (·.dst) = some t) (hv : at_ rs j = Rel.is x)
    (hx : ∀ w, (do eqGuard op ty (.tmp t) (.const y) x y; binOp op ty x y : Sem Value).run P w = .ok v w) (hr : at_ rs i = Rel.is v) : Step P l Q rs a w0 i o :=
  step_val hn hg fun b w D => by
    refine ⟨v, ?_, by rw [hr]; rfl⟩
    have h := hx w
    have e2 : b.eval (.const y) = y := rfl
    unfold execOp
    simp only [ho, D.is j t hj hd hv, e2]
    simp only [Sem.run_bind] at h ⊢
    rw [h]
    rfl
/-- what is false is not -/
theorem step_not {i j t : Nat} {o : Oper} {ty : TypeId} (hn : a.tmps.size = n) (hg : On l rs n o) (ho : o.op = .unOp .not ty (.tmp t)) (hj : (depsOf o).contains j = true) (hd : (l[j]?).bind (·.dst) = some t) (hv : at_ rs j = Rel.is (.bool false)) (hr : at_ rs i = Rel.is (.bool true)) : Step P l Q rs a w0 i o :=
  step_val hn hg fun b w D => ⟨.bool true, by unfold execOp; simp only [ho, D.is j t hj hd hv]; simp [go_sem], by rw [hr]; rfl⟩
/-- a row's text -/
theorem step_str {i j t : Nat} {o : Oper} {r : List Int} {s d e : TypeId} (hn : a.tmps.size = n) (hg : On l rs n o) (ho : o.op = .convert s d (.tmp t)) (hs : P.underlying s = some (.slice e)) (he : P.underlying e = some (.int .u8)) (hdd : P.underlying d = some .string)
    (hj : (depsOf o).contains j = true) (hd : (l[j]?).bind (·.dst) = some t) (hv : at_ rs j = Rel.rd r) (hr : at_ rs i = Rel.is (.string (strOfNums r))) : Step P l Q rs a w0 i o :=
  step_val hn hg fun b w D => by
    have h := D.rel j t hj hd
    rw [hv] at h
    obtain ⟨A, m, c, e1, h1⟩ := h
    refine ⟨.string (strOfNums r), ?_, by rw [hr]; rfl⟩
    have hc := string_of_reads (P := P) (c := c) hs he hdd h1
    unfold execOp
    rw [ho]
    simp [e1, hc]
theorem val_move {o : Oper} {b : Act} {w : World} (x : Operand) (h : o.op = .move x) : (execOp b.eval o).run P w = .ok (.value (b.eval x)) w := BigFrame.run_move x h w
theorem val_assign {o : Oper} {b : Act} {w : World} (x : Operand) (h : o.op = .assign x) : (execOp b.eval o).run P w = .ok (.value (b.eval x)) w := BigFrame.run_assign x h w
end
end Go.Proofs.Rel
/- As Rel, over any order of worlds that a region's operations go up: for regions that store, too. What is told of an operation may speak of several slots: its own, and those of what it waits for. -/
namespace Go.Proofs.RelG
open Go Go.RowKit Go.Proofs.YtcdcbkopapedhaaGreatDoorW.PrintWords Go.Proofs.YtcdcbkopapedhaaGreatDoorW.PrintLast
open Go.Proofs.Rel (dsts depsOf lexOk lexOk_get put_size put_dfr put_ne put_eq fill fill_size fill_dfr fill_old act_ext)
set_option linter.unusedVariables false
structure Ord where
  le : World → World → Prop
  refl : ∀ w, le w w
  trans : ∀ {a b c}, le a b → le b c → le a c
  bel : ∀ {w w'}, Below w.heap.size w w' → le w w'
structure Rl (G : Ord) where
  foot : List Tmp
  r : (Tmp → Value) → World → Prop
  ext : ∀ e e' w, (∀ t, t ∈ foot → e t = e' t) → r e w → r e' w
  sta : ∀ e w w', r e w → G.le w w' → r e w'
def get (b : Act) : Tmp → Value := fun t => b.tmps.getD t undef
def triv (G : Ord) : Rl G := ⟨[], fun _ _ => True, fun _ _ _ _ h => h, fun _ _ _ h _ => h⟩
/-- the slot holds v -/
def is (G : Ord) (t : Tmp) (v : Value) : Rl G := ⟨[t], fun e _ => e t = v, fun e e' w h h' => (h t (by simp)).symm.trans h', fun _ _ _ h _ => h⟩
/-- the slot holds what meets p, in this world and all above -/
def of (G : Ord) (t : Tmp) (p : Value → World → Prop) (hp : ∀ x w w', p x w → G.le w w' → p x w') : Rl G := ⟨[t], fun e w => p (e t) w, fun e e' w h h' => by rw [← h t (by simp)]; exact h', fun e w w' h h' => hp _ w w' h h'⟩
/-- the world is so, and stays -/
def wo (G : Ord) (p : World → Prop) (hp : ∀ w w', p w → G.le w w' → p w') : Rl G := ⟨[], fun _ w => p w, fun _ _ _ _ h => h, fun _ w w' h h' => hp w w' h h'⟩
section
variable {P : Program} {Q : Exit → Act → World → Prop} {l : List Oper} {G : Ord} {rs : List (Rl G)} {a : Act} {n : Nat} {w0 : World}
def at_ (rs : List (Rl G)) (i : Nat) : Rl G := rs.getD i (triv G)
def footOk (l : List Oper) (fs : List (List Tmp)) : Bool := (List.range l.length).all fun j => (fs.getD j []).all fun t => match l[j]? with
  | some o => (o.dst == some t) || ((depsOf o).any fun d => ((l[d]?).bind (·.dst)) == some t)
  | none => false
def okB (l : List Oper) (n : Nat) (fs : List (List Tmp)) : Bool := lexOk l 0 && decide ((l.filterMap (·.dst)).Nodup) && (l.all fun o => match o.dst with | some t => decide (t < n) | none => true) && footOk l fs
structure Dep (l : List Oper) (rs : List (Rl G)) (a : Act) (w0 : World) (o : Oper) (b : Act) (w : World) : Prop where
  bel : G.le w0 w
  siz : b.tmps.size = a.tmps.size
  old : ∀ t, some t ∉ dsts l → get b t = get a t
  new : ∀ j ∈ depsOf o, (at_ rs j).r (get b) w
theorem Dep.was {o : Oper} {b : Act} {w : World} (D : Dep l rs a w0 o b w) (t : Nat) (h : (dsts l).contains (some t) = false) : b.eval (.tmp t) = a.tmps.getD t undef :=
  D.old t (fun hm => by rw [List.contains_iff_mem.2 hm] at h; cases h)
theorem Dep.rel {o : Oper} {b : Act} {w : World} (D : Dep l rs a w0 o b w) (j : Nat) (hj : (depsOf o).contains j = true) : (at_ rs j).r (get b) w := D.new j (List.contains_iff_mem.1 hj)
theorem Dep.is {o : Oper} {b : Act} {w : World} {t : Tmp} {v : Value} (D : Dep l rs a w0 o b w) (j : Nat) (hj : (depsOf o).contains j = true) (hr : at_ rs j = RelG.is G t v) : b.eval (.tmp t) = v := by
  have := D.rel j hj
  rw [hr] at this
  exact this
def Step (P : Program) (l : List Oper) (Q : Exit → Act → World → Prop) (rs : List (Rl G)) (a : Act) (w0 : World) (i : Nat) (o : Oper) : Prop :=
  ∀ (b : Act) (w : World), Dep l rs a w0 o b w → ∀ K : Act → World → Prop, (∀ x w', (at_ rs i).r (get (b.put o.dst x)) w' → G.le w w' → K (b.put o.dst x) w') →
    if Region.wanted o (yielded l.toArray b.tmps) = true then Oper.wp P o b w K Q else K (b.put o.dst undef) w
def Steps (P : Program) (l : List Oper) (Q : Exit → Act → World → Prop) (rs : List (Rl G)) (a : Act) (w0 : World) : Nat → List Oper → Prop
  | _, [] => True
  | i, o :: r => Step P l Q rs a w0 i o ∧ Steps P l Q rs a w0 (i + 1) r
theorem steps_cons {i : Nat} {o : Oper} {r : List Oper} (h : Step P l Q rs a w0 i o) (hs : Steps P l Q rs a w0 (i + 1) r) : Steps P l Q rs a w0 i (o :: r) := ⟨h, hs⟩
theorem steps_get : ∀ {r : List Oper} {i : Nat}, Steps P l Q rs a w0 i r → ∀ j o, r[j]? = some o → Step P l Q rs a w0 (i + j) o
  | [], _, _, j, o, h => by simp at h
  | o' :: r, i, hs, 0, o, h => by
    simp at h
    subst h
    exact hs.1
  | o' :: r, i, hs, j + 1, o, h => by
    simp at h
    have := steps_get hs.2 j o h
    rwa [show i + 1 + j = i + (j + 1) from by omega] at this
theorem dst_inj : ∀ {l : List Oper}, (l.filterMap (·.dst)).Nodup → ∀ {i j : Nat} {oi oj : Oper} {t : Tmp}, l[i]? = some oi → l[j]? = some oj → oi.dst = some t → oj.dst = some t → i = j
  | [], _, i, _, _, _, _, hi, _, _, _ => by simp at hi
  | o :: r, hn, i, j, oi, oj, t, hi, hj, h1, h2 => by
    have key : ∀ {k : Nat} {ok : Oper}, r[k]? = some ok → ok.dst = some t → o.dst = some t → False := fun {k ok} hk h3 h4 => by
      rw [List.filterMap_cons_some h4] at hn
      exact (List.nodup_cons.1 hn).1 (List.mem_filterMap.2 ⟨ok, List.mem_of_getElem? hk, h3⟩)
    have hn' : (r.filterMap (·.dst)).Nodup := by
      cases ho : o.dst with
      | none => rwa [List.filterMap_cons_none ho] at hn
      | some u => rw [List.filterMap_cons_some ho] at hn; exact (List.nodup_cons.1 hn).2
    match i, j, hi, hj with
    | 0, 0, _, _ => rfl
    | 0, j + 1, hi, hj =>
      simp at hi hj
      subst hi
      exact (key hj h2 h1).elim
    | i + 1, 0, hi, hj =>
      simp at hi hj
      subst hj
      exact (key hi h1 h2).elim
    | i + 1, j + 1, hi, hj =>
      simp at hi hj
      rw [dst_inj hn' hi hj h1 h2]
structure Env (l : List Oper) (rs : List (Rl G)) (a : Act) (w0 : World) (listed : Array Bool) (b : Act) (w : World) : Prop where
  siz : b.tmps.size = a.tmps.size
  dfr : b.defers = a.defers
  old : ∀ t, some t ∉ dsts l → get b t = get a t
  new : ∀ j, j < l.length → listed.getD j false = true → (at_ rs j).r (get b) w
  clo : ∀ j o, l[j]? = some o → listed.getD j false = true → ∀ d ∈ depsOf o, listed.getD d false = true
  bel : G.le w0 w
theorem any_rel {fs : List (List Tmp)} (hlex : lexOk l 0 = true) (hnd : (l.filterMap (·.dst)).Nodup) (hd : ∀ o ∈ l, ∀ t, o.dst = some t → t < a.tmps.size) (hfoot : footOk l fs = true) (hfs : ∀ j, (at_ rs j).foot = fs.getD j []) (hs : Steps P l Q rs a w0 0 l)
    (he : ∀ b w', b.tmps.size = a.tmps.size → b.defers = a.defers → (∀ t, some t ∉ dsts l → get b t = get a t) → (∀ j, j < l.length → (at_ rs j).r (get b) w') → G.le w0 w' → Q .normal b w') :
    ∀ (fuel : Nat) (listed : Array Bool) (b : Act) (w : World), listed.size = l.length → listed.toList.countP (fun x => !x) ≤ fuel → Env l rs a w0 listed b w → wpAny P .any l.toArray Q fuel listed b w := by
  have hend : ∀ (listed : Array Bool) (b : Act) (w : World), listed.size = l.length → Env l rs a w0 listed b w → Region.ready .any l.toArray listed = [] → Q .normal b w := by
    intro listed b w hl E hr
    have hall : ∀ j, j < l.length → listed.getD j false = true := by
      intro j
      induction j using Nat.strongRecOn with
      | _ j ih =>
        intro hj
        cases hc : listed.getD j false with
        | true => rfl
        | false =>
          exfalso
          have hj' : j < listed.size := by omega
          have hm : j ∈ Region.ready .any l.toArray listed := by
            refine mem_ready.2 ⟨?_, l[j], by simp [hj], fun e hee hb => ?_⟩
            · rw [Array.getD_eq_getD_getElem?] at hc ⊢
              simp [hj'] at hc ⊢
              exact hc
            · have := lexOk_get hlex j l[j] (by simp [hj]) e.on (List.mem_map.2 ⟨e, List.mem_filter.2 ⟨by simpa using hee, hb⟩, rfl⟩)
              exact ih e.on (by omega) (by omega)
          rw [hr] at hm
          cases hm
    exact he b w E.siz E.dfr E.old (fun j hj => E.new j hj (hall j hj)) E.bel
  intro fuel
  induction fuel with
  | zero =>
    intro listed b w hl hc E
    have hr : Region.ready .any l.toArray listed = [] := by
      refine List.eq_nil_iff_forall_not_mem.2 fun j hj => ?_
      have h1 := (mem_ready.1 hj).1
      have hj' : j < listed.size := by
        rcases Nat.lt_or_ge j listed.size with h | h
        · exact h
        · rw [Array.getD_eq_getD_getElem?] at h1
          simp [Array.getElem?_eq_none h] at h1
      rw [Array.getD_eq_getD_getElem?] at h1
      simp [hj'] at h1
      have h2 := List.countP_eq_zero.1 (Nat.le_zero.1 hc) listed[j] (by simp)
      rw [h1] at h2
      exact h2 rfl
    exact ⟨hr, hend listed b w hl E hr⟩
  | succ fuel ih =>
    intro listed b w hl hc E
    refine ⟨hend listed b w hl E, fun i hi => ?_⟩
    obtain ⟨hiun, o, ho, hdep⟩ := mem_ready.1 hi
    have ho' : l[i]? = some o := by simpa using ho
    have hil : i < listed.size := by rw [hl]; exact (List.getElem?_eq_some_iff.1 ho').1
    have hif : listed[i] = false := by
      rw [Array.getD_eq_getD_getElem?] at hiun
      simpa [hil] using hiun
    have hif2 : listed.getD i false = false := by
      rw [Array.getD_eq_getD_getElem?]
      simp [hil, hif]
    have hdl : ∀ d ∈ depsOf o, listed.getD d false = true := fun d hd' => by
      obtain ⟨e, hee, rfl⟩ := List.mem_map.1 hd'
      obtain ⟨h1, h2⟩ := List.mem_filter.1 hee
      exact hdep e (by simpa using h1) h2
    refine wpOp_step ho fun K' hK => ?_
    have S := steps_get hs i o ho'
    rw [Nat.zero_add] at S
    have hlenOf : ∀ d, listed.getD d false = true → d < l.length := fun d hd' => by
      rcases Nat.lt_or_ge d listed.size with h | h
      · omega
      · rw [Array.getD_eq_getD_getElem?] at hd'
        simp [Array.getElem?_eq_none h] at hd'
    refine S b w ⟨E.bel, E.siz, E.old, fun j hj => E.new j (hlenOf j (hdl j hj)) (hdl j hj)⟩ K' fun x w' hx hb => hK _ _ (ih _ _ _ ?_ ?_ ⟨?_, ?_, ?_, ?_, ?_, ?_⟩)
    · simpa using hl
    · rw [Array.toList_setIfInBounds, List.countP_set (by simpa using hil)]
      simp only [Array.getElem_toList, hif, Bool.not_false, Bool.not_true, if_true, Bool.false_eq_true, if_false]
      omega
    · rw [put_size]; exact E.siz
    · rw [put_dfr]; exact E.dfr
    · intro t' ht'
      have : get (b.put o.dst x) t' = get b t' := put_ne _ _ _ _ (fun e => ht' (by rw [← e]; exact List.mem_map.2 ⟨o, List.mem_of_getElem? ho', rfl⟩))
      rw [this]
      exact E.old t' ht'
    · intro j hjl hlj
      by_cases hji : j = i
      · subst hji
        exact hx
      · have hlj' : listed.getD j false = true := by rw [← getD_set_ne false (Ne.symm hji)]; exact hlj
        refine (at_ rs j).sta _ _ _ ((at_ rs j).ext _ _ _ (fun t ht => ?_) (E.new j hjl hlj')) hb
        refine (put_ne _ _ _ _ (fun e => ?_)).symm
        -- t is a slot of j, or of what j waits for: none of them is i
        rw [hfs j] at ht
        have h1 := List.all_eq_true.1 hfoot j (List.mem_range.2 hjl)
        have h2 := List.all_eq_true.1 h1 t ht
        cases hoj : l[j]? with
        | none => rw [hoj] at h2; cases h2
        | some oj =>
          rw [hoj] at h2
          simp only [Bool.or_eq_true, beq_iff_eq, List.any_eq_true] at h2
          rcases h2 with h2 | ⟨d, hd1, hd2⟩
          · exact hji (dst_inj hnd hoj ho' h2 e)
          · have hdt := E.clo j oj hoj hlj' d hd1
            cases hod : l[d]? with
            | none => rw [hod] at hd2; cases hd2
            | some od =>
              rw [hod] at hd2
              have : d = i := dst_inj hnd hod ho' hd2 e
              subst this
              rw [hif2] at hdt
              cases hdt
    · intro j oj hoj hlj d hd'
      have keep : listed.getD d false = true → (listed.setIfInBounds i true).getD d false = true := fun h => by
        by_cases hdi : i = d
        · subst hdi
          rw [hif2] at h
          cases h
        · rw [getD_set_ne false hdi]; exact h
      by_cases hji : j = i
      · subst hji
        rw [ho'] at hoj
        injection hoj with hoj
        subst hoj
        exact keep (hdl d hd')
      · have hlj' : listed.getD j false = true := by rw [← getD_set_ne false (Ne.symm hji)]; exact hlj
        exact keep (E.clo j oj hoj hlj' d hd')
    · exact G.trans E.bel hb
theorem fill_new : ∀ (l : List Oper) (i : Nat) (v : Nat → Value) (a : Act), (l.filterMap (·.dst)).Nodup → ∀ (j : Nat) (o : Oper) (t : Tmp), l[j]? = some o → o.dst = some t → t < a.tmps.size → (fill l i v a).tmps.getD t undef = v (i + j)
  | [], _, _, _, _, j, o, t, h, _, _ => by simp at h
  | o' :: r, i, v, a, hn, 0, o, t, h, ht, hl => by
    simp at h
    subst h
    rw [List.filterMap_cons_some ht] at hn
    rw [fill, fill_old r _ _ _ t (fun hm => (List.nodup_cons.1 hn).1 (by
      obtain ⟨q, hq, he⟩ := List.mem_map.1 hm
      exact List.mem_filterMap.2 ⟨q, hq, he⟩)), ht, put_eq _ _ _ hl]
    rfl
  | o' :: r, i, v, a, hn, j + 1, o, t, h, ht, hl => by
    simp at h
    have hn' : (r.filterMap (·.dst)).Nodup := by
      cases ho : o'.dst with
      | none => rwa [List.filterMap_cons_none ho] at hn
      | some u => rw [List.filterMap_cons_some ho] at hn; exact (List.nodup_cons.1 hn).2
    rw [fill, fill_new r (i + 1) v _ hn' j o t h ht (by rw [put_size]; exact hl), show i + 1 + j = i + (j + 1) from by omega]
/-- THE LAW -/
theorem wp_region_rel {id : Nat} {w : World} (rs : List (Rl G)) (fs : List (List Tmp)) (hm : P.follows .mixedOrders = true) (hn : a.tmps.size = n) (hfs : rs.map Rl.foot = fs) (hok : okB l n fs = true) (hs : Steps P l Q rs a w 0 l)
    (he : ∀ (v : Nat → Value) (w' : World), (∀ j, j < l.length → (at_ rs j).r (get (fill l 0 v a)) w') → G.le w w' → Q .normal (fill l 0 v a) w') : (Code.region id l.toArray true).wp P Q a w := by
  simp only [okB, Bool.and_eq_true, decide_eq_true_eq, List.all_eq_true] at hok
  obtain ⟨⟨⟨hlex, hnd⟩, hdd⟩, hfoot⟩ := hok
  have hd : ∀ o ∈ l, ∀ t, o.dst = some t → t < a.tmps.size := fun o ho t ht => by
    have := hdd o ho
    rw [ht] at this
    rw [hn]
    simpa using this
  have hfs' : ∀ j, (at_ rs j).foot = fs.getD j [] := fun j => by
    subst hfs
    unfold at_
    rw [List.getD_eq_getElem?_getD, List.getD_eq_getElem?_getD, List.getElem?_map]
    cases rs[j]? <;> rfl
  refine wp_region_any hm (any_rel (rs := rs) (a := a) (w0 := w) hlex hnd hd hfoot hfs' hs (fun b w' h1 h2 h3 h4 h5 => ?_) _ _ _ _ (by simp) ?_ ⟨rfl, rfl, fun _ _ => rfl, fun j _ hl => ?_, fun j o ho hl => ?_, G.bel ⟨(Below.refl w.heap.size w).os, (Below.refl w.heap.size w).tape, (Below.refl w.heap.size w).output, Nat.le_refl _, fun _ _ => rfl⟩⟩)
  · have hb : b = fill l 0 (fun j => get b (((l[j]?).bind (·.dst)).getD 0)) a := by
      refine act_ext (by rw [fill_size, h1]) (by rw [fill_dfr, h2]) fun t => ?_
      by_cases ht : some t ∈ dsts l
      · obtain ⟨o, ho, hot⟩ := List.mem_map.1 ht
        obtain ⟨j, hj⟩ := List.mem_iff_getElem?.1 ho
        rw [fill_new l 0 _ a hnd j o t hj hot (hd o ho t hot), Nat.zero_add, hj]
        simp [hot, get]
      · rw [fill_old l 0 _ a t ht]
        exact h3 t ht
    have hq := he _ w' (fun j hj => by rw [← hb]; exact h4 j hj) h5
    rw [← hb] at hq
    exact hq
  · have : (Array.replicate l.toArray.size false).toList.countP (fun x => !x) ≤ (Array.replicate l.toArray.size false).toList.length := List.countP_le_length
    simpa using this
  · rw [Array.getD_eq_getD_getElem?, Array.getElem?_replicate] at hl
    split at hl <;> simp at hl
  · rw [Array.getD_eq_getD_getElem?, Array.getElem?_replicate] at hl
    split at hl <;> simp at hl
theorem step_val {i : Nat} {o : Oper} (hg : o.guard = none) (h : ∀ b w, Dep l rs a w0 o b w → ∃ x, (execOp b.eval o).run P w = .ok (.value x) w ∧ (at_ rs i).r (get (b.put o.dst x)) w) : Step P l Q rs a w0 i o := fun b w D K hK => by
  obtain ⟨x, hx, hr⟩ := h b w D
  exact value_ (by simp [Region.wanted, hg]) rfl hx (hK x w hr (G.refl _))
/-- an operation that makes memory of its own accord -/
theorem step_make {i : Nat} {o : Oper} (hg : o.guard = none) (h : ∀ b w, Dep l rs a w0 o b w → ∃ x w', (execOp b.eval o).run P w = .ok (.value x) w' ∧ (at_ rs i).r (get (b.put o.dst x)) w' ∧ G.le w w') : Step P l Q rs a w0 i o := fun b w D K hK => by
  obtain ⟨x, w', hx, hr, hle⟩ := h b w D
  exact value_ (by simp [Region.wanted, hg]) rfl hx (hK x w' hr hle)
/-- a store -/
theorem step_skip {i : Nat} {o : Oper} (hg : o.guard = none) (hd : o.dst = none) (h : ∀ b w, Dep l rs a w0 o b w → ∃ w', (execOp b.eval o).run P w = .ok .skip w' ∧ (at_ rs i).r (get b) w' ∧ G.le w w') : Step P l Q rs a w0 i o := fun b w D K hK => by
  obtain ⟨w', hx, hr, hle⟩ := h b w D
  have hk := hK undef w' (by rw [hd]; exact hr) hle
  rw [hd] at hk ⊢
  exact skip_ (by simp [Region.wanted, hg]) hd hx hk
theorem step_call {i : Nat} {o : Oper} {f : FuncId} {fn : Func} {as : Array Operand} {ts : Array TypeId} (hg : o.guard = none) (hf : P.funcs[f]? = some fn) (hname : (fn.name == "runtime.NumGoroutine") = false) (hb : fn.body.isSome = true) (args : Array Value)
    (hop : o.op = .call { callee := .value (.func f), args := as, argTypes := ts }) (hargs : ∀ b w, Dep l rs a w0 o b w → as.map b.eval = args)
    (h : ∀ b w, Dep l rs a w0 o b w → Calls P f args w fun e w' => ∃ x, e = .returned x ∧ (at_ rs i).r (get (b.put o.dst x)) w' ∧ G.le w w') : Step P l Q rs a w0 i o := fun b w D K hK =>
  goes_ hf hname hb args (by simp [Region.wanted, hg]) rfl hop (hargs b w D) ((h b w D).mono fun e w' ⟨x, he, hr, hb⟩ => ⟨x, he, hK x w' hr hb⟩)
theorem get_put (b : Act) (t : Tmp) (v : Value) (h : t < b.tmps.size) : get (b.put (some t) v) t = v := put_eq b t v h
theorem step_was {i t u : Nat} {o : Oper} {v : Value} (hn : a.tmps.size = n) (hg : o.guard = none) (ho : o.op = .move (.tmp t)) (hd : o.dst = some u) (hu : u < n) (h : (dsts l).contains (some t) = false) (hv : a.tmps.getD t undef = v) (hr : at_ rs i = RelG.is G u v) : Step P l Q rs a w0 i o :=
  step_val hg fun b w D => ⟨_, BigFrame.run_move _ ho w, by
    rw [hr, D.was t h, hv, hd]
    exact get_put b u v (by rw [D.siz, hn]; exact hu)⟩
theorem step_pass {i j t u : Nat} {o : Oper} {v : Value} (hn : a.tmps.size = n) (hg : o.guard = none) (ho : o.op = .move (.tmp t) ∨ o.op = .assign (.tmp t)) (hd : o.dst = some u) (hu : u < n) (hj : (depsOf o).contains j = true) (hv : at_ rs j = RelG.is G t v) (hr : at_ rs i = RelG.is G u v) : Step P l Q rs a w0 i o :=
  step_val hg fun b w D => ⟨b.eval (.tmp t), by
    rcases ho with ho | ho
    · exact BigFrame.run_move _ ho w
    · exact BigFrame.run_assign _ ho w, by
    rw [hr, D.is j hj hv, hd]
    exact get_put b u v (by rw [D.siz, hn]; exact hu)⟩
end
end Go.Proofs.RelG
/- More of Rel: guards of either way ('&&' and '||'), and operations as they are run. -/
namespace Go.Proofs.Rel
open Go Go.RowKit Go.Proofs.YtcdcbkopapedhaaGreatDoorW.PrintWords Go.Proofs.YtcdcbkopapedhaaGreatDoorW.PrintLast
set_option linter.unusedVariables false
section
variable {P : Program} {Q : Exit → Act → World → Prop} {l : List Oper} {rs : List Rl} {a : Act} {n : Nat} {w0 : World}
def bOf : Value → Option Bool
  | .bool v => some v
  | _ => none
/-- is an operation's guard on? -/
def OnB (l : List Oper) (rs : List Rl) (n : Nat) (o : Oper) : Prop := o.guard = none ∨ ∃ g t v, o.guard = some (g, v) ∧ (depsOf o).contains g = true ∧ (l[g]?).bind (·.dst) = some t ∧ t < n ∧ at_ rs g = Rel.is (.bool v)
theorem yielded_is {o : Oper} {b : Act} {w : World} {g t : Nat} {x : Value} (hn : a.tmps.size = n) (h2 : (depsOf o).contains g = true) (h3 : (l[g]?).bind (·.dst) = some t) (h4 : t < n) (h5 : at_ rs g = Rel.is x) (D : Dep l rs a w0 o b w) :
    yielded l.toArray b.tmps g = bOf x := by
  have hv := D.is g t h2 h3 h5
  have e : b.tmps[t]? = some x := by
    have hl : t < b.tmps.size := by rw [D.siz, hn]; exact h4
    have : b.tmps.getD t undef = x := hv
    rw [Array.getD_eq_getD_getElem?] at this
    simpa [hl] using this
  unfold yielded
  rw [show (l.toArray[g]?).bind (·.dst) = some t by simpa using h3, Option.bind_some, e]
  cases x <;> rfl
theorem wanted_on {o : Oper} {b : Act} {w : World} (hn : a.tmps.size = n) (h : OnB l rs n o) (D : Dep l rs a w0 o b w) : Region.wanted o (yielded l.toArray b.tmps) = true := by
  rcases h with h | ⟨g, t, v, h1, h2, h3, h4, h5⟩
  · simp [Region.wanted, h]
  · have hy := yielded_is hn h2 h3 h4 h5 D
    simp [Region.wanted, h1, hy, bOf]
/-- an operation whose guard is off -/
theorem step_off {i g t : Nat} {o : Oper} {v : Bool} {x : Value} (hn : a.tmps.size = n) (hg : o.guard = some (g, v)) (h2 : (depsOf o).contains g = true) (h3 : (l[g]?).bind (·.dst) = some t) (h4 : t < n) (h5 : at_ rs g = Rel.is x) (h6 : bOf x ≠ some v) (hr : at_ rs i = Rel.is undef) : Step P l Q rs a w0 i o := fun b w D K hK => by
  have hy := yielded_is hn h2 h3 h4 h5 D
  have : Region.wanted o (yielded l.toArray b.tmps) = false := by
    simp only [Region.wanted, hg, hy]
    simpa using h6
  rw [if_neg (by rw [this]; decide)]
  exact hK undef w (by rw [hr]; rfl) (Below.refl _ _)
theorem step_valB {i : Nat} {o : Oper} (hn : a.tmps.size = n) (hg : OnB l rs n o) (h : ∀ b w, Dep l rs a w0 o b w → ∃ x, (execOp b.eval o).run P w = .ok (.value x) w ∧ (at_ rs i).1 x w) : Step P l Q rs a w0 i o := fun b w D K hK => by
  obtain ⟨x, hx, hr⟩ := h b w D
  exact value_ (wanted_on hn hg D) rfl hx (hK x w hr (Below.refl _ _))
theorem step_callB {i : Nat} {o : Oper} {f : FuncId} {fn : Func} {as : Array Operand} {ts : Array TypeId} (hn : a.tmps.size = n) (hg : OnB l rs n o) (hf : P.funcs[f]? = some fn) (hname : (fn.name == "runtime.NumGoroutine") = false) (hb : fn.body.isSome = true) (args : Array Value)
    (hop : o.op = .call { callee := .value (.func f), args := as, argTypes := ts }) (hargs : ∀ b w, Dep l rs a w0 o b w → as.map b.eval = args)
    (h : ∀ w, Below w0.heap.size w0 w → Calls P f args w fun e w' => ∃ x, e = .returned x ∧ (at_ rs i).1 x w' ∧ Below w.heap.size w w') : Step P l Q rs a w0 i o := fun b w D K hK =>
  goes_ hf hname hb args (wanted_on hn hg D) rfl hop (hargs b w D) ((h w D.bel).mono fun e w' ⟨x, he, hr, hb⟩ => ⟨x, he, hK x w' hr hb⟩)
/-- as it is run: nothing, a slot that was there, one, two of this region -/
theorem step_run0 {i t : Nat} {o : Oper} {v x : Value} (hn : a.tmps.size = n) (hg : OnB l rs n o) (h : (dsts l).contains (some t) = false) (hv : a.tmps.getD t undef = v)
    (hx : ∀ (ρ : Operand → Value) (w : World), Below w0.heap.size w0 w → ρ (.tmp t) = v → (∀ y, ρ (.const y) = y) → (execOp ρ o).run P w = .ok (.value x) w) (hr : at_ rs i = Rel.is x) : Step P l Q rs a w0 i o :=
  step_valB hn hg fun b w D => ⟨x, hx b.eval w D.bel ((D.was t h).trans hv) (fun _ => rfl), by rw [hr]; rfl⟩
theorem step_run1 {i j t : Nat} {o : Oper} {v x : Value} (hn : a.tmps.size = n) (hg : OnB l rs n o) (hj : (depsOf o).contains j = true) (hd : (l[j]?).bind (·.dst) = some t) (hv : at_ rs j = Rel.is v)
    (hx : ∀ (ρ : Operand → Value) (w : World), Below w0.heap.size w0 w → ρ (.tmp t) = v → (∀ y, ρ (.const y) = y) → (execOp ρ o).run P w = .ok (.value x) w) (hr : at_ rs i = Rel.is x) : Step P l Q rs a w0 i o :=
  step_valB hn hg fun b w D => ⟨x, hx b.eval w D.bel (D.is j t hj hd hv) (fun _ => rfl), by rw [hr]; rfl⟩
theorem step_run2 {i j t j2 t2 : Nat} {o : Oper} {v v2 x : Value} (hn : a.tmps.size = n) (hg : OnB l rs n o) (hj : (depsOf o).contains j = true) (hd : (l[j]?).bind (·.dst) = some t) (hv : at_ rs j = Rel.is v)
    (hj2 : (depsOf o).contains j2 = true) (hd2 : (l[j2]?).bind (·.dst) = some t2) (hv2 : at_ rs j2 = Rel.is v2)
    (hx : ∀ (ρ : Operand → Value) (w : World), Below w0.heap.size w0 w → ρ (.tmp t) = v → ρ (.tmp t2) = v2 → (∀ y, ρ (.const y) = y) → (execOp ρ o).run P w = .ok (.value x) w) (hr : at_ rs i = Rel.is x) : Step P l Q rs a w0 i o :=
  step_valB hn hg fun b w D => ⟨x, hx b.eval w D.bel (D.is j t hj hd hv) (D.is j2 t2 hj2 hd2 hv2) (fun _ => rfl), by rw [hr]; rfl⟩
theorem step_wasB {i t : Nat} {o : Oper} {v : Value} (hn : a.tmps.size = n) (hg : OnB l rs n o) (ho : o.op = .move (.tmp t) ∨ o.op = .assign (.tmp t)) (h : (dsts l).contains (some t) = false) (hv : a.tmps.getD t undef = v) (hr : at_ rs i = Rel.is v) : Step P l Q rs a w0 i o :=
  step_run0 hn hg h hv (fun ρ w hb h1 _ => by
    rcases ho with ho | ho
    · have := BigFrame.run_move (P := P) (ρ := ρ) _ ho w
      rw [this, h1]
    · have := BigFrame.run_assign (P := P) (ρ := ρ) _ ho w
      rw [this, h1]) hr
theorem step_passB {i j t : Nat} {o : Oper} {v : Value} (hn : a.tmps.size = n) (hg : OnB l rs n o) (ho : o.op = .move (.tmp t) ∨ o.op = .assign (.tmp t)) (hj : (depsOf o).contains j = true) (hd : (l[j]?).bind (·.dst) = some t) (hv : at_ rs j = Rel.is v) (hr : at_ rs i = Rel.is v) : Step P l Q rs a w0 i o :=
  step_run1 hn hg hj hd hv (fun ρ w hb h1 _ => by
    rcases ho with ho | ho
    · have := BigFrame.run_move (P := P) (ρ := ρ) _ ho w
      rw [this, h1]
    · have := BigFrame.run_assign (P := P) (ρ := ρ) _ ho w
      rw [this, h1]) hr
/-- a row that was there -/
theorem step_rdB {i t : Nat} {o : Oper} {r : List Int} (hn : a.tmps.size = n) (hg : OnB l rs n o) (ho : o.op = .move (.tmp t)) (h : (dsts l).contains (some t) = false) {A : Option Addr} {m c : Nat} (hv : a.tmps.getD t undef = .slice A m c) (hr0 : ReadsInt w0 .u8 A m r) (hr : at_ rs i = Rel.rd r) : Step P l Q rs a w0 i o :=
  step_valB hn hg fun b w D => ⟨_, BigFrame.run_move _ ho w, by rw [hr, D.was t h, hv]; exact ⟨A, m, c, rfl, hr0.below D.bel⟩⟩
/-- a row's text -/
theorem step_strB {i j t : Nat} {o : Oper} {r : List Int} {s d e : TypeId} (hn : a.tmps.size = n) (hg : OnB l rs n o) (ho : o.op = .convert s d (.tmp t)) (hs : P.underlying s = some (.slice e)) (he : P.underlying e = some (.int .u8)) (hdd : P.underlying d = some .string)
    (hj : (depsOf o).contains j = true) (hd : (l[j]?).bind (·.dst) = some t) (hv : at_ rs j = Rel.rd r) (hr : at_ rs i = Rel.is (.string (strOfNums r))) : Step P l Q rs a w0 i o :=
  step_valB hn hg fun b w D => by
    have h := D.rel j t hj hd
    rw [hv] at h
    obtain ⟨A, m, c, e1, h1⟩ := h
    refine ⟨.string (strOfNums r), ?_, by rw [hr]; rfl⟩
    have hc := string_of_reads (P := P) (c := c) hs he hdd h1
    unfold execOp
    rw [ho]
    simp [e1, hc]
/-- .. its length -/
theorem step_lenB {i j t : Nat} {o : Oper} {r : List Int} {ty e : TypeId} (hn : a.tmps.size = n) (hg : OnB l rs n o) (ho : o.op = .call { callee := .builtin .len, args := #[.tmp t], argTypes := #[ty] }) (hT : P.underlying ty = some (.slice e)) (hj : (depsOf o).contains j = true) (hd : (l[j]?).bind (·.dst) = some t) (hv : at_ rs j = Rel.rd r)
    (hr : at_ rs i = Rel.is (.int .i64 r.length)) : Step P l Q rs a w0 i o :=
  step_valB hn hg fun b w D => by
    have h := D.rel j t hj hd
    rw [hv] at h
    obtain ⟨A, m, c, e1, h1⟩ := h
    have hm : r.length = m := h1.1
    subst hm
    refine ⟨.int .i64 r.length, ?_, by rw [hr]; rfl⟩
    unfold execOp
    simp only [ho, resolve, invoke, builtin, List.map_toArray, List.map_cons, List.map_nil, e1]
    simp [go_sem, hT]
theorem tl_inj {a b : ByteArray} (h : a.toList = b.toList) : a = b := by
  rw [ByteArray.toList_eq, ByteArray.toList_eq] at h
  exact ByteArray.ext (Array.ext' h)
/-- two texts -/
theorem step_texts {i j t j2 t2 : Nat} {o : Oper} {x y : ByteArray} {op : BinOp} {v : Bool} {ty ty2 : TypeId} (hn : a.tmps.size = n) (hg : OnB l rs n o) (ho : o.op = .binOp op ty (.tmp t) (.tmp t2) ty2) (hT : P.underlying ty = some .string) (hj : (depsOf o).contains j = true) (hd : (l[j]?).bind (·.dst) = some t) (hv : at_ rs j = Rel.is (.string x))
    (hj2 : (depsOf o).contains j2 = true) (hd2 : (l[j2]?).bind (·.dst) = some t2) (hv2 : at_ rs j2 = Rel.is (.string y)) (hx : (op = .eql ∧ v = decide (x = y)) ∨ (op = .neq ∧ v = !decide (x = y))) (hr : at_ rs i = Rel.is (.bool v)) : Step P l Q rs a w0 i o :=
  step_run2 hn hg hj hd hv hj2 hd2 hv2 (fun ρ w hb h1 h2 _ => by
    unfold execOp
    simp only [ho, h1, h2]
    rcases hx with ⟨rfl, rfl⟩ | ⟨rfl, rfl⟩
    · by_cases hxy : x = y
      · simp [go_sem, hxy]
      · simp [go_sem, hxy]
        intro h
        exact hxy (tl_inj h)
    · by_cases hxy : x = y
      · simp [go_sem, hxy]
      · simp [go_sem, hxy]
        intro h
        exact hxy (tl_inj h)) hr
/-- a cell that was there -/
theorem step_cell {i j t : Nat} {o : Oper} {ad : Addr} {x : Value} {ty : TypeId} {d : TypeDesc} (hn : a.tmps.size = n) (hg : OnB l rs n o) (ho : o.op = .load ty (.tmp t)) (hj : (depsOf o).contains j = true) (hd : (l[j]?).bind (·.dst) = some t) (hv : at_ rs j = Rel.is (.pointer (some ad)))
    (hT : P.underlying ty = some d) (hk : d = .string ∨ d = .bool ∨ (∃ k, d = .int k) ∨ ∃ e, d = .slice e) (hc : w0.cell? ad = some x) (hr : at_ rs i = Rel.is x) : Step P l Q rs a w0 i o :=
  step_run1 hn hg hj hd hv (fun ρ w hb h1 _ => by
    have c := (hb.cell (World.block_lt_of_cell? w0 _ hc)).trans hc
    unfold execOp
    simp only [ho, h1]
    rcases hk with rfl | rfl | ⟨k, rfl⟩ | ⟨e, rfl⟩ <;> simp [go_sem, c, hT, isAgg, run_underlying]) hr
end
end Go.Proofs.Rel
