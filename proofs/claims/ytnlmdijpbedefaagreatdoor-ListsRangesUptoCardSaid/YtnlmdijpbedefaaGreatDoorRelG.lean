import Derived.Test.YtnlmdijpbedefaaGreatDoorRel
/- As Rel, over any order of worlds that a region's operations go up: for regions that store, too. What is told of an operation may speak of several slots: its own, and those of what it waits for. -/
namespace Go.Proofs.RelG
open Go Go.RowKit Go.Proofs.YtnlmdijpbedefaaGreatDoorW.PrintWords Go.Proofs.YtnlmdijpbedefaaGreatDoorW.PrintLast
open Go.Proofs.Rel (dsts depsOf lexOk lexOk_get put_size put_dfr put_ne put_eq fill fill_size fill_dfr fill_old act_ext)
set_option linter.unusedVariables false
structure Ord where
  le : World → World → Prop
  refl : ∀ w, le w w
  trans : ∀ {a b c}, le a b → le b c → le a c
  bel : ∀ {w w'}, Below w.heap.size w w' → le w w'
structure Rl (G : Ord) where
  foot : List Tmp
  r : (Tmp → Value) → World → Prop
  ext : ∀ e e' w, (∀ t, t ∈ foot → e t = e' t) → r e w → r e' w
  sta : ∀ e w w', r e w → G.le w w' → r e w'
def get (b : Act) : Tmp → Value := fun t => b.tmps.getD t undef
def triv (G : Ord) : Rl G := ⟨[], fun _ _ => True, fun _ _ _ _ h => h, fun _ _ _ h _ => h⟩
/-- the slot holds v -/
def is (G : Ord) (t : Tmp) (v : Value) : Rl G := ⟨[t], fun e _ => e t = v, fun e e' w h h' => (h t (by simp)).symm.trans h', fun _ _ _ h _ => h⟩
/-- the slot holds what meets p, in this world and all above -/
def of (G : Ord) (t : Tmp) (p : Value → World → Prop) (hp : ∀ x w w', p x w → G.le w w' → p x w') : Rl G := ⟨[t], fun e w => p (e t) w, fun e e' w h h' => by rw [← h t (by simp)]; exact h', fun e w w' h h' => hp _ w w' h h'⟩
/-- the world is so, and stays -/
def wo (G : Ord) (p : World → Prop) (hp : ∀ w w', p w → G.le w w' → p w') : Rl G := ⟨[], fun _ w => p w, fun _ _ _ _ h => h, fun _ w w' h h' => hp w w' h h'⟩
section
variable {P : Program} {Q : Exit → Act → World → Prop} {l : List Oper} {G : Ord} {rs : List (Rl G)} {a : Act} {n : Nat} {w0 : World}
def at_ (rs : List (Rl G)) (i : Nat) : Rl G := rs.getD i (triv G)
def footOk (l : List Oper) (fs : List (List Tmp)) : Bool := (List.range l.length).all fun j => (fs.getD j []).all fun t => match l[j]? with
  | some o => (o.dst == some t) || ((depsOf o).any fun d => ((l[d]?).bind (·.dst)) == some t)
  | none => false
def okB (l : List Oper) (n : Nat) (fs : List (List Tmp)) : Bool := lexOk l 0 && decide ((l.filterMap (·.dst)).Nodup) && (l.all fun o => match o.dst with | some t => decide (t < n) | none => true) && footOk l fs
structure Dep (l : List Oper) (rs : List (Rl G)) (a : Act) (w0 : World) (o : Oper) (b : Act) (w : World) : Prop where
  bel : G.le w0 w
  siz : b.tmps.size = a.tmps.size
  old : ∀ t, some t ∉ dsts l → get b t = get a t
  new : ∀ j ∈ depsOf o, (at_ rs j).r (get b) w
theorem Dep.was {o : Oper} {b : Act} {w : World} (D : Dep l rs a w0 o b w) (t : Nat) (h : (dsts l).contains (some t) = false) : b.eval (.tmp t) = a.tmps.getD t undef :=
  D.old t (fun hm => by rw [List.contains_iff_mem.2 hm] at h; cases h)
theorem Dep.rel {o : Oper} {b : Act} {w : World} (D : Dep l rs a w0 o b w) (j : Nat) (hj : (depsOf o).contains j = true) : (at_ rs j).r (get b) w := D.new j (List.contains_iff_mem.1 hj)
theorem Dep.is {o : Oper} {b : Act} {w : World} {t : Tmp} {v : Value} (D : Dep l rs a w0 o b w) (j : Nat) (hj : (depsOf o).contains j = true) (hr : at_ rs j = RelG.is G t v) : b.eval (.tmp t) = v := by
  have := D.rel j hj
  rw [hr] at this
  exact this
def Step (P : Program) (l : List Oper) (Q : Exit → Act → World → Prop) (rs : List (Rl G)) (a : Act) (w0 : World) (i : Nat) (o : Oper) : Prop :=
  ∀ (b : Act) (w : World), Dep l rs a w0 o b w → ∀ K : Act → World → Prop, (∀ x w', (at_ rs i).r (get (b.put o.dst x)) w' → G.le w w' → K (b.put o.dst x) w') →
    if Region.wanted o (yielded l.toArray b.tmps) = true then Oper.wp P o b w K Q else K (b.put o.dst undef) w
def Steps (P : Program) (l : List Oper) (Q : Exit → Act → World → Prop) (rs : List (Rl G)) (a : Act) (w0 : World) : Nat → List Oper → Prop
  | _, [] => True
  | i, o :: r => Step P l Q rs a w0 i o ∧ Steps P l Q rs a w0 (i + 1) r
theorem steps_cons {i : Nat} {o : Oper} {r : List Oper} (h : Step P l Q rs a w0 i o) (hs : Steps P l Q rs a w0 (i + 1) r) : Steps P l Q rs a w0 i (o :: r) := ⟨h, hs⟩
theorem steps_get : ∀ {r : List Oper} {i : Nat}, Steps P l Q rs a w0 i r → ∀ j o, r[j]? = some o → Step P l Q rs a w0 (i + j) o
  | [], _, _, j, o, h => by simp at h
  | o' :: r, i, hs, 0, o, h => by
    simp at h
    subst h
    exact hs.1
  | o' :: r, i, hs, j + 1, o, h => by
    simp at h
    have := steps_get hs.2 j o h
    rwa [show i + 1 + j = i + (j + 1) from by omega] at this
theorem dst_inj : ∀ {l : List Oper}, (l.filterMap (·.dst)).Nodup → ∀ {i j : Nat} {oi oj : Oper} {t : Tmp}, l[i]? = some oi → l[j]? = some oj → oi.dst = some t → oj.dst = some t → i = j
  | [], _, i, _, _, _, _, hi, _, _, _ => by simp at hi
  | o :: r, hn, i, j, oi, oj, t, hi, hj, h1, h2 => by
    have key : ∀ {k : Nat} {ok : Oper}, r[k]? = some ok → ok.dst = some t → o.dst = some t → False := fun {k ok} hk h3 h4 => by
      rw [List.filterMap_cons_some h4] at hn
      exact (List.nodup_cons.1 hn).1 (List.mem_filterMap.2 ⟨ok, List.mem_of_getElem? hk, h3⟩)
    have hn' : (r.filterMap (·.dst)).Nodup := by
      cases ho : o.dst with
      | none => rwa [List.filterMap_cons_none ho] at hn
      | some u => rw [List.filterMap_cons_some ho] at hn; exact (List.nodup_cons.1 hn).2
    match i, j, hi, hj with
    | 0, 0, _, _ => rfl
    | 0, j + 1, hi, hj =>
      simp at hi hj
      subst hi
      exact (key hj h2 h1).elim
    | i + 1, 0, hi, hj =>
      simp at hi hj
      subst hj
      exact (key hi h1 h2).elim
    | i + 1, j + 1, hi, hj =>
      simp at hi hj
      rw [dst_inj hn' hi hj h1 h2]
structure Env (l : List Oper) (rs : List (Rl G)) (a : Act) (w0 : World) (listed : Array Bool) (b : Act) (w : World) : Prop where
  siz : b.tmps.size = a.tmps.size
  dfr : b.defers = a.defers
  old : ∀ t, some t ∉ dsts l → get b t = get a t
  new : ∀ j, j < l.length → listed.getD j false = true → (at_ rs j).r (get b) w
  clo : ∀ j o, l[j]? = some o → listed.getD j false = true → ∀ d ∈ depsOf o, listed.getD d false = true
  bel : G.le w0 w
theorem any_rel {fs : List (List Tmp)} (hlex : lexOk l 0 = true) (hnd : (l.filterMap (·.dst)).Nodup) (hd : ∀ o ∈ l, ∀ t, o.dst = some t → t < a.tmps.size) (hfoot : footOk l fs = true) (hfs : ∀ j, (at_ rs j).foot = fs.getD j []) (hs : Steps P l Q rs a w0 0 l)
    (he : ∀ b w', b.tmps.size = a.tmps.size → b.defers = a.defers → (∀ t, some t ∉ dsts l → get b t = get a t) → (∀ j, j < l.length → (at_ rs j).r (get b) w') → G.le w0 w' → Q .normal b w') :
    ∀ (fuel : Nat) (listed : Array Bool) (b : Act) (w : World), listed.size = l.length → listed.toList.countP (fun x => !x) ≤ fuel → Env l rs a w0 listed b w → wpAny P .any l.toArray Q fuel listed b w := by
  have hend : ∀ (listed : Array Bool) (b : Act) (w : World), listed.size = l.length → Env l rs a w0 listed b w → Region.ready .any l.toArray listed = [] → Q .normal b w := by
    intro listed b w hl E hr
    have hall : ∀ j, j < l.length → listed.getD j false = true := by
      intro j
      induction j using Nat.strongRecOn with
      | _ j ih =>
        intro hj
        cases hc : listed.getD j false with
        | true => rfl
        | false =>
          exfalso
          have hj' : j < listed.size := by omega
          have hm : j ∈ Region.ready .any l.toArray listed := by
            refine mem_ready.2 ⟨?_, l[j], by simp [hj], fun e hee hb => ?_⟩
            · rw [Array.getD_eq_getD_getElem?] at hc ⊢
              simp [hj'] at hc ⊢
              exact hc
            · have := lexOk_get hlex j l[j] (by simp [hj]) e.on (List.mem_map.2 ⟨e, List.mem_filter.2 ⟨by simpa using hee, hb⟩, rfl⟩)
              exact ih e.on (by omega) (by omega)
          rw [hr] at hm
          cases hm
    exact he b w E.siz E.dfr E.old (fun j hj => E.new j hj (hall j hj)) E.bel
  intro fuel
  induction fuel with
  | zero =>
    intro listed b w hl hc E
    have hr : Region.ready .any l.toArray listed = [] := by
      refine List.eq_nil_iff_forall_not_mem.2 fun j hj => ?_
      have h1 := (mem_ready.1 hj).1
      have hj' : j < listed.size := by
        rcases Nat.lt_or_ge j listed.size with h | h
        · exact h
        · rw [Array.getD_eq_getD_getElem?] at h1
          simp [Array.getElem?_eq_none h] at h1
      rw [Array.getD_eq_getD_getElem?] at h1
      simp [hj'] at h1
      have h2 := List.countP_eq_zero.1 (Nat.le_zero.1 hc) listed[j] (by simp)
      rw [h1] at h2
      exact h2 rfl
    exact ⟨hr, hend listed b w hl E hr⟩
  | succ fuel ih =>
    intro listed b w hl hc E
    refine ⟨hend listed b w hl E, fun i hi => ?_⟩
    obtain ⟨hiun, o, ho, hdep⟩ := mem_ready.1 hi
    have ho' : l[i]? = some o := by simpa using ho
    have hil : i < listed.size := by rw [hl]; exact (List.getElem?_eq_some_iff.1 ho').1
    have hif : listed[i] = false := by
      rw [Array.getD_eq_getD_getElem?] at hiun
      simpa [hil] using hiun
    have hif2 : listed.getD i false = false := by
      rw [Array.getD_eq_getD_getElem?]
      simp [hil, hif]
    have hdl : ∀ d ∈ depsOf o, listed.getD d false = true := fun d hd' => by
      obtain ⟨e, hee, rfl⟩ := List.mem_map.1 hd'
      obtain ⟨h1, h2⟩ := List.mem_filter.1 hee
      exact hdep e (by simpa using h1) h2
    refine wpOp_step ho fun K' hK => ?_
    have S := steps_get hs i o ho'
    rw [Nat.zero_add] at S
    have hlenOf : ∀ d, listed.getD d false = true → d < l.length := fun d hd' => by
      rcases Nat.lt_or_ge d listed.size with h | h
      · omega
      · rw [Array.getD_eq_getD_getElem?] at hd'
        simp [Array.getElem?_eq_none h] at hd'
    refine S b w ⟨E.bel, E.siz, E.old, fun j hj => E.new j (hlenOf j (hdl j hj)) (hdl j hj)⟩ K' fun x w' hx hb => hK _ _ (ih _ _ _ ?_ ?_ ⟨?_, ?_, ?_, ?_, ?_, ?_⟩)
    · simpa using hl
    · rw [Array.toList_setIfInBounds, List.countP_set (by simpa using hil)]
      simp only [Array.getElem_toList, hif, Bool.not_false, Bool.not_true, if_true, Bool.false_eq_true, if_false]
      omega
    · rw [put_size]; exact E.siz
    · rw [put_dfr]; exact E.dfr
    · intro t' ht'
      have : get (b.put o.dst x) t' = get b t' := put_ne _ _ _ _ (fun e => ht' (by rw [← e]; exact List.mem_map.2 ⟨o, List.mem_of_getElem? ho', rfl⟩))
      rw [this]
      exact E.old t' ht'
    · intro j hjl hlj
      by_cases hji : j = i
      · subst hji
        exact hx
      · have hlj' : listed.getD j false = true := by rw [← getD_set_ne false (Ne.symm hji)]; exact hlj
        refine (at_ rs j).sta _ _ _ ((at_ rs j).ext _ _ _ (fun t ht => ?_) (E.new j hjl hlj')) hb
        refine (put_ne _ _ _ _ (fun e => ?_)).symm
        -- t is a slot of j, or of what j waits for: none of them is i
        rw [hfs j] at ht
        have h1 := List.all_eq_true.1 hfoot j (List.mem_range.2 hjl)
        have h2 := List.all_eq_true.1 h1 t ht
        cases hoj : l[j]? with
        | none => rw [hoj] at h2; cases h2
        | some oj =>
          rw [hoj] at h2
          simp only [Bool.or_eq_true, beq_iff_eq, List.any_eq_true] at h2
          rcases h2 with h2 | ⟨d, hd1, hd2⟩
          · exact hji (dst_inj hnd hoj ho' h2 e)
          · have hdt := E.clo j oj hoj hlj' d hd1
            cases hod : l[d]? with
            | none => rw [hod] at hd2; cases hd2
            | some od =>
              rw [hod] at hd2
              have : d = i := dst_inj hnd hod ho' hd2 e
              subst this
              rw [hif2] at hdt
              cases hdt
    · intro j oj hoj hlj d hd'
      have keep : listed.getD d false = true → (listed.setIfInBounds i true).getD d false = true := fun h => by
        by_cases hdi : i = d
        · subst hdi
          rw [hif2] at h
          cases h
        · rw [getD_set_ne false hdi]; exact h
      by_cases hji : j = i
      · subst hji
        rw [ho'] at hoj
        injection hoj with hoj
        subst hoj
        exact keep (hdl d hd')
      · have hlj' : listed.getD j false = true := by rw [← getD_set_ne false (Ne.symm hji)]; exact hlj
        exact keep (E.clo j oj hoj hlj' d hd')
    · exact G.trans E.bel hb
theorem fill_new : ∀ (l : List Oper) (i : Nat) (v : Nat → Value) (a : Act), (l.filterMap (·.dst)).Nodup → ∀ (j : Nat) (o : Oper) (t : Tmp), l[j]? = some o → o.dst = some t → t < a.tmps.size → (fill l i v a).tmps.getD t undef = v (i + j)
  | [], _, _, _, _, j, o, t, h, _, _ => by simp at h
  | o' :: r, i, v, a, hn, 0, o, t, h, ht, hl => by
    simp at h
    subst h
    rw [List.filterMap_cons_some ht] at hn
    rw [fill, fill_old r _ _ _ t (fun hm => (List.nodup_cons.1 hn).1 (by
      obtain ⟨q, hq, he⟩ := List.mem_map.1 hm
      exact List.mem_filterMap.2 ⟨q, hq, he⟩)), ht, put_eq _ _ _ hl]
    rfl
  | o' :: r, i, v, a, hn, j + 1, o, t, h, ht, hl => by
    simp at h
    have hn' : (r.filterMap (·.dst)).Nodup := by
      cases ho : o'.dst with
      | none => rwa [List.filterMap_cons_none ho] at hn
      | some u => rw [List.filterMap_cons_some ho] at hn; exact (List.nodup_cons.1 hn).2
    rw [fill, fill_new r (i + 1) v _ hn' j o t h ht (by rw [put_size]; exact hl), show i + 1 + j = i + (j + 1) from by omega]
/-- THE LAW -/
theorem wp_region_rel {id : Nat} {w : World} (rs : List (Rl G)) (fs : List (List Tmp)) (hm : P.follows .mixedOrders = true) (hn : a.tmps.size = n) (hfs : rs.map Rl.foot = fs) (hok : okB l n fs = true) (hs : Steps P l Q rs a w 0 l)
    (he : ∀ (v : Nat → Value) (w' : World), (∀ j, j < l.length → (at_ rs j).r (get (fill l 0 v a)) w') → G.le w w' → Q .normal (fill l 0 v a) w') : (Code.region id l.toArray true).wp P Q a w := by
  simp only [okB, Bool.and_eq_true, decide_eq_true_eq, List.all_eq_true] at hok
  obtain ⟨⟨⟨hlex, hnd⟩, hdd⟩, hfoot⟩ := hok
  have hd : ∀ o ∈ l, ∀ t, o.dst = some t → t < a.tmps.size := fun o ho t ht => by
    have := hdd o ho
    rw [ht] at this
    rw [hn]
    simpa using this
  have hfs' : ∀ j, (at_ rs j).foot = fs.getD j [] := fun j => by
    subst hfs
    unfold at_
    rw [List.getD_eq_getElem?_getD, List.getD_eq_getElem?_getD, List.getElem?_map]
    cases rs[j]? <;> rfl
  refine wp_region_any hm (any_rel (rs := rs) (a := a) (w0 := w) hlex hnd hd hfoot hfs' hs (fun b w' h1 h2 h3 h4 h5 => ?_) _ _ _ _ (by simp) ?_ ⟨rfl, rfl, fun _ _ => rfl, fun j _ hl => ?_, fun j o ho hl => ?_, G.bel ⟨(Below.refl w.heap.size w).os, (Below.refl w.heap.size w).tape, (Below.refl w.heap.size w).output, Nat.le_refl _, fun _ _ => rfl⟩⟩)
  · have hb : b = fill l 0 (fun j => get b (((l[j]?).bind (·.dst)).getD 0)) a := by
      refine act_ext (by rw [fill_size, h1]) (by rw [fill_dfr, h2]) fun t => ?_
      by_cases ht : some t ∈ dsts l
      · obtain ⟨o, ho, hot⟩ := List.mem_map.1 ht
        obtain ⟨j, hj⟩ := List.mem_iff_getElem?.1 ho
        rw [fill_new l 0 _ a hnd j o t hj hot (hd o ho t hot), Nat.zero_add, hj]
        simp [hot, get]
      · rw [fill_old l 0 _ a t ht]
        exact h3 t ht
    have hq := he _ w' (fun j hj => by rw [← hb]; exact h4 j hj) h5
    rw [← hb] at hq
    exact hq
  · have : (Array.replicate l.toArray.size false).toList.countP (fun x => !x) ≤ (Array.replicate l.toArray.size false).toList.length := List.countP_le_length
    simpa using this
  · rw [Array.getD_eq_getD_getElem?, Array.getElem?_replicate] at hl
    split at hl <;> simp at hl
  · rw [Array.getD_eq_getD_getElem?, Array.getElem?_replicate] at hl
    split at hl <;> simp at hl
theorem step_val {i : Nat} {o : Oper} (hg : o.guard = none) (h : ∀ b w, Dep l rs a w0 o b w → ∃ x, (execOp b.eval o).run P w = .ok (.value x) w ∧ (at_ rs i).r (get (b.put o.dst x)) w) : Step P l Q rs a w0 i o := fun b w D K hK => by
  obtain ⟨x, hx, hr⟩ := h b w D
  exact value_ (by simp [Region.wanted, hg]) rfl hx (hK x w hr (G.refl _))
/-- an operation that makes memory of its own accord -/
theorem step_make {i : Nat} {o : Oper} (hg : o.guard = none) (h : ∀ b w, Dep l rs a w0 o b w → ∃ x w', (execOp b.eval o).run P w = .ok (.value x) w' ∧ (at_ rs i).r (get (b.put o.dst x)) w' ∧ G.le w w') : Step P l Q rs a w0 i o := fun b w D K hK => by
  obtain ⟨x, w', hx, hr, hle⟩ := h b w D
  exact value_ (by simp [Region.wanted, hg]) rfl hx (hK x w' hr hle)
/-- a store -/
theorem step_skip {i : Nat} {o : Oper} (hg : o.guard = none) (hd : o.dst = none) (h : ∀ b w, Dep l rs a w0 o b w → ∃ w', (execOp b.eval o).run P w = .ok .skip w' ∧ (at_ rs i).r (get b) w' ∧ G.le w w') : Step P l Q rs a w0 i o := fun b w D K hK => by
  obtain ⟨w', hx, hr, hle⟩ := h b w D
  have hk := hK undef w' (by rw [hd]; exact hr) hle
  rw [hd] at hk ⊢
  exact skip_ (by simp [Region.wanted, hg]) hd hx hk
theorem step_call {i : Nat} {o : Oper} {f : FuncId} {fn : Func} {as : Array Operand} {ts : Array TypeId} (hg : o.guard = none) (hf : P.funcs[f]? = some fn) (hname : (fn.name == "runtime.NumGoroutine") = false) (hb : fn.body.isSome = true) (args : Array Value)
    (hop : o.op = .call { callee := .value (.func f), args := as, argTypes := ts }) (hargs : ∀ b w, Dep l rs a w0 o b w → as.map b.eval = args)
    (h : ∀ b w, Dep l rs a w0 o b w → Calls P f args w fun e w' => ∃ x, e = .returned x ∧ (at_ rs i).r (get (b.put o.dst x)) w' ∧ G.le w w') : Step P l Q rs a w0 i o := fun b w D K hK =>
  goes_ hf hname hb args (by simp [Region.wanted, hg]) rfl hop (hargs b w D) ((h b w D).mono fun e w' ⟨x, he, hr, hb⟩ => ⟨x, he, hK x w' hr hb⟩)
theorem get_put (b : Act) (t : Tmp) (v : Value) (h : t < b.tmps.size) : get (b.put (some t) v) t = v := put_eq b t v h
theorem step_was {i t u : Nat} {o : Oper} {v : Value} (hn : a.tmps.size = n) (hg : o.guard = none) (ho : o.op = .move (.tmp t)) (hd : o.dst = some u) (hu : u < n) (h : (dsts l).contains (some t) = false) (hv : a.tmps.getD t undef = v) (hr : at_ rs i = RelG.is G u v) : Step P l Q rs a w0 i o :=
  step_val hg fun b w D => ⟨_, BigFrame.run_move _ ho w, by
    rw [hr, D.was t h, hv, hd]
    exact get_put b u v (by rw [D.siz, hn]; exact hu)⟩
theorem step_pass {i j t u : Nat} {o : Oper} {v : Value} (hn : a.tmps.size = n) (hg : o.guard = none) (ho : o.op = .move (.tmp t) ∨ o.op = .assign (.tmp t)) (hd : o.dst = some u) (hu : u < n) (hj : (depsOf o).contains j = true) (hv : at_ rs j = RelG.is G t v) (hr : at_ rs i = RelG.is G u v) : Step P l Q rs a w0 i o :=
  step_val hg fun b w D => ⟨b.eval (.tmp t), by
    rcases ho with ho | ho
    · exact BigFrame.run_move _ ho w
    · exact BigFrame.run_assign _ ho w, by
    rw [hr, D.is j hj hv, hd]
    exact get_put b u v (by rw [D.siz, hn]; exact hu)⟩
end
end Go.Proofs.RelG
