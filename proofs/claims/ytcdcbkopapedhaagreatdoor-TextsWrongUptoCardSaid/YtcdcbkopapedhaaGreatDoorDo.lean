import Derived.Test.YtcdcbkopapedhaaGreatDoorActs2
/- What texts.Do tells. -/
namespace Go.Proofs.Tryz.Ln
open Go Go.RowKit Go.Proofs.Mem Go.Proofs.App
open Go.Proofs.YtcdcbkopapedhaaGreatDoorW.PrintWords
set_option linter.unusedVariables false
def fnV (f : FuncId) : Value := .agg #[.func (.func f) #[] #[]]
/-- the commands -/
def ents : Array MapEntry := #[⟨.string ⟨#[103, 101, 116]⟩, fnV 20, 0⟩, ⟨.string ⟨#[103, 101, 116, 100, 101, 108]⟩, fnV 22, 1⟩, ⟨.string ⟨#[97, 112, 112, 101, 110, 100]⟩, fnV 23, 2⟩,
  ⟨.string ⟨#[115, 116, 114, 108, 101, 110]⟩, fnV 26, 3⟩, ⟨.string ⟨#[105, 110, 99, 114, 98, 121]⟩, fnV 27, 4⟩, ⟨.string ⟨#[105, 110, 99, 114]⟩, fnV 29, 5⟩]
set_option maxRecDepth 100000 in
set_option maxHeartbeats 8000000 in
theorem acts_any (w : World) : Calls Tryz.prog 16 #[] w fun e w' => e = .returned (.map (some w.heap.size)) ∧ w' = w.alloc (.map ents 6) := by
  have hmk := run_makeMap (P := Tryz.prog) 50 w
  go_enter Tryz.func16, Tryz.ntmps16
  go_wp2_with (refine MapK.wpList_ins_new rfl _ _ _ 50 rfl 9 48 _ _ _ _ Tryz.underlying50 Tryz.underlying9 rfl rfl rfl (by kernel_rfl) ?_)
  go_ret
  exact ⟨rfl, rfl⟩
/-- all stays, but that a cell of type t, of block B on, may be turned to f -/
def cellLe (B : Nat) (t : TypeId) (f : Array Value) (w w' : World) : Prop :=
  (w'.os = w.os ∧ w'.tape = w.tape ∧ w'.output = w.output ∧ w.heap.size ≤ w'.heap.size) ∧ ∀ k o, w.heap[k]? = some o → w'.heap[k]? = some o ∨ (B ≤ k ∧ ∃ c, o = .cells c t (0, 0) ∧ c.size = f.size ∧ w'.heap[k]? = some (.cells f t (0, 0)))
def CellO (B : Nat) (t : TypeId) (f : Array Value) : RelG.Ord where
  le := cellLe B t f
  refl w := ⟨⟨rfl, rfl, rfl, Nat.le_refl _⟩, fun _ _ h => .inl h⟩
  trans {a b c} h k := by
    refine ⟨⟨k.1.1.trans h.1.1, k.1.2.1.trans h.1.2.1, k.1.2.2.1.trans h.1.2.2.1, Nat.le_trans h.1.2.2.2 k.1.2.2.2⟩, fun i o ho => ?_⟩
    rcases h.2 i o ho with h1 | ⟨h1, x, h2, h3, h4⟩
    · exact k.2 i o h1
    · rcases k.2 i _ h4 with h5 | ⟨_, _, _, _, h5⟩
      · exact .inr ⟨h1, x, h2, h3, h5⟩
      · exact .inr ⟨h1, x, h2, h3, h5⟩
  bel {w w'} h := ⟨⟨h.os, h.tape, h.output, h.size⟩, fun k o ho => .inl (by rw [h.block k (Array.getElem?_eq_some_iff.1 ho).1]; exact ho)⟩
theorem cellO_old {B : Nat} {t : TypeId} {f : Array Value} {w w' : World} (h : (CellO B t f).le w w') {k : Nat} {o : Obj} (ho : w.heap[k]? = some o) (hk : k < B) : w'.heap[k]? = some o := by
  rcases h.2 k o ho with h1 | ⟨h1, _⟩
  · exact h1
  · omega
theorem cellO_other {B : Nat} {t : TypeId} {f : Array Value} {w w' : World} (h : (CellO B t f).le w w') {k : Nat} {o : Obj} (ho : w.heap[k]? = some o) (hk : ∀ c, o ≠ .cells c t (0, 0)) : w'.heap[k]? = some o := by
  rcases h.2 k o ho with h1 | ⟨_, c, h1, _⟩
  · exact h1
  · exact absurd h1 (hk c)
theorem cellO_below {B : Nat} {t : TypeId} {f : Array Value} {w w0 w' : World} (hb : Below B w w0) (h : (CellO B t f).le w0 w') (hB : B ≤ w.heap.size) : Below B w w' :=
  ⟨h.1.1.trans hb.os, h.1.2.1.trans hb.tape, h.1.2.2.1.trans hb.output, Nat.le_trans hb.size h.1.2.2.2, fun k hk => by
    have hk2 : k < w.heap.size := by omega
    have h1 := hb.block k hk
    rw [← h1]
    have h2 : w0.heap[k]? = some w.heap[k] := by rw [h1]; exact Array.getElem?_eq_getElem hk2
    rw [cellO_old h h2 hk, h2]⟩
/-- the map of the commands -/
def mapP (x : Value) (w : World) : Prop := ∃ r, x = .map (some r) ∧ w.heap[r]? = some (.map ents 6)
def mapR (B : Nat) (t : TypeId) (f : Array Value) (u : Tmp) : RelG.Rl (CellO B t f) := RelG.of _ u mapP (fun x w w' ⟨r, h1, h2⟩ hle => ⟨r, h1, cellO_other hle h2 (fun c h => by cases h)⟩)
/-- a cell of block B on -/
def ptP (B : Nat) (t : TypeId) (f : Array Value) (x : Value) (w : World) : Prop := ∃ p c, x = .pointer (some ⟨p, 0, none⟩) ∧ B ≤ p ∧ w.heap[p]? = some (.cells c t (0, 0)) ∧ c.size = f.size
def ptR (B : Nat) (t : TypeId) (f : Array Value) (u : Tmp) : RelG.Rl (CellO B t f) := RelG.of _ u (ptP B t f) (fun x w w' ⟨p, c, h1, h2, h3, h4⟩ hle => by
  rcases hle.2 p _ h3 with h5 | ⟨_, _, _, _, h5⟩
  · exact ⟨p, c, h1, h2, h5, h4⟩
  · exact ⟨p, f, h1, h2, h5, rfl⟩)
/-- .. that holds f -/
def hoP (B : Nat) (t : TypeId) (f : Array Value) (x : Value) (w : World) : Prop := ∃ p, x = .pointer (some ⟨p, 0, none⟩) ∧ B ≤ p ∧ w.heap[p]? = some (.cells f t (0, 0))
def hoR (B : Nat) (t : TypeId) (f : Array Value) (u : Tmp) : RelG.Rl (CellO B t f) := RelG.of _ u (hoP B t f) (fun x w w' ⟨p, h1, h2, h3⟩ hle => by
  rcases hle.2 p _ h3 with h5 | ⟨_, _, _, _, h5⟩
  · exact ⟨p, h1, h2, h5⟩
  · exact ⟨p, h1, h2, h5⟩)
theorem cellO_set (B : Nat) (t : TypeId) (f old : Array Value) (w : World) (p : Nat) (hB : B ≤ p) (hs : old.size = f.size) (hg : w.heap[p]? = some (.cells old t (0, 0))) : (CellO B t f).le w (w.setRow p f) := by
  have hset := setRow_heap w p old f t (0, 0) hg
  refine ⟨⟨rfl, rfl, rfl, by simp [World.setRow]⟩, fun k o ho => ?_⟩
  by_cases hk : p = k
  · subst hk
    rw [hg] at ho
    injection ho with ho
    exact .inr ⟨hB, old, ho.symm, hs, hset⟩
  · refine .inl ?_
    unfold World.setRow
    simp only [Array.getElem?_modify]
    rw [if_neg hk]
    exact ho
theorem call_is' {P : Program} {f : FuncId} {args : Array Value} {G : RelG.Ord} {t : Tmp} {v : Value} {b : Act} {w : World} (h : Calls P f args w fun e w' => e = .returned v ∧ Below w.heap.size w w') (ht : t < b.tmps.size) :
    Calls P f args w fun e w' => ∃ x, e = .returned x ∧ (RelG.is G t v).r (RelG.get (b.put (some t) x)) w' ∧ G.le w w' :=
  h.mono fun e w' ⟨he, hb⟩ => ⟨_, he, RelG.get_put b t _ ht, G.bel hb⟩
set_option maxRecDepth 100000 in
set_option maxHeartbeats 8000000 in
/-- a request: what the command's own function tells -/
theorem do_cmd (k : Int) (s nm a0 : ByteArray) (L H Z : Value) (ad : Addr) (an ac j : Nat) (f : FuncId) (w : World) (hk : k = 0 ∨ k = 1) (ha0 : a0.size ≤ 70368744177664) (hlow : lowS a0 = nm) (hj : Instr.findNow .string (.string nm) ents.toList 0 = some (some (j, fnV f)))
    (han : 0 < an) (hac : an ≤ ac) (c0 : w.cell? ad = some (.string a0)) (mv : Array Value) (mr : List Int) (hone : (vS k s L H Z).all (·.oneCell') = true) (hmo : mv.all (·.oneCell') = true) (hms : mv.size = 5)
    (henter : ∀ args w, (callFunc f args).run Tryz.prog w = .ok (.enter f args) w) (hcall : ∀ w', Below w.heap.size w w' → Calls Tryz.prog f #[.agg (vS k s L H Z), .slice (some ad) an ac] w' (Dres mv mr w')) :
    Calls Tryz.prog 9 #[.agg (vS k s L H Z), .slice (some ad) an ac] w (Dres mv mr w) := by
  have ht := two_of (vS k s L H Z) w
  obtain ⟨w2, hw2⟩ : ∃ w2 : World, w2 = (w.alloc (.cells (vS k s L H Z) 26)).alloc (.cells zS 26) := ⟨_, rfl⟩
  rw [← hw2] at ht
  have hw2' : Veil (w2 = (w.alloc (.cells (vS k s L H Z) 26)).alloc (.cells #[.int .u8 0, .string ⟨#[]⟩, .slice none 0 0, .slice none 0 0, .slice none 0 0] 26)) := veil hw2
  have hsz2 := ht.sz
  have hx2 := veil ht.box
  have hz2 := veil ht.res
  have hb2 := veil ht.bel
  have hadb : ad.block < w.heap.size := World.block_lt_of_cell? w _ c0
  have c2 := veil ((hb2.out.cell hadb).trans c0)
  have hj' := veil hj
  have hcall' := veil hcall
  have henter' := veil henter
  have hone' := veil hone
  have hmo' := veil hmo
  clear hw2 ht hj hcall henter c0 hone hmo
  go_enter Tryz.func9, Tryz.ntmps9
  go_wp2_with fail
  rw [← hw2'.out]
  refine RelG.wp_region_rel2 (G := CellO w.heap.size 48 #[.func (.func f) #[] #[]]) (n := 39) [mapR _ _ _ 9, RelG.is _ 10 (.slice (some ad) an ac), RelG.is _ 11 (.pointer (some ad)), RelG.is _ 12 (.string a0), RelG.is _ 13 (.string nm), RelG.is _ 14 (.tuple #[fnV f, .bool true]), RelG.is _ 8 (.tuple #[fnV f, .bool true]), RelG.is _ 15 (fnV f), RelG.is _ 16 (.bool true), ptR _ _ _ 6, hoR _ _ _ 6, RelG.is _ 7 (.bool true)] [[9], [10], [11], [12], [13], [14], [8], [15], [16], [6], [6], [7]] (by kernel_rfl) rfl rfl (by kernel_rfl) ?_ ?_
  · refine RelG.steps_cons (RelG.step_call rfl Tryz.func16 (by kernel_rfl) rfl #[] rfl (fun b w' D => by simp) (fun b w' D => (acts_any w').mono fun e w3 ⟨he, hw⟩ => ⟨_, he, by
      show mapP (RelG.get (b.put (some 9) _) 9) w3
      rw [RelG.get_put b 9 _ (by rw [D.siz]; exact (by decide : 9 < 39)), hw]
      exact ⟨_, rfl, heap_alloc_last w' _⟩, by rw [hw]; exact (CellO _ _ _).bel (below_alloc (Below.refl _ _) _)⟩)) ?_
    refine RelG.steps_cons (RelG.step_was (n := 39) (t := 1) (u := 10) rfl rfl rfl rfl (by decide) (by kernel_rfl) rfl rfl) ?_
    refine RelG.steps_cons (RelG.step_run (n := 39) (j := 1) (t := 10) (u := 11) (v := .slice (some ad) an ac) rfl rfl rfl (by decide) rfl rfl (fun ρ w' hle h hk => by
      simp [execOp, h, hk, go_sem]
      intro h0
      omega) rfl) ?_
    refine RelG.steps_cons (RelG.step_run (n := 39) (j := 2) (t := 11) (u := 12) (v := .pointer (some ad)) rfl rfl rfl (by decide) rfl rfl (fun ρ w' hle h _ => by
      have hb := cellO_below hb2.out hle (Nat.le_refl _)
      have c : w'.cell? ad = some (.string a0) := by
        have h1 := hb2.out.cell hadb
        have h2 := hb.cell hadb
        rw [h2, ← h1]; exact c2.out
      simp [execOp, h, go_sem, c]) rfl) ?_
    refine RelG.steps_cons (RelG.step_call rfl Tryz.func17 (by kernel_rfl) rfl #[.string a0] rfl (fun b w' D => by simp only [List.map_toArray, List.map_cons, List.map_nil, D.is 3 rfl rfl]) (fun b w' D => call_is' (by have h := low_any a0 w' ha0; rw [hlow] at h; exact h) (by rw [D.siz]; exact (by decide : 13 < 39)))) ?_
    refine RelG.steps_cons (RelG.step_val rfl fun b w' D => ⟨_, by
      obtain ⟨r, h1, h2⟩ := D.rel 0 rfl
      have e1 : b.eval (.tmp 9) = .map (some r) := h1
      have e2 : b.eval (.tmp 13) = .string nm := D.is 4 rfl rfl
      have hg := MapK.get_run (P := Tryz.prog) (w := w') 50 9 48 r 6 j ents nm (fnV f) Tryz.underlying50 Tryz.underlying9 h2 hj'.out
      unfold execOp
      simp only [e1, e2]
      simp only [Sem.run_bind, hg]
      rfl, RelG.get_put b 14 _ (by rw [D.siz]; exact (by decide : 14 < 39))⟩) ?_
    refine RelG.steps_cons (RelG.step_pass (n := 39) (j := 5) (t := 14) (u := 8) rfl rfl (.inl rfl) rfl (by decide) rfl rfl rfl) ?_
    refine RelG.steps_cons (RelG.step_run (n := 39) (j := 6) (t := 8) (u := 15) (v := .tuple #[fnV f, .bool true]) rfl rfl rfl (by decide) rfl rfl (fun ρ w' hle h _ => by simp [execOp, h, go_sem]) rfl) ?_
    refine RelG.steps_cons (RelG.step_run (n := 39) (j := 6) (t := 8) (u := 16) (v := .tuple #[fnV f, .bool true]) rfl rfl rfl (by decide) rfl rfl (fun ρ w' hle h _ => by simp [execOp, h, go_sem]) rfl) ?_
    refine RelG.steps_cons (RelG.step_make rfl fun b w' D => ⟨.pointer (some ⟨w'.heap.size, 0, none⟩), w'.alloc (.cells #[.nilFunc] 48), by simp [execOp, go_sem], by
      show ptP _ _ _ (RelG.get (b.put (some 6) _) 6) _
      rw [RelG.get_put b 6 _ (by rw [D.siz]; exact (by decide : 6 < 39))]
      have := D.bel.1.2.2.2
      exact ⟨_, _, rfl, by omega, heap_alloc_last w' _, rfl⟩, (CellO _ _ _).bel (below_alloc (Below.refl _ _) _)⟩) ?_
    refine RelG.steps_cons (RelG.step_skip rfl rfl fun b w' D => by
      obtain ⟨p, c, h1, h2, h3, h4⟩ := D.rel 9 rfl
      have e1 : b.eval (.tmp 6) = .pointer (some ⟨p, 0, none⟩) := h1
      have e2 : b.eval (.tmp 15) = .agg #[.func (.func f) #[] #[]] := D.is 7 rfl rfl
      refine ⟨w'.setRow p #[.func (.func f) #[] #[]], ?_, ⟨p, h1, h2, setRow_heap w' p c _ _ (0, 0) h3⟩, cellO_set _ _ _ c w' p h2 h4 h3⟩
      unfold execOp
      simp only [e1, e2, Instr.storeAt, Instr.sureAddr, Sem.run_bind, Sem.run_pure, Result.andThen_ok, run_storeVar_row (P := Tryz.prog) w' p 48 48 c #[.func (.func f) #[] #[]] h3 (by kernel_rfl) h4 (by simp [Value.oneCell'])]) ?_
    refine RelG.steps_cons (RelG.step_pass (n := 39) (j := 8) (t := 16) (u := 7) rfl rfl (.inr rfl) rfl (by decide) rfl rfl rfl) ?_
    exact trivial
  intro v e w3 hg hv hle
  have h6 : e 6 = v 9 := hg 9 6 rfl
  have h7 : e 7 = v 11 := hg 11 7 rfl
  have hh : hoP w.heap.size 48 #[.func (.func f) #[] #[]] (e 6) w3 := hv 10 (by decide)
  rw [h6] at hh
  obtain ⟨p, e6, hp, hh3⟩ := hh
  have e7 : e 7 = .bool true := hv 11 (by decide)
  rw [h7] at e7
  have hB3 := veil (cellO_below hb2.out hle (Nat.le_refl _))
  have hx3 := veil (cellO_other hle hx2.out (fun c h => by cases h))
  have hz3 := veil (cellO_other hle hz2.out (fun c h => by cases h))
  have hsz3 : w.heap.size + 2 ≤ w3.heap.size := by have := hle.1.2.2.2; omega
  have hh3' := veil hh3
  simp only [Rel.fill, Act.put, List.setIfInBounds_toArray, List.set_cons_zero, List.set_cons_succ]
  rw [e6, e7]
  have q1 : w3.cell? ⟨w.heap.size, 0, none⟩ = some (.int .u8 k) := by rw [cell_of_row _ _ _ _ _ _ hx3.out]; rfl
  have q2 : w3.cell? ⟨p, 0, none⟩ = some (.func (.func f) #[] #[]) := by rw [cell_of_row _ _ _ _ _ _ hh3]; rfl
  clear hv hle e6 e7 hh3 hg h6 h7
  have q3 : w3.cell? ⟨w.heap.size, 1, none⟩ = some (.string s) := by rw [cell_of_row _ _ _ _ _ _ hx3.out]; rfl
  have q4 : w3.cell? ⟨w.heap.size, 2, none⟩ = some L := by rw [cell_of_row _ _ _ _ _ _ hx3.out]; rfl
  have q5 : w3.cell? ⟨w.heap.size, 3, none⟩ = some H := by rw [cell_of_row _ _ _ _ _ _ hx3.out]; rfl
  have q6 : w3.cell? ⟨w.heap.size, 4, none⟩ = some Z := by rw [cell_of_row _ _ _ _ _ _ hx3.out]; rfl
  have henter := henter'.out
  rcases hk with rfl | rfl
  all_goals
    go_wp2_with fail
    refine (hcall'.out _ hB3.out).mono ?_
    rintro e w4 ⟨A, n, c, rfl, hf4, hb4⟩
    have hf4' : Veil (RelG.frP (w.heap.size + 1) mr (.slice A n c) w4) := veil ⟨A, n, c, _, rfl, hf4, by omega⟩
    have hB4 := veil (two_below hB3.out hb4)
    have hz4 := veil ((hb4.block _ (by omega)).trans hz3.out)
    have hsz4 : w.heap.size + 2 ≤ w4.heap.size := by have := hb4.size; omega
    have hset := veil (RelG.stor_set (w.heap.size + 1) 26 zS mv (.cells zS 26 (0, 0)) w4 hz4.out)
    have hrow := veil (setRow_heap w4 (w.heap.size + 1) zS mv 26 (0, 0) hz4.out)
    have hst := RelG.storeCells_row (P := Tryz.prog) w4 (w.heap.size + 1) 26 zS mv hz4.out (by rw [hms]; rfl) hmo'.out
    clear hf4 hb4 q1 q2 q3 q4 q5 q6
    go_wp2_with fail
    refine bodyPost_ret (v := .tuple #[.agg mv, .slice A n c]) ?_ rfl (dres_of hB4.out hset.out (by omega) (by omega) (RelG.frP_sta _ _ _ _ hf4'.out hset.out))
    exact RelG.results_cell_tmp (p := 4) (q := 5) (ty := 26) Tryz.results9 _ _ (w.heap.size + 1) 26 mv (0, 0) _ _ rfl rfl hrow.out Tryz.underlying26 rfl (by rw [hms]; kernel_rfl)
open Go.Proofs.YtcdcbkopapedhaaGreatDoorW.PrintLast
theorem do_get (k : Int) (s a0 : ByteArray) (L H Z : Value) (ad : Addr) (an ac : Nat) (w : World) (hk : k = 0 ∨ k = 1) (hs : s.size ≤ 1000000000) (ha0 : a0.size ≤ 1000000000) (hlow : lowS a0 = ⟨#[103, 101, 116]⟩) (han : 0 < an) (hac : an ≤ ac) (c0 : w.cell? ad = some (.string a0)) (hone : (vS k s L H Z).all (·.oneCell') = true) (hT : Tabs w) :
    Calls Tryz.prog 9 #[.agg (vS k s L H Z), .slice (some ad) an ac] w (Dres (vS k s L H Z) (gotL k s) w) :=
  do_cmd k s ⟨#[103, 101, 116]⟩ a0 L H Z ad an ac 0 20 w hk (by omega) hlow (by kernel_rfl) (by omega) hac c0 _ _ hone hone rfl (fun args w => enters_ Tryz.func20 (by kernel_rfl) rfl args w) (fun w' hb => get_any k s L H Z (some ad) an ac w' (by omega) hone (tabs_below hT hb))
theorem do_getdel (k : Int) (s a0 : ByteArray) (L H Z : Value) (ad : Addr) (an ac : Nat) (w : World) (hk : k = 0 ∨ k = 1) (hs : s.size ≤ 1000000000) (ha0 : a0.size ≤ 1000000000) (hlow : lowS a0 = ⟨#[103, 101, 116, 100, 101, 108]⟩) (han : 0 < an) (hac : an ≤ ac) (c0 : w.cell? ad = some (.string a0)) (hone : (vS k s L H Z).all (·.oneCell') = true) (hT : Tabs w) :
    Calls Tryz.prog 9 #[.agg (vS k s L H Z), .slice (some ad) an ac] w (Dres zS (gotL k s) w) :=
  do_cmd k s ⟨#[103, 101, 116, 100, 101, 108]⟩ a0 L H Z ad an ac 1 22 w hk (by omega) hlow (by kernel_rfl) (by omega) hac c0 _ _ hone zS_one rfl (fun args w => enters_ Tryz.func22 (by kernel_rfl) rfl args w) (fun w' hb => getdel_any k s L H Z (some ad) an ac w' (by omega) (tabs_below hT hb))
theorem do_append (k : Int) (s a0 a : ByteArray) (L H Z : Value) (ad : Addr) (an ac : Nat) (w : World) (hk : k = 0 ∨ k = 1) (hs : s.size ≤ 1000000000) (ha0 : a0.size ≤ 1000000000) (hlow : lowS a0 = ⟨#[97, 112, 112, 101, 110, 100]⟩) (han : 2 < an) (hac : an ≤ ac) (c0 : w.cell? ad = some (.string a0)) (has : a.size ≤ 1000000000) (c2 : w.cell? (ad.add 2) = some (.string a)) (hone : (vS k s L H Z).all (·.oneCell') = true) (hT : Tabs w) :
    Calls Tryz.prog 9 #[.agg (vS k s L H Z), .slice (some ad) an ac] w (Dres (tS (s ++ a)) (lineL ⟨#[58]⟩ (numS ((s ++ a).size : Int))) w) :=
  do_cmd k s ⟨#[97, 112, 112, 101, 110, 100]⟩ a0 L H Z ad an ac 2 23 w hk (by omega) hlow (by kernel_rfl) (by omega) hac c0 _ _ hone (tS_one _) rfl (fun args w => enters_ Tryz.func23 (by kernel_rfl) rfl args w) (fun w' hb => append_any k s a L H Z ad an ac w' hs has han hac ((hb.cell (World.block_lt_of_cell? w _ c2)).trans c2) (tabs_below hT hb))
theorem do_strlen (k : Int) (s a0 : ByteArray) (L H Z : Value) (ad : Addr) (an ac : Nat) (w : World) (hk : k = 0 ∨ k = 1) (hs : s.size ≤ 1000000000) (ha0 : a0.size ≤ 1000000000) (hlow : lowS a0 = ⟨#[115, 116, 114, 108, 101, 110]⟩) (han : 0 < an) (hac : an ≤ ac) (c0 : w.cell? ad = some (.string a0)) (hone : (vS k s L H Z).all (·.oneCell') = true) (hT : Tabs w) :
    Calls Tryz.prog 9 #[.agg (vS k s L H Z), .slice (some ad) an ac] w (Dres (vS k s L H Z) (lineL ⟨#[58]⟩ (numS (s.size : Int))) w) :=
  do_cmd k s ⟨#[115, 116, 114, 108, 101, 110]⟩ a0 L H Z ad an ac 3 26 w hk (by omega) hlow (by kernel_rfl) (by omega) hac c0 _ _ hone hone rfl (fun args w => enters_ Tryz.func26 (by kernel_rfl) rfl args w) (fun w' hb => strlen_any k s L H Z (some ad) an ac w' (by omega) hone (tabs_below hT hb))
theorem do_incrby (k : Int) (s a0 a : ByteArray) (L H Z : Value) (ad : Addr) (an ac : Nat) (w : World) (hk : k = 0 ∨ k = 1) (hs : s.size ≤ 1000000000) (ha0 : a0.size ≤ 1000000000) (hlow : lowS a0 = ⟨#[105, 110, 99, 114, 98, 121]⟩) (han : 2 < an) (hac : an ≤ ac) (c0 : w.cell? ad = some (.string a0)) (has : a.size ≤ 1000000000) (c2 : w.cell? (ad.add 2) = some (.string a)) (hone : (vS k s L H Z).all (·.oneCell') = true) (hT : Tabs w) :
    Calls Tryz.prog 9 #[.agg (vS k s L H Z), .slice (some ad) an ac] w (Dres (moreF (vS k s L H Z) (if k = 0 then numS 0 else s) a).1 (moreF (vS k s L H Z) (if k = 0 then numS 0 else s) a).2 w) :=
  do_cmd k s ⟨#[105, 110, 99, 114, 98, 121]⟩ a0 L H Z ad an ac 4 27 w hk (by omega) hlow (by kernel_rfl) (by omega) hac c0 _ _ hone (moreF_one k s a L H Z _ hone) (moreF_size k s a L H Z _).2.symm (fun args w => enters_ Tryz.func27 (by kernel_rfl) rfl args w) (fun w' hb => incrby_any k s a L H Z ad an ac w' (by omega) (by omega) hone han hac ((hb.cell (World.block_lt_of_cell? w _ c2)).trans c2) (tabs_below hT hb))
theorem do_incr (k : Int) (s a0 : ByteArray) (L H Z : Value) (ad : Addr) (an ac : Nat) (w : World) (hk : k = 0 ∨ k = 1) (hs : s.size ≤ 1000000000) (ha0 : a0.size ≤ 1000000000) (hlow : lowS a0 = ⟨#[105, 110, 99, 114]⟩) (han : 0 < an) (hac : an ≤ ac) (c0 : w.cell? ad = some (.string a0)) (hone : (vS k s L H Z).all (·.oneCell') = true) (hT : Tabs w) :
    Calls Tryz.prog 9 #[.agg (vS k s L H Z), .slice (some ad) an ac] w (Dres (moreF (vS k s L H Z) (if k = 0 then numS 0 else s) (numS 1)).1 (moreF (vS k s L H Z) (if k = 0 then numS 0 else s) (numS 1)).2 w) :=
  do_cmd k s ⟨#[105, 110, 99, 114]⟩ a0 L H Z ad an ac 5 29 w hk (by omega) hlow (by kernel_rfl) (by omega) hac c0 _ _ hone (moreF_one k s (numS 1) L H Z _ hone) (moreF_size k s (numS 1) L H Z _).2.symm (fun args w => enters_ Tryz.func29 (by kernel_rfl) rfl args w) (fun w' hb => incr_any k s L H Z (some ad) an ac w' (by omega) hone (tabs_below hT hb))
end Go.Proofs.Tryz.Ln
