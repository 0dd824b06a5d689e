import Derived.Test.YtcdcbkopapedhaaGreatDoorTxt
/- What texts.more tells. -/
namespace Go.Proofs.Tryz.Ln
open Go Go.RowKit Go.Proofs.Mem Go.Proofs.App
open Go.Proofs.YtcdcbkopapedhaaGreatDoorW.PrintWords
set_option linter.unusedVariables false
def NotInt : ByteArray := ⟨#[69, 82, 82, 32, 118, 97, 108, 117, 101, 32, 105, 115, 32, 110, 111, 116, 32, 97, 110, 32, 105, 110, 116, 101, 103, 101, 114, 32, 111, 114, 32, 111, 117, 116, 32, 111, 102, 32, 114, 97, 110, 103, 101]⟩
def Overflow : ByteArray := ⟨#[69, 82, 82, 32, 105, 110, 99, 114, 101, 109, 101, 110, 116, 32, 111, 114, 32, 100, 101, 99, 114, 101, 109, 101, 110, 116, 32, 119, 111, 117, 108, 100, 32, 111, 118, 101, 114, 102, 108, 111, 119]⟩
/-- a value and a reply: the value's cells, a fresh row -/
def Dres (v : Array Value) (r : List Int) (w : World) (e : Ending) (w' : World) : Prop := ∃ A n c, e = .returned (.tuple #[.agg v, .slice A n c]) ∧ Fresh .u8 w.heap.size w' A n c r ∧ Below w.heap.size w w'
/-- what a number has become -/
def moreF (v : Array Value) (was by_ : ByteArray) : Array Value × List Int := match Dig.parseO by_, Dig.parseO was with
  | some k, some n => (match addO n k with
    | some x => (tS (numS x), lineL ⟨#[58]⟩ (numS x))
    | none => (v, lineL ⟨#[45]⟩ Overflow))
  | _, _ => (v, lineL ⟨#[45]⟩ NotInt)
/-- a row from later on than g -/
theorem frP_of {g : Nat} {l : List Int} {w w' : World} {A : Option Addr} {c : Nat} (hf : Fresh .u8 w.heap.size w' A l.length c l) (hg : g < w.heap.size) : RelG.frP g l (.slice A l.length c) w' := ⟨A, _, c, _, rfl, hf, hg⟩
theorem call_fr {P : Program} {f : FuncId} {args : Array Value} {g : Nat} {oz o' : Obj} {t : Tmp} {l : List Int} {b : Act} {w : World} (h : Calls P f args w (Bytes_ l w)) (hg : g < w.heap.size) (ht : t < b.tmps.size) :
    Calls P f args w fun e w' => ∃ x, e = .returned x ∧ (RelG.fr g oz o' t l).r (RelG.get (b.put (some t) x)) w' ∧ (RelG.Stor g oz o').le w w' :=
  h.mono fun e w' ⟨A, c, he, hf, hb⟩ => ⟨_, he, by
    show RelG.frP g l (RelG.get (b.put (some t) _) t) w'
    rw [RelG.get_put b t _ ht]
    exact frP_of hf hg, (RelG.Stor g oz o').bel hb⟩
theorem stor_size {g : Nat} {oz o' : Obj} {w w' : World} (h : (RelG.Stor g oz o').le w w') : w.heap.size ≤ w'.heap.size := h.1.2.2.2
theorem dres_of {g : Nat} {oz o' : Obj} {v : Array Value} {r : List Int} {x : Value} {w w0 w' : World} (hb : Below w.heap.size w w0) (hle : (RelG.Stor g oz o').le w0 w') (hg : w.heap.size ≤ g) (hB : w.heap.size ≤ w0.heap.size) (hf : RelG.frP g r x w') : Dres v r w (.returned (.tuple #[.agg v, x])) w' := by
  obtain ⟨A, n, c, base, rfl, hf, hgb⟩ := hf
  exact ⟨A, n, c, rfl, hf.base (by omega), RelG.stor_below hb hle hg hB⟩
set_option maxRecDepth 100000 in
set_option maxHeartbeats 8000000 in
theorem more_any (k : Int) (s L H Z : _) (by_ : ByteArray) (w : World) (hs : s.size ≤ 70368744177664) (hby : by_.size ≤ 70368744177664) (hone : #[Value.int .u8 k, .string s, L, H, Z].all (·.oneCell') = true) (hT : Tabs w) :
    Calls Tryz.prog 28 #[.agg #[.int .u8 k, .string s, L, H, Z], .string by_] w
      (Dres (moreF #[.int .u8 k, .string s, L, H, Z] (if k = 0 then numS 0 else s) by_).1 (moreF #[.int .u8 k, .string s, L, H, Z] (if k = 0 then numS 0 else s) by_).2 w) := by
  obtain ⟨vs, hvs⟩ : ∃ vs, vs = #[Value.int .u8 k, .string s, L, H, Z] := ⟨_, rfl⟩
  obtain ⟨w2, hw2⟩ : ∃ w2 : World, w2 = (w.alloc (.cells #[.int .u8 k, .string s, L, H, Z] 26)).alloc (.cells #[.int .u8 0, .string ⟨#[]⟩, .slice none 0 0, .slice none 0 0, .slice none 0 0] 26) := ⟨_, rfl⟩
  have hsz2 : w2.heap.size = w.heap.size + 2 := by rw [hw2]; simp
  have hb2 : Below w.heap.size w w2 := by rw [hw2]; exact (below_alloc (Below.refl _ _) _).alloc (by simp) _
  have hx2 : w2.heap[w.heap.size]? = some (.cells vs 26 (0, 0)) := by rw [hw2, hvs]; exact heap_alloc2_old w _ _
  have hz2 : w2.heap[w.heap.size + 1]? = some (.cells zS 26 (0, 0)) := by
    rw [hw2]
    have := heap_alloc_last (w.alloc (.cells #[.int .u8 k, .string s, L, H, Z] 26)) (.cells #[.int .u8 0, .string ⟨#[]⟩, .slice none 0 0, .slice none 0 0, .slice none 0 0] 26)
    simpa [zS] using this
  have hw2' := veil hw2
  obtain ⟨was, hwas⟩ : ∃ was, (if k = 0 then numS 0 else s) = was := ⟨_, rfl⟩
  rw [hwas, ← hvs]
  have hwz : was.size ≤ 70368744177664 := by
    have := numS_size 0 (by decide) (by decide)
    rw [← hwas]
    split <;> omega
  have hvs' := veil hvs
  rw [← hvs] at hone
  have hone' := veil hone
  have hsi : Veil ((Tryz.prog.info? 26).map (·.size) = some vs.size) := veil (by rw [hvs]; kernel_rfl)
  have hsm : Veil (zS.size = vs.size) := veil (by rw [hvs]; rfl)
  obtain ⟨mv, mr, hm⟩ : ∃ mv mr, moreF vs was by_ = (mv, mr) := ⟨_, _, rfl⟩
  rw [hm]
  have hcase : ((Dig.parseO by_).isSome = false ∧ mv = vs ∧ mr = lineL ⟨#[45]⟩ NotInt) ∨ ((Dig.parseO by_).isSome = true ∧ (Dig.parseO was).isSome = false ∧ mv = vs ∧ mr = lineL ⟨#[45]⟩ NotInt) ∨
      ∃ x n, Dig.parseO by_ = some x ∧ Dig.parseO was = some n ∧ ((addO n x = none ∧ mv = vs ∧ mr = lineL ⟨#[45]⟩ Overflow) ∨ ∃ z, addO n x = some z ∧ mv = tS (numS z) ∧ mr = lineL ⟨#[58]⟩ (numS z)) := by
    unfold moreF at hm
    cases h1 : Dig.parseO by_ with
    | none => rw [h1] at hm; injection hm with e1 e2; exact .inl ⟨rfl, e1.symm, e2.symm⟩
    | some x =>
      cases h2 : Dig.parseO was with
      | none => rw [h1, h2] at hm; injection hm with e1 e2; exact .inr (.inl ⟨rfl, rfl, e1.symm, e2.symm⟩)
      | some n =>
        rw [h1, h2] at hm
        simp only at hm
        refine .inr (.inr ⟨x, n, rfl, rfl, ?_⟩)
        cases h3 : addO n x with
        | none => rw [h3] at hm; injection hm with e1 e2; exact .inl ⟨rfl, e1.symm, e2.symm⟩
        | some z => rw [h3] at hm; injection hm with e1 e2; exact .inr ⟨z, rfl, e1.symm, e2.symm⟩
  have hcase' := veil hcase
  clear hw2 hvs hone hm hcase
  show Calls Tryz.prog 28 #[.agg vs, .string by_] w (Dres mv mr w)
  by_cases hk : k = 0
  focus
    rw [if_pos hk] at hwas
    subst hk
    rw [hvs'.out]
    go_enter Tryz.func28, Tryz.ntmps28
    go_wp2_with fail
    rw [← hw2'.out]
    refine (text_any 0 _ ⟨by decide, by decide⟩ (tabl_below hT.tab hb2)).mono ?_
    rintro e w3 ⟨rfl, hb3⟩
    have hB3 := veil (two_below hb2 hb3)
    have hx3 := veil ((hb3.block _ (by omega)).trans hx2)
    have hz3 := veil ((hb3.block _ (by omega)).trans hz2)
    have hsz3 : w.heap.size + 2 ≤ w3.heap.size := by have := hb3.size; omega
    rw [hwas]
    clear hb3
    go_wp2_with fail
  rotate_left
  focus
    rw [if_neg hk] at hwas
    have hwas' := hwas.symm
    subst hwas'
    clear hwas
    have hk' : (k == 0) = false := by simp [hk]
    rw [hvs'.out]
    go_enter Tryz.func28, Tryz.ntmps28
    go_wp2_with fail
    rw [← hw2'.out]
    obtain ⟨w3, rfl⟩ : ∃ w3, w3 = w2 := ⟨_, rfl⟩
    have hB3 := veil hb2
    have hx3 := veil hx2
    have hz3 := veil hz2
    have hsz3 : w.heap.size + 2 ≤ w3.heap.size := by omega
  all_goals
    refine (parse_any by_ _ hby (tabs_below hT hB3.out)).mono ?_
    rintro e w4 ⟨rfl, hb4⟩
    have hB4 := veil (two_below hB3.out hb4)
    have hx4 := veil ((hb4.block _ (by omega)).trans hx3.out)
    have hz4 := veil ((hb4.block _ (by omega)).trans hz3.out)
    have hsz4 : w.heap.size + 2 ≤ w4.heap.size := by have := hb4.size; omega
    clear hb4
    go_wp2_with fail
    refine (parse_any _ _ hwz (tabs_below hT hB4.out)).mono ?_
    rintro e w5 ⟨rfl, hb5⟩
    have hB5 := veil (two_below hB4.out hb5)
    have hx5 := veil ((hb5.block _ (by omega)).trans hx4.out)
    have hz5 := veil ((hb5.block _ (by omega)).trans hz4.out)
    have hsz5 : w.heap.size + 2 ≤ w5.heap.size := by have := hb5.size; omega
    clear hb5
    rcases hcase'.out with ⟨hp, rfl, rfl⟩ | ⟨hp, hq, rfl, rfl⟩ | ⟨x, n, hx, hn, ho⟩
    rotate_left 2
    · rw [hx, hn]
      have hix := (Dig.parse_some hx).1
      have hin := (Dig.parse_some hn).1
      have ha := add_any n x w5 hin hix
      rcases ho with ⟨hO, rfl, rfl⟩ | ⟨z, hO, rfl, rfl⟩
      · rw [hO] at ha
        go_wp2_with fail
        refine ha.mono ?_
        rintro e w6 ⟨rfl, rfl⟩
        go_wp2_with fail
        refine RelG.wp_region_rel (G := RelG.Stor (w.heap.size + 1) (.cells zS 26 (0, 0)) (.cells mv 26 (0, 0))) (n := 52) [RelG.is _ 45 (.agg mv), RelG.fr _ _ _ 46 (lineL ⟨#[45]⟩ Overflow), RelG.put _ _ _, RelG.fr _ _ _ 5 (lineL ⟨#[45]⟩ Overflow)] [[45], [46], [], [5]] (by kernel_rfl) rfl rfl (by kernel_rfl) ?_ ?_
        · refine RelG.steps_cons (RelG.step_load (n := 52) (t := 2) (u := 45) (b := w.heap.size) (cs := mv) rfl rfl rfl rfl (by decide) (by kernel_rfl) rfl Tryz.underlying26 rfl hsi.out (fun w' hle => RelG.stor_other hle (by omega) hx5.out) rfl) ?_
          refine RelG.steps_cons (RelG.step_call rfl Tryz.func18 (by kernel_rfl) rfl #[.string Overflow] rfl (fun b w' D => by simp [Act.eval, Overflow]) (fun b w' D => call_fr (Err_any Overflow w' (by decide)) (by have := stor_size D.bel; omega) (by rw [D.siz]; exact (by decide : 46 < 52)))) ?_
          refine RelG.steps_cons (RelG.step_store (j := 0) (t := 4) (u := 45) rfl rfl rfl (by kernel_rfl) rfl rfl rfl ⟨zS, rfl, hsm.out⟩ hz5.out hsi.out hone'.out rfl) ?_
          refine RelG.steps_cons (RelG.step_pass_of (n := 52) (j := 1) (t := 46) (u := 5) (p := RelG.frP (w.heap.size + 1) (lineL ⟨#[45]⟩ Overflow)) (hp := fun x w w' h hle => RelG.frP_sta _ x w w' h hle) rfl rfl (.inr rfl) rfl (by decide) rfl rfl rfl) ?_
          exact trivial
        intro v w9 hv hle
        have h2 : w9.heap[w.heap.size + 1]? = some (.cells mv 26 (0, 0)) := hv 2 (by decide)
        have h3 : RelG.frP (w.heap.size + 1) (lineL ⟨#[45]⟩ Overflow) (v 3) w9 := hv 3 (by decide)
        simp only [Rel.fill, Act.put, List.setIfInBounds_toArray, List.set_cons_zero, List.set_cons_succ]
        have hD := veil (dres_of (v := mv) hB5.out hle (by omega) (by omega) h3)
        have h2' := veil h2
        clear hv hle h3 h2
        go_wp2_with fail
        refine bodyPost_ret (v := .tuple #[.agg mv, v 3]) ?_ rfl hD.out
        exact RelG.results_cell_tmp (p := 4) (q := 5) (ty := 26) Tryz.results28 _ _ (w.heap.size + 1) 26 mv (0, 0) _ _ rfl rfl h2'.out Tryz.underlying26 rfl hsi.out
      · rw [hO] at ha
        go_wp2_with fail
        refine ha.mono ?_
        rintro e w6 ⟨rfl, rfl⟩
        go_wp2_with fail
        have hz64 : Int64 z := by
          unfold addO at hO
          split at hO
          · rename_i hh
            injection hO with hO
            exact hO ▸ hh
          · cases hO
        have hzz := numS_size z hz64.1 hz64.2
        refine (text_any z _ hz64 (tabl_below hT.tab hB5.out)).mono ?_
        rintro e w7 ⟨rfl, hb7⟩
        have hB7 := veil (two_below hB5.out hb7)
        have hz7 := veil ((hb7.block _ (by omega)).trans hz5.out)
        have hsz7 : w.heap.size + 2 ≤ w7.heap.size := by have := hb7.size; omega
        clear hb7
        go_wp2_with fail
        refine (text_val (numS z) _).mono ?_
        rintro e w8 ⟨rfl, hb8⟩
        have hB8 := veil (two_below hB7.out hb8)
        have hz8 := veil ((hb8.block _ (by omega)).trans hz7.out)
        have hsz8 : w.heap.size + 2 ≤ w8.heap.size := by have := hb8.size; omega
        clear hb8
        go_wp2_with fail
        refine (Int_any z _ hz64 (tabl_below hT.tab hB8.out)).mono ?_
        rintro e w9 ⟨A, c, rfl, hf9, hb9⟩
        have hf9' := veil (frP_of (g := w.heap.size + 1) hf9 (by omega))
        have hB9 := veil (two_below hB8.out hb9)
        have hz9 := veil ((hb9.block _ (by omega)).trans hz8.out)
        have hsz9 : w.heap.size + 2 ≤ w9.heap.size := by have := hb9.size; omega
        obtain ⟨q, hq⟩ : ∃ q, (lineL ⟨#[58]⟩ (numS z)).length = q := ⟨_, rfl⟩
        rw [hq] at hf9' ⊢
        clear hb9 hf9 hq
        have hset := veil (RelG.stor_set (w.heap.size + 1) 26 zS (tS (numS z)) (.cells zS 26 (0, 0)) w9 hz9.out)
        have hrow := veil (setRow_heap w9 (w.heap.size + 1) zS (tS (numS z)) 26 (0, 0) hz9.out)
        have hst := RelG.storeCells_row (P := Tryz.prog) w9 (w.heap.size + 1) 26 zS (tS (numS z)) hz9.out rfl (tS_one _)
        go_wp2_with fail
        refine bodyPost_ret (v := .tuple #[.agg (tS (numS z)), .slice A q c]) ?_ rfl (dres_of hB9.out hset.out (by omega) (by omega) (RelG.frP_sta _ _ _ _ hf9'.out hset.out))
        exact RelG.results_cell_tmp (p := 4) (q := 5) (ty := 26) Tryz.results28 _ _ (w.heap.size + 1) 26 (tS (numS z)) (0, 0) _ _ rfl rfl hrow.out Tryz.underlying26 rfl (by kernel_rfl)
    · rw [hp]
      go_wp2_with fail
      refine RelG.wp_region_rel (G := RelG.Stor (w.heap.size + 1) (.cells zS 26 (0, 0)) (.cells mv 26 (0, 0))) (n := 52) [RelG.is _ 35 (.agg mv), RelG.fr _ _ _ 36 (lineL ⟨#[45]⟩ NotInt), RelG.put _ _ _, RelG.fr _ _ _ 5 (lineL ⟨#[45]⟩ NotInt)] [[35], [36], [], [5]] (by kernel_rfl) rfl rfl (by kernel_rfl) ?_ ?_
      · refine RelG.steps_cons (RelG.step_load (n := 52) (t := 2) (u := 35) (b := w.heap.size) (cs := mv) rfl rfl rfl rfl (by decide) (by kernel_rfl) rfl Tryz.underlying26 rfl hsi.out (fun w' hle => RelG.stor_other hle (by omega) hx5.out) rfl) ?_
        refine RelG.steps_cons (RelG.step_call rfl Tryz.func18 (by kernel_rfl) rfl #[.string NotInt] rfl (fun b w' D => by simp [Act.eval, NotInt]) (fun b w' D => call_fr (Err_any NotInt w' (by decide)) (by have := stor_size D.bel; omega) (by rw [D.siz]; exact (by decide : 36 < 52)))) ?_
        refine RelG.steps_cons (RelG.step_store (j := 0) (t := 4) (u := 35) rfl rfl rfl (by kernel_rfl) rfl rfl rfl ⟨zS, rfl, hsm.out⟩ hz5.out hsi.out hone'.out rfl) ?_
        refine RelG.steps_cons (RelG.step_pass_of (n := 52) (j := 1) (t := 36) (u := 5) (p := RelG.frP (w.heap.size + 1) (lineL ⟨#[45]⟩ NotInt)) (hp := fun x w w' h hle => RelG.frP_sta _ x w w' h hle) rfl rfl (.inr rfl) rfl (by decide) rfl rfl rfl) ?_
        exact trivial
      intro v w9 hv hle
      have h2 : w9.heap[w.heap.size + 1]? = some (.cells mv 26 (0, 0)) := hv 2 (by decide)
      have h3 : RelG.frP (w.heap.size + 1) (lineL ⟨#[45]⟩ NotInt) (v 3) w9 := hv 3 (by decide)
      simp only [Rel.fill, Act.put, List.setIfInBounds_toArray, List.set_cons_zero, List.set_cons_succ]
      have hD := veil (dres_of (v := mv) hB5.out hle (by omega) (by omega) h3)
      have h2' := veil h2
      clear hv hle h3 h2
      go_wp2_with fail
      refine bodyPost_ret (v := .tuple #[.agg mv, v 3]) ?_ rfl hD.out
      exact RelG.results_cell_tmp (p := 4) (q := 5) (ty := 26) Tryz.results28 _ _ (w.heap.size + 1) 26 mv (0, 0) _ _ rfl rfl h2'.out Tryz.underlying26 rfl hsi.out
    · rw [hp, hq]
      go_wp2_with fail
      refine RelG.wp_region_rel (G := RelG.Stor (w.heap.size + 1) (.cells zS 26 (0, 0)) (.cells mv 26 (0, 0))) (n := 52) [RelG.is _ 35 (.agg mv), RelG.fr _ _ _ 36 (lineL ⟨#[45]⟩ NotInt), RelG.put _ _ _, RelG.fr _ _ _ 5 (lineL ⟨#[45]⟩ NotInt)] [[35], [36], [], [5]] (by kernel_rfl) rfl rfl (by kernel_rfl) ?_ ?_
      · refine RelG.steps_cons (RelG.step_load (n := 52) (t := 2) (u := 35) (b := w.heap.size) (cs := mv) rfl rfl rfl rfl (by decide) (by kernel_rfl) rfl Tryz.underlying26 rfl hsi.out (fun w' hle => RelG.stor_other hle (by omega) hx5.out) rfl) ?_
        refine RelG.steps_cons (RelG.step_call rfl Tryz.func18 (by kernel_rfl) rfl #[.string NotInt] rfl (fun b w' D => by simp [Act.eval, NotInt]) (fun b w' D => call_fr (Err_any NotInt w' (by decide)) (by have := stor_size D.bel; omega) (by rw [D.siz]; exact (by decide : 36 < 52)))) ?_
        refine RelG.steps_cons (RelG.step_store (j := 0) (t := 4) (u := 35) rfl rfl rfl (by kernel_rfl) rfl rfl rfl ⟨zS, rfl, hsm.out⟩ hz5.out hsi.out hone'.out rfl) ?_
        refine RelG.steps_cons (RelG.step_pass_of (n := 52) (j := 1) (t := 36) (u := 5) (p := RelG.frP (w.heap.size + 1) (lineL ⟨#[45]⟩ NotInt)) (hp := fun x w w' h hle => RelG.frP_sta _ x w w' h hle) rfl rfl (.inr rfl) rfl (by decide) rfl rfl rfl) ?_
        exact trivial
      intro v w9 hv hle
      have h2 : w9.heap[w.heap.size + 1]? = some (.cells mv 26 (0, 0)) := hv 2 (by decide)
      have h3 : RelG.frP (w.heap.size + 1) (lineL ⟨#[45]⟩ NotInt) (v 3) w9 := hv 3 (by decide)
      simp only [Rel.fill, Act.put, List.setIfInBounds_toArray, List.set_cons_zero, List.set_cons_succ]
      have hD := veil (dres_of (v := mv) hB5.out hle (by omega) (by omega) h3)
      have h2' := veil h2
      clear hv hle h3 h2
      go_wp2_with fail
      refine bodyPost_ret (v := .tuple #[.agg mv, v 3]) ?_ rfl hD.out
      exact RelG.results_cell_tmp (p := 4) (q := 5) (ty := 26) Tryz.results28 _ _ (w.heap.size + 1) 26 mv (0, 0) _ _ rfl rfl h2'.out Tryz.underlying26 rfl hsi.out
end Go.Proofs.Tryz.Ln
