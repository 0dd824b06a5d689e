import Derived.Test.YtnkjejmgpempkaaGreatDoorLsE
import Derived.Test.YtnkjejmgpempkaaGreatDoorLsH
/- lists.Do at 'lrange' with a word that is no number; the calls of a value that holds a list. -/
namespace Go.Proofs.Tryz.Ln
open Go Go.RowKit Go.Proofs.Mem Go.Proofs.App
open Go.Proofs.YtnkjejmgpempkaaGreatDoorW.PrintWords Go.Proofs.YtnkjejmgpempkaaGreatDoorW.PrintLast
open Go.Proofs.Rel (dsts depsOf)
set_option linter.unusedVariables false
set_option linter.unusedSimpArgs false
def NotIntT : ByteArray := ⟨#[69, 82, 82, 32, 118, 97, 108, 117, 101, 32, 105, 115, 32, 110, 111, 116, 32, 97, 110, 32, 105, 110, 116, 101, 103, 101, 114, 32, 111, 114, 32, 111, 117, 116, 32, 111, 102, 32, 114, 97, 110, 103, 101]⟩
set_option maxRecDepth 100000 in
set_option maxHeartbeats 8000000 in
theorem do_lrange_bad (k : Int) (s a0 fa fb : ByteArray) (x H Z : Value) (l args : List ByteArray) (B : Option Addr) (ac : Nat) (w : World) (hk : k = 0 ∨ k = 2) (hx : tR w x l) (hargs : tR w (.slice B args.length ac) args) (h4 : 4 ≤ args.length) (ha : args[0]? = some a0) (hfa : args[2]? = some fa) (hfb : args[3]? = some fb)
    (hz0 : a0.size ≤ 1000) (hlow : lowS a0 = lrangeN) (hn : l.length ≤ 1000000) (hbad : Dig.parseO fa = none ∨ Dig.parseO fb = none) (hza : fa.size ≤ 1000) (hzb : fb.size ≤ 1000) (hH : H.oneCell' = true) (hZ : Z.oneCell' = true) (hT : Tabs w) :
    Calls Tryz.prog 8 #[.agg #[.int .u8 k, .string s, x, H, Z], .slice B args.length ac] w (Dres #[.int .u8 k, .string s, x, H, Z] (lineL ⟨#[45]⟩ NotIntT) w) := by
  have hT' := veil hT
  obtain ⟨A1, c1, rfl, hlc, _, _, hTR⟩ := hx.ex
  obtain ⟨ad, rfl, hcell⟩ : ∃ ad, B = some ad ∧ ∀ j, j < args.length → w.cell? (ad.add j) = some (.string (args.getD j ByteArray.empty)) := by
    obtain ⟨A, c, e, _, _, _, h4'⟩ := hargs.ex
    injection e with e1 _ _
    subst e1
    exact h4'.2.2 (by omega)
  have cget : ∀ j y, args[j]? = some y → w.cell? (ad.add j) = some (.string y) := fun j y hj => by
    have h1 := hcell j (by exact (List.getElem?_eq_some_iff.1 hj).1)
    rw [List.getD_eq_getElem?_getD, hj, Option.getD_some] at h1
    exact h1
  have c0 : w.cell? ad = some (.string a0) := by simpa [Addr.add] using cget 0 a0 ha
  have ca := veil (cget 2 fa hfa)
  have cb := veil (cget 3 fb hfb)
  have had2 : (ad.add 2).block < w.heap.size := World.block_lt_of_cell? w _ ca.out
  have had3 : (ad.add 3).block < w.heap.size := World.block_lt_of_cell? w _ cb.out
  have hpart : Veil (∀ w', Tabs w' → Calls Tryz.prog 20 #[.int .i64 (l.length : Nat), .string fa, .string fb] w' fun e w'' => e = .returned (.tuple #[.int .i64 0, .int .i64 0, .bool false]) ∧ Below w'.heap.size w' w'') :=
    veil (fun w' h => part_bad l.length fa fb w' hbad (by omega) (by omega) h)
  obtain ⟨R, hR⟩ : ∃ R, lineL ⟨#[45]⟩ NotIntT = R := ⟨_, rfl⟩
  have herr : Veil (∀ w', Calls Tryz.prog 16 #[.string NotIntT] w' (Bytes_ R w')) := veil (fun w' => by rw [← hR]; exact Err_any NotIntT w' (by decide +kernel))
  rw [hR]
  have hone : Veil ((#[.int .u8 k, .string s, .slice A1 l.length c1, H, Z] : Array Value).all (·.oneCell') = true) := veil (one5 k s A1 _ c1 H Z hH hZ)
  obtain ⟨w2, hw2⟩ : ∃ w2 : World, w2 = (w.alloc (.cells #[.int .u8 k, .string s, .slice A1 l.length c1, H, Z] 26)).alloc (.cells #[.int .u8 0, .string ⟨#[]⟩, .slice none 0 0, .slice none 0 0, .slice none 0 0] 26) := ⟨_, rfl⟩
  have hsz2 : w2.heap.size = w.heap.size + 2 := by rw [hw2]; simp
  have hb2 : Below w.heap.size w w2 := by rw [hw2]; exact (below_alloc (Below.refl _ _) _).alloc (by simp) _
  have hx2 : w2.heap[w.heap.size]? = some (.cells #[.int .u8 k, .string s, .slice A1 l.length c1, H, Z] 26 (0, 0)) := by rw [hw2]; exact heap_alloc2_old w _ _
  have hz2 : w2.heap[w.heap.size + 1]? = some oZ := by
    rw [hw2]
    have := heap_alloc_last (w.alloc (.cells #[.int .u8 k, .string s, .slice A1 l.length c1, H, Z] 26)) (.cells #[.int .u8 0, .string ⟨#[]⟩, .slice none 0 0, .slice none 0 0, .slice none 0 0] 26)
    simpa [oZ, zS] using this
  have hadb : ad.block < w.heap.size := World.block_lt_of_cell? w _ c0
  have q0 : w2.cell? ad = some (.string a0) := (hb2.cell hadb).trans c0
  have q00 := q0
  rw [hw2] at q00
  have hB2 := veil hb2
  have hX2 := veil hx2
  have hZ2 := veil hz2
  have hw2' := veil hw2
  have hlow' : Veil (lowS a0 = ⟨#[108, 114, 97, 110, 103, 101]⟩) := veil hlow
  have l0 : (0 : Int) < args.length := by omega
  have l2 : (2 : Int) < args.length := by omega
  have l3 : (3 : Int) < args.length := by omega
  clear hT hx hargs hcell cget c0 ha hfa hfb hbad hR hTR hw2 hb2 hx2 hz2 hlow hH hZ
  rcases hk with rfl | rfl
  · go_enter Tryz.func8, Tryz.ntmps8
    go_wp2_with fail
    rw [← hw2'.out]
    refine (low_any a0 w2 (by omega)).mono ?_
    rintro e w3 ⟨rfl, hb3⟩
    rw [hlow'.out]
    have hB3 := veil (two_below hB2.out hb3)
    have hX3 := veil ((hb3.block _ (by omega)).trans hX2.out)
    have hZ3 := veil ((hb3.block _ (by omega)).trans hZ2.out)
    have hs3 := hb3.size
    clear hb3 q0 q00
    have q1 := cell_of_row _ _ 0 _ _ _ hX3.out
    simp only [List.getElem?_toArray, List.getElem?_cons_zero] at q1
    have q2 : w3.cell? ⟨w.heap.size, 2, none⟩ = some (.slice A1 l.length c1) := by rw [cell_of_row _ _ _ _ _ _ hX3.out]; rfl
    have qa := (hB3.out.cell had2).trans ca.out
    have qb := (hB3.out.cell had3).trans cb.out
    go_wp2_with fail
    refine Rel.wp_region_rel (n := 95) [Rel.is (.pointer (some ⟨w.heap.size, 2, none⟩)), Rel.is (.slice A1 l.length c1), Rel.is (.int .i64 (l.length : Nat)), Rel.is (.slice (some ad) args.length ac), Rel.is (.pointer (some (ad.add 2))), Rel.is (.string fa), Rel.is (.slice (some ad) args.length ac), Rel.is (.pointer (some (ad.add 3))), Rel.is (.string fb), Rel.is (.tuple #[.int .i64 0, .int .i64 0, .bool false]), Rel.is (.tuple #[.int .i64 0, .int .i64 0, .bool false]), Rel.is (.int .i64 0), Rel.is (.int .i64 0), Rel.is (.bool false), Rel.is (.int .i64 0), Rel.is (.int .i64 0), Rel.is (.bool false)] (by kernel_rfl) (by rfl) (by kernel_rfl) ?_ ?_
    · refine Rel.steps_cons (Rel.step_run0 (n := 95) (t := 2) (v := .pointer (some ⟨w.heap.size, 0, none⟩)) rfl (.inl rfl) rfl (by kernel_rfl) (fun ρ w' hb h1 hk => by simp [execOp, h1, hk, go_sem, Addr.add]) rfl) ?_
      refine Rel.steps_cons (Rel.step_cell (n := 95) (j := 0) (t := 70) rfl (.inl rfl) rfl rfl rfl rfl Tryz.underlying22 (.inr (.inr (.inr ⟨_, rfl⟩))) q2 rfl) ?_
      refine Rel.steps_cons (Rel.step_run1 (n := 95) (j := 1) (t := 71) rfl (.inl rfl) rfl rfl rfl (fun ρ w' _ h1 hk => by simp [execOp, resolve, invoke, builtin, h1, hk, go_sem, Tryz.underlying22]) rfl) ?_
      refine Rel.steps_cons (Rel.step_wasB (n := 95) (t := 1) rfl (.inl rfl) (.inl rfl) rfl (by kernel_rfl) rfl) ?_
      refine Rel.steps_cons (Rel.step_run1 (n := 95) (j := 3) (t := 73) rfl (.inl rfl) rfl rfl rfl (fun ρ w' _ h1 hk => by simp [execOp, h1, hk, go_sem, l2]) rfl) ?_
      refine Rel.steps_cons (Rel.step_cell (n := 95) (j := 4) (t := 74) rfl (.inl rfl) rfl rfl rfl rfl Tryz.underlying9 (.inl rfl) qa rfl) ?_
      refine Rel.steps_cons (Rel.step_wasB (n := 95) (t := 1) rfl (.inl rfl) (.inl rfl) rfl (by kernel_rfl) rfl) ?_
      refine Rel.steps_cons (Rel.step_run1 (n := 95) (j := 6) (t := 76) rfl (.inl rfl) rfl rfl rfl (fun ρ w' _ h1 hk => by simp [execOp, h1, hk, go_sem, l3]) rfl) ?_
      refine Rel.steps_cons (Rel.step_cell (n := 95) (j := 7) (t := 77) rfl (.inl rfl) rfl rfl rfl rfl Tryz.underlying9 (.inl rfl) qb rfl) ?_
      refine Rel.steps_cons (Rel.step_callB (n := 95) rfl (.inl rfl) Tryz.func20 (by kernel_rfl) rfl #[.int .i64 (l.length : Nat), .string fa, .string fb] rfl (fun b w D => by simp only [List.map_toArray, List.map_cons, List.map_nil, show b.eval (.tmp 72) = .int .i64 (l.length : Nat) from D.is 2 72 rfl rfl rfl, show b.eval (.tmp 75) = .string fa from D.is 5 75 rfl rfl rfl, show b.eval (.tmp 78) = .string fb from D.is 8 78 rfl rfl rfl]) (fun w' hb => (hpart.out w' (tabs_below hT'.out (two_below hB3.out hb))).mono fun e w'' h => ⟨_, h.1, rfl, h.2⟩)) ?_
      refine Rel.steps_cons (Rel.step_passB (n := 95) (j := 9) (t := 79) rfl (.inl rfl) (.inl rfl) rfl rfl rfl rfl) ?_
      refine Rel.steps_cons (Rel.step_run1 (n := 95) (j := 10) (t := 69) rfl (.inl rfl) rfl rfl rfl (fun ρ w' _ h1 hk => by simp [execOp, h1, hk, go_sem]) rfl) ?_
      refine Rel.steps_cons (Rel.step_run1 (n := 95) (j := 10) (t := 69) rfl (.inl rfl) rfl rfl rfl (fun ρ w' _ h1 hk => by simp [execOp, h1, hk, go_sem]) rfl) ?_
      refine Rel.steps_cons (Rel.step_run1 (n := 95) (j := 10) (t := 69) rfl (.inl rfl) rfl rfl rfl (fun ρ w' _ h1 hk => by simp [execOp, h1, hk, go_sem]) rfl) ?_
      refine Rel.steps_cons (Rel.step_passB (n := 95) (j := 11) (t := 80) rfl (.inl rfl) (.inr rfl) rfl rfl rfl rfl) ?_
      refine Rel.steps_cons (Rel.step_passB (n := 95) (j := 12) (t := 81) rfl (.inl rfl) (.inr rfl) rfl rfl rfl rfl) ?_
      refine Rel.steps_cons (Rel.step_passB (n := 95) (j := 13) (t := 82) rfl (.inl rfl) (.inr rfl) rfl rfl rfl rfl) ?_
      exact trivial
    intro v w4 hv hb4
    have e9 : v 9 = .tuple #[.int .i64 0, .int .i64 0, .bool false] := hv 9 (by decide)
    have e14 : v 14 = .int .i64 0 := hv 14 (by decide)
    have e15 : v 15 = .int .i64 0 := hv 15 (by decide)
    have e16 : v 16 = .bool false := hv 16 (by decide)
    have hB4 := veil (two_below hB3.out hb4)
    have hX4 := veil ((hb4.block _ (by omega)).trans hX3.out)
    have hZ4 := veil ((hb4.block _ (by omega)).trans hZ3.out)
    have hs4 := hb4.size
    simp only [Rel.fill, Act.put, List.setIfInBounds_toArray, List.set_cons_zero, List.set_cons_succ]
    rw [e14, e15, e16]
    clear hb4 hv e9 e14 e15 e16 q1 q2 qa qb hX3 hZ3 hB3
    go_wp2_with fail
    refine RelG.wp_region_rel2 (G := (RelG.Stor (w.heap.size + 1) (.cells zS tV (0, 0)) (.cells #[.int .u8 0, .string s, .slice A1 l.length c1, H, Z] tV (0, 0)))) (n := 95) [RelG.is _ 85 (.agg #[.int .u8 0, .string s, .slice A1 l.length c1, H, Z]), RelG.fr _ _ _ 86 R, RelG.put _ _ _, RelG.fr _ _ _ 5 R] [[85], [86], [], [5]] (by kernel_rfl) rfl rfl (by kernel_rfl) ?_ ?_
    · refine RelG.steps_cons (RelG.step_load (n := 95) (t := 2) (u := 85) (b := w.heap.size) (t' := tV) (cs := #[.int .u8 0, .string s, .slice A1 l.length c1, H, Z]) (fr := (0, 0)) rfl rfl rfl rfl (by decide) (by kernel_rfl) (by kernel_rfl) Tryz.underlying26 rfl (info5x _ _ _ _ _) (fun w' hle => RelG.stor_other hle (by omega) hX4.out) rfl) ?_
      refine RelG.steps_cons (RelG.step_call rfl Tryz.func16 (by kernel_rfl) rfl #[.string NotIntT] rfl (fun b' w' D => by simp [Act.eval, NotIntT]) (fun b' w' D => call_fr (herr.out w') (by have := stor_size D.bel; omega) (by rw [D.siz]; exact (by decide : 86 < 95)))) ?_
      refine RelG.steps_cons (RelG.step_store (j := 0) (t := 4) (u := 85) rfl rfl rfl (by kernel_rfl) (by kernel_rfl) rfl rfl ⟨zS, rfl, rfl⟩ hZ4.out (info5x _ _ _ _ _) hone.out rfl) ?_
      refine RelG.steps_cons (RelG.step_pass_of (n := 95) (j := 1) (t := 86) (u := 5) (p := RelG.frP (w.heap.size + 1) R) (hp := fun x w w' h hle => RelG.frP_sta _ x w w' h hle) rfl rfl (.inr rfl) rfl (by decide) rfl rfl rfl) ?_
      exact trivial
    intro v e w9 hg hv hle
    have k5 : e 5 = v 3 := hg 3 5 rfl
    have h2 : w9.heap[w.heap.size + 1]? = some (.cells #[.int .u8 0, .string s, .slice A1 l.length c1, H, Z] tV (0, 0)) := hv 2 (by decide)
    have h3 : RelG.frP (w.heap.size + 1) R (e 5) w9 := hv 3 (by decide)
    rw [k5] at h3
    simp only [Rel.fill, Act.put, List.setIfInBounds_toArray, List.set_cons_zero, List.set_cons_succ]
    have hD := veil (dres_of (v := #[.int .u8 0, .string s, .slice A1 l.length c1, H, Z]) hB4.out hle (by omega) (by omega) h3)
    have h2' := veil h2
    clear hg hv hle h3 h2 k5
    go_wp2_with fail
    refine bodyPost_ret (v := .tuple #[.agg #[.int .u8 0, .string s, .slice A1 l.length c1, H, Z], v 3]) ?_ rfl hD.out
    exact RelG.results_cell_tmp (p := 4) (q := 5) (ty := 26) Tryz.results8 _ _ (w.heap.size + 1) tV #[.int .u8 0, .string s, .slice A1 l.length c1, H, Z] (0, 0) _ _ rfl rfl h2'.out Tryz.underlying26 rfl (info5x _ _ _ _ _)
  · go_enter Tryz.func8, Tryz.ntmps8
    go_wp2_with fail
    rw [← hw2'.out]
    refine (low_any a0 w2 (by omega)).mono ?_
    rintro e w3 ⟨rfl, hb3⟩
    rw [hlow'.out]
    have hB3 := veil (two_below hB2.out hb3)
    have hX3 := veil ((hb3.block _ (by omega)).trans hX2.out)
    have hZ3 := veil ((hb3.block _ (by omega)).trans hZ2.out)
    have hs3 := hb3.size
    clear hb3 q0 q00
    have q1 := cell_of_row _ _ 0 _ _ _ hX3.out
    simp only [List.getElem?_toArray, List.getElem?_cons_zero] at q1
    have q2 : w3.cell? ⟨w.heap.size, 2, none⟩ = some (.slice A1 l.length c1) := by rw [cell_of_row _ _ _ _ _ _ hX3.out]; rfl
    have qa := (hB3.out.cell had2).trans ca.out
    have qb := (hB3.out.cell had3).trans cb.out
    go_wp2_with fail
    refine Rel.wp_region_rel (n := 95) [Rel.is (.pointer (some ⟨w.heap.size, 2, none⟩)), Rel.is (.slice A1 l.length c1), Rel.is (.int .i64 (l.length : Nat)), Rel.is (.slice (some ad) args.length ac), Rel.is (.pointer (some (ad.add 2))), Rel.is (.string fa), Rel.is (.slice (some ad) args.length ac), Rel.is (.pointer (some (ad.add 3))), Rel.is (.string fb), Rel.is (.tuple #[.int .i64 0, .int .i64 0, .bool false]), Rel.is (.tuple #[.int .i64 0, .int .i64 0, .bool false]), Rel.is (.int .i64 0), Rel.is (.int .i64 0), Rel.is (.bool false), Rel.is (.int .i64 0), Rel.is (.int .i64 0), Rel.is (.bool false)] (by kernel_rfl) (by rfl) (by kernel_rfl) ?_ ?_
    · refine Rel.steps_cons (Rel.step_run0 (n := 95) (t := 2) (v := .pointer (some ⟨w.heap.size, 0, none⟩)) rfl (.inl rfl) rfl (by kernel_rfl) (fun ρ w' hb h1 hk => by simp [execOp, h1, hk, go_sem, Addr.add]) rfl) ?_
      refine Rel.steps_cons (Rel.step_cell (n := 95) (j := 0) (t := 70) rfl (.inl rfl) rfl rfl rfl rfl Tryz.underlying22 (.inr (.inr (.inr ⟨_, rfl⟩))) q2 rfl) ?_
      refine Rel.steps_cons (Rel.step_run1 (n := 95) (j := 1) (t := 71) rfl (.inl rfl) rfl rfl rfl (fun ρ w' _ h1 hk => by simp [execOp, resolve, invoke, builtin, h1, hk, go_sem, Tryz.underlying22]) rfl) ?_
      refine Rel.steps_cons (Rel.step_wasB (n := 95) (t := 1) rfl (.inl rfl) (.inl rfl) rfl (by kernel_rfl) rfl) ?_
      refine Rel.steps_cons (Rel.step_run1 (n := 95) (j := 3) (t := 73) rfl (.inl rfl) rfl rfl rfl (fun ρ w' _ h1 hk => by simp [execOp, h1, hk, go_sem, l2]) rfl) ?_
      refine Rel.steps_cons (Rel.step_cell (n := 95) (j := 4) (t := 74) rfl (.inl rfl) rfl rfl rfl rfl Tryz.underlying9 (.inl rfl) qa rfl) ?_
      refine Rel.steps_cons (Rel.step_wasB (n := 95) (t := 1) rfl (.inl rfl) (.inl rfl) rfl (by kernel_rfl) rfl) ?_
      refine Rel.steps_cons (Rel.step_run1 (n := 95) (j := 6) (t := 76) rfl (.inl rfl) rfl rfl rfl (fun ρ w' _ h1 hk => by simp [execOp, h1, hk, go_sem, l3]) rfl) ?_
      refine Rel.steps_cons (Rel.step_cell (n := 95) (j := 7) (t := 77) rfl (.inl rfl) rfl rfl rfl rfl Tryz.underlying9 (.inl rfl) qb rfl) ?_
      refine Rel.steps_cons (Rel.step_callB (n := 95) rfl (.inl rfl) Tryz.func20 (by kernel_rfl) rfl #[.int .i64 (l.length : Nat), .string fa, .string fb] rfl (fun b w D => by simp only [List.map_toArray, List.map_cons, List.map_nil, show b.eval (.tmp 72) = .int .i64 (l.length : Nat) from D.is 2 72 rfl rfl rfl, show b.eval (.tmp 75) = .string fa from D.is 5 75 rfl rfl rfl, show b.eval (.tmp 78) = .string fb from D.is 8 78 rfl rfl rfl]) (fun w' hb => (hpart.out w' (tabs_below hT'.out (two_below hB3.out hb))).mono fun e w'' h => ⟨_, h.1, rfl, h.2⟩)) ?_
      refine Rel.steps_cons (Rel.step_passB (n := 95) (j := 9) (t := 79) rfl (.inl rfl) (.inl rfl) rfl rfl rfl rfl) ?_
      refine Rel.steps_cons (Rel.step_run1 (n := 95) (j := 10) (t := 69) rfl (.inl rfl) rfl rfl rfl (fun ρ w' _ h1 hk => by simp [execOp, h1, hk, go_sem]) rfl) ?_
      refine Rel.steps_cons (Rel.step_run1 (n := 95) (j := 10) (t := 69) rfl (.inl rfl) rfl rfl rfl (fun ρ w' _ h1 hk => by simp [execOp, h1, hk, go_sem]) rfl) ?_
      refine Rel.steps_cons (Rel.step_run1 (n := 95) (j := 10) (t := 69) rfl (.inl rfl) rfl rfl rfl (fun ρ w' _ h1 hk => by simp [execOp, h1, hk, go_sem]) rfl) ?_
      refine Rel.steps_cons (Rel.step_passB (n := 95) (j := 11) (t := 80) rfl (.inl rfl) (.inr rfl) rfl rfl rfl rfl) ?_
      refine Rel.steps_cons (Rel.step_passB (n := 95) (j := 12) (t := 81) rfl (.inl rfl) (.inr rfl) rfl rfl rfl rfl) ?_
      refine Rel.steps_cons (Rel.step_passB (n := 95) (j := 13) (t := 82) rfl (.inl rfl) (.inr rfl) rfl rfl rfl rfl) ?_
      exact trivial
    intro v w4 hv hb4
    have e9 : v 9 = .tuple #[.int .i64 0, .int .i64 0, .bool false] := hv 9 (by decide)
    have e14 : v 14 = .int .i64 0 := hv 14 (by decide)
    have e15 : v 15 = .int .i64 0 := hv 15 (by decide)
    have e16 : v 16 = .bool false := hv 16 (by decide)
    have hB4 := veil (two_below hB3.out hb4)
    have hX4 := veil ((hb4.block _ (by omega)).trans hX3.out)
    have hZ4 := veil ((hb4.block _ (by omega)).trans hZ3.out)
    have hs4 := hb4.size
    simp only [Rel.fill, Act.put, List.setIfInBounds_toArray, List.set_cons_zero, List.set_cons_succ]
    rw [e14, e15, e16]
    clear hb4 hv e9 e14 e15 e16 q1 q2 qa qb hX3 hZ3 hB3
    go_wp2_with fail
    refine RelG.wp_region_rel2 (G := (RelG.Stor (w.heap.size + 1) (.cells zS tV (0, 0)) (.cells #[.int .u8 2, .string s, .slice A1 l.length c1, H, Z] tV (0, 0)))) (n := 95) [RelG.is _ 85 (.agg #[.int .u8 2, .string s, .slice A1 l.length c1, H, Z]), RelG.fr _ _ _ 86 R, RelG.put _ _ _, RelG.fr _ _ _ 5 R] [[85], [86], [], [5]] (by kernel_rfl) rfl rfl (by kernel_rfl) ?_ ?_
    · refine RelG.steps_cons (RelG.step_load (n := 95) (t := 2) (u := 85) (b := w.heap.size) (t' := tV) (cs := #[.int .u8 2, .string s, .slice A1 l.length c1, H, Z]) (fr := (0, 0)) rfl rfl rfl rfl (by decide) (by kernel_rfl) (by kernel_rfl) Tryz.underlying26 rfl (info5x _ _ _ _ _) (fun w' hle => RelG.stor_other hle (by omega) hX4.out) rfl) ?_
      refine RelG.steps_cons (RelG.step_call rfl Tryz.func16 (by kernel_rfl) rfl #[.string NotIntT] rfl (fun b' w' D => by simp [Act.eval, NotIntT]) (fun b' w' D => call_fr (herr.out w') (by have := stor_size D.bel; omega) (by rw [D.siz]; exact (by decide : 86 < 95)))) ?_
      refine RelG.steps_cons (RelG.step_store (j := 0) (t := 4) (u := 85) rfl rfl rfl (by kernel_rfl) (by kernel_rfl) rfl rfl ⟨zS, rfl, rfl⟩ hZ4.out (info5x _ _ _ _ _) hone.out rfl) ?_
      refine RelG.steps_cons (RelG.step_pass_of (n := 95) (j := 1) (t := 86) (u := 5) (p := RelG.frP (w.heap.size + 1) R) (hp := fun x w w' h hle => RelG.frP_sta _ x w w' h hle) rfl rfl (.inr rfl) rfl (by decide) rfl rfl rfl) ?_
      exact trivial
    intro v e w9 hg hv hle
    have k5 : e 5 = v 3 := hg 3 5 rfl
    have h2 : w9.heap[w.heap.size + 1]? = some (.cells #[.int .u8 2, .string s, .slice A1 l.length c1, H, Z] tV (0, 0)) := hv 2 (by decide)
    have h3 : RelG.frP (w.heap.size + 1) R (e 5) w9 := hv 3 (by decide)
    rw [k5] at h3
    simp only [Rel.fill, Act.put, List.setIfInBounds_toArray, List.set_cons_zero, List.set_cons_succ]
    have hD := veil (dres_of (v := #[.int .u8 2, .string s, .slice A1 l.length c1, H, Z]) hB4.out hle (by omega) (by omega) h3)
    have h2' := veil h2
    clear hg hv hle h3 h2 k5
    go_wp2_with fail
    refine bodyPost_ret (v := .tuple #[.agg #[.int .u8 2, .string s, .slice A1 l.length c1, H, Z], v 3]) ?_ rfl hD.out
    exact RelG.results_cell_tmp (p := 4) (q := 5) (ty := 26) Tryz.results8 _ _ (w.heap.size + 1) tV #[.int .u8 2, .string s, .slice A1 l.length c1, H, Z] (0, 0) _ _ rfl rfl h2'.out Tryz.underlying26 rfl (info5x _ _ _ _ _)
/-- all letters together -/
def sumS (l : List ByteArray) : Nat := (l.map (·.size)).sum
theorem sumS_app (a b : List ByteArray) : sumS (a ++ b) = sumS a + sumS b := by simp [sumS]
theorem sumS_take (l : List ByteArray) (n : Nat) : sumS (l.take n) ≤ sumS l := by
  have := sumS_app (l.take n) (l.drop n)
  rw [List.take_append_drop] at this
  omega
theorem sumS_drop (l : List ByteArray) (n : Nat) : sumS (l.drop n) ≤ sumS l := by
  have := sumS_app (l.take n) (l.drop n)
  rw [List.take_append_drop] at this
  omega
theorem size_le {l : List ByteArray} {s : ByteArray} (h : s ∈ l) : s.size ≤ sumS l := by
  obtain ⟨a, b, rfl⟩ := List.append_of_mem h
  rw [sumS_app]
  simp [sumS]
  omega
theorem bulkL_le (s : ByteArray) (h : s.size ≤ 70368744177664) : (bulkL s).length ≤ s.size + 60 := by
  have hz := numS_size (s.size : Int) (by omega) (by omega)
  unfold bulkL
  rw [List.length_append, lineL_len, bytesOf_length, ByteArray.size_append]
  show 1 + _ + 2 + (_ + 2) ≤ _
  omega
theorem bulks_le : ∀ (l : List ByteArray), sumS l ≤ 70368744177664 → (bulks l).flatten.length ≤ sumS l + 60 * l.length
  | [], _ => by simp [bulks]
  | s :: r, h => by
    have e : sumS (s :: r) = s.size + sumS r := by simp [sumS]
    have ih := bulks_le r (by omega)
    have hb := bulkL_le s (by omega)
    rw [e]
    show (bulkL s ++ (bulks r).flatten).length ≤ _
    rw [List.length_append, List.length_cons]
    omega
theorem texts_ok (l : List ByteArray) (h : sumS l ≤ 1048576) (hn : l.length ≤ 1000) : (∀ s ∈ l, s.size ≤ 70368744177664) ∧ (bulks l).flatten.length ≤ 70368744177664 ∧ True ∧ True := by
  have h1 : ∀ s ∈ l, s.size ≤ 70368744177664 := fun s hs => by have := size_le hs; omega
  have h2 := bulks_le l (by omega)
  exact ⟨h1, by omega, trivial, trivial⟩
theorem lvS_ne {l : List ByteArray} (v : Value) (h : l ≠ []) : lvS l v = #[.int .u8 2, .string ⟨#[]⟩, v, nl, nl] := if_neg h
theorem do_popV (back : Bool) (a0 sx : ByteArray) (v : Value) (l args : List ByteArray) (B : Option Addr) (ac : Nat) (w : World) (hv : tR w v l) (hargs : tR w (.slice B args.length ac) args) (h1 : 1 ≤ args.length) (ha : args[0]? = some a0)
    (hz0 : a0.size ≤ 1000) (hlow : lowS a0 = popN back) (hs : l[popI back l]? = some sx) (hn : l.length ≤ 1000000) (hsx : sx.size ≤ 70368744177664) (hT : Tabs w) :
    Calls Tryz.prog 8 #[.agg (lvS l v), .slice B args.length ac] w (Pres (l.eraseIdx (popI back l)) (bulkL sx) w) := by
  have hl : l ≠ [] := fun h => by rw [h] at hs; simp at hs
  rw [lvS_ne v hl]
  exact do_pop back ⟨#[]⟩ a0 sx v nl nl l args B ac w hv hargs h1 ha hz0 hlow hs hn hsx hT
theorem do_popZ (back : Bool) (a0 : ByteArray) (v : Value) (args : List ByteArray) (B : Option Addr) (ac : Nat) (w : World) (hargs : tR w (.slice B args.length ac) args) (h1 : 1 ≤ args.length) (ha : args[0]? = some a0)
    (hz0 : a0.size ≤ 1000) (hlow : lowS a0 = popN back) (hT : Tabs w) :
    Calls Tryz.prog 8 #[.agg (lvS [] v), .slice B args.length ac] w (Dres (lvS [] v) (lineL ⟨#[36]⟩ ⟨#[45, 49]⟩) w) :=
  do_popnil back ⟨#[]⟩ a0 nl nl nl args B ac w (tR_nil w) hargs h1 ha hz0 hlow rfl rfl hT
theorem do_llenV (a0 : ByteArray) (v : Value) (l args : List ByteArray) (B : Option Addr) (ac : Nat) (w : World) (hv : tR w v l) (hargs : tR w (.slice B args.length ac) args) (h1 : 1 ≤ args.length) (ha : args[0]? = some a0)
    (hz0 : a0.size ≤ 1000) (hlow : lowS a0 = llenN) (hn : l.length ≤ 1000000) (hT : Tabs w) :
    Calls Tryz.prog 8 #[.agg (lvS l v), .slice B args.length ac] w (Dres (lvS l v) (lineL ⟨#[58]⟩ (numS (l.length : Int))) w) := by
  by_cases hl : l = []
  · subst hl
    exact do_llen 0 ⟨#[]⟩ a0 nl nl nl [] args B ac w (.inl rfl) (tR_nil w) hargs h1 ha hz0 hlow hn rfl rfl hT
  · rw [lvS_ne v hl]
    exact do_llen 2 ⟨#[]⟩ a0 v nl nl l args B ac w (.inr rfl) hv hargs h1 ha hz0 hlow hn rfl rfl hT
theorem do_lrangeV (f t : Int) (a0 fa fb : ByteArray) (v : Value) (l args : List ByteArray) (B : Option Addr) (ac a b : Nat) (w : World) (hv : tR w v l) (hargs : tR w (.slice B args.length ac) args) (h4 : 4 ≤ args.length) (ha : args[0]? = some a0) (hfa : args[2]? = some fa) (hfb : args[3]? = some fb)
    (hz0 : a0.size ≤ 1000) (hlow : lowS a0 = lrangeN) (hn : l.length ≤ 1000) (hpa : Dig.parseO fa = some f) (hpb : Dig.parseO fb = some t) (hf : Int64 f) (ht : Int64 t) (hza : fa.size ≤ 1000) (hzb : fb.size ≤ 1000) (hA : partA l.length f t = a) (hBB : partB l.length f t = b) (hab : a ≤ b) (hbl : b ≤ l.length)
    (hs : sumS l ≤ 1048576) (hT : Tabs w) :
    Calls Tryz.prog 8 #[.agg (lvS l v), .slice B args.length ac] w (Dres (lvS l v) (textsL ((l.take b).drop a)) w) := by
  have hlen : ((l.take b).drop a).length ≤ 1000 := by rw [List.length_drop, List.length_take]; omega
  obtain ⟨h1, h2, _, _⟩ := texts_ok ((l.take b).drop a) (Nat.le_trans (sumS_drop _ _) (Nat.le_trans (sumS_take _ _) hs)) hlen
  by_cases hl : l = []
  · subst hl
    exact do_lrange 0 f t ⟨#[]⟩ a0 fa fb nl nl nl [] args B ac a b w (.inl rfl) (tR_nil w) hargs h4 ha hfa hfb hz0 hlow (by simp) hpa hpb hf ht hza hzb hA hBB hab hbl h1 h2 rfl rfl hT
  · rw [lvS_ne v hl]
    exact do_lrange 2 f t ⟨#[]⟩ a0 fa fb v nl nl l args B ac a b w (.inr rfl) hv hargs h4 ha hfa hfb hz0 hlow (by omega) hpa hpb hf ht hza hzb hA hBB hab hbl h1 h2 rfl rfl hT
theorem do_pushV (ahead : Bool) (a0 : ByteArray) (v : Value) (l args : List ByteArray) (B : Option Addr) (ac : Nat) (w : World) (hv : tR w v l) (h1 : v.oneCell' = true) (hargs : tR w (.slice B args.length ac) args) (h2 : 2 ≤ args.length) (ha : args[0]? = some a0) (hz0 : a0.size ≤ 1000) (hlow : lowS a0 = pushN ahead)
    (hn : l.length + args.length ≤ 1000000) (hT : Tabs w) :
    Calls Tryz.prog 8 #[.agg (lvS l v), .slice B args.length ac] w (Pres (putL ahead l (args.drop 2)) (lineL ⟨#[58]⟩ (numS ((putL ahead l (args.drop 2)).length : Int))) w) := by
  by_cases hl : l = []
  · subst hl
    exact do_push ahead 0 ⟨#[]⟩ a0 nl nl nl [] args B ac w (.inl rfl) (tR_nil w) hargs h2 ha hz0 hlow hn hT
  · rw [show lvS l v = _ from if_neg hl]
    exact do_push ahead 2 ⟨#[]⟩ a0 v nl nl l args B ac w (.inr rfl) hv hargs h2 ha hz0 hlow hn hT
end Go.Proofs.Tryz.Ln
