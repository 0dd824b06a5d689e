import Derived.Test.YtnkjejmgpempkaaGreatDoorLs4
import Derived.Test.YtnkjejmgpempkaaGreatDoorRelN
/- What lists.Do tells of a list's part. -/
namespace Go.Proofs.Tryz.Ln
open Go Go.RowKit Go.Proofs.Mem Go.Proofs.App
open Go.Proofs.YtnkjejmgpempkaaGreatDoorW.PrintWords Go.Proofs.YtnkjejmgpempkaaGreatDoorW.PrintLast
open Go.Proofs.Rel (dsts depsOf)
set_option linter.unusedVariables false
set_option linter.unusedSimpArgs false
/-- a value and a reply: the value's cells, a fresh row -/
def Dres (v : Array Value) (r : List Int) (w : World) (e : Ending) (w' : World) : Prop := ∃ A n c, e = .returned (.tuple #[.agg v, .slice A n c]) ∧ Fresh .u8 w.heap.size w' A n c r ∧ Below w.heap.size w w'
theorem frP_of {g : Nat} {l : List Int} {w w' : World} {A : Option Addr} {c : Nat} (hf : Fresh .u8 w.heap.size w' A l.length c l) (hg : g < w.heap.size) : RelG.frP g l (.slice A l.length c) w' := ⟨A, _, c, _, rfl, hf, hg⟩
theorem call_fr {P : Program} {f : FuncId} {args : Array Value} {g : Nat} {oz o' : Obj} {t : Tmp} {l : List Int} {b : Act} {w : World} (h : Calls P f args w (Bytes_ l w)) (hg : g < w.heap.size) (ht : t < b.tmps.size) :
    Calls P f args w fun e w' => ∃ x, e = .returned x ∧ (RelG.fr g oz o' t l).r (RelG.get (b.put (some t) x)) w' ∧ (RelG.Stor g oz o').le w w' :=
  h.mono fun e w' ⟨A, c, he, hf, hb⟩ => ⟨_, he, by
    show RelG.frP g l (RelG.get (b.put (some t) _) t) w'
    rw [RelG.get_put b t _ ht]
    exact frP_of hf hg, (RelG.Stor g oz o').bel hb⟩
theorem stor_size {g : Nat} {oz o' : Obj} {w w' : World} (h : (RelG.Stor g oz o').le w w') : w.heap.size ≤ w'.heap.size := h.1.2.2.2
theorem dres_of {g : Nat} {oz o' : Obj} {v : Array Value} {r : List Int} {x : Value} {w w0 w' : World} (hb : Below w.heap.size w w0) (hle : (RelG.Stor g oz o').le w0 w') (hg : w.heap.size ≤ g) (hB : w.heap.size ≤ w0.heap.size) (hf : RelG.frP g r x w') : Dres v r w (.returned (.tuple #[.agg v, x])) w' := by
  obtain ⟨A, n, c, base, rfl, hf, hgb⟩ := hf
  exact ⟨A, n, c, rfl, hf.base (by omega), RelG.stor_below hb hle hg hB⟩
theorem cut3 (B : Option Addr) (n c a b : Nat) (ha : a ≤ b) (hb : b ≤ n) (hc : n ≤ c) : ∃ B', (∀ W : World, (Instr.slice 22 (.slice B n c) (some (.int .i64 a)) (some (.int .i64 b)) (some (.int .i64 b))).run Tryz.prog W = .ok (.slice B' (b - a) (b - a)) W) ∧ ∀ (w : World) (l : List ByteArray), ReadsOf Value.string ByteArray.empty w B n l → ReadsOf Value.string ByteArray.empty w B' (b - a) ((l.take b).drop a) := by
  obtain ⟨i0, hi, hzz⟩ := Option.map_eq_some_iff.1 infoS
  simp only [Prod.mk.injEq] at hzz
  obtain ⟨_, hz1, _⟩ := hzz
  have hu : Tryz.prog.underlying 22 = some (.slice 9) := Tryz.underlying22
  have hel : Tryz.prog.elem 22 = 9 := by simp [Program.elem, hu]
  refine ⟨if b = a then B else B.map (·.add a), fun W => ?_, fun w l h => (h.take_ b hb).drop_ a ha (Nat.le_refl b)⟩
  have hu2 : Tryz.prog.underlying 22 = some (.slice (Tryz.prog.elem 22)) := by rw [hel]; exact hu
  rw [run_slice_lhm W 22 B n c hu2 .i64 .i64 .i64 a b b (by omega) (by omega) (by omega) (by omega), hel]
  simp [sizeOf, typeInfo, hi, hz1, sliced, Result.andThen]
theorem run_cut3 {b : Act} {w : World} {o : Oper} {t t1 t2 t3 : Nat} {x lo hi mx v : Value} (ho : o.op = .slice 22 (.tmp t) (some (.tmp t1)) (some (.tmp t2)) (some (.tmp t3))) (h : b.eval (.tmp t) = x) (h1 : b.eval (.tmp t1) = lo) (h2 : b.eval (.tmp t2) = hi) (h3 : b.eval (.tmp t3) = mx)
    (hr : (Instr.slice 22 x (some lo) (some hi) (some mx)).run Tryz.prog w = .ok v w) : (execOp b.eval o).run Tryz.prog w = .ok (.value v) w := by
  have hu : Tryz.prog.underlying 22 = some (.slice 9) := Tryz.underlying22
  have hel : Tryz.prog.elem 22 = 9 := by simp [Program.elem, hu]
  have hs := run_sliceAt_slice (P := Tryz.prog) w 22 x (some lo) (some hi) (some mx) (by rw [hel]; exact hu)
  unfold execOp
  simp only [ho, Option.map_some, h, h1, h2, h3, Sem.run_bind, hs, hr]
  rfl
theorem one5 (k : Int) (s : ByteArray) (A : Option Addr) (n c : Nat) (H Z : Value) (hH : H.oneCell' = true) (hZ : Z.oneCell' = true) : (#[.int .u8 k, .string s, .slice A n c, H, Z] : Array Value).all (·.oneCell') = true := by
  have : ∀ y ∈ (#[.int .u8 k, .string s, .slice A n c, H, Z] : Array Value), y.oneCell' = true := by
    intro y hy
    simp at hy
    rcases hy with rfl | rfl | rfl | rfl | rfl
    · rfl
    · rfl
    · rfl
    · exact hH
    · exact hZ
  exact Array.all_eq_true_iff_forall_mem.2 this
def lrangeN : ByteArray := ⟨#[108, 114, 97, 110, 103, 101]⟩
set_option maxRecDepth 100000 in
set_option maxHeartbeats 8000000 in
theorem do_lrange (k f t : Int) (s a0 fa fb : ByteArray) (x H Z : Value) (l args : List ByteArray) (B : Option Addr) (ac a b : Nat) (w : World) (hk : k = 0 ∨ k = 2) (hx : tR w x l) (hargs : tR w (.slice B args.length ac) args) (h4 : 4 ≤ args.length) (ha : args[0]? = some a0) (hfa : args[2]? = some fa) (hfb : args[3]? = some fb)
    (hz0 : a0.size ≤ 1000) (hlow : lowS a0 = lrangeN) (hn : l.length ≤ 1000000) (hpa : Dig.parseO fa = some f) (hpb : Dig.parseO fb = some t) (hf : Int64 f) (ht : Int64 t) (hza : fa.size ≤ 1000) (hzb : fb.size ≤ 1000) (hA : partA l.length f t = a) (hBB : partB l.length f t = b) (hab : a ≤ b) (hbl : b ≤ l.length)
    (hs1 : ∀ s ∈ (l.take b).drop a, s.size ≤ 70368744177664) (hs2 : (bulks ((l.take b).drop a)).flatten.length ≤ 70368744177664) (hH : H.oneCell' = true) (hZ : Z.oneCell' = true) (hT : Tabs w) :
    Calls Tryz.prog 8 #[.agg #[.int .u8 k, .string s, x, H, Z], .slice B args.length ac] w (Dres #[.int .u8 k, .string s, x, H, Z] (textsL ((l.take b).drop a)) w) := by
  have hT' := veil hT
  obtain ⟨A1, c1, rfl, hlc, _, _, hTR⟩ := hx.ex
  obtain ⟨B3, hcut0, hread⟩ := cut3 A1 l.length c1 a b hab hbl hlc
  have hcut := veil hcut0
  obtain ⟨ad, rfl, hcell⟩ : ∃ ad, B = some ad ∧ ∀ j, j < args.length → w.cell? (ad.add j) = some (.string (args.getD j ByteArray.empty)) := by
    obtain ⟨A, c, e, _, _, _, h4'⟩ := hargs.ex
    injection e with e1 _ _
    subst e1
    exact h4'.2.2 (by omega)
  have cget : ∀ j y, args[j]? = some y → w.cell? (ad.add j) = some (.string y) := fun j y hj => by
    have h1 := hcell j (by exact (List.getElem?_eq_some_iff.1 hj).1)
    rw [List.getD_eq_getElem?_getD, hj, Option.getD_some] at h1
    exact h1
  have c0 : w.cell? ad = some (.string a0) := by simpa [Addr.add] using cget 0 a0 ha
  have ca := veil (cget 2 fa hfa)
  have cb := veil (cget 3 fb hfb)
  have had2 : (ad.add 2).block < w.heap.size := World.block_lt_of_cell? w _ ca.out
  have had3 : (ad.add 3).block < w.heap.size := World.block_lt_of_cell? w _ cb.out
  have hpart : Veil (∀ w', Tabs w' → Calls Tryz.prog 20 #[.int .i64 (l.length : Nat), .string fa, .string fb] w' fun e w'' => e = .returned (.tuple #[.int .i64 a, .int .i64 b, .bool true]) ∧ Below w'.heap.size w' w'') :=
    veil (fun w' h => by rw [← hA, ← hBB]; exact part_any l.length f t fa fb w' ⟨by omega, by omega⟩ hpa hpb hf ht (by omega) (by omega) h)
  obtain ⟨R, hR⟩ : ∃ R, textsL ((l.take b).drop a) = R := ⟨_, rfl⟩
  have htexts : Veil (∀ w', Below w.heap.size w w' → Calls Tryz.prog 21 #[.slice B3 (b - a) (b - a)] w' (Bytes_ R w')) :=
    veil (fun w' h => by rw [← hR]; exact Texts_any B3 (b - a) (b - a) _ w' ((hread w l hTR).below h) (Nat.le_refl _) (by omega) hs1 hs2 (tabs_below hT h).tab)
  rw [hR]
  have hone : Veil ((#[.int .u8 k, .string s, .slice A1 l.length c1, H, Z] : Array Value).all (·.oneCell') = true) := veil (one5 k s A1 _ c1 H Z hH hZ)
  obtain ⟨w2, hw2⟩ : ∃ w2 : World, w2 = (w.alloc (.cells #[.int .u8 k, .string s, .slice A1 l.length c1, H, Z] 26)).alloc (.cells #[.int .u8 0, .string ⟨#[]⟩, .slice none 0 0, .slice none 0 0, .slice none 0 0] 26) := ⟨_, rfl⟩
  have hsz2 : w2.heap.size = w.heap.size + 2 := by rw [hw2]; simp
  have hb2 : Below w.heap.size w w2 := by rw [hw2]; exact (below_alloc (Below.refl _ _) _).alloc (by simp) _
  have hx2 : w2.heap[w.heap.size]? = some (.cells #[.int .u8 k, .string s, .slice A1 l.length c1, H, Z] 26 (0, 0)) := by rw [hw2]; exact heap_alloc2_old w _ _
  have hz2 : w2.heap[w.heap.size + 1]? = some oZ := by
    rw [hw2]
    have := heap_alloc_last (w.alloc (.cells #[.int .u8 k, .string s, .slice A1 l.length c1, H, Z] 26)) (.cells #[.int .u8 0, .string ⟨#[]⟩, .slice none 0 0, .slice none 0 0, .slice none 0 0] 26)
    simpa [oZ, zS] using this
  have hadb : ad.block < w.heap.size := World.block_lt_of_cell? w _ c0
  have q0 : w2.cell? ad = some (.string a0) := (hb2.cell hadb).trans c0
  have q00 := q0
  rw [hw2] at q00
  have hB2 := veil hb2
  have hX2 := veil hx2
  have hZ2 := veil hz2
  have hw2' := veil hw2
  have hlow' : Veil (lowS a0 = ⟨#[108, 114, 97, 110, 103, 101]⟩) := veil hlow
  have l0 : (0 : Int) < args.length := by omega
  have l2 : (2 : Int) < args.length := by omega
  have l3 : (3 : Int) < args.length := by omega
  clear hT hx hargs hcut0 hread hcell cget c0 ha hfa hfb hpa hpb hA hBB hs1 hs2 hR hTR hw2 hb2 hx2 hz2 hlow hH hZ
  rcases hk with rfl | rfl
  · go_enter Tryz.func8, Tryz.ntmps8
    go_wp2_with fail
    rw [← hw2'.out]
    refine (low_any a0 w2 (by omega)).mono ?_
    rintro e w3 ⟨rfl, hb3⟩
    rw [hlow'.out]
    have hB3 := veil (two_below hB2.out hb3)
    have hX3 := veil ((hb3.block _ (by omega)).trans hX2.out)
    have hZ3 := veil ((hb3.block _ (by omega)).trans hZ2.out)
    have hs3 := hb3.size
    clear hb3 q0 q00
    have q1 := cell_of_row _ _ 0 _ _ _ hX3.out
    simp only [List.getElem?_toArray, List.getElem?_cons_zero] at q1
    have q2 : w3.cell? ⟨w.heap.size, 2, none⟩ = some (.slice A1 l.length c1) := by rw [cell_of_row _ _ _ _ _ _ hX3.out]; rfl
    have qa := (hB3.out.cell had2).trans ca.out
    have qb := (hB3.out.cell had3).trans cb.out
    go_wp2_with fail
    refine Rel.wp_region_rel (n := 95) [Rel.is (.pointer (some ⟨w.heap.size, 2, none⟩)), Rel.is (.slice A1 l.length c1), Rel.is (.int .i64 (l.length : Nat)), Rel.is (.slice (some ad) args.length ac), Rel.is (.pointer (some (ad.add 2))), Rel.is (.string fa), Rel.is (.slice (some ad) args.length ac), Rel.is (.pointer (some (ad.add 3))), Rel.is (.string fb), Rel.is (.tuple #[.int .i64 a, .int .i64 b, .bool true]), Rel.is (.tuple #[.int .i64 a, .int .i64 b, .bool true]), Rel.is (.int .i64 a), Rel.is (.int .i64 b), Rel.is (.bool true), Rel.is (.int .i64 a), Rel.is (.int .i64 b), Rel.is (.bool true)] (by kernel_rfl) (by rfl) (by kernel_rfl) ?_ ?_
    · refine Rel.steps_cons (Rel.step_run0 (n := 95) (t := 2) (v := .pointer (some ⟨w.heap.size, 0, none⟩)) rfl (.inl rfl) rfl (by kernel_rfl) (fun ρ w' hb h1 hk => by simp [execOp, h1, hk, go_sem, Addr.add]) rfl) ?_
      refine Rel.steps_cons (Rel.step_cell (n := 95) (j := 0) (t := 70) rfl (.inl rfl) rfl rfl rfl rfl Tryz.underlying22 (.inr (.inr (.inr ⟨_, rfl⟩))) q2 rfl) ?_
      refine Rel.steps_cons (Rel.step_run1 (n := 95) (j := 1) (t := 71) rfl (.inl rfl) rfl rfl rfl (fun ρ w' _ h1 hk => by simp [execOp, resolve, invoke, builtin, h1, hk, go_sem, Tryz.underlying22]) rfl) ?_
      refine Rel.steps_cons (Rel.step_wasB (n := 95) (t := 1) rfl (.inl rfl) (.inl rfl) rfl (by kernel_rfl) rfl) ?_
      refine Rel.steps_cons (Rel.step_run1 (n := 95) (j := 3) (t := 73) rfl (.inl rfl) rfl rfl rfl (fun ρ w' _ h1 hk => by simp [execOp, h1, hk, go_sem, l2]) rfl) ?_
      refine Rel.steps_cons (Rel.step_cell (n := 95) (j := 4) (t := 74) rfl (.inl rfl) rfl rfl rfl rfl Tryz.underlying9 (.inl rfl) qa rfl) ?_
      refine Rel.steps_cons (Rel.step_wasB (n := 95) (t := 1) rfl (.inl rfl) (.inl rfl) rfl (by kernel_rfl) rfl) ?_
      refine Rel.steps_cons (Rel.step_run1 (n := 95) (j := 6) (t := 76) rfl (.inl rfl) rfl rfl rfl (fun ρ w' _ h1 hk => by simp [execOp, h1, hk, go_sem, l3]) rfl) ?_
      refine Rel.steps_cons (Rel.step_cell (n := 95) (j := 7) (t := 77) rfl (.inl rfl) rfl rfl rfl rfl Tryz.underlying9 (.inl rfl) qb rfl) ?_
      refine Rel.steps_cons (Rel.step_callB (n := 95) rfl (.inl rfl) Tryz.func20 (by kernel_rfl) rfl #[.int .i64 (l.length : Nat), .string fa, .string fb] rfl (fun b w D => by simp only [List.map_toArray, List.map_cons, List.map_nil, show b.eval (.tmp 72) = .int .i64 (l.length : Nat) from D.is 2 72 rfl rfl rfl, show b.eval (.tmp 75) = .string fa from D.is 5 75 rfl rfl rfl, show b.eval (.tmp 78) = .string fb from D.is 8 78 rfl rfl rfl]) (fun w' hb => (hpart.out w' (tabs_below hT'.out (two_below hB3.out hb))).mono fun e w'' h => ⟨_, h.1, rfl, h.2⟩)) ?_
      refine Rel.steps_cons (Rel.step_passB (n := 95) (j := 9) (t := 79) rfl (.inl rfl) (.inl rfl) rfl rfl rfl rfl) ?_
      refine Rel.steps_cons (Rel.step_run1 (n := 95) (j := 10) (t := 69) rfl (.inl rfl) rfl rfl rfl (fun ρ w' _ h1 hk => by simp [execOp, h1, hk, go_sem]) rfl) ?_
      refine Rel.steps_cons (Rel.step_run1 (n := 95) (j := 10) (t := 69) rfl (.inl rfl) rfl rfl rfl (fun ρ w' _ h1 hk => by simp [execOp, h1, hk, go_sem]) rfl) ?_
      refine Rel.steps_cons (Rel.step_run1 (n := 95) (j := 10) (t := 69) rfl (.inl rfl) rfl rfl rfl (fun ρ w' _ h1 hk => by simp [execOp, h1, hk, go_sem]) rfl) ?_
      refine Rel.steps_cons (Rel.step_passB (n := 95) (j := 11) (t := 80) rfl (.inl rfl) (.inr rfl) rfl rfl rfl rfl) ?_
      refine Rel.steps_cons (Rel.step_passB (n := 95) (j := 12) (t := 81) rfl (.inl rfl) (.inr rfl) rfl rfl rfl rfl) ?_
      refine Rel.steps_cons (Rel.step_passB (n := 95) (j := 13) (t := 82) rfl (.inl rfl) (.inr rfl) rfl rfl rfl rfl) ?_
      exact trivial
    intro v w4 hv hb4
    have e9 : v 9 = .tuple #[.int .i64 a, .int .i64 b, .bool true] := hv 9 (by decide)
    have e14 : v 14 = .int .i64 a := hv 14 (by decide)
    have e15 : v 15 = .int .i64 b := hv 15 (by decide)
    have e16 : v 16 = .bool true := hv 16 (by decide)
    have hB4 := veil (two_below hB3.out hb4)
    have hX4 := veil ((hb4.block _ (by omega)).trans hX3.out)
    have hZ4 := veil ((hb4.block _ (by omega)).trans hZ3.out)
    have hs4 := hb4.size
    simp only [Rel.fill, Act.put, List.setIfInBounds_toArray, List.set_cons_zero, List.set_cons_succ]
    rw [e14, e15, e16]
    clear hb4 hv e9 e14 e15 e16 q1 q2 qa qb hX3 hZ3 hB3
    go_wp2_with fail
    refine RelG.wp_region_rel2 (G := (RelG.Stor (w.heap.size + 1) (.cells zS tV (0, 0)) (.cells #[.int .u8 0, .string s, .slice A1 l.length c1, H, Z] tV (0, 0)))) (n := 95) [RelG.is _ 87 (.agg #[.int .u8 0, .string s, .slice A1 l.length c1, H, Z]), RelG.is _ 88 (.pointer (some ⟨w.heap.size, 2, none⟩)), RelG.is _ 89 (.slice A1 l.length c1), RelG.is _ 90 (.int .i64 a), RelG.is _ 91 (.int .i64 b), RelG.is _ 92 (.int .i64 b), RelG.is _ 93 (.slice B3 (b - a) (b - a)), RelG.fr _ _ _ 94 R, RelG.put _ _ _, RelG.fr _ _ _ 5 R] [[87], [88], [89], [90], [91], [92], [93], [94], [], [5]] (by kernel_rfl) rfl rfl (by kernel_rfl) ?_ ?_
    · refine RelG.steps_cons (RelG.step_load (n := 95) (t := 2) (u := 87) (b := w.heap.size) (t' := tV) (cs := #[.int .u8 0, .string s, .slice A1 l.length c1, H, Z]) (fr := (0, 0)) rfl rfl rfl rfl (by decide) (by kernel_rfl) (by kernel_rfl) Tryz.underlying26 rfl (info5x _ _ _ _ _) (fun w' hle => RelG.stor_other hle (by omega) hX4.out) rfl) ?_
      refine RelG.steps_cons (RelG.step_run0 (n := 95) (t := 2) (u := 88) (v := .pointer (some ⟨w.heap.size, 0, none⟩)) rfl rfl rfl (by decide) (by kernel_rfl) (by kernel_rfl) (fun ρ w' hle h _ => by simp [execOp, h, go_sem, Addr.add]) rfl) ?_
      refine RelG.steps_cons (RelG.step_run (n := 95) (j := 1) (t := 88) (u := 89) (v := .pointer (some ⟨w.heap.size, 2, none⟩)) rfl rfl rfl (by decide) rfl rfl (fun ρ w' hle h _ => by
          have c : w'.cell? ⟨w.heap.size, 2, none⟩ = some (.slice A1 l.length c1) := by rw [cell_of_row _ _ _ _ _ _ (RelG.stor_other hle (by omega) hX4.out)]; rfl
          simp [execOp, h, go_sem, c]) rfl) ?_
      refine RelG.steps_cons (RelG.step_was (n := 95) (t := 7) (u := 90) rfl rfl rfl rfl (by decide) (by kernel_rfl) (by kernel_rfl) rfl) ?_
      refine RelG.steps_cons (RelG.step_was (n := 95) (t := 8) (u := 91) rfl rfl rfl rfl (by decide) (by kernel_rfl) (by kernel_rfl) rfl) ?_
      refine RelG.steps_cons (RelG.step_was (n := 95) (t := 8) (u := 92) rfl rfl rfl rfl (by decide) (by kernel_rfl) (by kernel_rfl) rfl) ?_
      refine RelG.steps_cons (RelG.step_val rfl fun b' w' D => ⟨.slice B3 (b - a) (b - a), run_cut3 rfl (D.is 2 rfl rfl) (D.is 3 rfl rfl) (D.is 4 rfl rfl) (D.is 5 rfl rfl) (hcut.out w'), RelG.get_put b' 93 _ (by rw [D.siz]; exact (by decide : 93 < 95))⟩) ?_
      refine RelG.steps_cons (RelG.step_call rfl Tryz.func21 (by kernel_rfl) rfl #[.slice B3 (b - a) (b - a)] rfl (fun b' w' D => by simp only [List.map_toArray, List.map_cons, List.map_nil, D.is 6 rfl rfl]) (fun b' w' D => call_fr (htexts.out w' (by have := D.bel.1.2.2.2; exact RelG.stor_below hB4.out D.bel (by omega) (by omega))) (by have := stor_size D.bel; omega) (by rw [D.siz]; exact (by decide : 94 < 95)))) ?_
      refine RelG.steps_cons (RelG.step_store (j := 0) (t := 4) (u := 87) rfl rfl rfl (by kernel_rfl) (by kernel_rfl) rfl rfl ⟨zS, rfl, rfl⟩ hZ4.out (info5x _ _ _ _ _) hone.out rfl) ?_
      refine RelG.steps_cons (RelG.step_pass_of (n := 95) (j := 7) (t := 94) (u := 5) (p := RelG.frP (w.heap.size + 1) R) (hp := fun x w w' h hle => RelG.frP_sta _ x w w' h hle) rfl rfl (.inr rfl) rfl (by decide) rfl rfl rfl) ?_
      exact trivial
    intro v e w9 hg hv hle
    have k5 : e 5 = v 9 := hg 9 5 rfl
    have h2 : w9.heap[w.heap.size + 1]? = some (.cells #[.int .u8 0, .string s, .slice A1 l.length c1, H, Z] tV (0, 0)) := hv 8 (by decide)
    have h3 : RelG.frP (w.heap.size + 1) R (e 5) w9 := hv 9 (by decide)
    rw [k5] at h3
    simp only [Rel.fill, Act.put, List.setIfInBounds_toArray, List.set_cons_zero, List.set_cons_succ]
    have hD := veil (dres_of (v := #[.int .u8 0, .string s, .slice A1 l.length c1, H, Z]) hB4.out hle (by omega) (by omega) h3)
    have h2' := veil h2
    clear hg hv hle h3 h2 k5
    go_wp2_with fail
    refine bodyPost_ret (v := .tuple #[.agg #[.int .u8 0, .string s, .slice A1 l.length c1, H, Z], v 9]) ?_ rfl hD.out
    exact RelG.results_cell_tmp (p := 4) (q := 5) (ty := 26) Tryz.results8 _ _ (w.heap.size + 1) tV #[.int .u8 0, .string s, .slice A1 l.length c1, H, Z] (0, 0) _ _ rfl rfl h2'.out Tryz.underlying26 rfl (info5x _ _ _ _ _)
  · go_enter Tryz.func8, Tryz.ntmps8
    go_wp2_with fail
    rw [← hw2'.out]
    refine (low_any a0 w2 (by omega)).mono ?_
    rintro e w3 ⟨rfl, hb3⟩
    rw [hlow'.out]
    have hB3 := veil (two_below hB2.out hb3)
    have hX3 := veil ((hb3.block _ (by omega)).trans hX2.out)
    have hZ3 := veil ((hb3.block _ (by omega)).trans hZ2.out)
    have hs3 := hb3.size
    clear hb3 q0 q00
    have q1 := cell_of_row _ _ 0 _ _ _ hX3.out
    simp only [List.getElem?_toArray, List.getElem?_cons_zero] at q1
    have q2 : w3.cell? ⟨w.heap.size, 2, none⟩ = some (.slice A1 l.length c1) := by rw [cell_of_row _ _ _ _ _ _ hX3.out]; rfl
    have qa := (hB3.out.cell had2).trans ca.out
    have qb := (hB3.out.cell had3).trans cb.out
    go_wp2_with fail
    refine Rel.wp_region_rel (n := 95) [Rel.is (.pointer (some ⟨w.heap.size, 2, none⟩)), Rel.is (.slice A1 l.length c1), Rel.is (.int .i64 (l.length : Nat)), Rel.is (.slice (some ad) args.length ac), Rel.is (.pointer (some (ad.add 2))), Rel.is (.string fa), Rel.is (.slice (some ad) args.length ac), Rel.is (.pointer (some (ad.add 3))), Rel.is (.string fb), Rel.is (.tuple #[.int .i64 a, .int .i64 b, .bool true]), Rel.is (.tuple #[.int .i64 a, .int .i64 b, .bool true]), Rel.is (.int .i64 a), Rel.is (.int .i64 b), Rel.is (.bool true), Rel.is (.int .i64 a), Rel.is (.int .i64 b), Rel.is (.bool true)] (by kernel_rfl) (by rfl) (by kernel_rfl) ?_ ?_
    · refine Rel.steps_cons (Rel.step_run0 (n := 95) (t := 2) (v := .pointer (some ⟨w.heap.size, 0, none⟩)) rfl (.inl rfl) rfl (by kernel_rfl) (fun ρ w' hb h1 hk => by simp [execOp, h1, hk, go_sem, Addr.add]) rfl) ?_
      refine Rel.steps_cons (Rel.step_cell (n := 95) (j := 0) (t := 70) rfl (.inl rfl) rfl rfl rfl rfl Tryz.underlying22 (.inr (.inr (.inr ⟨_, rfl⟩))) q2 rfl) ?_
      refine Rel.steps_cons (Rel.step_run1 (n := 95) (j := 1) (t := 71) rfl (.inl rfl) rfl rfl rfl (fun ρ w' _ h1 hk => by simp [execOp, resolve, invoke, builtin, h1, hk, go_sem, Tryz.underlying22]) rfl) ?_
      refine Rel.steps_cons (Rel.step_wasB (n := 95) (t := 1) rfl (.inl rfl) (.inl rfl) rfl (by kernel_rfl) rfl) ?_
      refine Rel.steps_cons (Rel.step_run1 (n := 95) (j := 3) (t := 73) rfl (.inl rfl) rfl rfl rfl (fun ρ w' _ h1 hk => by simp [execOp, h1, hk, go_sem, l2]) rfl) ?_
      refine Rel.steps_cons (Rel.step_cell (n := 95) (j := 4) (t := 74) rfl (.inl rfl) rfl rfl rfl rfl Tryz.underlying9 (.inl rfl) qa rfl) ?_
      refine Rel.steps_cons (Rel.step_wasB (n := 95) (t := 1) rfl (.inl rfl) (.inl rfl) rfl (by kernel_rfl) rfl) ?_
      refine Rel.steps_cons (Rel.step_run1 (n := 95) (j := 6) (t := 76) rfl (.inl rfl) rfl rfl rfl (fun ρ w' _ h1 hk => by simp [execOp, h1, hk, go_sem, l3]) rfl) ?_
      refine Rel.steps_cons (Rel.step_cell (n := 95) (j := 7) (t := 77) rfl (.inl rfl) rfl rfl rfl rfl Tryz.underlying9 (.inl rfl) qb rfl) ?_
      refine Rel.steps_cons (Rel.step_callB (n := 95) rfl (.inl rfl) Tryz.func20 (by kernel_rfl) rfl #[.int .i64 (l.length : Nat), .string fa, .string fb] rfl (fun b w D => by simp only [List.map_toArray, List.map_cons, List.map_nil, show b.eval (.tmp 72) = .int .i64 (l.length : Nat) from D.is 2 72 rfl rfl rfl, show b.eval (.tmp 75) = .string fa from D.is 5 75 rfl rfl rfl, show b.eval (.tmp 78) = .string fb from D.is 8 78 rfl rfl rfl]) (fun w' hb => (hpart.out w' (tabs_below hT'.out (two_below hB3.out hb))).mono fun e w'' h => ⟨_, h.1, rfl, h.2⟩)) ?_
      refine Rel.steps_cons (Rel.step_passB (n := 95) (j := 9) (t := 79) rfl (.inl rfl) (.inl rfl) rfl rfl rfl rfl) ?_
      refine Rel.steps_cons (Rel.step_run1 (n := 95) (j := 10) (t := 69) rfl (.inl rfl) rfl rfl rfl (fun ρ w' _ h1 hk => by simp [execOp, h1, hk, go_sem]) rfl) ?_
      refine Rel.steps_cons (Rel.step_run1 (n := 95) (j := 10) (t := 69) rfl (.inl rfl) rfl rfl rfl (fun ρ w' _ h1 hk => by simp [execOp, h1, hk, go_sem]) rfl) ?_
      refine Rel.steps_cons (Rel.step_run1 (n := 95) (j := 10) (t := 69) rfl (.inl rfl) rfl rfl rfl (fun ρ w' _ h1 hk => by simp [execOp, h1, hk, go_sem]) rfl) ?_
      refine Rel.steps_cons (Rel.step_passB (n := 95) (j := 11) (t := 80) rfl (.inl rfl) (.inr rfl) rfl rfl rfl rfl) ?_
      refine Rel.steps_cons (Rel.step_passB (n := 95) (j := 12) (t := 81) rfl (.inl rfl) (.inr rfl) rfl rfl rfl rfl) ?_
      refine Rel.steps_cons (Rel.step_passB (n := 95) (j := 13) (t := 82) rfl (.inl rfl) (.inr rfl) rfl rfl rfl rfl) ?_
      exact trivial
    intro v w4 hv hb4
    have e9 : v 9 = .tuple #[.int .i64 a, .int .i64 b, .bool true] := hv 9 (by decide)
    have e14 : v 14 = .int .i64 a := hv 14 (by decide)
    have e15 : v 15 = .int .i64 b := hv 15 (by decide)
    have e16 : v 16 = .bool true := hv 16 (by decide)
    have hB4 := veil (two_below hB3.out hb4)
    have hX4 := veil ((hb4.block _ (by omega)).trans hX3.out)
    have hZ4 := veil ((hb4.block _ (by omega)).trans hZ3.out)
    have hs4 := hb4.size
    simp only [Rel.fill, Act.put, List.setIfInBounds_toArray, List.set_cons_zero, List.set_cons_succ]
    rw [e14, e15, e16]
    clear hb4 hv e9 e14 e15 e16 q1 q2 qa qb hX3 hZ3 hB3
    go_wp2_with fail
    refine RelG.wp_region_rel2 (G := (RelG.Stor (w.heap.size + 1) (.cells zS tV (0, 0)) (.cells #[.int .u8 2, .string s, .slice A1 l.length c1, H, Z] tV (0, 0)))) (n := 95) [RelG.is _ 87 (.agg #[.int .u8 2, .string s, .slice A1 l.length c1, H, Z]), RelG.is _ 88 (.pointer (some ⟨w.heap.size, 2, none⟩)), RelG.is _ 89 (.slice A1 l.length c1), RelG.is _ 90 (.int .i64 a), RelG.is _ 91 (.int .i64 b), RelG.is _ 92 (.int .i64 b), RelG.is _ 93 (.slice B3 (b - a) (b - a)), RelG.fr _ _ _ 94 R, RelG.put _ _ _, RelG.fr _ _ _ 5 R] [[87], [88], [89], [90], [91], [92], [93], [94], [], [5]] (by kernel_rfl) rfl rfl (by kernel_rfl) ?_ ?_
    · refine RelG.steps_cons (RelG.step_load (n := 95) (t := 2) (u := 87) (b := w.heap.size) (t' := tV) (cs := #[.int .u8 2, .string s, .slice A1 l.length c1, H, Z]) (fr := (0, 0)) rfl rfl rfl rfl (by decide) (by kernel_rfl) (by kernel_rfl) Tryz.underlying26 rfl (info5x _ _ _ _ _) (fun w' hle => RelG.stor_other hle (by omega) hX4.out) rfl) ?_
      refine RelG.steps_cons (RelG.step_run0 (n := 95) (t := 2) (u := 88) (v := .pointer (some ⟨w.heap.size, 0, none⟩)) rfl rfl rfl (by decide) (by kernel_rfl) (by kernel_rfl) (fun ρ w' hle h _ => by simp [execOp, h, go_sem, Addr.add]) rfl) ?_
      refine RelG.steps_cons (RelG.step_run (n := 95) (j := 1) (t := 88) (u := 89) (v := .pointer (some ⟨w.heap.size, 2, none⟩)) rfl rfl rfl (by decide) rfl rfl (fun ρ w' hle h _ => by
          have c : w'.cell? ⟨w.heap.size, 2, none⟩ = some (.slice A1 l.length c1) := by rw [cell_of_row _ _ _ _ _ _ (RelG.stor_other hle (by omega) hX4.out)]; rfl
          simp [execOp, h, go_sem, c]) rfl) ?_
      refine RelG.steps_cons (RelG.step_was (n := 95) (t := 7) (u := 90) rfl rfl rfl rfl (by decide) (by kernel_rfl) (by kernel_rfl) rfl) ?_
      refine RelG.steps_cons (RelG.step_was (n := 95) (t := 8) (u := 91) rfl rfl rfl rfl (by decide) (by kernel_rfl) (by kernel_rfl) rfl) ?_
      refine RelG.steps_cons (RelG.step_was (n := 95) (t := 8) (u := 92) rfl rfl rfl rfl (by decide) (by kernel_rfl) (by kernel_rfl) rfl) ?_
      refine RelG.steps_cons (RelG.step_val rfl fun b' w' D => ⟨.slice B3 (b - a) (b - a), run_cut3 rfl (D.is 2 rfl rfl) (D.is 3 rfl rfl) (D.is 4 rfl rfl) (D.is 5 rfl rfl) (hcut.out w'), RelG.get_put b' 93 _ (by rw [D.siz]; exact (by decide : 93 < 95))⟩) ?_
      refine RelG.steps_cons (RelG.step_call rfl Tryz.func21 (by kernel_rfl) rfl #[.slice B3 (b - a) (b - a)] rfl (fun b' w' D => by simp only [List.map_toArray, List.map_cons, List.map_nil, D.is 6 rfl rfl]) (fun b' w' D => call_fr (htexts.out w' (by have := D.bel.1.2.2.2; exact RelG.stor_below hB4.out D.bel (by omega) (by omega))) (by have := stor_size D.bel; omega) (by rw [D.siz]; exact (by decide : 94 < 95)))) ?_
      refine RelG.steps_cons (RelG.step_store (j := 0) (t := 4) (u := 87) rfl rfl rfl (by kernel_rfl) (by kernel_rfl) rfl rfl ⟨zS, rfl, rfl⟩ hZ4.out (info5x _ _ _ _ _) hone.out rfl) ?_
      refine RelG.steps_cons (RelG.step_pass_of (n := 95) (j := 7) (t := 94) (u := 5) (p := RelG.frP (w.heap.size + 1) R) (hp := fun x w w' h hle => RelG.frP_sta _ x w w' h hle) rfl rfl (.inr rfl) rfl (by decide) rfl rfl rfl) ?_
      exact trivial
    intro v e w9 hg hv hle
    have k5 : e 5 = v 9 := hg 9 5 rfl
    have h2 : w9.heap[w.heap.size + 1]? = some (.cells #[.int .u8 2, .string s, .slice A1 l.length c1, H, Z] tV (0, 0)) := hv 8 (by decide)
    have h3 : RelG.frP (w.heap.size + 1) R (e 5) w9 := hv 9 (by decide)
    rw [k5] at h3
    simp only [Rel.fill, Act.put, List.setIfInBounds_toArray, List.set_cons_zero, List.set_cons_succ]
    have hD := veil (dres_of (v := #[.int .u8 2, .string s, .slice A1 l.length c1, H, Z]) hB4.out hle (by omega) (by omega) h3)
    have h2' := veil h2
    clear hg hv hle h3 h2 k5
    go_wp2_with fail
    refine bodyPost_ret (v := .tuple #[.agg #[.int .u8 2, .string s, .slice A1 l.length c1, H, Z], v 9]) ?_ rfl hD.out
    exact RelG.results_cell_tmp (p := 4) (q := 5) (ty := 26) Tryz.results8 _ _ (w.heap.size + 1) tV #[.int .u8 2, .string s, .slice A1 l.length c1, H, Z] (0, 0) _ _ rfl rfl h2'.out Tryz.underlying26 rfl (info5x _ _ _ _ _)
end Go.Proofs.Tryz.Ln
/- The examples of layer 12. -/
namespace Go.Proofs.Tryz.Ln
open Go Go.RowKit Go.Proofs.Mem Go.Proofs.App
open Go.Proofs.YtnkjejmgpempkaaGreatDoorW.PrintWords
set_option linter.unusedVariables false
set_option linter.unusedSimpArgs false
theorem str_of {w : World} {A : Option Addr} {n c : Nat} {l : List Int} (h : ReadsInt w .u8 A n l) : (convert 29 9 (.slice A n c)).run Tryz.prog w = .ok (.string (strOfNums l)) w :=
  string_of_reads Tryz.underlying29 Tryz.underlying5 Tryz.underlying9 h
/-- a row of texts, as it is written out -/
theorem tR_lit {w : World} {g : Nat} (l : List ByteArray) (n : Nat) (hn : n = l.length) (h : w.heap[g]? = some (.cells (l.map Value.string).toArray 9 (0, 0))) (hl : l.length ≤ 1000000) : tR w (.slice (some ⟨g, 0, none⟩) n n) l := by
  subst hn
  refine ⟨some ⟨g, 0, none⟩, l.length, rfl, Nat.le_refl _, by omega, fun ad h => ?_, rfl, by omega, fun _ => ⟨_, rfl, fun j hj => ?_⟩⟩
  · injection h with h; rw [← h]
  · rw [add_off, cell_of_row _ _ _ _ _ _ h]
    simp [List.getD_eq_getElem?_getD, hj]
theorem low_lpush : lowS ⟨#[108, 112, 117, 115, 104]⟩ = pushN true := by decide +kernel
theorem low_rpush : lowS ⟨#[114, 112, 117, 115, 104]⟩ = pushN false := by decide +kernel
theorem low_lrange : lowS ⟨#[108, 114, 97, 110, 103, 101]⟩ = lrangeN := by decide +kernel
set_option maxRecDepth 100000 in
set_option maxHeartbeats 8000000 in
theorem shown12_any (w : World) (hT : Tabs w) : Calls Tryz.prog 4 #[] w fun e w' => e = .returned (.bool true) ∧ Below w.heap.size w w' := by
  have hT' := veil hT
  obtain ⟨w2, hw2⟩ : ∃ w2 : World, w2 = (w.alloc (.cells #[.string ⟨#[97]⟩] 9)).alloc (.cells #[.string ⟨#[108, 112, 117, 115, 104]⟩, .string ⟨#[107]⟩, .string ⟨#[98]⟩, .string ⟨#[99]⟩] 9) := ⟨_, rfl⟩
  have hsz2 : w2.heap.size = w.heap.size + 2 := by rw [hw2]; simp
  have hb2 : Below w.heap.size w w2 := by rw [hw2]; exact (below_alloc (Below.refl _ _) _).alloc (by simp) _
  have hx2 : w2.heap[w.heap.size]? = some (.cells #[.string ⟨#[97]⟩] 9 (0, 0)) := by rw [hw2]; exact heap_alloc2_old w _ _
  have hc2 : w2.heap[w.heap.size + 1]? = some (.cells #[.string ⟨#[108, 112, 117, 115, 104]⟩, .string ⟨#[107]⟩, .string ⟨#[98]⟩, .string ⟨#[99]⟩] 9 (0, 0)) := by
    rw [hw2]
    have := heap_alloc_last (w.alloc (.cells #[.string ⟨#[97]⟩] 9)) (.cells #[.string ⟨#[108, 112, 117, 115, 104]⟩, .string ⟨#[107]⟩, .string ⟨#[98]⟩, .string ⟨#[99]⟩] 9)
    simpa using this
  have hB2 := veil hb2
  have hw2' := veil hw2
  have h1 := do_push true 2 ⟨#[]⟩ ⟨#[108, 112, 117, 115, 104]⟩ (.slice (some ⟨w.heap.size, 0, none⟩) 1 1) nl nl [⟨#[97]⟩] [⟨#[108, 112, 117, 115, 104]⟩, ⟨#[107]⟩, ⟨#[98]⟩, ⟨#[99]⟩] (some ⟨w.heap.size + 1, 0, none⟩) 4 w2 (.inr rfl) (tR_lit [⟨#[97]⟩] 1 rfl hx2 (by decide)) (tR_lit [⟨#[108, 112, 117, 115, 104]⟩, ⟨#[107]⟩, ⟨#[98]⟩, ⟨#[99]⟩] 4 rfl hc2 (by decide)) (by decide) rfl (by decide) low_lpush (by decide) (tabs_below hT hb2)
  have h1' := veil h1
  clear hT hw2 hb2 hx2 hc2 h1
  go_enter Tryz.func4, Tryz.ntmps4
  go_wp2_with fail
  rw [← hw2'.out]
  refine h1'.out.mono ?_
  rintro e w3 ⟨v, A1, n1, m1, rfl, ho1, hf1, hb3⟩
  have e1 : putL true [⟨#[97]⟩] (List.drop 2 [⟨#[108, 112, 117, 115, 104]⟩, ⟨#[107]⟩, ⟨#[98]⟩, ⟨#[99]⟩]) = [⟨#[99]⟩, ⟨#[98]⟩, ⟨#[97]⟩] := rfl
  rw [e1] at ho1 hf1 ⊢
  obtain ⟨Av, cv, rfl, hv1, _, hsp, hv2⟩ := (tR_own ho1).ex
  have hB3 := veil (two_below hB2.out hb3)
  have hv2' := veil hv2
  have hsp' := veil hsp
  have hr1 := veil (hf1.reads (by have := hf1.len; have h2 : (lineL ⟨#[58]⟩ (numS (([⟨#[99]⟩, ⟨#[98]⟩, ⟨#[97]⟩] : List ByteArray).length : Int))).length = 4 := by decide +kernel
                                  omega))
  rw [show lvS [⟨#[99]⟩, ⟨#[98]⟩, ⟨#[97]⟩] (.slice Av ([⟨#[99]⟩, ⟨#[98]⟩, ⟨#[97]⟩] : List ByteArray).length cv) = #[.int .u8 2, .string ⟨#[]⟩, .slice Av 3 cv, nl, nl] from if_neg (by simp)]
  have hs3 := hb3.size
  clear ho1 hf1 hb3 h1' e1 hv2 hsp
  go_wp2_with fail
  obtain ⟨w4, hw4⟩ : ∃ w4 : World, w4 = ((w3.alloc (.cells #[.int .u8 2, .string ⟨#[]⟩, .slice Av 3 cv, .slice none 0 0, .slice none 0 0] 26)).alloc (.cells #[.string ⟨#[97]⟩, .string ⟨#[98]⟩, .string ⟨#[99]⟩] 9)).alloc (.cells #[.string ⟨#[108, 114, 97, 110, 103, 101]⟩, .string ⟨#[107]⟩, .string ⟨#[45, 50]⟩, .string ⟨#[57]⟩] 9) := ⟨_, rfl⟩
  have hsz4 : w4.heap.size = w3.heap.size + 3 := by rw [hw4]; simp
  have hb4 : Below w3.heap.size w3 w4 := by rw [hw4]; exact ((below_alloc (Below.refl _ _) _).alloc (by simp) _).alloc (by simp; omega) _
  have hx4 : w4.heap[w3.heap.size]? = some (.cells #[.int .u8 2, .string ⟨#[]⟩, .slice Av 3 cv, .slice none 0 0, .slice none 0 0] 26 (0, 0)) := by rw [hw4]; exact ((below_alloc (Below.refl _ _) _).block _ (by simp; omega)).trans (heap_alloc2_old w3 _ _)
  have hr4 : w4.heap[w3.heap.size + 1]? = some (.cells #[.string ⟨#[97]⟩, .string ⟨#[98]⟩, .string ⟨#[99]⟩] 9 (0, 0)) := by rw [hw4]; have h := heap_alloc2_old (w3.alloc (.cells #[.int .u8 2, .string ⟨#[]⟩, .slice Av 3 cv, .slice none 0 0, .slice none 0 0] 26)) (.cells #[.string ⟨#[97]⟩, .string ⟨#[98]⟩, .string ⟨#[99]⟩] 9) (.cells #[.string ⟨#[108, 114, 97, 110, 103, 101]⟩, .string ⟨#[107]⟩, .string ⟨#[45, 50]⟩, .string ⟨#[57]⟩] 9); rw [show (w3.alloc (.cells #[.int .u8 2, .string ⟨#[]⟩, .slice Av 3 cv, .slice none 0 0, .slice none 0 0] 26)).heap.size = w3.heap.size + 1 by simp] at h; exact h
  have hg4 : w4.heap[w3.heap.size + 1 + 1]? = some (.cells #[.string ⟨#[108, 114, 97, 110, 103, 101]⟩, .string ⟨#[107]⟩, .string ⟨#[45, 50]⟩, .string ⟨#[57]⟩] 9 (0, 0)) := by rw [hw4]; have h := heap_alloc_last ((w3.alloc (.cells #[.int .u8 2, .string ⟨#[]⟩, .slice Av 3 cv, .slice none 0 0, .slice none 0 0] 26)).alloc (.cells #[.string ⟨#[97]⟩, .string ⟨#[98]⟩, .string ⟨#[99]⟩] 9)) (.cells #[.string ⟨#[108, 114, 97, 110, 103, 101]⟩, .string ⟨#[107]⟩, .string ⟨#[45, 50]⟩, .string ⟨#[57]⟩] 9); rw [show ((w3.alloc (.cells #[.int .u8 2, .string ⟨#[]⟩, .slice Av 3 cv, .slice none 0 0, .slice none 0 0] 26)).alloc (.cells #[.string ⟨#[97]⟩, .string ⟨#[98]⟩, .string ⟨#[99]⟩] 9)).heap.size = w3.heap.size + 1 + 1 by simp] at h; exact h
  have hB4 := veil (two_below hB3.out hb4)
  have h2 := do_lrange 2 (-2) 9 ⟨#[]⟩ ⟨#[108, 114, 97, 110, 103, 101]⟩ ⟨#[45, 50]⟩ ⟨#[57]⟩ (.slice (some ⟨w3.heap.size + 1, 0, none⟩) 3 3) nl nl [⟨#[97]⟩, ⟨#[98]⟩, ⟨#[99]⟩] [⟨#[108, 114, 97, 110, 103, 101]⟩, ⟨#[107]⟩, ⟨#[45, 50]⟩, ⟨#[57]⟩] (some ⟨w3.heap.size + 1 + 1, 0, none⟩) 4 1 3 w4 (.inr rfl) (tR_lit [⟨#[97]⟩, ⟨#[98]⟩, ⟨#[99]⟩] 3 rfl hr4 (by decide)) (tR_lit [⟨#[108, 114, 97, 110, 103, 101]⟩, ⟨#[107]⟩, ⟨#[45, 50]⟩, ⟨#[57]⟩] 4 rfl hg4 (by decide)) (by decide) rfl rfl rfl (by decide) low_lrange (by decide) (by decide +kernel) (by decide +kernel) (by decide) (by decide) (by decide) (by decide) (by decide) (by decide) (by decide) (by decide)
    (fun s hs => by
      have hs' : s = ⟨#[98]⟩ ∨ s = ⟨#[99]⟩ := by simpa using hs
      rcases hs' with rfl | rfl <;> decide) (by decide +kernel) rfl rfl (tabs_below hT'.out hB4.out)
  rw [← hw4]
  refine h2.mono ?_
  rintro e w5 ⟨A2, n2, m2, rfl, hf2, hb5⟩
  have hB5 := veil (two_below hB4.out hb5)
  have hr5 := veil (hf2.reads (by have := hf2.len; have h2 : (textsL (List.drop 1 (List.take 3 [⟨#[97]⟩, ⟨#[98]⟩, ⟨#[99]⟩]))).length = 18 := by decide +kernel
                                  omega))
  have hx5 := veil ((hb5.block _ (by omega)).trans hx4)
  have hr15 := veil ((hr1.out.below hb4).below hb5)
  obtain ⟨ad, rfl, hcl⟩ := (hv2'.out.below hb4 |>.below hb5).2.2 (by decide)
  obtain ⟨ab, ao, asp⟩ := ad
  obtain rfl : asp = none := hsp'.out _ rfl
  have k0 : w5.cell? ⟨ab, ao, none⟩ = some (.string ⟨#[99]⟩) := by
    have h := hcl 0 (by decide)
    rw [add_off] at h
    exact h
  have k2 : w5.cell? ⟨ab, ao + 2, none⟩ = some (.string ⟨#[97]⟩) := by
    have h := hcl 2 (by decide)
    rw [add_off] at h
    exact h
  have hsz5 := hb5.size
  have adb : ab < w5.heap.size := World.block_lt_of_cell? w5 _ k0
  have adb2 : ab < w5.heap.size := World.block_lt_of_cell? w5 _ k2
  obtain ⟨w6, hw6⟩ : ∃ w6 : World, w6 = w5.alloc (.cells #[.int .u8 2, .string ⟨#[]⟩, .slice (some ⟨w3.heap.size + 1, 0, none⟩) 3 3, .slice none 0 0, .slice none 0 0] 26) := ⟨_, rfl⟩
  have hb6 : Below w5.heap.size w5 w6 := by rw [hw6]; exact below_alloc (Below.refl _ _) _
  have st1 := str_of (c := m1) (hr15.out.below hb6)
  have st2 := str_of (c := m2) (hr5.out.below hb6)
  have j0 := (hb6.cell adb).trans k0
  have j2 := (hb6.cell adb2).trans k2
  have q1 : w6.cell? ⟨w3.heap.size, 2, none⟩ = some (.slice (some ⟨ab, ao, none⟩) 3 cv) := by
    rw [cell_of_row _ _ _ _ _ _ ((hb6.block _ (by omega)).trans hx5.out)]; rfl
  rw [show strOfNums (lineL ⟨#[58]⟩ (numS (([⟨#[99]⟩, ⟨#[98]⟩, ⟨#[97]⟩] : List ByteArray).length : Int))) = ⟨#[58, 51, 13, 10]⟩ from by decide +kernel] at st1
  rw [show strOfNums (textsL (List.drop 1 (List.take 3 [⟨#[97]⟩, ⟨#[98]⟩, ⟨#[99]⟩]))) = ⟨#[42, 50, 13, 10, 36, 49, 13, 10, 98, 13, 10, 36, 49, 13, 10, 99, 13, 10]⟩ from by decide +kernel] at st2
  have hB6 := veil (two_below hB5.out hb6)
  have hw6' := hw6
  rw [hw6] at st1 st2 j0 j2 q1
  clear hsp' h2 hf2 hb4 hb5 hb6 hw4 hw6' hr4 hg4 hx4 hcl
  go_wp2_with fail
  go_ret
  exact ⟨rfl, by rw [← hw6]; exact hB6.out⟩
end Go.Proofs.Tryz.Ln
/- A text taken out of a row. -/
namespace Go.Proofs.Tryz.Ln
open Go Go.RowKit Go.Proofs.Mem Go.Proofs.App
open Go.Proofs.YtnkjejmgpempkaaGreatDoorW.PrintWords
set_option linter.unusedVariables false
set_option linter.unusedSimpArgs false
theorem setCells_kind (g : Nat) (t : TypeId) : ∀ (vs : List Value) (o : Nat) (w : World) (cur : Array Value), w.heap[g]? = some (.cells cur t (0, 0)) → ∃ cur' : Array Value, (w.setCells g o vs).heap[g]? = some (.cells cur' t (0, 0)) ∧ cur'.size = cur.size
  | [], o, w, cur, h => ⟨cur, h, rfl⟩
  | v :: r, o, w, cur, h => by
    obtain ⟨cur', h1, h2⟩ := setCells_kind g t r (o + 1) (w.setCell ⟨g, o, none⟩ v) (cur.setIfInBounds o v) (heap_setCell_same w g o cur t v h)
    exact ⟨cur', h1, by rw [h2]; simp⟩
theorem delete_any (v : Value) (l : List ByteArray) (i : Nat) (z1 z2 : Int) (base : Nat) (w : World) (h : OR w base v l) (hi : i < l.length) (hz1 : z1 = i) (hz2 : z2 = ((i + 1 : Nat) : Int)) :
    Calls Tryz.prog 31 #[v, .int .i64 z1, .int .i64 z2] w fun e w' => ∃ v', e = .returned v' ∧ OR w' base v' (l.eraseIdx i) ∧ w.heap.size ≤ w'.heap.size ∧ ∀ w0, Below base w0 w → Below base w0 w' := by
  subst hz1
  subst hz2
  have hR := tR_own h
  obtain ⟨hl, hh⟩ := h
  rcases hh with ⟨rfl, hh⟩ | ⟨g, cap, cur, rfl, hB, hx, hc, hm, hs, ht⟩
  · omega
  · obtain ⟨A, c, e1, h1, h2, h3, h4⟩ := hR.ex
    injection e1 with e1 e2 e3
    subst e1
    subst e3
    have hcell : ∀ j, j < l.length → w.cell? ⟨g, 0 + j, none⟩ = some (.string (l.getD j ByteArray.empty)) := fun j hj => by
      obtain ⟨ad, e, hcl⟩ := h4.2.2 (by omega)
      injection e with e
      subst e
      rw [← add_off]
      exact hcl j hj
    refine (Tryz.slices_Delete_string_cells g 0 l.length cap i (i + 1) (fun j => l.getD j ByteArray.empty) w h1 h2 (by omega) (by omega) hcell (fun j _ => by unfold World.frozen?; rw [hx]; simp)).mono ?_
    rintro e w' ⟨rfl, q, rfl⟩
    have hvs : ((Lib.strsOf (fun j => l.getD j ByteArray.empty) l.length).take i ++ (Lib.strsOf (fun j => l.getD j ByteArray.empty) l.length).drop (i + 1) ++ List.replicate (i + 1 - i) []).map encStr = encs Value.string (l.eraseIdx i) ++ [Value.string ⟨#[]⟩] := by
      rw [strsOf_list, List.eraseIdx_eq_take_drop_succ, show i + 1 - i = 1 by omega]
      simp only [← List.map_take, ← List.map_drop, List.map_append, List.map_map, encs]
      rfl
    rw [hvs]
    have hel : (l.eraseIdx i).length = l.length - 1 := List.length_eraseIdx_of_lt hi
    have hwl : (encs Value.string (l.eraseIdx i) ++ [Value.string ⟨#[]⟩]).length = l.length := by simp [encs, hel]; omega
    obtain ⟨cur', k1, k2⟩ := setCells_kind g 9 (encs Value.string (l.eraseIdx i) ++ [Value.string ⟨#[]⟩]) 0 (w.drewN q) cur hx
    refine ⟨_, rfl, ⟨by simp [encs], .inr ⟨g, cap, cur', ?_, hB, k1, by rw [hel]; omega, hm, by rw [k2]; exact hs, ?_⟩⟩, by rw [size_setCells]; exact Nat.le_refl _, fun w0 hb => below_setCells g hB _ 0 _ (pw_below_drewN hb q)⟩
    · rw [hel, show i + 1 - i = 1 by omega]
    · have hcs : cur'.size = cap := by rw [k2, hs]; omega
      refine List.ext_getElem? (fun j => ?_)
      by_cases hj : j < (l.eraseIdx i).length
      · have hj2 : j < (encs Value.string (l.eraseIdx i) ++ [Value.string ⟨#[]⟩]).length := by rw [hwl]; omega
        have hin := World.cell?_setCells_in g (encs Value.string (l.eraseIdx i) ++ [Value.string ⟨#[]⟩]) 0 (w.drewN q) (fun p hp => by
          rw [hwl] at hp
          have := hcell p hp
          show (w.cell? ⟨g, 0 + p, none⟩).isSome = true
          rw [this]; rfl) j hj2
        rw [Nat.zero_add, cell_of_row _ _ _ _ _ _ k1] at hin
        rw [List.getElem?_take, if_pos (by omega), Array.getElem?_toList, hin, List.getElem_append_left (by simpa [encs] using hj)]
        simp [encs, List.getElem?_eq_getElem hj]
      · rw [List.getElem?_eq_none (by simp; omega), List.getElem?_eq_none (by simp [encs]; omega)]
end Go.Proofs.Tryz.Ln
/- What lists.Do tells of how long a list is. -/
namespace Go.Proofs.Tryz.Ln
open Go Go.RowKit Go.Proofs.Mem Go.Proofs.App
open Go.Proofs.YtnkjejmgpempkaaGreatDoorW.PrintWords Go.Proofs.YtnkjejmgpempkaaGreatDoorW.PrintLast
open Go.Proofs.Rel (dsts depsOf)
set_option linter.unusedVariables false
set_option linter.unusedSimpArgs false
def llenN : ByteArray := ⟨#[108, 108, 101, 110]⟩
set_option maxRecDepth 100000 in
set_option maxHeartbeats 8000000 in
theorem do_llen (k : Int) (s a0 : ByteArray) (x H Z : Value) (l args : List ByteArray) (B : Option Addr) (ac : Nat) (w : World) (hk : k = 0 ∨ k = 2) (hx : tR w x l) (hargs : tR w (.slice B args.length ac) args) (h1 : 1 ≤ args.length) (ha : args[0]? = some a0)
    (hz0 : a0.size ≤ 1000) (hlow : lowS a0 = llenN) (hn : l.length ≤ 1000000) (hH : H.oneCell' = true) (hZ : Z.oneCell' = true) (hT : Tabs w) :
    Calls Tryz.prog 8 #[.agg #[.int .u8 k, .string s, x, H, Z], .slice B args.length ac] w (Dres #[.int .u8 k, .string s, x, H, Z] (lineL ⟨#[58]⟩ (numS (l.length : Int))) w) := by
  have hT' := veil hT
  obtain ⟨A1, c1, rfl, hlc, _, _, hTR⟩ := hx.ex
  obtain ⟨ad, rfl, c0⟩ : ∃ ad, B = some ad ∧ w.cell? ad = some (.string a0) := by
    obtain ⟨A, c, e, _, _, _, h4⟩ := hargs.ex
    injection e with e1 _ _
    subst e1
    obtain ⟨ad, e, hc⟩ := h4.2.2 (by omega)
    refine ⟨ad, e, ?_⟩
    have := hc 0 (by omega)
    rw [List.getD_eq_getElem?_getD, ha, Option.getD_some] at this
    simpa [Addr.add] using this
  obtain ⟨R, hR⟩ : ∃ R, lineL ⟨#[58]⟩ (numS (l.length : Int)) = R := ⟨_, rfl⟩
  have hint : Veil (∀ w', Below w.heap.size w w' → Calls Tryz.prog 19 #[.int .i64 (l.length : Nat)] w' (Bytes_ R w')) :=
    veil (fun w' h => by rw [← hR]; exact Int_any l.length w' (by unfold Int64; omega) (tabs_below hT h).tab)
  rw [hR]
  have hone : Veil ((#[.int .u8 k, .string s, .slice A1 l.length c1, H, Z] : Array Value).all (·.oneCell') = true) := veil (one5 k s A1 _ c1 H Z hH hZ)
  obtain ⟨w2, hw2⟩ : ∃ w2 : World, w2 = (w.alloc (.cells #[.int .u8 k, .string s, .slice A1 l.length c1, H, Z] 26)).alloc (.cells #[.int .u8 0, .string ⟨#[]⟩, .slice none 0 0, .slice none 0 0, .slice none 0 0] 26) := ⟨_, rfl⟩
  have hsz2 : w2.heap.size = w.heap.size + 2 := by rw [hw2]; simp
  have hb2 : Below w.heap.size w w2 := by rw [hw2]; exact (below_alloc (Below.refl _ _) _).alloc (by simp) _
  have hx2 : w2.heap[w.heap.size]? = some (.cells #[.int .u8 k, .string s, .slice A1 l.length c1, H, Z] 26 (0, 0)) := by rw [hw2]; exact heap_alloc2_old w _ _
  have hz2 : w2.heap[w.heap.size + 1]? = some oZ := by
    rw [hw2]
    have := heap_alloc_last (w.alloc (.cells #[.int .u8 k, .string s, .slice A1 l.length c1, H, Z] 26)) (.cells #[.int .u8 0, .string ⟨#[]⟩, .slice none 0 0, .slice none 0 0, .slice none 0 0] 26)
    simpa [oZ, zS] using this
  have hadb : ad.block < w.heap.size := World.block_lt_of_cell? w _ c0
  have q0 : w2.cell? ad = some (.string a0) := (hb2.cell hadb).trans c0
  have q00 := q0
  rw [hw2] at q00
  have hB2 := veil hb2
  have hX2 := veil hx2
  have hZ2 := veil hz2
  have hw2' := veil hw2
  have hlow' : Veil (lowS a0 = ⟨#[108, 108, 101, 110]⟩) := veil hlow
  have l0 : (0 : Int) < args.length := by omega
  clear hT hx hargs c0 ha hR hTR hw2 hb2 hx2 hz2 hlow hH hZ
  rcases hk with rfl | rfl
  · go_enter Tryz.func8, Tryz.ntmps8
    go_wp2_with fail
    rw [← hw2'.out]
    refine (low_any a0 w2 (by omega)).mono ?_
    rintro e w3 ⟨rfl, hb3⟩
    rw [hlow'.out]
    have hB4 := veil (two_below hB2.out hb3)
    have hX4 := veil ((hb3.block _ (by omega)).trans hX2.out)
    have hZ4 := veil ((hb3.block _ (by omega)).trans hZ2.out)
    have hs3 := hb3.size
    clear hb3 q0 q00
    have q1 := cell_of_row _ _ 0 _ _ _ hX4.out
    simp only [List.getElem?_toArray, List.getElem?_cons_zero] at q1
    go_wp2_with fail
    refine RelG.wp_region_rel2 (G := (RelG.Stor (w.heap.size + 1) (.cells zS tV (0, 0)) (.cells #[.int .u8 0, .string s, .slice A1 l.length c1, H, Z] tV (0, 0)))) (n := 95) [RelG.is _ 64 (.agg #[.int .u8 0, .string s, .slice A1 l.length c1, H, Z]), RelG.is _ 65 (.pointer (some ⟨w.heap.size, 2, none⟩)), RelG.is _ 66 (.slice A1 l.length c1), RelG.is _ 67 (.int .i64 (l.length : Nat)), RelG.fr _ _ _ 68 R, RelG.put _ _ _, RelG.fr _ _ _ 5 R] [[64], [65], [66], [67], [68], [], [5]] (by kernel_rfl) rfl rfl (by kernel_rfl) ?_ ?_
    · refine RelG.steps_cons (RelG.step_load (n := 95) (t := 2) (u := 64) (b := w.heap.size) (t' := tV) (cs := #[.int .u8 0, .string s, .slice A1 l.length c1, H, Z]) (fr := (0, 0)) rfl rfl rfl rfl (by decide) (by kernel_rfl) (by kernel_rfl) Tryz.underlying26 rfl (info5x _ _ _ _ _) (fun w' hle => RelG.stor_other hle (by omega) hX4.out) rfl) ?_
      refine RelG.steps_cons (RelG.step_run0 (n := 95) (t := 2) (u := 65) (v := .pointer (some ⟨w.heap.size, 0, none⟩)) rfl rfl rfl (by decide) (by kernel_rfl) (by kernel_rfl) (fun ρ w' hle h _ => by simp [execOp, h, go_sem, Addr.add]) rfl) ?_
      refine RelG.steps_cons (RelG.step_run (n := 95) (j := 1) (t := 65) (u := 66) (v := .pointer (some ⟨w.heap.size, 2, none⟩)) rfl rfl rfl (by decide) rfl rfl (fun ρ w' hle h _ => by
          have c : w'.cell? ⟨w.heap.size, 2, none⟩ = some (.slice A1 l.length c1) := by rw [cell_of_row _ _ _ _ _ _ (RelG.stor_other hle (by omega) hX4.out)]; rfl
          simp [execOp, h, go_sem, c]) rfl) ?_
      refine RelG.steps_cons (RelG.step_run (n := 95) (j := 2) (t := 66) (u := 67) (v := .slice A1 l.length c1) rfl rfl rfl (by decide) rfl rfl (fun ρ w' hle h hk => by simp [execOp, resolve, invoke, builtin, h, hk, go_sem, Tryz.underlying22]) rfl) ?_
      refine RelG.steps_cons (RelG.step_call rfl Tryz.func19 (by kernel_rfl) rfl #[.int .i64 (l.length : Nat)] rfl (fun b' w' D => by simp only [List.map_toArray, List.map_cons, List.map_nil, D.is 3 rfl rfl]) (fun b' w' D => call_fr (hint.out w' (by have := D.bel.1.2.2.2; exact RelG.stor_below hB4.out D.bel (by omega) (by omega))) (by have := stor_size D.bel; omega) (by rw [D.siz]; exact (by decide : 68 < 95)))) ?_
      refine RelG.steps_cons (RelG.step_store (j := 0) (t := 4) (u := 64) rfl rfl rfl (by kernel_rfl) (by kernel_rfl) rfl rfl ⟨zS, rfl, rfl⟩ hZ4.out (info5x _ _ _ _ _) hone.out rfl) ?_
      refine RelG.steps_cons (RelG.step_pass_of (n := 95) (j := 4) (t := 68) (u := 5) (p := RelG.frP (w.heap.size + 1) R) (hp := fun x w w' h hle => RelG.frP_sta _ x w w' h hle) rfl rfl (.inr rfl) rfl (by decide) rfl rfl rfl) ?_
      exact trivial
    intro v e w9 hg hv hle
    have k5 : e 5 = v 6 := hg 6 5 rfl
    have h2 : w9.heap[w.heap.size + 1]? = some (.cells #[.int .u8 0, .string s, .slice A1 l.length c1, H, Z] tV (0, 0)) := hv 5 (by decide)
    have h3 : RelG.frP (w.heap.size + 1) R (e 5) w9 := hv 6 (by decide)
    rw [k5] at h3
    simp only [Rel.fill, Act.put, List.setIfInBounds_toArray, List.set_cons_zero, List.set_cons_succ]
    have hD := veil (dres_of (v := #[.int .u8 0, .string s, .slice A1 l.length c1, H, Z]) hB4.out hle (by omega) (by omega) h3)
    have h2' := veil h2
    clear hg hv hle h3 h2 k5 q1
    go_wp2_with fail
    refine bodyPost_ret (v := .tuple #[.agg #[.int .u8 0, .string s, .slice A1 l.length c1, H, Z], v 6]) ?_ rfl hD.out
    exact RelG.results_cell_tmp (p := 4) (q := 5) (ty := 26) Tryz.results8 _ _ (w.heap.size + 1) tV #[.int .u8 0, .string s, .slice A1 l.length c1, H, Z] (0, 0) _ _ rfl rfl h2'.out Tryz.underlying26 rfl (info5x _ _ _ _ _)
  · go_enter Tryz.func8, Tryz.ntmps8
    go_wp2_with fail
    rw [← hw2'.out]
    refine (low_any a0 w2 (by omega)).mono ?_
    rintro e w3 ⟨rfl, hb3⟩
    rw [hlow'.out]
    have hB4 := veil (two_below hB2.out hb3)
    have hX4 := veil ((hb3.block _ (by omega)).trans hX2.out)
    have hZ4 := veil ((hb3.block _ (by omega)).trans hZ2.out)
    have hs3 := hb3.size
    clear hb3 q0 q00
    have q1 := cell_of_row _ _ 0 _ _ _ hX4.out
    simp only [List.getElem?_toArray, List.getElem?_cons_zero] at q1
    go_wp2_with fail
    refine RelG.wp_region_rel2 (G := (RelG.Stor (w.heap.size + 1) (.cells zS tV (0, 0)) (.cells #[.int .u8 2, .string s, .slice A1 l.length c1, H, Z] tV (0, 0)))) (n := 95) [RelG.is _ 64 (.agg #[.int .u8 2, .string s, .slice A1 l.length c1, H, Z]), RelG.is _ 65 (.pointer (some ⟨w.heap.size, 2, none⟩)), RelG.is _ 66 (.slice A1 l.length c1), RelG.is _ 67 (.int .i64 (l.length : Nat)), RelG.fr _ _ _ 68 R, RelG.put _ _ _, RelG.fr _ _ _ 5 R] [[64], [65], [66], [67], [68], [], [5]] (by kernel_rfl) rfl rfl (by kernel_rfl) ?_ ?_
    · refine RelG.steps_cons (RelG.step_load (n := 95) (t := 2) (u := 64) (b := w.heap.size) (t' := tV) (cs := #[.int .u8 2, .string s, .slice A1 l.length c1, H, Z]) (fr := (0, 0)) rfl rfl rfl rfl (by decide) (by kernel_rfl) (by kernel_rfl) Tryz.underlying26 rfl (info5x _ _ _ _ _) (fun w' hle => RelG.stor_other hle (by omega) hX4.out) rfl) ?_
      refine RelG.steps_cons (RelG.step_run0 (n := 95) (t := 2) (u := 65) (v := .pointer (some ⟨w.heap.size, 0, none⟩)) rfl rfl rfl (by decide) (by kernel_rfl) (by kernel_rfl) (fun ρ w' hle h _ => by simp [execOp, h, go_sem, Addr.add]) rfl) ?_
      refine RelG.steps_cons (RelG.step_run (n := 95) (j := 1) (t := 65) (u := 66) (v := .pointer (some ⟨w.heap.size, 2, none⟩)) rfl rfl rfl (by decide) rfl rfl (fun ρ w' hle h _ => by
          have c : w'.cell? ⟨w.heap.size, 2, none⟩ = some (.slice A1 l.length c1) := by rw [cell_of_row _ _ _ _ _ _ (RelG.stor_other hle (by omega) hX4.out)]; rfl
          simp [execOp, h, go_sem, c]) rfl) ?_
      refine RelG.steps_cons (RelG.step_run (n := 95) (j := 2) (t := 66) (u := 67) (v := .slice A1 l.length c1) rfl rfl rfl (by decide) rfl rfl (fun ρ w' hle h hk => by simp [execOp, resolve, invoke, builtin, h, hk, go_sem, Tryz.underlying22]) rfl) ?_
      refine RelG.steps_cons (RelG.step_call rfl Tryz.func19 (by kernel_rfl) rfl #[.int .i64 (l.length : Nat)] rfl (fun b' w' D => by simp only [List.map_toArray, List.map_cons, List.map_nil, D.is 3 rfl rfl]) (fun b' w' D => call_fr (hint.out w' (by have := D.bel.1.2.2.2; exact RelG.stor_below hB4.out D.bel (by omega) (by omega))) (by have := stor_size D.bel; omega) (by rw [D.siz]; exact (by decide : 68 < 95)))) ?_
      refine RelG.steps_cons (RelG.step_store (j := 0) (t := 4) (u := 64) rfl rfl rfl (by kernel_rfl) (by kernel_rfl) rfl rfl ⟨zS, rfl, rfl⟩ hZ4.out (info5x _ _ _ _ _) hone.out rfl) ?_
      refine RelG.steps_cons (RelG.step_pass_of (n := 95) (j := 4) (t := 68) (u := 5) (p := RelG.frP (w.heap.size + 1) R) (hp := fun x w w' h hle => RelG.frP_sta _ x w w' h hle) rfl rfl (.inr rfl) rfl (by decide) rfl rfl rfl) ?_
      exact trivial
    intro v e w9 hg hv hle
    have k5 : e 5 = v 6 := hg 6 5 rfl
    have h2 : w9.heap[w.heap.size + 1]? = some (.cells #[.int .u8 2, .string s, .slice A1 l.length c1, H, Z] tV (0, 0)) := hv 5 (by decide)
    have h3 : RelG.frP (w.heap.size + 1) R (e 5) w9 := hv 6 (by decide)
    rw [k5] at h3
    simp only [Rel.fill, Act.put, List.setIfInBounds_toArray, List.set_cons_zero, List.set_cons_succ]
    have hD := veil (dres_of (v := #[.int .u8 2, .string s, .slice A1 l.length c1, H, Z]) hB4.out hle (by omega) (by omega) h3)
    have h2' := veil h2
    clear hg hv hle h3 h2 k5 q1
    go_wp2_with fail
    refine bodyPost_ret (v := .tuple #[.agg #[.int .u8 2, .string s, .slice A1 l.length c1, H, Z], v 6]) ?_ rfl hD.out
    exact RelG.results_cell_tmp (p := 4) (q := 5) (ty := 26) Tryz.results8 _ _ (w.heap.size + 1) tV #[.int .u8 2, .string s, .slice A1 l.length c1, H, Z] (0, 0) _ _ rfl rfl h2'.out Tryz.underlying26 rfl (info5x _ _ _ _ _)
end Go.Proofs.Tryz.Ln
