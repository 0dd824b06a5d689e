import Derived.Test.YtnlmdijpbedefaaGreatDoorLs4
import Derived.Test.YtnlmdijpbedefaaGreatDoorRelP
/- What lists.Do tells of a list's part. -/
namespace Go.Proofs.Tryz.Ln
open Go Go.RowKit Go.Proofs.Mem Go.Proofs.App
open Go.Proofs.YtnlmdijpbedefaaGreatDoorW.PrintWords Go.Proofs.YtnlmdijpbedefaaGreatDoorW.PrintLast
open Go.Proofs.Rel (dsts depsOf)
set_option linter.unusedVariables false
set_option linter.unusedSimpArgs false
/-- a value and a reply: the value's cells, a fresh row -/
def Dres (v : Array Value) (r : List Int) (w : World) (e : Ending) (w' : World) : Prop := ∃ A n c, e = .returned (.tuple #[.agg v, .slice A n c]) ∧ Fresh .u8 w.heap.size w' A n c r ∧ Below w.heap.size w w'
theorem frP_of {g : Nat} {l : List Int} {w w' : World} {A : Option Addr} {c : Nat} (hf : Fresh .u8 w.heap.size w' A l.length c l) (hg : g < w.heap.size) : RelG.frP g l (.slice A l.length c) w' := ⟨A, _, c, _, rfl, hf, hg⟩
theorem call_fr {P : Program} {f : FuncId} {args : Array Value} {g : Nat} {oz o' : Obj} {t : Tmp} {l : List Int} {b : Act} {w : World} (h : Calls P f args w (Bytes_ l w)) (hg : g < w.heap.size) (ht : t < b.tmps.size) :
    Calls P f args w fun e w' => ∃ x, e = .returned x ∧ (RelG.fr g oz o' t l).r (RelG.get (b.put (some t) x)) w' ∧ (RelG.Stor g oz o').le w w' :=
  h.mono fun e w' ⟨A, c, he, hf, hb⟩ => ⟨_, he, by
    show RelG.frP g l (RelG.get (b.put (some t) _) t) w'
    rw [RelG.get_put b t _ ht]
    exact frP_of hf hg, (RelG.Stor g oz o').bel hb⟩
theorem stor_size {g : Nat} {oz o' : Obj} {w w' : World} (h : (RelG.Stor g oz o').le w w') : w.heap.size ≤ w'.heap.size := h.1.2.2.2
theorem dres_of {g : Nat} {oz o' : Obj} {v : Array Value} {r : List Int} {x : Value} {w w0 w' : World} (hb : Below w.heap.size w w0) (hle : (RelG.Stor g oz o').le w0 w') (hg : w.heap.size ≤ g) (hB : w.heap.size ≤ w0.heap.size) (hf : RelG.frP g r x w') : Dres v r w (.returned (.tuple #[.agg v, x])) w' := by
  obtain ⟨A, n, c, base, rfl, hf, hgb⟩ := hf
  exact ⟨A, n, c, rfl, hf.base (by omega), RelG.stor_below hb hle hg hB⟩
theorem cut3 (B : Option Addr) (n c a b : Nat) (ha : a ≤ b) (hb : b ≤ n) (hc : n ≤ c) : ∃ B', (∀ W : World, (Instr.slice 22 (.slice B n c) (some (.int .i64 a)) (some (.int .i64 b)) (some (.int .i64 b))).run Tryz.prog W = .ok (.slice B' (b - a) (b - a)) W) ∧ ∀ (w : World) (l : List ByteArray), ReadsOf Value.string ByteArray.empty w B n l → ReadsOf Value.string ByteArray.empty w B' (b - a) ((l.take b).drop a) := by
  obtain ⟨i0, hi, hzz⟩ := Option.map_eq_some_iff.1 infoS
  simp only [Prod.mk.injEq] at hzz
  obtain ⟨_, hz1, _⟩ := hzz
  have hu : Tryz.prog.underlying 22 = some (.slice 9) := Tryz.underlying22
  have hel : Tryz.prog.elem 22 = 9 := by simp [Program.elem, hu]
  refine ⟨if b = a then B else B.map (·.add a), fun W => ?_, fun w l h => (h.take_ b hb).drop_ a ha (Nat.le_refl b)⟩
  have hu2 : Tryz.prog.underlying 22 = some (.slice (Tryz.prog.elem 22)) := by rw [hel]; exact hu
  rw [run_slice_lhm W 22 B n c hu2 .i64 .i64 .i64 a b b (by omega) (by omega) (by omega) (by omega), hel]
  simp [sizeOf, typeInfo, hi, hz1, sliced, Result.andThen]
theorem run_cut3 {b : Act} {w : World} {o : Oper} {t t1 t2 t3 : Nat} {x lo hi mx v : Value} (ho : o.op = .slice 22 (.tmp t) (some (.tmp t1)) (some (.tmp t2)) (some (.tmp t3))) (h : b.eval (.tmp t) = x) (h1 : b.eval (.tmp t1) = lo) (h2 : b.eval (.tmp t2) = hi) (h3 : b.eval (.tmp t3) = mx)
    (hr : (Instr.slice 22 x (some lo) (some hi) (some mx)).run Tryz.prog w = .ok v w) : (execOp b.eval o).run Tryz.prog w = .ok (.value v) w := by
  have hu : Tryz.prog.underlying 22 = some (.slice 9) := Tryz.underlying22
  have hel : Tryz.prog.elem 22 = 9 := by simp [Program.elem, hu]
  have hs := run_sliceAt_slice (P := Tryz.prog) w 22 x (some lo) (some hi) (some mx) (by rw [hel]; exact hu)
  unfold execOp
  simp only [ho, Option.map_some, h, h1, h2, h3, Sem.run_bind, hs, hr]
  rfl
theorem one5 (k : Int) (s : ByteArray) (A : Option Addr) (n c : Nat) (H Z : Value) (hH : H.oneCell' = true) (hZ : Z.oneCell' = true) : (#[.int .u8 k, .string s, .slice A n c, H, Z] : Array Value).all (·.oneCell') = true := by
  have : ∀ y ∈ (#[.int .u8 k, .string s, .slice A n c, H, Z] : Array Value), y.oneCell' = true := by
    intro y hy
    simp at hy
    rcases hy with rfl | rfl | rfl | rfl | rfl
    · rfl
    · rfl
    · rfl
    · exact hH
    · exact hZ
  exact Array.all_eq_true_iff_forall_mem.2 this
def lrangeN : ByteArray := ⟨#[108, 114, 97, 110, 103, 101]⟩
set_option maxRecDepth 100000 in
set_option maxHeartbeats 8000000 in
theorem do_lrange (k f t : Int) (s a0 fa fb : ByteArray) (x H Z : Value) (l args : List ByteArray) (B : Option Addr) (ac a b : Nat) (w : World) (hk : k = 0 ∨ k = 2) (hx : tR w x l) (hargs : tR w (.slice B args.length ac) args) (h4 : 4 ≤ args.length) (ha : args[0]? = some a0) (hfa : args[2]? = some fa) (hfb : args[3]? = some fb)
    (hz0 : a0.size ≤ 1000) (hlow : lowS a0 = lrangeN) (hn : l.length ≤ 1000000) (hpa : Dig.parseO fa = some f) (hpb : Dig.parseO fb = some t) (hf : Int64 f) (ht : Int64 t) (hza : fa.size ≤ 1000) (hzb : fb.size ≤ 1000) (hA : partA l.length f t = a) (hBB : partB l.length f t = b) (hab : a ≤ b) (hbl : b ≤ l.length)
    (hs1 : ∀ s ∈ (l.take b).drop a, s.size ≤ 70368744177664) (hs2 : (bulks ((l.take b).drop a)).flatten.length ≤ 70368744177664) (hH : H.oneCell' = true) (hZ : Z.oneCell' = true) (hT : Tabs w) :
    Calls Tryz.prog 8 #[.agg #[.int .u8 k, .string s, x, H, Z], .slice B args.length ac] w (Dres #[.int .u8 k, .string s, x, H, Z] (textsL ((l.take b).drop a)) w) := by
  have hT' := veil hT
  obtain ⟨A1, c1, rfl, hlc, _, _, hTR⟩ := hx.ex
  obtain ⟨B3, hcut0, hread⟩ := cut3 A1 l.length c1 a b hab hbl hlc
  have hcut := veil hcut0
  obtain ⟨ad, rfl, hcell⟩ : ∃ ad, B = some ad ∧ ∀ j, j < args.length → w.cell? (ad.add j) = some (.string (args.getD j ByteArray.empty)) := by
    obtain ⟨A, c, e, _, _, _, h4'⟩ := hargs.ex
    injection e with e1 _ _
    subst e1
    exact h4'.2.2 (by omega)
  have cget : ∀ j y, args[j]? = some y → w.cell? (ad.add j) = some (.string y) := fun j y hj => by
    have h1 := hcell j (by exact (List.getElem?_eq_some_iff.1 hj).1)
    rw [List.getD_eq_getElem?_getD, hj, Option.getD_some] at h1
    exact h1
  have c0 : w.cell? ad = some (.string a0) := by simpa [Addr.add] using cget 0 a0 ha
  have ca := veil (cget 2 fa hfa)
  have cb := veil (cget 3 fb hfb)
  have had2 : (ad.add 2).block < w.heap.size := World.block_lt_of_cell? w _ ca.out
  have had3 : (ad.add 3).block < w.heap.size := World.block_lt_of_cell? w _ cb.out
  have hpart : Veil (∀ w', Tabs w' → Calls Tryz.prog 20 #[.int .i64 (l.length : Nat), .string fa, .string fb] w' fun e w'' => e = .returned (.tuple #[.int .i64 a, .int .i64 b, .bool true]) ∧ Below w'.heap.size w' w'') :=
    veil (fun w' h => by rw [← hA, ← hBB]; exact part_any l.length f t fa fb w' ⟨by omega, by omega⟩ hpa hpb hf ht (by omega) (by omega) h)
  obtain ⟨R, hR⟩ : ∃ R, textsL ((l.take b).drop a) = R := ⟨_, rfl⟩
  have htexts : Veil (∀ w', Below w.heap.size w w' → Calls Tryz.prog 21 #[.slice B3 (b - a) (b - a)] w' (Bytes_ R w')) :=
    veil (fun w' h => by rw [← hR]; exact Texts_any B3 (b - a) (b - a) _ w' ((hread w l hTR).below h) (Nat.le_refl _) (by omega) hs1 hs2 (tabs_below hT h).tab)
  rw [hR]
  have hone : Veil ((#[.int .u8 k, .string s, .slice A1 l.length c1, H, Z] : Array Value).all (·.oneCell') = true) := veil (one5 k s A1 _ c1 H Z hH hZ)
  obtain ⟨w2, hw2⟩ : ∃ w2 : World, w2 = (w.alloc (.cells #[.int .u8 k, .string s, .slice A1 l.length c1, H, Z] 28)).alloc (.cells #[.int .u8 0, .string ⟨#[]⟩, .slice none 0 0, .slice none 0 0, .slice none 0 0] 28) := ⟨_, rfl⟩
  have hsz2 : w2.heap.size = w.heap.size + 2 := by rw [hw2]; simp
  have hb2 : Below w.heap.size w w2 := by rw [hw2]; exact (below_alloc (Below.refl _ _) _).alloc (by simp) _
  have hx2 : w2.heap[w.heap.size]? = some (.cells #[.int .u8 k, .string s, .slice A1 l.length c1, H, Z] 28 (0, 0)) := by rw [hw2]; exact heap_alloc2_old w _ _
  have hz2 : w2.heap[w.heap.size + 1]? = some oZ := by
    rw [hw2]
    have := heap_alloc_last (w.alloc (.cells #[.int .u8 k, .string s, .slice A1 l.length c1, H, Z] 28)) (.cells #[.int .u8 0, .string ⟨#[]⟩, .slice none 0 0, .slice none 0 0, .slice none 0 0] 28)
    simpa [oZ, zS] using this
  have hadb : ad.block < w.heap.size := World.block_lt_of_cell? w _ c0
  have q0 : w2.cell? ad = some (.string a0) := (hb2.cell hadb).trans c0
  have q00 := q0
  rw [hw2] at q00
  have hB2 := veil hb2
  have hX2 := veil hx2
  have hZ2 := veil hz2
  have hw2' := veil hw2
  have hlow' : Veil (lowS a0 = ⟨#[108, 114, 97, 110, 103, 101]⟩) := veil hlow
  have l0 : (0 : Int) < args.length := by omega
  have l2 : (2 : Int) < args.length := by omega
  have l3 : (3 : Int) < args.length := by omega
  clear hT hx hargs hcut0 hread hcell cget c0 ha hfa hfb hpa hpb hA hBB hs1 hs2 hR hTR hw2 hb2 hx2 hz2 hlow hH hZ
  rcases hk with rfl | rfl
  · go_enter Tryz.func8, Tryz.ntmps8
    go_wp2_with fail
    rw [← hw2'.out]
    refine (low_any a0 w2 (by omega)).mono ?_
    rintro e w3 ⟨rfl, hb3⟩
    rw [hlow'.out]
    have hB3 := veil (two_below hB2.out hb3)
    have hX3 := veil ((hb3.block _ (by omega)).trans hX2.out)
    have hZ3 := veil ((hb3.block _ (by omega)).trans hZ2.out)
    have hs3 := hb3.size
    clear hb3 q0 q00
    have q1 := cell_of_row _ _ 0 _ _ _ hX3.out
    simp only [List.getElem?_toArray, List.getElem?_cons_zero] at q1
    have q2 : w3.cell? ⟨w.heap.size, 2, none⟩ = some (.slice A1 l.length c1) := by rw [cell_of_row _ _ _ _ _ _ hX3.out]; rfl
    have qa := (hB3.out.cell had2).trans ca.out
    have qb := (hB3.out.cell had3).trans cb.out
    go_wp2_with fail
    refine Rel.wp_region_rel (n := 95) [Rel.is (.pointer (some ⟨w.heap.size, 2, none⟩)), Rel.is (.slice A1 l.length c1), Rel.is (.int .i64 (l.length : Nat)), Rel.is (.slice (some ad) args.length ac), Rel.is (.pointer (some (ad.add 2))), Rel.is (.string fa), Rel.is (.slice (some ad) args.length ac), Rel.is (.pointer (some (ad.add 3))), Rel.is (.string fb), Rel.is (.tuple #[.int .i64 a, .int .i64 b, .bool true]), Rel.is (.tuple #[.int .i64 a, .int .i64 b, .bool true]), Rel.is (.int .i64 a), Rel.is (.int .i64 b), Rel.is (.bool true), Rel.is (.int .i64 a), Rel.is (.int .i64 b), Rel.is (.bool true)] (by kernel_rfl) (by rfl) (by kernel_rfl) ?_ ?_
    · refine Rel.steps_cons (Rel.step_run0 (n := 95) (t := 2) (v := .pointer (some ⟨w.heap.size, 0, none⟩)) rfl (.inl rfl) rfl (by kernel_rfl) (fun ρ w' hb h1 hk => by simp [execOp, h1, hk, go_sem, Addr.add]) rfl) ?_
      refine Rel.steps_cons (Rel.step_cell (n := 95) (j := 0) (t := 70) rfl (.inl rfl) rfl rfl rfl rfl Tryz.underlying22 (.inr (.inr (.inr ⟨_, rfl⟩))) q2 rfl) ?_
      refine Rel.steps_cons (Rel.step_run1 (n := 95) (j := 1) (t := 71) rfl (.inl rfl) rfl rfl rfl (fun ρ w' _ h1 hk => by simp [execOp, resolve, invoke, builtin, h1, hk, go_sem, Tryz.underlying22]) rfl) ?_
      refine Rel.steps_cons (Rel.step_wasB (n := 95) (t := 1) rfl (.inl rfl) (.inl rfl) rfl (by kernel_rfl) rfl) ?_
      refine Rel.steps_cons (Rel.step_run1 (n := 95) (j := 3) (t := 73) rfl (.inl rfl) rfl rfl rfl (fun ρ w' _ h1 hk => by simp [execOp, h1, hk, go_sem, l2]) rfl) ?_
      refine Rel.steps_cons (Rel.step_cell (n := 95) (j := 4) (t := 74) rfl (.inl rfl) rfl rfl rfl rfl Tryz.underlying9 (.inl rfl) qa rfl) ?_
      refine Rel.steps_cons (Rel.step_wasB (n := 95) (t := 1) rfl (.inl rfl) (.inl rfl) rfl (by kernel_rfl) rfl) ?_
      refine Rel.steps_cons (Rel.step_run1 (n := 95) (j := 6) (t := 76) rfl (.inl rfl) rfl rfl rfl (fun ρ w' _ h1 hk => by simp [execOp, h1, hk, go_sem, l3]) rfl) ?_
      refine Rel.steps_cons (Rel.step_cell (n := 95) (j := 7) (t := 77) rfl (.inl rfl) rfl rfl rfl rfl Tryz.underlying9 (.inl rfl) qb rfl) ?_
      refine Rel.steps_cons (Rel.step_callB (n := 95) rfl (.inl rfl) Tryz.func20 (by kernel_rfl) rfl #[.int .i64 (l.length : Nat), .string fa, .string fb] rfl (fun b w D => by simp only [List.map_toArray, List.map_cons, List.map_nil, show b.eval (.tmp 72) = .int .i64 (l.length : Nat) from D.is 2 72 rfl rfl rfl, show b.eval (.tmp 75) = .string fa from D.is 5 75 rfl rfl rfl, show b.eval (.tmp 78) = .string fb from D.is 8 78 rfl rfl rfl]) (fun w' hb => (hpart.out w' (tabs_below hT'.out (two_below hB3.out hb))).mono fun e w'' h => ⟨_, h.1, rfl, h.2⟩)) ?_
      refine Rel.steps_cons (Rel.step_passB (n := 95) (j := 9) (t := 79) rfl (.inl rfl) (.inl rfl) rfl rfl rfl rfl) ?_
      refine Rel.steps_cons (Rel.step_run1 (n := 95) (j := 10) (t := 69) rfl (.inl rfl) rfl rfl rfl (fun ρ w' _ h1 hk => by simp [execOp, h1, hk, go_sem]) rfl) ?_
      refine Rel.steps_cons (Rel.step_run1 (n := 95) (j := 10) (t := 69) rfl (.inl rfl) rfl rfl rfl (fun ρ w' _ h1 hk => by simp [execOp, h1, hk, go_sem]) rfl) ?_
      refine Rel.steps_cons (Rel.step_run1 (n := 95) (j := 10) (t := 69) rfl (.inl rfl) rfl rfl rfl (fun ρ w' _ h1 hk => by simp [execOp, h1, hk, go_sem]) rfl) ?_
      refine Rel.steps_cons (Rel.step_passB (n := 95) (j := 11) (t := 80) rfl (.inl rfl) (.inr rfl) rfl rfl rfl rfl) ?_
      refine Rel.steps_cons (Rel.step_passB (n := 95) (j := 12) (t := 81) rfl (.inl rfl) (.inr rfl) rfl rfl rfl rfl) ?_
      refine Rel.steps_cons (Rel.step_passB (n := 95) (j := 13) (t := 82) rfl (.inl rfl) (.inr rfl) rfl rfl rfl rfl) ?_
      exact trivial
    intro v w4 hv hb4
    have e9 : v 9 = .tuple #[.int .i64 a, .int .i64 b, .bool true] := hv 9 (by decide)
    have e14 : v 14 = .int .i64 a := hv 14 (by decide)
    have e15 : v 15 = .int .i64 b := hv 15 (by decide)
    have e16 : v 16 = .bool true := hv 16 (by decide)
    have hB4 := veil (two_below hB3.out hb4)
    have hX4 := veil ((hb4.block _ (by omega)).trans hX3.out)
    have hZ4 := veil ((hb4.block _ (by omega)).trans hZ3.out)
    have hs4 := hb4.size
    simp only [Rel.fill, Act.put, List.setIfInBounds_toArray, List.set_cons_zero, List.set_cons_succ]
    rw [e14, e15, e16]
    clear hb4 hv e9 e14 e15 e16 q1 q2 qa qb hX3 hZ3 hB3
    go_wp2_with fail
    refine RelG.wp_region_rel2 (G := (RelG.Stor (w.heap.size + 1) (.cells zS tV (0, 0)) (.cells #[.int .u8 0, .string s, .slice A1 l.length c1, H, Z] tV (0, 0)))) (n := 95) [RelG.is _ 87 (.agg #[.int .u8 0, .string s, .slice A1 l.length c1, H, Z]), RelG.is _ 88 (.pointer (some ⟨w.heap.size, 2, none⟩)), RelG.is _ 89 (.slice A1 l.length c1), RelG.is _ 90 (.int .i64 a), RelG.is _ 91 (.int .i64 b), RelG.is _ 92 (.int .i64 b), RelG.is _ 93 (.slice B3 (b - a) (b - a)), RelG.fr _ _ _ 94 R, RelG.put _ _ _, RelG.fr _ _ _ 5 R] [[87], [88], [89], [90], [91], [92], [93], [94], [], [5]] (by kernel_rfl) rfl rfl (by kernel_rfl) ?_ ?_
    · refine RelG.steps_cons (RelG.step_load (n := 95) (t := 2) (u := 87) (b := w.heap.size) (t' := tV) (cs := #[.int .u8 0, .string s, .slice A1 l.length c1, H, Z]) (fr := (0, 0)) rfl rfl rfl rfl (by decide) (by kernel_rfl) (by kernel_rfl) Tryz.underlying28 rfl (info5x _ _ _ _ _) (fun w' hle => RelG.stor_other hle (by omega) hX4.out) rfl) ?_
      refine RelG.steps_cons (RelG.step_run0 (n := 95) (t := 2) (u := 88) (v := .pointer (some ⟨w.heap.size, 0, none⟩)) rfl rfl rfl (by decide) (by kernel_rfl) (by kernel_rfl) (fun ρ w' hle h _ => by simp [execOp, h, go_sem, Addr.add]) rfl) ?_
      refine RelG.steps_cons (RelG.step_run (n := 95) (j := 1) (t := 88) (u := 89) (v := .pointer (some ⟨w.heap.size, 2, none⟩)) rfl rfl rfl (by decide) rfl rfl (fun ρ w' hle h _ => by
          have c : w'.cell? ⟨w.heap.size, 2, none⟩ = some (.slice A1 l.length c1) := by rw [cell_of_row _ _ _ _ _ _ (RelG.stor_other hle (by omega) hX4.out)]; rfl
          simp [execOp, h, go_sem, c]) rfl) ?_
      refine RelG.steps_cons (RelG.step_was (n := 95) (t := 7) (u := 90) rfl rfl rfl rfl (by decide) (by kernel_rfl) (by kernel_rfl) rfl) ?_
      refine RelG.steps_cons (RelG.step_was (n := 95) (t := 8) (u := 91) rfl rfl rfl rfl (by decide) (by kernel_rfl) (by kernel_rfl) rfl) ?_
      refine RelG.steps_cons (RelG.step_was (n := 95) (t := 8) (u := 92) rfl rfl rfl rfl (by decide) (by kernel_rfl) (by kernel_rfl) rfl) ?_
      refine RelG.steps_cons (RelG.step_val rfl fun b' w' D => ⟨.slice B3 (b - a) (b - a), run_cut3 rfl (D.is 2 rfl rfl) (D.is 3 rfl rfl) (D.is 4 rfl rfl) (D.is 5 rfl rfl) (hcut.out w'), RelG.get_put b' 93 _ (by rw [D.siz]; exact (by decide : 93 < 95))⟩) ?_
      refine RelG.steps_cons (RelG.step_call rfl Tryz.func21 (by kernel_rfl) rfl #[.slice B3 (b - a) (b - a)] rfl (fun b' w' D => by simp only [List.map_toArray, List.map_cons, List.map_nil, D.is 6 rfl rfl]) (fun b' w' D => call_fr (htexts.out w' (by have := D.bel.1.2.2.2; exact RelG.stor_below hB4.out D.bel (by omega) (by omega))) (by have := stor_size D.bel; omega) (by rw [D.siz]; exact (by decide : 94 < 95)))) ?_
      refine RelG.steps_cons (RelG.step_store (j := 0) (t := 4) (u := 87) rfl rfl rfl (by kernel_rfl) (by kernel_rfl) rfl rfl ⟨zS, rfl, rfl⟩ hZ4.out (info5x _ _ _ _ _) hone.out rfl) ?_
      refine RelG.steps_cons (RelG.step_pass_of (n := 95) (j := 7) (t := 94) (u := 5) (p := RelG.frP (w.heap.size + 1) R) (hp := fun x w w' h hle => RelG.frP_sta _ x w w' h hle) rfl rfl (.inr rfl) rfl (by decide) rfl rfl rfl) ?_
      exact trivial
    intro v e w9 hg hv hle
    have k5 : e 5 = v 9 := hg 9 5 rfl
    have h2 : w9.heap[w.heap.size + 1]? = some (.cells #[.int .u8 0, .string s, .slice A1 l.length c1, H, Z] tV (0, 0)) := hv 8 (by decide)
    have h3 : RelG.frP (w.heap.size + 1) R (e 5) w9 := hv 9 (by decide)
    rw [k5] at h3
    simp only [Rel.fill, Act.put, List.setIfInBounds_toArray, List.set_cons_zero, List.set_cons_succ]
    have hD := veil (dres_of (v := #[.int .u8 0, .string s, .slice A1 l.length c1, H, Z]) hB4.out hle (by omega) (by omega) h3)
    have h2' := veil h2
    clear hg hv hle h3 h2 k5
    go_wp2_with fail
    refine bodyPost_ret (v := .tuple #[.agg #[.int .u8 0, .string s, .slice A1 l.length c1, H, Z], v 9]) ?_ rfl hD.out
    exact RelG.results_cell_tmp (p := 4) (q := 5) (ty := 28) Tryz.results8 _ _ (w.heap.size + 1) tV #[.int .u8 0, .string s, .slice A1 l.length c1, H, Z] (0, 0) _ _ rfl rfl h2'.out Tryz.underlying28 rfl (info5x _ _ _ _ _)
  · go_enter Tryz.func8, Tryz.ntmps8
    go_wp2_with fail
    rw [← hw2'.out]
    refine (low_any a0 w2 (by omega)).mono ?_
    rintro e w3 ⟨rfl, hb3⟩
    rw [hlow'.out]
    have hB3 := veil (two_below hB2.out hb3)
    have hX3 := veil ((hb3.block _ (by omega)).trans hX2.out)
    have hZ3 := veil ((hb3.block _ (by omega)).trans hZ2.out)
    have hs3 := hb3.size
    clear hb3 q0 q00
    have q1 := cell_of_row _ _ 0 _ _ _ hX3.out
    simp only [List.getElem?_toArray, List.getElem?_cons_zero] at q1
    have q2 : w3.cell? ⟨w.heap.size, 2, none⟩ = some (.slice A1 l.length c1) := by rw [cell_of_row _ _ _ _ _ _ hX3.out]; rfl
    have qa := (hB3.out.cell had2).trans ca.out
    have qb := (hB3.out.cell had3).trans cb.out
    go_wp2_with fail
    refine Rel.wp_region_rel (n := 95) [Rel.is (.pointer (some ⟨w.heap.size, 2, none⟩)), Rel.is (.slice A1 l.length c1), Rel.is (.int .i64 (l.length : Nat)), Rel.is (.slice (some ad) args.length ac), Rel.is (.pointer (some (ad.add 2))), Rel.is (.string fa), Rel.is (.slice (some ad) args.length ac), Rel.is (.pointer (some (ad.add 3))), Rel.is (.string fb), Rel.is (.tuple #[.int .i64 a, .int .i64 b, .bool true]), Rel.is (.tuple #[.int .i64 a, .int .i64 b, .bool true]), Rel.is (.int .i64 a), Rel.is (.int .i64 b), Rel.is (.bool true), Rel.is (.int .i64 a), Rel.is (.int .i64 b), Rel.is (.bool true)] (by kernel_rfl) (by rfl) (by kernel_rfl) ?_ ?_
    · refine Rel.steps_cons (Rel.step_run0 (n := 95) (t := 2) (v := .pointer (some ⟨w.heap.size, 0, none⟩)) rfl (.inl rfl) rfl (by kernel_rfl) (fun ρ w' hb h1 hk => by simp [execOp, h1, hk, go_sem, Addr.add]) rfl) ?_
      refine Rel.steps_cons (Rel.step_cell (n := 95) (j := 0) (t := 70) rfl (.inl rfl) rfl rfl rfl rfl Tryz.underlying22 (.inr (.inr (.inr ⟨_, rfl⟩))) q2 rfl) ?_
      refine Rel.steps_cons (Rel.step_run1 (n := 95) (j := 1) (t := 71) rfl (.inl rfl) rfl rfl rfl (fun ρ w' _ h1 hk => by simp [execOp, resolve, invoke, builtin, h1, hk, go_sem, Tryz.underlying22]) rfl) ?_
      refine Rel.steps_cons (Rel.step_wasB (n := 95) (t := 1) rfl (.inl rfl) (.inl rfl) rfl (by kernel_rfl) rfl) ?_
      refine Rel.steps_cons (Rel.step_run1 (n := 95) (j := 3) (t := 73) rfl (.inl rfl) rfl rfl rfl (fun ρ w' _ h1 hk => by simp [execOp, h1, hk, go_sem, l2]) rfl) ?_
      refine Rel.steps_cons (Rel.step_cell (n := 95) (j := 4) (t := 74) rfl (.inl rfl) rfl rfl rfl rfl Tryz.underlying9 (.inl rfl) qa rfl) ?_
      refine Rel.steps_cons (Rel.step_wasB (n := 95) (t := 1) rfl (.inl rfl) (.inl rfl) rfl (by kernel_rfl) rfl) ?_
      refine Rel.steps_cons (Rel.step_run1 (n := 95) (j := 6) (t := 76) rfl (.inl rfl) rfl rfl rfl (fun ρ w' _ h1 hk => by simp [execOp, h1, hk, go_sem, l3]) rfl) ?_
      refine Rel.steps_cons (Rel.step_cell (n := 95) (j := 7) (t := 77) rfl (.inl rfl) rfl rfl rfl rfl Tryz.underlying9 (.inl rfl) qb rfl) ?_
      refine Rel.steps_cons (Rel.step_callB (n := 95) rfl (.inl rfl) Tryz.func20 (by kernel_rfl) rfl #[.int .i64 (l.length : Nat), .string fa, .string fb] rfl (fun b w D => by simp only [List.map_toArray, List.map_cons, List.map_nil, show b.eval (.tmp 72) = .int .i64 (l.length : Nat) from D.is 2 72 rfl rfl rfl, show b.eval (.tmp 75) = .string fa from D.is 5 75 rfl rfl rfl, show b.eval (.tmp 78) = .string fb from D.is 8 78 rfl rfl rfl]) (fun w' hb => (hpart.out w' (tabs_below hT'.out (two_below hB3.out hb))).mono fun e w'' h => ⟨_, h.1, rfl, h.2⟩)) ?_
      refine Rel.steps_cons (Rel.step_passB (n := 95) (j := 9) (t := 79) rfl (.inl rfl) (.inl rfl) rfl rfl rfl rfl) ?_
      refine Rel.steps_cons (Rel.step_run1 (n := 95) (j := 10) (t := 69) rfl (.inl rfl) rfl rfl rfl (fun ρ w' _ h1 hk => by simp [execOp, h1, hk, go_sem]) rfl) ?_
      refine Rel.steps_cons (Rel.step_run1 (n := 95) (j := 10) (t := 69) rfl (.inl rfl) rfl rfl rfl (fun ρ w' _ h1 hk => by simp [execOp, h1, hk, go_sem]) rfl) ?_
      refine Rel.steps_cons (Rel.step_run1 (n := 95) (j := 10) (t := 69) rfl (.inl rfl) rfl rfl rfl (fun ρ w' _ h1 hk => by simp [execOp, h1, hk, go_sem]) rfl) ?_
      refine Rel.steps_cons (Rel.step_passB (n := 95) (j := 11) (t := 80) rfl (.inl rfl) (.inr rfl) rfl rfl rfl rfl) ?_
      refine Rel.steps_cons (Rel.step_passB (n := 95) (j := 12) (t := 81) rfl (.inl rfl) (.inr rfl) rfl rfl rfl rfl) ?_
      refine Rel.steps_cons (Rel.step_passB (n := 95) (j := 13) (t := 82) rfl (.inl rfl) (.inr rfl) rfl rfl rfl rfl) ?_
      exact trivial
    intro v w4 hv hb4
    have e9 : v 9 = .tuple #[.int .i64 a, .int .i64 b, .bool true] := hv 9 (by decide)
    have e14 : v 14 = .int .i64 a := hv 14 (by decide)
    have e15 : v 15 = .int .i64 b := hv 15 (by decide)
    have e16 : v 16 = .bool true := hv 16 (by decide)
    have hB4 := veil (two_below hB3.out hb4)
    have hX4 := veil ((hb4.block _ (by omega)).trans hX3.out)
    have hZ4 := veil ((hb4.block _ (by omega)).trans hZ3.out)
    have hs4 := hb4.size
    simp only [Rel.fill, Act.put, List.setIfInBounds_toArray, List.set_cons_zero, List.set_cons_succ]
    rw [e14, e15, e16]
    clear hb4 hv e9 e14 e15 e16 q1 q2 qa qb hX3 hZ3 hB3
    go_wp2_with fail
    refine RelG.wp_region_rel2 (G := (RelG.Stor (w.heap.size + 1) (.cells zS tV (0, 0)) (.cells #[.int .u8 2, .string s, .slice A1 l.length c1, H, Z] tV (0, 0)))) (n := 95) [RelG.is _ 87 (.agg #[.int .u8 2, .string s, .slice A1 l.length c1, H, Z]), RelG.is _ 88 (.pointer (some ⟨w.heap.size, 2, none⟩)), RelG.is _ 89 (.slice A1 l.length c1), RelG.is _ 90 (.int .i64 a), RelG.is _ 91 (.int .i64 b), RelG.is _ 92 (.int .i64 b), RelG.is _ 93 (.slice B3 (b - a) (b - a)), RelG.fr _ _ _ 94 R, RelG.put _ _ _, RelG.fr _ _ _ 5 R] [[87], [88], [89], [90], [91], [92], [93], [94], [], [5]] (by kernel_rfl) rfl rfl (by kernel_rfl) ?_ ?_
    · refine RelG.steps_cons (RelG.step_load (n := 95) (t := 2) (u := 87) (b := w.heap.size) (t' := tV) (cs := #[.int .u8 2, .string s, .slice A1 l.length c1, H, Z]) (fr := (0, 0)) rfl rfl rfl rfl (by decide) (by kernel_rfl) (by kernel_rfl) Tryz.underlying28 rfl (info5x _ _ _ _ _) (fun w' hle => RelG.stor_other hle (by omega) hX4.out) rfl) ?_
      refine RelG.steps_cons (RelG.step_run0 (n := 95) (t := 2) (u := 88) (v := .pointer (some ⟨w.heap.size, 0, none⟩)) rfl rfl rfl (by decide) (by kernel_rfl) (by kernel_rfl) (fun ρ w' hle h _ => by simp [execOp, h, go_sem, Addr.add]) rfl) ?_
      refine RelG.steps_cons (RelG.step_run (n := 95) (j := 1) (t := 88) (u := 89) (v := .pointer (some ⟨w.heap.size, 2, none⟩)) rfl rfl rfl (by decide) rfl rfl (fun ρ w' hle h _ => by
          have c : w'.cell? ⟨w.heap.size, 2, none⟩ = some (.slice A1 l.length c1) := by rw [cell_of_row _ _ _ _ _ _ (RelG.stor_other hle (by omega) hX4.out)]; rfl
          simp [execOp, h, go_sem, c]) rfl) ?_
      refine RelG.steps_cons (RelG.step_was (n := 95) (t := 7) (u := 90) rfl rfl rfl rfl (by decide) (by kernel_rfl) (by kernel_rfl) rfl) ?_
      refine RelG.steps_cons (RelG.step_was (n := 95) (t := 8) (u := 91) rfl rfl rfl rfl (by decide) (by kernel_rfl) (by kernel_rfl) rfl) ?_
      refine RelG.steps_cons (RelG.step_was (n := 95) (t := 8) (u := 92) rfl rfl rfl rfl (by decide) (by kernel_rfl) (by kernel_rfl) rfl) ?_
      refine RelG.steps_cons (RelG.step_val rfl fun b' w' D => ⟨.slice B3 (b - a) (b - a), run_cut3 rfl (D.is 2 rfl rfl) (D.is 3 rfl rfl) (D.is 4 rfl rfl) (D.is 5 rfl rfl) (hcut.out w'), RelG.get_put b' 93 _ (by rw [D.siz]; exact (by decide : 93 < 95))⟩) ?_
      refine RelG.steps_cons (RelG.step_call rfl Tryz.func21 (by kernel_rfl) rfl #[.slice B3 (b - a) (b - a)] rfl (fun b' w' D => by simp only [List.map_toArray, List.map_cons, List.map_nil, D.is 6 rfl rfl]) (fun b' w' D => call_fr (htexts.out w' (by have := D.bel.1.2.2.2; exact RelG.stor_below hB4.out D.bel (by omega) (by omega))) (by have := stor_size D.bel; omega) (by rw [D.siz]; exact (by decide : 94 < 95)))) ?_
      refine RelG.steps_cons (RelG.step_store (j := 0) (t := 4) (u := 87) rfl rfl rfl (by kernel_rfl) (by kernel_rfl) rfl rfl ⟨zS, rfl, rfl⟩ hZ4.out (info5x _ _ _ _ _) hone.out rfl) ?_
      refine RelG.steps_cons (RelG.step_pass_of (n := 95) (j := 7) (t := 94) (u := 5) (p := RelG.frP (w.heap.size + 1) R) (hp := fun x w w' h hle => RelG.frP_sta _ x w w' h hle) rfl rfl (.inr rfl) rfl (by decide) rfl rfl rfl) ?_
      exact trivial
    intro v e w9 hg hv hle
    have k5 : e 5 = v 9 := hg 9 5 rfl
    have h2 : w9.heap[w.heap.size + 1]? = some (.cells #[.int .u8 2, .string s, .slice A1 l.length c1, H, Z] tV (0, 0)) := hv 8 (by decide)
    have h3 : RelG.frP (w.heap.size + 1) R (e 5) w9 := hv 9 (by decide)
    rw [k5] at h3
    simp only [Rel.fill, Act.put, List.setIfInBounds_toArray, List.set_cons_zero, List.set_cons_succ]
    have hD := veil (dres_of (v := #[.int .u8 2, .string s, .slice A1 l.length c1, H, Z]) hB4.out hle (by omega) (by omega) h3)
    have h2' := veil h2
    clear hg hv hle h3 h2 k5
    go_wp2_with fail
    refine bodyPost_ret (v := .tuple #[.agg #[.int .u8 2, .string s, .slice A1 l.length c1, H, Z], v 9]) ?_ rfl hD.out
    exact RelG.results_cell_tmp (p := 4) (q := 5) (ty := 28) Tryz.results8 _ _ (w.heap.size + 1) tV #[.int .u8 2, .string s, .slice A1 l.length c1, H, Z] (0, 0) _ _ rfl rfl h2'.out Tryz.underlying28 rfl (info5x _ _ _ _ _)
end Go.Proofs.Tryz.Ln
