import Derived.Test.YtnkjejmgpempkaaGreatDoorLsC
/- lists.Do with a value of another type. -/
namespace Go.Proofs.Tryz.Ln
open Go Go.RowKit Go.Proofs.Mem Go.Proofs.App
open Go.Proofs.YtnkjejmgpempkaaGreatDoorW.PrintWords Go.Proofs.YtnkjejmgpempkaaGreatDoorW.PrintLast
open Go.Proofs.Rel (dsts depsOf)
set_option linter.unusedVariables false
set_option linter.unusedSimpArgs false
def WrongT : ByteArray := ⟨#[87, 82, 79, 78, 71, 84, 89, 80, 69, 32, 79, 112, 101, 114, 97, 116, 105, 111, 110, 32, 97, 103, 97, 105, 110, 115, 116, 32, 97, 32, 107, 101, 121, 32, 104, 111, 108, 100, 105, 110, 103, 32, 116, 104, 101, 32, 119, 114, 111, 110, 103, 32, 107, 105, 110, 100, 32, 111, 102, 32, 118, 97, 108, 117, 101]⟩
set_option maxRecDepth 100000 in
set_option maxHeartbeats 16000000 in
theorem do_wrong (k : Int) (s a0 nm : ByteArray) (x H Z : Value) (args : List ByteArray) (B : Option Addr) (ac : Nat) (w : World) (hk0 : ¬ k = 0) (hk2 : ¬ k = 2) (hone0 : (#[.int .u8 k, .string s, x, H, Z] : Array Value).all (·.oneCell') = true) (hargs : tR w (.slice B args.length ac) args) (h1 : 1 ≤ args.length) (ha : args[0]? = some a0)
    (hz0 : a0.size ≤ 1000) (hlow : lowS a0 = nm) (hnm : nm = ⟨#[108, 112, 117, 115, 104]⟩ ∨ nm = ⟨#[114, 112, 117, 115, 104]⟩ ∨ nm = ⟨#[108, 112, 111, 112]⟩ ∨ nm = ⟨#[114, 112, 111, 112]⟩ ∨ nm = ⟨#[108, 108, 101, 110]⟩ ∨ nm = ⟨#[108, 114, 97, 110, 103, 101]⟩) :
    Calls Tryz.prog 8 #[.agg #[.int .u8 k, .string s, x, H, Z], .slice B args.length ac] w (Dres #[.int .u8 k, .string s, x, H, Z] (lineL ⟨#[45]⟩ WrongT) w) := by
  obtain ⟨ad, rfl, c0⟩ : ∃ ad, B = some ad ∧ w.cell? ad = some (.string a0) := by
    obtain ⟨A, c, e, _, _, _, h4⟩ := hargs.ex
    injection e with e1 _ _
    subst e1
    obtain ⟨ad, e, hc⟩ := h4.2.2 (by omega)
    refine ⟨ad, e, ?_⟩
    have := hc 0 (by omega)
    rw [List.getD_eq_getElem?_getD, ha, Option.getD_some] at this
    simpa [Addr.add] using this
  obtain ⟨R, hR⟩ : ∃ R, lineL ⟨#[45]⟩ WrongT = R := ⟨_, rfl⟩
  have herr : Veil (∀ w', Calls Tryz.prog 16 #[.string WrongT] w' (Bytes_ R w')) := veil (fun w' => by rw [← hR]; exact Err_any WrongT w' (by decide +kernel))
  rw [hR]
  have hone := veil hone0
  obtain ⟨w2, hw2⟩ : ∃ w2 : World, w2 = (w.alloc (.cells #[.int .u8 k, .string s, x, H, Z] 26)).alloc (.cells #[.int .u8 0, .string ⟨#[]⟩, .slice none 0 0, .slice none 0 0, .slice none 0 0] 26) := ⟨_, rfl⟩
  have hsz2 : w2.heap.size = w.heap.size + 2 := by rw [hw2]; simp
  have hb2 : Below w.heap.size w w2 := by rw [hw2]; exact (below_alloc (Below.refl _ _) _).alloc (by simp) _
  have hx2 : w2.heap[w.heap.size]? = some (.cells #[.int .u8 k, .string s, x, H, Z] 26 (0, 0)) := by rw [hw2]; exact heap_alloc2_old w _ _
  have hz2 : w2.heap[w.heap.size + 1]? = some oZ := by
    rw [hw2]
    have := heap_alloc_last (w.alloc (.cells #[.int .u8 k, .string s, x, H, Z] 26)) (.cells #[.int .u8 0, .string ⟨#[]⟩, .slice none 0 0, .slice none 0 0, .slice none 0 0] 26)
    simpa [oZ, zS] using this
  have hadb : ad.block < w.heap.size := World.block_lt_of_cell? w _ c0
  have q0 : w2.cell? ad = some (.string a0) := (hb2.cell hadb).trans c0
  have q00 := q0
  rw [hw2] at q00
  have hB2 := veil hb2
  have hX2 := veil hx2
  have hZ2 := veil hz2
  have hw2' := veil hw2
  have l0 : (0 : Int) < args.length := by omega
  have hlow' := veil hlow
  have e0 : (k != 0) = true := by simp [hk0]
  have e2 : (k != 2) = true := by simp [hk2]
  clear hargs c0 ha hR hw2 hb2 hx2 hz2 hlow hone0
  go_enter Tryz.func8, Tryz.ntmps8
  go_wp2_with fail
  rw [← hw2'.out]
  refine (low_any a0 w2 (by omega)).mono ?_
  rintro e w3 ⟨rfl, hb3⟩
  rw [hlow'.out]
  have hB4 := veil (two_below hB2.out hb3)
  have hX4 := veil ((hb3.block _ (by omega)).trans hX2.out)
  have hZ4 := veil ((hb3.block _ (by omega)).trans hZ2.out)
  have hs3 := hb3.size
  clear hb3 q0 q00
  have q1 := cell_of_row _ _ 0 _ _ _ hX4.out
  simp only [List.getElem?_toArray, List.getElem?_cons_zero] at q1
  rcases hnm with rfl | rfl | rfl | rfl | rfl | rfl
  all_goals
    go_wp2_with fail
    refine RelG.wp_region_rel2 (G := (RelG.Stor (w.heap.size + 1) (.cells zS tV (0, 0)) (.cells #[.int .u8 k, .string s, x, H, Z] tV (0, 0)))) (n := 95) [RelG.is _ 31 (.agg #[.int .u8 k, .string s, x, H, Z]), RelG.fr _ _ _ 32 R, RelG.put _ _ _, RelG.fr _ _ _ 5 R] [[31], [32], [], [5]] (by kernel_rfl) rfl rfl (by kernel_rfl) ?_ ?_
    · refine RelG.steps_cons (RelG.step_load (n := 95) (t := 2) (u := 31) (b := w.heap.size) (t' := tV) (cs := #[.int .u8 k, .string s, x, H, Z]) (fr := (0, 0)) rfl rfl rfl rfl (by decide) (by kernel_rfl) (by kernel_rfl) Tryz.underlying26 rfl (info5x _ _ _ _ _) (fun w' hle => RelG.stor_other hle (by omega) hX4.out) rfl) ?_
      refine RelG.steps_cons (RelG.step_call rfl Tryz.func16 (by kernel_rfl) rfl #[.string WrongT] rfl (fun b' w' D => by simp [Act.eval, WrongT]) (fun b' w' D => call_fr (herr.out w') (by have := stor_size D.bel; omega) (by rw [D.siz]; exact (by decide : 32 < 95)))) ?_
      refine RelG.steps_cons (RelG.step_store (j := 0) (t := 4) (u := 31) rfl rfl rfl (by kernel_rfl) (by kernel_rfl) rfl rfl ⟨zS, rfl, rfl⟩ hZ4.out (info5x _ _ _ _ _) hone.out rfl) ?_
      refine RelG.steps_cons (RelG.step_pass_of (n := 95) (j := 1) (t := 32) (u := 5) (p := RelG.frP (w.heap.size + 1) R) (hp := fun x w w' h hle => RelG.frP_sta _ x w w' h hle) rfl rfl (.inr rfl) rfl (by decide) rfl rfl rfl) ?_
      exact trivial
    intro v e w9 hg hv hle
    have k5 : e 5 = v 3 := hg 3 5 rfl
    have h2 : w9.heap[w.heap.size + 1]? = some (.cells #[.int .u8 k, .string s, x, H, Z] tV (0, 0)) := hv 2 (by decide)
    have h3 : RelG.frP (w.heap.size + 1) R (e 5) w9 := hv 3 (by decide)
    rw [k5] at h3
    simp only [Rel.fill, Act.put, List.setIfInBounds_toArray, List.set_cons_zero, List.set_cons_succ]
    have hD := veil (dres_of (v := #[.int .u8 k, .string s, x, H, Z]) hB4.out hle (by omega) (by omega) h3)
    have h2' := veil h2
    clear hg hv hle h3 h2 k5
    go_wp2_with fail
    refine bodyPost_ret (v := .tuple #[.agg #[.int .u8 k, .string s, x, H, Z], v 3]) ?_ rfl hD.out
    exact RelG.results_cell_tmp (p := 4) (q := 5) (ty := 26) Tryz.results8 _ _ (w.heap.size + 1) tV #[.int .u8 k, .string s, x, H, Z] (0, 0) _ _ rfl rfl h2'.out Tryz.underlying26 rfl (info5x _ _ _ _ _)
set_option maxRecDepth 100000 in
set_option maxHeartbeats 8000000 in
theorem part_bad (many : Int) (a b : ByteArray) (w : World) (hab : Dig.parseO a = none ∨ Dig.parseO b = none) (hsa : a.size ≤ 70368744177664) (hsb : b.size ≤ 70368744177664) (hT : Tabs w) :
    Calls Tryz.prog 20 #[.int .i64 many, .string a, .string b] w fun e w' => e = .returned (.tuple #[.int .i64 0, .int .i64 0, .bool false]) ∧ Below w.heap.size w w' := by
  have hT' := veil hT
  cases hpa : Dig.parseO a <;> cases hpb : Dig.parseO b
  case some.some => rcases hab with h | h <;> simp_all
  all_goals
    have ha' := veil hpa
    have hb' := veil hpb
    clear hT hpa hpb hab
    go_enter Tryz.func20, Tryz.ntmps20
    go_wp2_with fail
    refine (parse_any a _ hsa hT'.out).mono ?_
    rintro e w1 ⟨rfl, hb1⟩
    rw [ha'.out]
    have hB1 := veil hb1
    clear hb1
    simp only [Option.getD_some, Option.isSome_some, Option.getD_none, Option.isSome_none]
    go_wp2_with fail
    refine (parse_any b _ hsb (tabs_below hT'.out hB1.out)).mono ?_
    rintro e w2 ⟨rfl, hb2⟩
    rw [hb'.out]
    have hB2 := veil (two_below hB1.out hb2)
    clear hb2 hB1
    simp only [Option.getD_some, Option.isSome_some, Option.getD_none, Option.isSome_none]
    go_wp2_with fail
    go_ret3
    exact ⟨rfl, hB2.out⟩
end Go.Proofs.Tryz.Ln
