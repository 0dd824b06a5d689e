import Derived.Test.YtmfjpdhhcgkjaaaGreatDoorRows
import Derived.Test.YtmfjpdhhcgkjaaaGreatDoorRow
import Derived.Test.YtmfjpdhhcgkjaaaGreatDoorRowA
import Derived.Test.YtmfjpdhhcgkjaaaGreatDoorSums
import Derived.WalkKit
import Derived.ProofKit
import Derived.OpenShut
import Derived.ShutString
import Derived.ChangeOld
import Derived.Below
import Derived.SizedLaws
import Derived.LaidMore
import Derived.Lay
import Derived.Stop.Joined
import Derived.SevenTiedAt
import Derived.Lib.LaidTab
import Derived.Test.YtmfjpdhhcgkjaaaGreatDoorTie
import Derived.Test.YtmfjpdhhcgkjaaaGreatDoorCards
import Derived.Test.YtmfjpdhhcgkjaaaGreatDoorWSized
/- the law TextsSums -/
namespace Go.Proofs.YtmfjpdhhcgkjaaaGreatDoor.textsSums
open Go.ChangeShapes Go.WideShapes Go.ChangeAt Go.RowKit
open Go.ChangeMaps (open_string shut_string)
open Go.Proofs.YtmfjpdhhcgkjaaaGreatDoorW
set_option linter.unusedVariables false
theorem own : ownKnob Tryz.prog.godebug = none := by kernel_rfl
theorem laidOut : laidOutB Tryz.prog = true := by kernel_rfl
def IsRow (k : IntKind) (w : World) (a : Option Addr) (len cap : Nat) (zs : List Int) : Prop :=
  (a = none ∧ len = 0 ∧ cap = 0 ∧ zs = []) ∨
  ∃ x, a = some x ∧ len ≤ cap ∧ cap ≤ maxLen ∧ zs.length = cap ∧ (∀ i, i < zs.length → w.cell? (x.add i) = some (.int k (zs.getD i 0))) ∧ ∀ n ∈ zs, (Lit.int k n).wf = true
theorem tab_of {W : World} (h : laidMet Tryz.prog Rows.textsSumsRow.laid W) : Tryz.Ln.Tabl W :=
  Tryz.RowK.laid_tab (n := "internal/strconv.uint64pow10") (zs := Lib.pow10Tab) (k := .u64) (g := 2) h.tail.tail (by kernel_rfl) (by kernel_rfl) Tryz.underlying147 Tryz.underlying64 (by kernel_rfl) (by kernel_rfl)
theorem esyn_of {W : World} (h : laidMet Tryz.prog Rows.textsSumsRow.laid W) : ∃ ev, W.cell? ⟨0, 0, none⟩ = some ev ∧ Tryz.Ln.IsErr ev := by
  obtain ⟨a, _, hv, _⟩ := laid_sentinel (n := "strconv.ErrSyntax") (nm := "*errors.errorString") (g := 0) h.tail.tail.tail.tail (by kernel_rfl) (by kernel_rfl) Tryz.underlying77 Tryz.RowK.only_errorString Tryz.underlying167 Tryz.underlying169 rfl rfl Tryz.underlying9 (by kernel_rfl) (by kernel_rfl)
  exact ⟨_, World.var?_cell (by kernel_rfl) hv 0, .inr ⟨_, _, rfl⟩⟩
theorem eran_of {W : World} (h : laidMet Tryz.prog Rows.textsSumsRow.laid W) : ∃ ev, W.cell? ⟨1, 0, none⟩ = some ev ∧ Tryz.Ln.IsErr ev := by
  obtain ⟨a, _, hv, _⟩ := laid_sentinel (n := "strconv.ErrRange") (nm := "*errors.errorString") (g := 1) h.tail.tail.tail (by kernel_rfl) (by kernel_rfl) Tryz.underlying77 Tryz.RowK.only_errorString Tryz.underlying167 Tryz.underlying169 rfl rfl Tryz.underlying9 (by kernel_rfl) (by kernel_rfl)
  exact ⟨_, World.var?_cell (by kernel_rfl) hv 0, .inr ⟨_, _, rfl⟩⟩
theorem tabs_of {W : World} (h : laidMetH Tryz.prog Rows.textsSumsRow.laid W) (hsh : W.ShapedOpen Tryz.prog) : Tryz.Ln.Tabs W := by
  rw [MakeChecks.laidMetH_plain _ _ _ (by kernel_rfl)] at h
  exact { tab := tab_of h, esyn := esyn_of h, eran := eran_of h, maxl := Go.Proofs.cell_of_shapedOpen_int (t := 3) (zero := #[.int .i64 0]) hsh (of_decide_eq_true (by kernel_rfl)) (by kernel_rfl) rfl (by kernel_rfl) (by kernel_rfl) (by kernel_rfl) }
set_option maxRecDepth 100000 in
theorem lifted (os : Os) (started : os.Started) (H : Type) (enc : TypeId × Value → H) :
    ReturnsInHanded {} Tryz.checked os 5 .any (fun w args => (Rows.textsSumsSpec.pre enc Tryz.prog Tryz.f5 Rows.textsSumsRow.domain false w args ∧ laidMetH Tryz.prog Rows.textsSumsRow.laid w) ∧ sizedMet enc Tryz.prog Tryz.f5 (OpenSpec.ofChange Rows.textsSumsSpec) false w args) (Rows.textsSumsSpec.post enc Tryz.prog Tryz.f5 false true false false) := by
  refine Tryz.RowK.calls_shaped_and (C := Tryz.checked) (X := fun w _ => laidMetH Tryz.prog Rows.textsSumsRow.laid w) (fun _ _ _ hh h => h.of_heap hh) own started (by kernel_rfl) Tryz.func5
    (ChangeSpec.witness_shaped (enc := enc) (C := Tryz.checked) (os := os) (X := fun w _ => laidMetH Tryz.prog Rows.textsSumsRow.laid w) false (World.laidAll Tryz.prog os Rows.textsSumsRow.laid) #[.agg #[.int .i64 0, .int .i64 0, .int .i64 0], .string ByteArray.empty] 8 (World.laidAll_os _ _ _)
      (World.shaped_of_ZipB (by kernel_rfl) (by kernel_rfl)) (by kernel_rfl) (by kernel_rfl) (by kernel_rfl)
      (by rw [MakeChecks.laidMetH_plain _ _ _ (by kernel_rfl)]; exact laidMet_laidAll _ (by kernel_rfl) (by kernel_rfl))) ?_
  intro W base args ds gs before hval0 hW hcnd hsz0 hL hsh _
  have hsz : (DataW.weightsEach Tryz.prog (Tryz.f5.params.toList ++ Rows.textsSumsSpec.plain.varTypes Tryz.prog) (ds ++ gs)).all (· ≤ reachBytes) = true := hsz0
  have hval : ∀ (j : Nat) t v, Tryz.f5.params[j]? = some t → args[j]? = some v → Value.okWide Tryz.prog W .any base t v := hval0
  have hW' := hW
  obtain ⟨p, q, hA0, hV, rfl, hfz, hnd⟩ := hW
  have hA : DataW.TrodAll enc Tryz.prog W 0 (fun _ => true) true Tryz.f5.params.toList args.toList ds p := hA0
  rw [Tryz.params5] at hA hval hsz
  obtain ⟨v0, vs0, d0, ds0, p0, q0, hargs, rfl, rfl, h0, r0⟩ := trodAll_cons hA
  obtain ⟨v1, vs1, d1, ds1, p1, q1, rfl, rfl, rfl, h1, r1⟩ := trodAll_cons r0
  obtain ⟨rfl, rfl, rfl⟩ := trodAll_nil r1
  obtain rfl : args = #[v0, v1] := by cases args; simp_all
  obtain ⟨rfl, rfl⟩ := trodVars_none hV
  have k0 := h0
  have lt0 : ∀ x ∈ p0, x.block < W.heap.size := by obtain ⟨m, hm⟩ := k0; exact DataW.trod_lt m _ _ _ hm
  obtain ⟨a0, b0, c0, rfl, u0, w0, x0⟩ := Tryz.RowK.arr3_int Tryz.underlying43 Tryz.underlying3 (by kernel_rfl) (by kernel_rfl) (hval 0 43 v0 rfl rfl) h0
  obtain ⟨a1, rfl, rfl, rfl, y1⟩ := open_string Tryz.underlying9 (hval 1 9 v1 rfl rfl) h1
  have w1 : a1.size ≤ 140737488351232 := by
    have z := sized_string hsz (j := 1) (t := 9) rfl rfl
    rw [Array.length_toList] at z
    exact z
  have hTab := tabs_of hL hsh
  clear hA0 hval0 hsz0 hsz hL hsh
  refine (Go.Proofs.Tryz.Ln.sums_walk a0 b0 c0 a1 W u0 w0 x0 w1 hTab).mono fun e W' ⟨he, bel⟩ => ?_
  subst he
  exact ⟨_, rfl, _, _, _, [], _, [], hW', trodAll_mk1 (shut_bool Tryz.underlying4 _), (trodAll_cons_mk (Below.trod laidOut (by kernel_rfl) (of_decide_eq_true (by kernel_rfl)) k0 bel lt0) (trodAll_cons_mk (shut_string Tryz.underlying9 y1) trodAll_mk0)), rfl, bel.frame _, fun h => by cases h⟩
theorem over : Rows.textsSumsRow.holds Tryz.pinned (OpenSpec.ofChange Rows.textsSumsSpec) :=
  OpenClaim.holds_of_wide 5 Tryz.f5 rfl rfl rfl rfl rfl rfl rfl ⟨rfl, rfl, rfl, rfl, rfl⟩ rfl rfl rfl rfl rfl (by kernel_rfl) Tryz.func5 (by kernel_rfl)
    (of_decide_eq_true (by kernel_rfl)) (by unfold Func.isWrapper; first | (rw [if_pos (by decide +kernel)]; kernel_rfl) | (rw [if_neg (by decide +kernel)]; exact ⟨rfl, rfl⟩))
    (fun os started H enc _ => lifted os started H enc)
theorem proved : Rows.TextsSumsSaid := over
end Go.Proofs.YtmfjpdhhcgkjaaaGreatDoor.textsSums
namespace Go.Proofs.YtmfjpdhhcgkjaaaGreatDoor
/-- The statement, under a short name. -/
theorem textsSums_holds : Rows.TextsSumsSaid := textsSums.proved
/-- The tied card. -/
theorem textsSumsCard_holds : Rows.TextsSumsCardSaid :=
  Claim7.holds_tied_plain_at .later [] [.data, .data, .data, .sentinel, .sentinel] true (true, "e3022fa992d3406b0b5b25f078f9b75b703b5c6e46cfe1aa05792c46f847514e") true
    textsSums_holds (fun _ h => by cases h) (by kernel_rfl) (fun _ h => by cases h) textsSums_row_tie rfl ⟨rfl, rfl⟩ (by kernel_rfl) rfl
    (fun f fn hf hfn => by
      obtain rfl : f = 5 := Option.some.inj ((show Tryz.prog.funcNamed "tipstaff/tipstafflaw11.TextsSums" = some 5 by kernel_rfl).symm.trans hf) |>.symm
      obtain rfl : fn = Tryz.f5 := (Option.some.inj (Tryz.func5.symm.trans hfn)).symm
      exact ⟨by kernel_rfl, fun j t ht => by
        rw [Tryz.params5] at ht
        have hm : t ∈ [43, 9] := by simpa using Array.mem_of_getElem? ht
        have hall : ([43, 9].all fun u => !Tryz.prog.wantsStandIn u) = true := by kernel_rfl
        exact (show Tryz.prog.wantsStandIn t = false by simpa using List.all_eq_true.1 hall t hm)⟩)
    (by kernel_rfl)
#print axioms textsSumsCard_holds
end Go.Proofs.YtmfjpdhhcgkjaaaGreatDoor
