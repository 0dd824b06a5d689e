import Derived.Test.YtnlmdijpbedefaaGreatDoorRows
import Derived.Test.YtnlmdijpbedefaaGreatDoorRow
import Derived.Test.YtnlmdijpbedefaaGreatDoorRowU
import Derived.Deep.DeepHandedRow
import Derived.Test.YtnlmdijpbedefaaGreatDoorRng
import Derived.WalkKit
import Derived.ProofKit
import Derived.OpenShut
import Derived.ShutString
import Derived.ChangeOld
import Derived.Below
import Derived.SizedLaws
import Derived.LaidMore
import Derived.Lay
import Derived.Stop.Joined
import Derived.SevenTiedAt
import Derived.Lib.LaidTab
import Derived.Test.YtnlmdijpbedefaaGreatDoorTie
import Derived.Test.YtnlmdijpbedefaaGreatDoorCards
/- the law ListsRanges, where the arguments are together of bulk at most 1048576 -/
namespace Go.Proofs.YtnlmdijpbedefaaGreatDoor.listsRangesUpto
open Go.ChangeShapes Go.WideShapes Go.ChangeAt Go.RowKit
open Go.ChangeMaps (open_string shut_string)
set_option linter.unusedVariables false
theorem own : ownKnob Tryz.prog.godebug = none := by kernel_rfl
theorem laidOut : laidOutB Tryz.prog = true := by kernel_rfl
theorem tab_of {W : World} (h : laidMet Tryz.prog Rows.listsRangesUptoRow.laid W) : Tryz.Ln.Tabl W :=
  Tryz.RowK.laid_tab (n := "internal/strconv.uint64pow10") (zs := Lib.pow10Tab) (k := .u64) (g := 3) h.tail.tail (by kernel_rfl) (by kernel_rfl) Tryz.underlying151 Tryz.underlying124 (by kernel_rfl) (by kernel_rfl)
theorem esyn_of {W : World} (h : laidMet Tryz.prog Rows.listsRangesUptoRow.laid W) : ∃ ev, W.cell? ⟨1, 0, none⟩ = some ev ∧ Tryz.Ln.IsErr ev := by
  obtain ⟨a, _, hv, _⟩ := laid_sentinel (n := "strconv.ErrSyntax") (nm := "*errors.errorString") (g := 1) h.tail.tail.tail.tail (by kernel_rfl) (by kernel_rfl) Tryz.underlying59 Tryz.RowK.only_errorString Tryz.underlying157 Tryz.underlying159 rfl rfl Tryz.underlying9 (by kernel_rfl) (by kernel_rfl)
  exact ⟨_, World.var?_cell (by kernel_rfl) hv 0, .inr ⟨_, _, rfl⟩⟩
theorem eran_of {W : World} (h : laidMet Tryz.prog Rows.listsRangesUptoRow.laid W) : ∃ ev, W.cell? ⟨2, 0, none⟩ = some ev ∧ Tryz.Ln.IsErr ev := by
  obtain ⟨a, _, hv, _⟩ := laid_sentinel (n := "strconv.ErrRange") (nm := "*errors.errorString") (g := 2) h.tail.tail.tail (by kernel_rfl) (by kernel_rfl) Tryz.underlying59 Tryz.RowK.only_errorString Tryz.underlying157 Tryz.underlying159 rfl rfl Tryz.underlying9 (by kernel_rfl) (by kernel_rfl)
  exact ⟨_, World.var?_cell (by kernel_rfl) hv 0, .inr ⟨_, _, rfl⟩⟩
theorem tabs_of {W : World} (h : laidMetH Tryz.prog Rows.listsRangesUptoRow.laid W) (hsh : W.ShapedOpen Tryz.prog) : Tryz.Ln.Tabs W := by
  rw [MakeChecks.laidMetH_plain _ _ _ (by kernel_rfl)] at h
  exact { tab := tab_of h, esyn := esyn_of h, eran := eran_of h, maxl := Go.Proofs.cell_of_shapedOpen_int (t := 3) (zero := #[.int .i64 0]) hsh (of_decide_eq_true (by kernel_rfl)) (by kernel_rfl) rfl (by kernel_rfl) (by kernel_rfl) (by kernel_rfl) }
theorem reads (os : Os) {H : Type} (enc : TypeId × Value → H) : DataW.whole enc Tryz.prog ((World.laidAll Tryz.prog os Rows.listsRangesUptoRow.laid).forCall (fun _ _ => 0) ⟨#[], #[.slice none 0 0, .int .u8 0], []⟩).memory Tryz.f4.params.toList Rows.listsRangesSpec.vars false (#[.slice none 0 0, .int .u8 0] : Array Value).toList 8 = some ([.nil, .lit (.int .u8 0)], [], []) := by kernel_rfl
theorem fits (os : Os) (H : Type) (enc : TypeId × Value → H) : ∃ (w : World) (tape : Tape) (i : Input), w.os = os ∧ (w.forCall tape i).Shaped Tryz.checked.prog ∧ i.vars = [] ∧ Input.okWide Tryz.checked.prog (w.forCall tape i) .any w.heap.size 4 i ∧
    (Rows.OpenSpec.upto Rows.listsRangesSpec).preRow enc Tryz.checked.prog Tryz.f4 Rows.listsRangesUptoRow.domain false Rows.listsRangesUptoRow.laid (w.forCall tape i).memory i.args ∧ ({} : Assume).holds Tryz.checked.prog (lone (Frame.enter Tryz.checked.prog 4 i.args .normal) [] (w.forCall tape i)) := by
  have hok : Input.okWideB Tryz.checked.prog ((World.laidAll Tryz.prog os Rows.listsRangesUptoRow.laid).forCall (fun _ _ => 0) ⟨#[], #[.slice none 0 0, .int .u8 0], []⟩) 4 ⟨#[], #[.slice none 0 0, .int .u8 0], []⟩ = true := by kernel_rfl
  refine ⟨World.laidAll Tryz.prog os Rows.listsRangesUptoRow.laid, fun _ _ => 0, ⟨#[], #[.slice none 0 0, .int .u8 0], []⟩, World.laidAll_os _ _ _, World.shaped_of_ZipB (by kernel_rfl) (by kernel_rfl), (Input.okWide_of_okWideB (base := 0) hok).1, (Input.okWide_of_okWideB hok).2,
    OpenSpec.preRow_of_cond 8 (reads os enc) (by kernel_rfl) (fun k hk => by cases hk; kernel_rfl) (by kernel_rfl) (by rw [MakeChecks.laidMetH_plain _ _ _ (by kernel_rfl)]; exact laidMet_laidAll _ (by kernel_rfl) (by kernel_rfl)), ?_⟩
  simp only [Assume.holds]
  exact ⟨by simp, by simp, fun _ => Modest.zero, by simp, by simp⟩
set_option maxRecDepth 100000 in
theorem lifted (os : Os) (started : os.Started) (H : Type) (enc : TypeId × Value → H) (F : Stop.Interp) :
    ReturnsInHanded {} Tryz.checked os 4 .any ((Rows.OpenSpec.upto Rows.listsRangesSpec).preRow enc Tryz.prog Tryz.f4 Rows.listsRangesUptoRow.domain false Rows.listsRangesUptoRow.laid) (((Rows.OpenSpec.upto Rows.listsRangesSpec).at F).post enc Tryz.prog Tryz.f4 false true false false) := by
  refine returnsInHanded_of_row (C := Tryz.checked) (s := (Rows.OpenSpec.upto Rows.listsRangesSpec)) own started (by kernel_rfl) Tryz.func4 (fits os H enc) ?_
  intro W base args ds gs before hval0 hW hcnd hcond hsz0 hL hsh _
  have hbk0 := Go.Proofs.YtnlmdijpbedefaaGreatDoor.upto.bound (hcond _ rfl)
  have hsz : (DataW.weightsEach Tryz.prog (Tryz.f4.params.toList ++ Rows.listsRangesSpec.plain.varTypes Tryz.prog) (ds ++ gs)).all (· ≤ reachBytes) = true := hsz0
  have hval : ∀ (j : Nat) t v, Tryz.f4.params[j]? = some t → args[j]? = some v → Value.okWide Tryz.prog W .any base t v := hval0
  have hW' := hW
  obtain ⟨p, q, hA0, hV, rfl, hfz, hnd⟩ := hW
  have hA : DataW.TrodAll enc Tryz.prog W 0 (fun _ => true) true Tryz.f4.params.toList args.toList ds p := hA0
  rw [Tryz.params4] at hA hval hsz
  obtain ⟨v0, vs0, d0, ds0, p0, q0, hargs, rfl, rfl, h0, r0⟩ := trodAll_cons hA
  obtain ⟨v1, vs1, d1, ds1, p1, q1, rfl, rfl, rfl, h1, r1⟩ := trodAll_cons r0
  obtain ⟨rfl, rfl, rfl⟩ := trodAll_nil r1
  obtain rfl : args = #[v0, v1] := by cases args; simp_all
  obtain ⟨rfl, rfl⟩ := trodVars_none hV
  obtain ⟨a0, len0, cap0, rfl⟩ := okWide_slice Tryz.underlying22 (hval 0 22 v0 rfl rfl)
  have k0 := h0
  have lt0 : ∀ x ∈ p0, x.block < W.heap.size := by obtain ⟨m, hm⟩ := k0; exact DataW.trod_lt m _ _ _ hm
  obtain ⟨z0, rfl, c0, w0, s0⟩ := Go.Proofs.YtnlmdijpbedefaaGreatDoor.upto.strs_upto Tryz.underlying22 Tryz.underlying9 (by kernel_rfl) h0
  obtain ⟨a1, rfl, rfl, rfl, w1⟩ := open_int Tryz.underlying5 (hval 1 5 v1 rfl rfl) h1
  simp only [List.append_nil, Rows.uptoBulkAll] at hbk0
  have b0 : (z0.map (·.size)).sum + z0.length ≤ 1048576 := by omega
  have hTab := tabs_of hL hsh
  clear hA0 hval0 hsz0 hsz hL hsh
  refine (Go.Proofs.Tryz.Ln.ranges_walk a0 cap0 z0 a1 W w0 c0 b0 w1 hTab).mono fun e W' ⟨he, bel⟩ => ?_
  subst he
  exact ⟨_, rfl, _, _, _, [], _, [], hW', trodAll_mk1 (shut_bool Tryz.underlying4 _), (trodAll_cons_mk (Below.trod laidOut (by kernel_rfl) (of_decide_eq_true (by kernel_rfl)) k0 bel lt0) (trodAll_cons_mk (shut_int Tryz.underlying5 w1) trodAll_mk0)), rfl, bel.frame _, fun h => by cases h⟩
theorem over : Rows.ListsRangesUptoSaid :=
  OpenClaim.holds_of_cond 4 Tryz.f4 rfl rfl rfl rfl rfl rfl rfl ⟨rfl, rfl, rfl, rfl, rfl⟩ rfl rfl rfl rfl rfl (by kernel_rfl) Tryz.func4 (by kernel_rfl)
    (of_decide_eq_true (by kernel_rfl)) (by unfold Func.isWrapper; first | (rw [if_pos (by decide +kernel)]; kernel_rfl) | (rw [if_neg (by decide +kernel)]; exact ⟨rfl, rfl⟩))
    (fun os started H enc _ F => by rw [OpenClaim.pre_eq_preRow]; exact lifted os started H enc F)
theorem plain (f : FuncId) (fn : Func) (hf : Tryz.pinned.checked.prog.funcNamed "tipstaff/tipstafflaw12.ListsRanges" = some f) (hfn : Tryz.pinned.checked.prog.funcs[f]? = some fn) :
    true = Tryz.pinned.checked.prog.looks [] ∧ ∀ (j : Nat) t, fn.params[j]? = some t → Tryz.pinned.checked.prog.wantsStandIn t = false := by
  obtain rfl : f = 4 := Option.some.inj ((show Tryz.prog.funcNamed "tipstaff/tipstafflaw12.ListsRanges" = some 4 by kernel_rfl).symm.trans hf) |>.symm
  obtain rfl : fn = Tryz.f4 := (Option.some.inj (Tryz.func4.symm.trans hfn)).symm
  refine ⟨by kernel_rfl, fun j t ht => ?_⟩
  rw [Tryz.params4] at ht
  have hm : t ∈ [22, 5] := by simpa using Array.mem_of_getElem? ht
  have hall : ([22, 5].all fun u => !Tryz.prog.wantsStandIn u) = true := by kernel_rfl
  exact (show Tryz.prog.wantsStandIn t = false by simpa using List.all_eq_true.1 hall t hm)
end Go.Proofs.YtnlmdijpbedefaaGreatDoor.listsRangesUpto
namespace Go.Proofs.YtnlmdijpbedefaaGreatDoor
/-- The tied card of the second form. -/
theorem listsRangesUptoCard_holds : Rows.ListsRangesUptoCardSaid :=
  Claim7.holds_tied_plain_at .later [] _ _ _ _ listsRangesUpto.over (fun _ h => by cases h) (by kernel_rfl) (fun _ h => by cases h) listsRangesUpto_row_tie rfl ⟨rfl, rfl⟩ (by kernel_rfl) rfl listsRangesUpto.plain (by kernel_rfl)
#print axioms listsRangesUptoCard_holds
end Go.Proofs.YtnlmdijpbedefaaGreatDoor
