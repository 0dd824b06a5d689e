import Derived.Test.YtcdcbkopapedhaaGreatDoorRows
import Derived.Deep.DeepHandedRow
import Derived.Test.YtcdcbkopapedhaaGreatDoorRowV
import Derived.Test.YtcdcbkopapedhaaGreatDoorTxL
import Derived.WalkKit
import Derived.ProofKit
import Derived.OpenShut
import Derived.ShutString
import Derived.ChangeOld
import Derived.Below
import Derived.SizedLaws
import Derived.LaidMore
import Derived.Lay
import Derived.Stop.Joined
import Derived.SevenTiedAt
import Derived.Lib.LaidTab
import Derived.Test.YtcdcbkopapedhaaGreatDoorTie
import Derived.Test.YtcdcbkopapedhaaGreatDoorCards
/- Texts.Wrong: a command of layer 11 at a value of another type answers WRONGTYPE -/
namespace Go.Proofs.YtcdcbkopapedhaaGreatDoor.textsWrongUpto
open Go.ChangeShapes Go.WideShapes Go.ChangeAt Go.RowKit
open Go.ChangeMaps (open_string shut_string)
set_option linter.unusedVariables false
theorem own : ownKnob Tryz.prog.godebug = none := by kernel_rfl
theorem laidOut : laidOutB Tryz.prog = true := by kernel_rfl
theorem tab_of {W : World} (h : laidMet Tryz.prog Rows.textsWrongUptoRow.laid W) : Tryz.Ln.Tabl W :=
  Tryz.RowK.laid_tab (n := "internal/strconv.uint64pow10") (zs := Lib.pow10Tab) (k := .u64) (g := 2) h.tail.tail (by kernel_rfl) (by kernel_rfl) Tryz.underlying142 Tryz.underlying114 (by kernel_rfl) (by kernel_rfl)
theorem esyn_of {W : World} (h : laidMet Tryz.prog Rows.textsWrongUptoRow.laid W) : ∃ ev, W.cell? ⟨0, 0, none⟩ = some ev ∧ Tryz.Ln.IsErr ev := by
  obtain ⟨a, _, hv, _⟩ := laid_sentinel (n := "strconv.ErrSyntax") (nm := "*errors.errorString") (g := 0) h.tail.tail.tail.tail (by kernel_rfl) (by kernel_rfl) Tryz.underlying68 Tryz.RowK.only_errorString Tryz.underlying162 Tryz.underlying164 rfl rfl Tryz.underlying9 (by kernel_rfl) (by kernel_rfl)
  exact ⟨_, World.var?_cell (by kernel_rfl) hv 0, .inr ⟨_, _, rfl⟩⟩
theorem eran_of {W : World} (h : laidMet Tryz.prog Rows.textsWrongUptoRow.laid W) : ∃ ev, W.cell? ⟨1, 0, none⟩ = some ev ∧ Tryz.Ln.IsErr ev := by
  obtain ⟨a, _, hv, _⟩ := laid_sentinel (n := "strconv.ErrRange") (nm := "*errors.errorString") (g := 1) h.tail.tail.tail (by kernel_rfl) (by kernel_rfl) Tryz.underlying68 Tryz.RowK.only_errorString Tryz.underlying162 Tryz.underlying164 rfl rfl Tryz.underlying9 (by kernel_rfl) (by kernel_rfl)
  exact ⟨_, World.var?_cell (by kernel_rfl) hv 0, .inr ⟨_, _, rfl⟩⟩
theorem tabs_of {W : World} (h : laidMetH Tryz.prog Rows.textsWrongUptoRow.laid W) (hsh : W.ShapedOpen Tryz.prog) : Tryz.Ln.Tabs W := by
  rw [MakeChecks.laidMetH_plain _ _ _ (by kernel_rfl)] at h
  exact { tab := tab_of h, esyn := esyn_of h, eran := eran_of h, maxl := Go.Proofs.cell_of_shapedOpen_int (t := 3) (zero := #[.int .i64 0]) hsh (of_decide_eq_true (by kernel_rfl)) (by kernel_rfl) rfl (by kernel_rfl) (by kernel_rfl) (by kernel_rfl) }
theorem reads (os : Os) {H : Type} (enc : TypeId × Value → H) : DataW.whole enc Tryz.prog ((World.laidAll Tryz.prog os Rows.textsWrongUptoRow.laid).forCall (fun _ _ => 0) ⟨#[], #[.agg #[.int .u8 0, .string ByteArray.empty, .slice none 0 0, .slice none 0 0, .slice none 0 0], .int .u8 0, .slice none 0 0], []⟩).memory Tryz.f3.params.toList Rows.textsWrongSpec.vars false (#[.agg #[.int .u8 0, .string ByteArray.empty, .slice none 0 0, .slice none 0 0, .slice none 0 0], .int .u8 0, .slice none 0 0] : Array Value).toList 8 = some ([.agg [.lit (.int .u8 0), .lit (.string []), .nil, .nil, .nil], .lit (.int .u8 0), .nil], [], []) := by kernel_rfl
theorem fits (os : Os) (H : Type) (enc : TypeId × Value → H) : ∃ (w : World) (tape : Tape) (i : Input), w.os = os ∧ (w.forCall tape i).Shaped Tryz.checked.prog ∧ i.vars = [] ∧ Input.okWide Tryz.checked.prog (w.forCall tape i) .any w.heap.size 3 i ∧
    (Rows.OpenSpec.upto Rows.textsWrongSpec).preRow enc Tryz.checked.prog Tryz.f3 Rows.textsWrongUptoRow.domain false Rows.textsWrongUptoRow.laid (w.forCall tape i).memory i.args ∧ ({} : Assume).holds Tryz.checked.prog (lone (Frame.enter Tryz.checked.prog 3 i.args .normal) [] (w.forCall tape i)) := by
  have hok : Input.okWideB Tryz.checked.prog ((World.laidAll Tryz.prog os Rows.textsWrongUptoRow.laid).forCall (fun _ _ => 0) ⟨#[], #[.agg #[.int .u8 0, .string ByteArray.empty, .slice none 0 0, .slice none 0 0, .slice none 0 0], .int .u8 0, .slice none 0 0], []⟩) 3 ⟨#[], #[.agg #[.int .u8 0, .string ByteArray.empty, .slice none 0 0, .slice none 0 0, .slice none 0 0], .int .u8 0, .slice none 0 0], []⟩ = true := by kernel_rfl
  refine ⟨World.laidAll Tryz.prog os Rows.textsWrongUptoRow.laid, fun _ _ => 0, ⟨#[], #[.agg #[.int .u8 0, .string ByteArray.empty, .slice none 0 0, .slice none 0 0, .slice none 0 0], .int .u8 0, .slice none 0 0], []⟩, World.laidAll_os _ _ _, World.shaped_of_ZipB (by kernel_rfl) (by kernel_rfl), (Input.okWide_of_okWideB (base := 0) hok).1, (Input.okWide_of_okWideB hok).2,
    OpenSpec.preRow_of_cond 8 (reads os enc) (by kernel_rfl) (fun k hk => by cases hk; kernel_rfl) (by kernel_rfl) (by rw [MakeChecks.laidMetH_plain _ _ _ (by kernel_rfl)]; exact laidMet_laidAll _ (by kernel_rfl) (by kernel_rfl)), ?_⟩
  simp only [Assume.holds]
  exact ⟨by simp, by simp, fun _ => Modest.zero, by simp, by simp⟩
set_option maxRecDepth 100000 in
theorem lifted (os : Os) (started : os.Started) (H : Type) (enc : TypeId × Value → H) (F : Stop.Interp) :
    ReturnsInHanded {} Tryz.checked os 3 .any ((Rows.OpenSpec.upto Rows.textsWrongSpec).preRow enc Tryz.prog Tryz.f3 Rows.textsWrongUptoRow.domain false Rows.textsWrongUptoRow.laid) (((Rows.OpenSpec.upto Rows.textsWrongSpec).at F).post enc Tryz.prog Tryz.f3 false true false false) := by
  refine returnsInHanded_of_row (C := Tryz.checked) (s := (Rows.OpenSpec.upto Rows.textsWrongSpec)) own started (by kernel_rfl) Tryz.func3 (fits os H enc) ?_
  intro W base args ds gs before hval0 hW hcnd hcond hsz0 hL hsh _
  have hbk0 := Go.Proofs.YtcdcbkopapedhaaGreatDoor.upto.bound (hcond _ rfl)
  have hsz : (DataW.weightsEach Tryz.prog (Tryz.f3.params.toList ++ Rows.textsWrongSpec.plain.varTypes Tryz.prog) (ds ++ gs)).all (· ≤ reachBytes) = true := hsz0
  have hval : ∀ (j : Nat) t v, Tryz.f3.params[j]? = some t → args[j]? = some v → Value.okWide Tryz.prog W .any base t v := hval0
  have hW' := hW
  obtain ⟨p, q, hA0, hV, rfl, hfz, hnd⟩ := hW
  have hA : DataW.TrodAll enc Tryz.prog W 0 (fun _ => true) true Tryz.f3.params.toList args.toList ds p := hA0
  rw [Tryz.params3] at hA hval hsz
  obtain ⟨v0, vs0, d0, ds0, p0, q0, hargs, rfl, rfl, h0, r0⟩ := trodAll_cons hA
  obtain ⟨v1, vs1, d1, ds1, p1, q1, rfl, rfl, rfl, h1, r1⟩ := trodAll_cons r0
  obtain ⟨v2, vs2, d2, ds2, p2, q2, rfl, rfl, rfl, h2, r2⟩ := trodAll_cons r1
  obtain ⟨rfl, rfl, rfl⟩ := trodAll_nil r2
  obtain rfl : args = #[v0, v1, v2] := by cases args; simp_all
  obtain ⟨rfl, rfl⟩ := trodVars_none hV
  have k0 := h0
  have lt0 : ∀ x ∈ p0, x.block < W.heap.size := by obtain ⟨m, hm⟩ := k0; exact DataW.trod_lt m _ _ _ hm
  obtain ⟨a0, s0, x0, y0, u0, l0, e0, z0, rfl, w0, m0, gl0, ge0, gz0, zw0, bu0⟩ := Tryz.RowV.value_of Tryz.underlying26 (by kernel_rfl) (by kernel_rfl) (by kernel_rfl) Tryz.underlying5 Tryz.underlying9 Tryz.underlying22 Tryz.underlying23 Tryz.underlying24 Tryz.underlying9 (by kernel_rfl) Tryz.underlying40 (by kernel_rfl) Tryz.underlying43 (by kernel_rfl) (by kernel_rfl) (by kernel_rfl) Tryz.underlying9 Tryz.underlying9 Tryz.underlying9 Tryz.underlying3 (hval 0 26 v0 rfl rfl) h0
  obtain ⟨a1, rfl, rfl, rfl, w1⟩ := open_int Tryz.underlying5 (hval 1 5 v1 rfl rfl) h1
  obtain ⟨a2, len2, cap2, rfl⟩ := okWide_slice Tryz.underlying22 (hval 2 22 v2 rfl rfl)
  have k2 := h2
  have lt2 : ∀ x ∈ p2, x.block < W.heap.size := by obtain ⟨m, hm⟩ := k2; exact DataW.trod_lt m _ _ _ hm
  obtain ⟨z2, rfl, c2, w2, s2⟩ := Go.Proofs.YtcdcbkopapedhaaGreatDoor.upto.strs_upto Tryz.underlying22 Tryz.underlying9 (by kernel_rfl) h2
  simp only [List.append_nil, Rows.uptoBulkAll] at hbk0
  have b2 : (z2.map (·.size)).sum + z2.length ≤ 1048576 := by omega
  have bu0 : (l0.map (·.size)).sum + l0.length ≤ 1048576 := by omega
  have hTab := tabs_of hL hsh
  clear hA0 hval0 hsz0 hsz hL hsh
  refine (Go.Proofs.Tryz.Vl.texts_wrong_walk a0 s0 x0 y0 u0 l0 e0 z0 a1 a2 cap2 z2 W w0 gl0 ge0 gz0 bu0 w1 w2 c2 b2 hTab).mono fun e W' ⟨he, bel⟩ => ?_
  subst he
  exact ⟨_, rfl, _, _, _, [], _, [], hW', trodAll_mk1 (shut_bool Tryz.underlying4 _), (trodAll_cons_mk (Below.trod laidOut (by kernel_rfl) (of_decide_eq_true (by kernel_rfl)) k0 bel lt0) (trodAll_cons_mk (shut_int Tryz.underlying5 w1) (trodAll_cons_mk (Below.trod laidOut (by kernel_rfl) (of_decide_eq_true (by kernel_rfl)) k2 bel lt2) trodAll_mk0))), rfl, bel.frame _, fun h => by cases h⟩
theorem over : Rows.TextsWrongUptoSaid :=
  OpenClaim.holds_of_cond 3 Tryz.f3 rfl rfl rfl rfl rfl rfl rfl ⟨rfl, rfl, rfl, rfl, rfl⟩ rfl rfl rfl rfl rfl (by kernel_rfl) Tryz.func3 (by kernel_rfl)
    (of_decide_eq_true (by kernel_rfl)) (by unfold Func.isWrapper; first | (rw [if_pos (by decide +kernel)]; kernel_rfl) | (rw [if_neg (by decide +kernel)]; exact ⟨rfl, rfl⟩))
    (fun os started H enc _ F => by rw [OpenClaim.pre_eq_preRow]; exact lifted os started H enc F)
theorem plain (f : FuncId) (fn : Func) (hf : Tryz.pinned.checked.prog.funcNamed "tipstaff/tipstafflaw11.TextsWrong" = some f) (hfn : Tryz.pinned.checked.prog.funcs[f]? = some fn) :
    true = Tryz.pinned.checked.prog.looks [] ∧ ∀ (j : Nat) t, fn.params[j]? = some t → Tryz.pinned.checked.prog.wantsStandIn t = false := by
  obtain rfl : f = 3 := Option.some.inj ((show Tryz.prog.funcNamed "tipstaff/tipstafflaw11.TextsWrong" = some 3 by kernel_rfl).symm.trans hf) |>.symm
  obtain rfl : fn = Tryz.f3 := (Option.some.inj (Tryz.func3.symm.trans hfn)).symm
  refine ⟨by kernel_rfl, fun j t ht => ?_⟩
  rw [Tryz.params3] at ht
  have hm : t ∈ [26, 5, 22] := by simpa using Array.mem_of_getElem? ht
  have hall : ([26, 5, 22].all fun u => !Tryz.prog.wantsStandIn u) = true := by kernel_rfl
  exact (show Tryz.prog.wantsStandIn t = false by simpa using List.all_eq_true.1 hall t hm)
end Go.Proofs.YtcdcbkopapedhaaGreatDoor.textsWrongUpto
namespace Go.Proofs.YtcdcbkopapedhaaGreatDoor
/-- The tied card of the second form. -/
theorem textsWrongUptoCard_holds : Rows.TextsWrongUptoCardSaid :=
  Claim7.holds_tied_plain_at .later [] _ _ _ _ textsWrongUpto.over (fun _ h => by cases h) (by kernel_rfl) (fun _ h => by cases h) textsWrongUpto_row_tie rfl ⟨rfl, rfl⟩ (by kernel_rfl) rfl textsWrongUpto.plain (by kernel_rfl)
#print axioms textsWrongUptoCard_holds
end Go.Proofs.YtcdcbkopapedhaaGreatDoor
