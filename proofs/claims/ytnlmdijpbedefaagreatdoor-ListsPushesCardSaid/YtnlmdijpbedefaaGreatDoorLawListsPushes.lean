import Derived.Test.YtnlmdijpbedefaaGreatDoorRows
import Derived.Test.YtnlmdijpbedefaaGreatDoorRow
import Derived.Test.YtnlmdijpbedefaaGreatDoorPush
import Derived.WalkKit
import Derived.ProofKit
import Derived.OpenShut
import Derived.ShutString
import Derived.ChangeOld
import Derived.Below
import Derived.SizedLaws
import Derived.LaidMore
import Derived.Lay
import Derived.Stop.Joined
import Derived.SevenTiedAt
import Derived.Lib.LaidTab
import Derived.Test.YtnlmdijpbedefaaGreatDoorTie
import Derived.Test.YtnlmdijpbedefaaGreatDoorCards
/- the law ListsPushes -/
namespace Go.Proofs.YtnlmdijpbedefaaGreatDoor.listsPushes
open Go.ChangeShapes Go.WideShapes Go.ChangeAt Go.RowKit
open Go.ChangeMaps (open_string shut_string)
set_option linter.unusedVariables false
theorem own : ownKnob Tryz.prog.godebug = none := by kernel_rfl
theorem laidOut : laidOutB Tryz.prog = true := by kernel_rfl
theorem tab_of {W : World} (h : laidMet Tryz.prog Rows.listsPushesRow.laid W) : Tryz.Ln.Tabl W :=
  Tryz.RowK.laid_tab (n := "internal/strconv.uint64pow10") (zs := Lib.pow10Tab) (k := .u64) (g := 3) h.tail.tail (by kernel_rfl) (by kernel_rfl) Tryz.underlying151 Tryz.underlying124 (by kernel_rfl) (by kernel_rfl)
theorem esyn_of {W : World} (h : laidMet Tryz.prog Rows.listsPushesRow.laid W) : ∃ ev, W.cell? ⟨1, 0, none⟩ = some ev ∧ Tryz.Ln.IsErr ev := by
  obtain ⟨a, _, hv, _⟩ := laid_sentinel (n := "strconv.ErrSyntax") (nm := "*errors.errorString") (g := 1) h.tail.tail.tail.tail (by kernel_rfl) (by kernel_rfl) Tryz.underlying59 Tryz.RowK.only_errorString Tryz.underlying157 Tryz.underlying159 rfl rfl Tryz.underlying9 (by kernel_rfl) (by kernel_rfl)
  exact ⟨_, World.var?_cell (by kernel_rfl) hv 0, .inr ⟨_, _, rfl⟩⟩
theorem eran_of {W : World} (h : laidMet Tryz.prog Rows.listsPushesRow.laid W) : ∃ ev, W.cell? ⟨2, 0, none⟩ = some ev ∧ Tryz.Ln.IsErr ev := by
  obtain ⟨a, _, hv, _⟩ := laid_sentinel (n := "strconv.ErrRange") (nm := "*errors.errorString") (g := 2) h.tail.tail.tail (by kernel_rfl) (by kernel_rfl) Tryz.underlying59 Tryz.RowK.only_errorString Tryz.underlying157 Tryz.underlying159 rfl rfl Tryz.underlying9 (by kernel_rfl) (by kernel_rfl)
  exact ⟨_, World.var?_cell (by kernel_rfl) hv 0, .inr ⟨_, _, rfl⟩⟩
theorem tabs_of {W : World} (h : laidMetH Tryz.prog Rows.listsPushesRow.laid W) (hsh : W.ShapedOpen Tryz.prog) : Tryz.Ln.Tabs W := by
  rw [MakeChecks.laidMetH_plain _ _ _ (by kernel_rfl)] at h
  exact { tab := tab_of h, esyn := esyn_of h, eran := eran_of h, maxl := Go.Proofs.cell_of_shapedOpen_int (t := 3) (zero := #[.int .i64 0]) hsh (of_decide_eq_true (by kernel_rfl)) (by kernel_rfl) rfl (by kernel_rfl) (by kernel_rfl) (by kernel_rfl) }
set_option maxRecDepth 100000 in
theorem lifted (os : Os) (started : os.Started) (H : Type) (enc : TypeId × Value → H) :
    ReturnsInHanded {} Tryz.checked os 5 .any (fun w args => (Rows.listsPushesSpec.pre enc Tryz.prog Tryz.f5 Rows.listsPushesRow.domain false w args ∧ laidMetH Tryz.prog Rows.listsPushesRow.laid w) ∧ sizedMet enc Tryz.prog Tryz.f5 (OpenSpec.ofChange Rows.listsPushesSpec) false w args) (Rows.listsPushesSpec.post enc Tryz.prog Tryz.f5 false true false false) := by
  refine Tryz.RowK.calls_shaped_and (C := Tryz.checked) (X := fun w _ => laidMetH Tryz.prog Rows.listsPushesRow.laid w) (fun _ _ _ hh h => h.of_heap hh) own started (by kernel_rfl) Tryz.func5
    (ChangeSpec.witness_shaped (enc := enc) (C := Tryz.checked) (os := os) (X := fun w _ => laidMetH Tryz.prog Rows.listsPushesRow.laid w) false (World.laidAll Tryz.prog os Rows.listsPushesRow.laid) #[.slice none 0 0] 8 (World.laidAll_os _ _ _)
      (World.shaped_of_ZipB (by kernel_rfl) (by kernel_rfl)) (by kernel_rfl) (by kernel_rfl) (by kernel_rfl)
      (by rw [MakeChecks.laidMetH_plain _ _ _ (by kernel_rfl)]; exact laidMet_laidAll _ (by kernel_rfl) (by kernel_rfl))) ?_
  intro W base args ds gs before hval0 hW hcnd hsz0 hL hsh _
  have hsz : (DataW.weightsEach Tryz.prog (Tryz.f5.params.toList ++ Rows.listsPushesSpec.plain.varTypes Tryz.prog) (ds ++ gs)).all (· ≤ reachBytes) = true := hsz0
  have hval : ∀ (j : Nat) t v, Tryz.f5.params[j]? = some t → args[j]? = some v → Value.okWide Tryz.prog W .any base t v := hval0
  have hW' := hW
  obtain ⟨p, q, hA0, hV, rfl, hfz, hnd⟩ := hW
  have hA : DataW.TrodAll enc Tryz.prog W 0 (fun _ => true) true Tryz.f5.params.toList args.toList ds p := hA0
  rw [Tryz.params5] at hA hval hsz
  obtain ⟨v0, vs0, d0, ds0, p0, q0, hargs, rfl, rfl, h0, r0⟩ := trodAll_cons hA
  obtain ⟨rfl, rfl, rfl⟩ := trodAll_nil r0
  obtain rfl : args = #[v0] := by cases args; simp_all
  obtain ⟨rfl, rfl⟩ := trodVars_none hV
  obtain ⟨a0, len0, cap0, rfl⟩ := okWide_slice Tryz.underlying22 (hval 0 22 v0 rfl rfl)
  have k0 := h0
  have lt0 : ∀ x ∈ p0, x.block < W.heap.size := by obtain ⟨m, hm⟩ := k0; exact DataW.trod_lt m _ _ _ hm
  obtain ⟨z0, rfl, c0, w0, s0⟩ := Tryz.RowK.strs_of Tryz.underlying22 Tryz.underlying9 (by kernel_rfl) h0
  have hTab := tabs_of hL hsh
  clear hA0 hval0 hsz0 hsz hL hsh
  refine (Go.Proofs.Tryz.Ln.pushes_walk a0 cap0 z0 W w0 c0 s0 hTab).mono fun e W' ⟨he, bel⟩ => ?_
  subst he
  exact ⟨_, rfl, _, _, _, [], _, [], hW', trodAll_mk1 (shut_bool Tryz.underlying4 _), (trodAll_cons_mk (Below.trod laidOut (by kernel_rfl) (of_decide_eq_true (by kernel_rfl)) k0 bel lt0) trodAll_mk0), rfl, bel.frame _, fun h => by cases h⟩
theorem over : Rows.listsPushesRow.holds Tryz.pinned (OpenSpec.ofChange Rows.listsPushesSpec) :=
  OpenClaim.holds_of_wide 5 Tryz.f5 rfl rfl rfl rfl rfl rfl rfl ⟨rfl, rfl, rfl, rfl, rfl⟩ rfl rfl rfl rfl rfl (by kernel_rfl) Tryz.func5 (by kernel_rfl)
    (of_decide_eq_true (by kernel_rfl)) (by unfold Func.isWrapper; first | (rw [if_pos (by decide +kernel)]; kernel_rfl) | (rw [if_neg (by decide +kernel)]; exact ⟨rfl, rfl⟩))
    (fun os started H enc _ => lifted os started H enc)
theorem proved : Rows.ListsPushesSaid := over
end Go.Proofs.YtnlmdijpbedefaaGreatDoor.listsPushes
namespace Go.Proofs.YtnlmdijpbedefaaGreatDoor
/-- The statement, under a short name. -/
theorem listsPushes_holds : Rows.ListsPushesSaid := listsPushes.proved
/-- The tied card. -/
theorem listsPushesCard_holds : Rows.ListsPushesCardSaid :=
  Claim7.holds_tied_plain_at .later [] [.data, .data, .data, .sentinel, .sentinel] true (true, "90ef8fd4bde76ac62dea11255fb4dc0a346c096c693c0dbaec8193fad38682fc") true
    listsPushes_holds (fun _ h => by cases h) (by kernel_rfl) (fun _ h => by cases h) listsPushes_row_tie rfl ⟨rfl, rfl⟩ (by kernel_rfl) rfl
    (fun f fn hf hfn => by
      obtain rfl : f = 5 := Option.some.inj ((show Tryz.prog.funcNamed "tipstaff/tipstafflaw12.ListsPushes" = some 5 by kernel_rfl).symm.trans hf) |>.symm
      obtain rfl : fn = Tryz.f5 := (Option.some.inj (Tryz.func5.symm.trans hfn)).symm
      exact ⟨by kernel_rfl, fun j t ht => by
        rw [Tryz.params5] at ht
        have hm : t ∈ [22] := by simpa using Array.mem_of_getElem? ht
        have hall : ([22].all fun u => !Tryz.prog.wantsStandIn u) = true := by kernel_rfl
        exact (show Tryz.prog.wantsStandIn t = false by simpa using List.all_eq_true.1 hall t hm)⟩)
    (by kernel_rfl)
#print axioms listsPushesCard_holds
end Go.Proofs.YtnlmdijpbedefaaGreatDoor
