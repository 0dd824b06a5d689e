import Derived.Test.YtcdcbkopapedhaaGreatDoorRelN
import Derived.Test.YtcdcbkopapedhaaGreatDoorMap
import Derived.Test.YtcdcbkopapedhaaGreatDoorLow
import Derived.Test.YtcdcbkopapedhaaGreatDoorPars
/- What the functions of texts tell. -/
namespace Go.Proofs.Tryz.Ln
open Go Go.RowKit Go.Proofs.Mem Go.Proofs.App
open Go.Proofs.YtcdcbkopapedhaaGreatDoorW.PrintWords
set_option linter.unusedVariables false
def zS : Array Value := #[.int .u8 0, .string ⟨#[]⟩, .slice none 0 0, .slice none 0 0, .slice none 0 0]
def tS (s : ByteArray) : Array Value := #[.int .u8 1, .string s, .slice none 0 0, .slice none 0 0, .slice none 0 0]
theorem tS_one (s : ByteArray) : (tS s).all (·.oneCell') = true := by simp [tS, Value.oneCell']
set_option maxRecDepth 100000 in
set_option maxHeartbeats 4000000 in
theorem text_val (s : ByteArray) (w : World) : Calls Tryz.prog 24 #[.string s] w fun e w' => e = .returned (.agg (tS s)) ∧ Below w.heap.size w w' := by
  go_enter Tryz.func24, Tryz.ntmps24
  go_wp2_with fail
  refine bodyPost_ret (v := .agg (tS s)) ?_ rfl ⟨rfl, below_alloc (Below.refl _ _) _⟩
  exact results_cell_row (p := 2) (ty := 26) Tryz.results24 _ _ w.heap.size 26 (tS s) (0, 0) _ rfl (heap_alloc_last w _) Tryz.underlying26 rfl (by kernel_rfl)
def gotL (k : Int) (s : ByteArray) : List Int := if k = 0 then lineL ⟨#[36]⟩ ⟨#[45, 49]⟩ else bulkL s
set_option maxRecDepth 100000 in
set_option maxHeartbeats 4000000 in
theorem got_any (k : Int) (s : ByteArray) (L H Z : Value) (w : World) (hs : s.size ≤ 70368744177664) (hT : Tabs w) : Calls Tryz.prog 21 #[.agg #[.int .u8 k, .string s, L, H, Z]] w (Bytes_ (gotL k s) w) := by
  have hb0 := veil (below_alloc (Below.refl w.heap.size w) (.cells #[.int .u8 k, .string s, L, H, Z] 26))
  by_cases hk : k = 0
  · have e : gotL k s = lineL ⟨#[36]⟩ ⟨#[45, 49]⟩ := if_pos hk
    rw [e]
    clear e
    subst hk
    go_enter Tryz.func21, Tryz.ntmps21
    go_wp2_with fail
    refine (Null_any _).mono ?_
    rintro e w2 ⟨A, c, rfl, hf, hb2⟩
    have hf' := veil (hf.base hb0.out.size)
    have hb' := veil (two_below hb0.out hb2)
    obtain ⟨m, hm⟩ : ∃ m, (lineL ⟨#[36]⟩ ⟨#[45, 49]⟩).length = m := ⟨_, rfl⟩
    rw [hm]
    have hm' := veil hm
    clear hf hb2 hm
    go_wp2_with fail
    go_ret
    exact ⟨A, c, by rw [hm'.out]; rfl, hf'.out, hb'.out⟩
  · have e : gotL k s = bulkL s := if_neg hk
    rw [e]
    have hk' : (k == 0) = false := by simp [hk]
    clear e
    go_enter Tryz.func21, Tryz.ntmps21
    go_wp2_with fail
    refine (Bulk_any s _ hs (tabl_below hT.tab hb0.out)).mono ?_
    rintro e w2 ⟨A, c, rfl, hf, hb2⟩
    have hf' := veil (hf.base hb0.out.size)
    have hb' := veil (two_below hb0.out hb2)
    obtain ⟨m, hm⟩ : ∃ m, (bulkL s).length = m := ⟨_, rfl⟩
    rw [hm]
    have hm' := veil hm
    clear hf hb2 hm
    go_wp2_with fail
    go_ret
    exact ⟨A, c, by rw [hm'.out]; rfl, hf'.out, hb'.out⟩
def addO (a b : Int) : Option Int := if -9223372036854775808 ≤ a + b ∧ a + b ≤ 9223372036854775807 then some (a + b) else none
set_option maxRecDepth 100000 in
set_option maxHeartbeats 4000000 in
theorem add_any (a b : Int) (w : World) (ha : Int64 a) (hb : Int64 b) : Calls Tryz.prog 38 #[.int .i64 a, .int .i64 b] w fun e w' => e = .returned (.tuple #[.int .i64 ((addO a b).getD 0), .bool (addO a b).isSome]) ∧ w' = w := by
  obtain ⟨a0, a1⟩ := ha
  obtain ⟨b0, b1⟩ := hb
  by_cases h : -9223372036854775808 ≤ a + b ∧ a + b ≤ 9223372036854775807
  · have e : addO a b = some (a + b) := if_pos h
    rw [e]
    have hw : IntKind.i64.wrap (a + b) = a + b := by rw [IntKind.wrap_i64]; omega
    have hq : (!(decide (a < a + b) == decide (0 < b))) = false := by
      have : decide (a < a + b) = decide (0 < b) := by rw [decide_eq_decide]; omega
      rw [this]; simp
    clear e h
    go_enter Tryz.func38, Tryz.ntmps38
    go_wp2_with fail
    go_ret2
    exact ⟨rfl, rfl⟩
  · have e : addO a b = none := if_neg h
    rw [e]
    have hw : IntKind.i64.wrap (a + b) = wrap64 (a + b) := by rw [IntKind.wrap_i64]; unfold wrap64; omega
    obtain ⟨s, hs⟩ : ∃ s, wrap64 (a + b) = s := ⟨_, rfl⟩
    rw [hs] at hw
    have hq : (!(decide (a < s) == decide (0 < b))) = true := by
      have : decide (a < s) ≠ decide (0 < b) := by
        intro h2
        rw [decide_eq_decide] at h2
        unfold wrap64 at hs
        omega
      simpa using this
    clear e h hs
    go_enter Tryz.func38, Tryz.ntmps38
    go_wp2_with fail
    go_ret2
    exact ⟨rfl, rfl⟩
end Go.Proofs.Tryz.Ln
