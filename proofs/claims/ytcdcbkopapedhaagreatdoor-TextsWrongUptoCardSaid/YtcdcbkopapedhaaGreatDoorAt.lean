import Derived.Test.YtcdcbkopapedhaaGreatDoorWWords
import Derived.Test.YtcdcbkopapedhaaGreatDoorProg
import Derived.ArgAppend
/- The table of commands, as a request of the document is made to fit by it. -/
namespace Go.Proofs.Tryz.Cmd
open Go Go.RowKit
open Go.Proofs.YtcdcbkopapedhaaGreatDoorW.PrintWords
set_option linter.unusedVariables false
set_option linter.unusedSimpArgs false
structure Veilx (p : Prop) : Prop where
  out : p
theorem veil {p : Prop} (h : p) : Veilx p := ⟨h⟩
theorem infoC : (Tryz.prog.info? 56).map (fun i => (i.zero, i.size, i.bytes)) = some (some (.agg #[.string ⟨#[]⟩, .int .i64 0, .int .u16 0]), 3, 32) := by kernel_rfl
theorem two_below {w w1 w2 : World} (h : Below w.heap.size w w1) (k : Below w1.heap.size w1 w2) : Below w.heap.size w w2 :=
  ⟨k.os.trans h.os, k.tape.trans h.tape, k.output.trans h.output, Nat.le_trans h.size k.size, fun i hi => (k.block i (Nat.lt_of_lt_of_le hi h.size)).trans (h.block i hi)⟩
set_option maxRecDepth 100000 in
set_option maxHeartbeats 4000000 in
theorem one_any (n : ByteArray) (a g : Int) (b : Bool) (hg : 0 ≤ g ∧ g ≤ 60000) (w : World) :
    Calls Tryz.prog 43 #[.string n, .int .i64 a, .int .u16 g, .bool b] w fun e w' => e = .returned (.agg #[.string n, .int .i64 a, .int .u16 (if b = true then g + 2 else g + 1)]) ∧ Below w.heap.size w w' := by
  obtain ⟨hg1, hg2⟩ := hg
  cases b with
  | true =>
    go_enter Tryz.func43, Tryz.ntmps43
    go_wp2_with fail
    refine bodyPost_ret (v := .agg #[.string n, .int .i64 a, .int .u16 (g + 2)]) ?_ rfl ⟨rfl, below_alloc (Below.refl _ _) _⟩
    exact results_cell_row (p := 8) (ty := 56) Tryz.results43 _ _ w.heap.size 56 _ (0, 0) _ rfl (heap_alloc_new w _) Tryz.underlying56 rfl (by kernel_rfl)
  | false =>
    go_enter Tryz.func43, Tryz.ntmps43
    go_wp2_with fail
    refine bodyPost_ret (v := .agg #[.string n, .int .i64 a, .int .u16 (g + 1)]) ?_ rfl ⟨rfl, below_alloc (Below.refl _ _) _⟩
    exact results_cell_row (p := 8) (ty := 56) Tryz.results43 _ _ w.heap.size 56 _ (0, 0) _ rfl (heap_alloc_new w _) Tryz.underlying56 rfl (by kernel_rfl)
theorem one_v (n : ByteArray) (a g : Int) (b : Bool) (v : Value) (hg : 0 ≤ g ∧ g ≤ 60000) (w : World) (hv : v = .agg #[.string n, .int .i64 a, .int .u16 (if b = true then g + 2 else g + 1)]) :
    Calls Tryz.prog 43 #[.string n, .int .i64 a, .int .u16 g, .bool b] w fun e w' => e = .returned v ∧ Below w.heap.size w w' := by
  subst hv
  exact one_any n a g b hg w
def cA : Array Value := #[.string ⟨#[103, 101, 116]⟩, .int .i64 2, .int .u16 9, .string ⟨#[115, 101, 116]⟩, .int .i64 (-3), .int .u16 10, .string ⟨#[97, 112, 112, 101, 110, 100]⟩, .int .i64 3, .int .u16 10, .string ⟨#[115, 116, 114, 108, 101, 110]⟩, .int .i64 2, .int .u16 9, .string ⟨#[105, 110, 99, 114, 98, 121]⟩, .int .i64 3, .int .u16 10, .string ⟨#[105, 110, 99, 114]⟩, .int .i64 2, .int .u16 10, .string ⟨#[103, 101, 116, 100, 101, 108]⟩, .int .i64 2, .int .u16 10, .string ⟨#[109, 103, 101, 116]⟩, .int .i64 (-2), .int .u16 9, .string ⟨#[109, 115, 101, 116]⟩, .int .i64 (-3), .int .u16 10, .string ⟨#[108, 112, 117, 115, 104]⟩, .int .i64 (-3), .int .u16 18, .string ⟨#[114, 112, 117, 115, 104]⟩, .int .i64 (-3), .int .u16 18, .string ⟨#[108, 112, 111, 112]⟩, .int .i64 2, .int .u16 18, .string ⟨#[114, 112, 111, 112]⟩, .int .i64 2, .int .u16 18, .string ⟨#[108, 108, 101, 110]⟩, .int .i64 2, .int .u16 17, .string ⟨#[108, 114, 97, 110, 103, 101]⟩, .int .i64 4, .int .u16 17, .string ⟨#[104, 115, 101, 116]⟩, .int .i64 4, .int .u16 34, .string ⟨#[104, 103, 101, 116]⟩, .int .i64 3, .int .u16 33, .string ⟨#[104, 100, 101, 108]⟩, .int .i64 (-3), .int .u16 34, .string ⟨#[104, 108, 101, 110]⟩, .int .i64 2, .int .u16 33, .string ⟨#[104, 103, 101, 116, 97, 108, 108]⟩, .int .i64 2, .int .u16 33, .string ⟨#[104, 105, 110, 99, 114, 98, 121]⟩, .int .i64 4, .int .u16 34, .string ⟨#[115, 97, 100, 100]⟩, .int .i64 (-3), .int .u16 66, .string ⟨#[115, 114, 101, 109]⟩, .int .i64 (-3), .int .u16 66, .string ⟨#[115, 105, 115, 109, 101, 109, 98, 101, 114]⟩, .int .i64 3, .int .u16 65, .string ⟨#[115, 109, 101, 109, 98, 101, 114, 115]⟩, .int .i64 2, .int .u16 65, .string ⟨#[115, 99, 97, 114, 100]⟩, .int .i64 2, .int .u16 65, .string ⟨#[115, 109, 111, 118, 101]⟩, .int .i64 4, .int .u16 66, .string ⟨#[122, 97, 100, 100]⟩, .int .i64 4, .int .u16 130, .string ⟨#[122, 114, 101, 109]⟩, .int .i64 (-3), .int .u16 130, .string ⟨#[122, 115, 99, 111, 114, 101]⟩, .int .i64 3, .int .u16 129, .string ⟨#[122, 114, 97, 110, 103, 101]⟩, .int .i64 4, .int .u16 129, .string ⟨#[122, 99, 97, 114, 100]⟩, .int .i64 2, .int .u16 129, .string ⟨#[122, 105, 110, 99, 114, 98, 121]⟩, .int .i64 4, .int .u16 130, .string ⟨#[100, 101, 108]⟩, .int .i64 (-2), .int .u16 6, .string ⟨#[101, 120, 105, 115, 116, 115]⟩, .int .i64 (-2), .int .u16 5, .string ⟨#[116, 121, 112, 101]⟩, .int .i64 2, .int .u16 5, .string ⟨#[101, 120, 112, 105, 114, 101]⟩, .int .i64 3, .int .u16 6, .string ⟨#[116, 116, 108]⟩, .int .i64 2, .int .u16 5, .string ⟨#[112, 101, 114, 115, 105, 115, 116]⟩, .int .i64 2, .int .u16 6, .string ⟨#[114, 101, 110, 97, 109, 101]⟩, .int .i64 3, .int .u16 6, .string ⟨#[107, 101, 121, 115]⟩, .int .i64 2, .int .u16 5, .string ⟨#[100, 98, 115, 105, 122, 101]⟩, .int .i64 1, .int .u16 5, .string ⟨#[102, 108, 117, 115, 104, 97, 108, 108]⟩, .int .i64 1, .int .u16 6]
def cB : Array Value := #[.string ⟨#[112, 105, 110, 103]⟩, .int .i64 1, .int .u16 512, .string ⟨#[101, 99, 104, 111]⟩, .int .i64 2, .int .u16 512, .string ⟨#[97, 117, 116, 104]⟩, .int .i64 (-2), .int .u16 512, .string ⟨#[113, 117, 105, 116]⟩, .int .i64 1, .int .u16 512, .string ⟨#[109, 117, 108, 116, 105]⟩, .int .i64 1, .int .u16 1024, .string ⟨#[101, 120, 101, 99]⟩, .int .i64 1, .int .u16 1024, .string ⟨#[100, 105, 115, 99, 97, 114, 100]⟩, .int .i64 1, .int .u16 1024, .string ⟨#[119, 97, 116, 99, 104]⟩, .int .i64 (-2), .int .u16 1024, .string ⟨#[117, 110, 119, 97, 116, 99, 104]⟩, .int .i64 1, .int .u16 1024, .string ⟨#[115, 117, 98, 115, 99, 114, 105, 98, 101]⟩, .int .i64 (-2), .int .u16 256, .string ⟨#[117, 110, 115, 117, 98, 115, 99, 114, 105, 98, 101]⟩, .int .i64 (-1), .int .u16 256, .string ⟨#[112, 117, 98, 108, 105, 115, 104]⟩, .int .i64 3, .int .u16 256, .string ⟨#[97, 99, 108]⟩, .int .i64 (-2), .int .u16 2048]
def tab : List Value := cA.toList ++ cB.toList
theorem hold_A (w : World) (j : Nat) (u : Value) (h : cA.toList[j]? = some u) : ((w.alloc (.cells cA 56)).alloc (.cells cB 56)).cell? ⟨w.heap.size, 0 + j, none⟩ = some u := by
  rw [cell_of_row _ _ _ _ _ _ (heap_alloc2_old w _ _), Nat.zero_add]
  simpa using h
theorem hold_B (w : World) (j : Nat) (u : Value) (h : cB.toList[j]? = some u) : ((w.alloc (.cells cA 56)).alloc (.cells cB 56)).cell? ((⟨w.heap.size + 1, 0, none⟩ : Addr).add j) = some u := by
  have h2 := heap_alloc_new (w.alloc (.cells cA 56)) (.cells cB 56)
  rw [show (w.alloc (.cells cA 56)).heap.size = w.heap.size + 1 by simp] at h2
  rw [Addr.add_lit, cell_of_row _ _ _ _ _ _ h2, Nat.zero_add]
  simpa using h
theorem one_B : ∀ u ∈ cB.toList, u.oneCell' = true := by
  have h : cB.toList.all (·.oneCell') = true := by decide +kernel
  exact List.all_eq_true.1 h
set_option maxRecDepth 100000 in
set_option maxHeartbeats 16000000 in
theorem All_any (w : World) : Calls Tryz.prog 34 #[] w fun e w' => ∃ b cap, e = .returned (.slice (some ⟨b, 0, none⟩) 56 cap) ∧ 56 ≤ cap ∧ (∀ j u, tab[j]? = some u → w'.cell? ⟨b, j, none⟩ = some u) ∧ Below w.heap.size w w' := by
  obtain ⟨i0, hi, hzz⟩ := Option.map_eq_some_iff.1 infoC
  have hz1 : i0.zero = some (.agg #[.string ⟨#[]⟩, .int .i64 0, .int .u16 0]) := congrArg (·.1) hzz
  have hz2 : i0.size = 3 := congrArg (·.2.1) hzz
  have hz3 : i0.bytes = 32 := congrArg (·.2.2) hzz
  have hi' := veil hi
  have hz1' := veil hz1
  have hz2' := veil hz2
  have hz3' := veil hz3
  clear hi hzz hz1 hz2 hz3
  have hB := veil (Below.refl w.heap.size w)
  go_enter Tryz.func34, Tryz.ntmps34
  go_wp2_with fail
  refine (one_v _ _ _ _ _ (by decide) _ rfl).mono ?_
  rintro e w1 ⟨rfl, hb⟩
  have hB := veil (two_below hB.out hb)
  clear hb
  go_wp2_with fail
  refine (one_v _ _ _ _ _ (by decide) _ rfl).mono ?_
  rintro e w2 ⟨rfl, hb⟩
  have hB := veil (two_below hB.out hb)
  clear hb
  go_wp2_with fail
  refine (one_v _ _ _ _ _ (by decide) _ rfl).mono ?_
  rintro e w3 ⟨rfl, hb⟩
  have hB := veil (two_below hB.out hb)
  clear hb
  go_wp2_with fail
  refine (one_v _ _ _ _ _ (by decide) _ rfl).mono ?_
  rintro e w4 ⟨rfl, hb⟩
  have hB := veil (two_below hB.out hb)
  clear hb
  go_wp2_with fail
  refine (one_v _ _ _ _ _ (by decide) _ rfl).mono ?_
  rintro e w5 ⟨rfl, hb⟩
  have hB := veil (two_below hB.out hb)
  clear hb
  go_wp2_with fail
  refine (one_v _ _ _ _ _ (by decide) _ rfl).mono ?_
  rintro e w6 ⟨rfl, hb⟩
  have hB := veil (two_below hB.out hb)
  clear hb
  go_wp2_with fail
  refine (one_v _ _ _ _ _ (by decide) _ rfl).mono ?_
  rintro e w7 ⟨rfl, hb⟩
  have hB := veil (two_below hB.out hb)
  clear hb
  go_wp2_with fail
  refine (one_v _ _ _ _ _ (by decide) _ rfl).mono ?_
  rintro e w8 ⟨rfl, hb⟩
  have hB := veil (two_below hB.out hb)
  clear hb
  go_wp2_with fail
  refine (one_v _ _ _ _ _ (by decide) _ rfl).mono ?_
  rintro e w9 ⟨rfl, hb⟩
  have hB := veil (two_below hB.out hb)
  clear hb
  go_wp2_with fail
  refine (one_v _ _ _ _ _ (by decide) _ rfl).mono ?_
  rintro e w10 ⟨rfl, hb⟩
  have hB := veil (two_below hB.out hb)
  clear hb
  go_wp2_with fail
  refine (one_v _ _ _ _ _ (by decide) _ rfl).mono ?_
  rintro e w11 ⟨rfl, hb⟩
  have hB := veil (two_below hB.out hb)
  clear hb
  go_wp2_with fail
  refine (one_v _ _ _ _ _ (by decide) _ rfl).mono ?_
  rintro e w12 ⟨rfl, hb⟩
  have hB := veil (two_below hB.out hb)
  clear hb
  go_wp2_with fail
  refine (one_v _ _ _ _ _ (by decide) _ rfl).mono ?_
  rintro e w13 ⟨rfl, hb⟩
  have hB := veil (two_below hB.out hb)
  clear hb
  go_wp2_with fail
  refine (one_v _ _ _ _ _ (by decide) _ rfl).mono ?_
  rintro e w14 ⟨rfl, hb⟩
  have hB := veil (two_below hB.out hb)
  clear hb
  go_wp2_with fail
  refine (one_v _ _ _ _ _ (by decide) _ rfl).mono ?_
  rintro e w15 ⟨rfl, hb⟩
  have hB := veil (two_below hB.out hb)
  clear hb
  go_wp2_with fail
  refine (one_v _ _ _ _ _ (by decide) _ rfl).mono ?_
  rintro e w16 ⟨rfl, hb⟩
  have hB := veil (two_below hB.out hb)
  clear hb
  go_wp2_with fail
  refine (one_v _ _ _ _ _ (by decide) _ rfl).mono ?_
  rintro e w17 ⟨rfl, hb⟩
  have hB := veil (two_below hB.out hb)
  clear hb
  go_wp2_with fail
  refine (one_v _ _ _ _ _ (by decide) _ rfl).mono ?_
  rintro e w18 ⟨rfl, hb⟩
  have hB := veil (two_below hB.out hb)
  clear hb
  go_wp2_with fail
  refine (one_v _ _ _ _ _ (by decide) _ rfl).mono ?_
  rintro e w19 ⟨rfl, hb⟩
  have hB := veil (two_below hB.out hb)
  clear hb
  go_wp2_with fail
  refine (one_v _ _ _ _ _ (by decide) _ rfl).mono ?_
  rintro e w20 ⟨rfl, hb⟩
  have hB := veil (two_below hB.out hb)
  clear hb
  go_wp2_with fail
  refine (one_v _ _ _ _ _ (by decide) _ rfl).mono ?_
  rintro e w21 ⟨rfl, hb⟩
  have hB := veil (two_below hB.out hb)
  clear hb
  go_wp2_with fail
  refine (one_v _ _ _ _ _ (by decide) _ rfl).mono ?_
  rintro e w22 ⟨rfl, hb⟩
  have hB := veil (two_below hB.out hb)
  clear hb
  go_wp2_with fail
  refine (one_v _ _ _ _ _ (by decide) _ rfl).mono ?_
  rintro e w23 ⟨rfl, hb⟩
  have hB := veil (two_below hB.out hb)
  clear hb
  go_wp2_with fail
  refine (one_v _ _ _ _ _ (by decide) _ rfl).mono ?_
  rintro e w24 ⟨rfl, hb⟩
  have hB := veil (two_below hB.out hb)
  clear hb
  go_wp2_with fail
  refine (one_v _ _ _ _ _ (by decide) _ rfl).mono ?_
  rintro e w25 ⟨rfl, hb⟩
  have hB := veil (two_below hB.out hb)
  clear hb
  go_wp2_with fail
  refine (one_v _ _ _ _ _ (by decide) _ rfl).mono ?_
  rintro e w26 ⟨rfl, hb⟩
  have hB := veil (two_below hB.out hb)
  clear hb
  go_wp2_with fail
  refine (one_v _ _ _ _ _ (by decide) _ rfl).mono ?_
  rintro e w27 ⟨rfl, hb⟩
  have hB := veil (two_below hB.out hb)
  clear hb
  go_wp2_with fail
  refine (one_v _ _ _ _ _ (by decide) _ rfl).mono ?_
  rintro e w28 ⟨rfl, hb⟩
  have hB := veil (two_below hB.out hb)
  clear hb
  go_wp2_with fail
  refine (one_v _ _ _ _ _ (by decide) _ rfl).mono ?_
  rintro e w29 ⟨rfl, hb⟩
  have hB := veil (two_below hB.out hb)
  clear hb
  go_wp2_with fail
  refine (one_v _ _ _ _ _ (by decide) _ rfl).mono ?_
  rintro e w30 ⟨rfl, hb⟩
  have hB := veil (two_below hB.out hb)
  clear hb
  go_wp2_with fail
  refine (one_v _ _ _ _ _ (by decide) _ rfl).mono ?_
  rintro e w31 ⟨rfl, hb⟩
  have hB := veil (two_below hB.out hb)
  clear hb
  go_wp2_with fail
  refine (one_v _ _ _ _ _ (by decide) _ rfl).mono ?_
  rintro e w32 ⟨rfl, hb⟩
  have hB := veil (two_below hB.out hb)
  clear hb
  go_wp2_with fail
  refine (one_v _ _ _ _ _ (by decide) _ rfl).mono ?_
  rintro e w33 ⟨rfl, hb⟩
  have hB := veil (two_below hB.out hb)
  clear hb
  go_wp2_with fail
  refine (one_v _ _ _ _ _ (by decide) _ rfl).mono ?_
  rintro e w34 ⟨rfl, hb⟩
  have hB := veil (two_below hB.out hb)
  clear hb
  go_wp2_with fail
  refine (one_v _ _ _ _ _ (by decide) _ rfl).mono ?_
  rintro e w35 ⟨rfl, hb⟩
  have hB := veil (two_below hB.out hb)
  clear hb
  go_wp2_with fail
  refine (one_v _ _ _ _ _ (by decide) _ rfl).mono ?_
  rintro e w36 ⟨rfl, hb⟩
  have hB := veil (two_below hB.out hb)
  clear hb
  go_wp2_with fail
  refine (one_v _ _ _ _ _ (by decide) _ rfl).mono ?_
  rintro e w37 ⟨rfl, hb⟩
  have hB := veil (two_below hB.out hb)
  clear hb
  go_wp2_with fail
  refine (one_v _ _ _ _ _ (by decide) _ rfl).mono ?_
  rintro e w38 ⟨rfl, hb⟩
  have hB := veil (two_below hB.out hb)
  clear hb
  go_wp2_with fail
  refine (one_v _ _ _ _ _ (by decide) _ rfl).mono ?_
  rintro e w39 ⟨rfl, hb⟩
  have hB := veil (two_below hB.out hb)
  clear hb
  go_wp2_with fail
  refine (one_v _ _ _ _ _ (by decide) _ rfl).mono ?_
  rintro e w40 ⟨rfl, hb⟩
  have hB := veil (two_below hB.out hb)
  clear hb
  go_wp2_with fail
  refine (one_v _ _ _ _ _ (by decide) _ rfl).mono ?_
  rintro e w41 ⟨rfl, hb⟩
  have hB := veil (two_below hB.out hb)
  clear hb
  go_wp2_with fail
  refine (one_v _ _ _ _ _ (by decide) _ rfl).mono ?_
  rintro e w42 ⟨rfl, hb⟩
  have hB := veil (two_below hB.out hb)
  clear hb
  go_wp2_with fail
  refine (one_v _ _ _ _ _ (by decide) _ rfl).mono ?_
  rintro e w43 ⟨rfl, hb⟩
  have hB := veil (two_below hB.out hb)
  clear hb
  go_wp2_with (refine wpList_append_arg _ rfl (.tmp 61) (.tmp 62) 72 rfl 56 i0 (.agg #[.string ⟨#[]⟩, .int .i64 0, .int .u16 0]) 3 32 Tryz.underlying72 hi'.out hz1'.out hz2'.out hz3'.out rfl (by decide) w43.heap.size 0 43 43 cA.toList rfl (by decide +kernel) (hold_A w43) ⟨w43.heap.size + 1, 0, none⟩ 13 13 cB.toList rfl (by decide +kernel) (hold_B w43) one_B (fun h => absurd h (by decide)) (by decide) (by decide) (fun h => absurd h (by decide)) ?_)
  intro v1 w1 ho hg
  have hb1 := hg
  have hb2 : Below w43.heap.size w43 ((w43.alloc (.cells cA 56)).alloc (.cells cB 56)) := (below_alloc (Below.refl _ _) _).alloc (by simp) _
  have hB := veil (two_below hB.out hb2)
  have hB := veil (two_below hB.out ⟨hg.os, hg.tape, hg.output, hg.size, fun k hk => hg.block k hk (by simp)⟩)
  obtain ⟨hl, ho2⟩ := ho
  rcases ho2 with ⟨_, h0⟩ | ⟨g, cap, cur, rfl, hgb, hh, hnc, hcm, hsz, htk⟩
  · exact absurd h0 (by decide)
  have hh' := veil hh
  have htk' := veil htk
  clear hg hb1 hl hh htk hsz hgb
  go_wp2_with fail
  go_ret
  refine ⟨_, _, rfl, hnc, fun j u hu => ?_, hB.out⟩
  rw [cell_of_row _ _ _ _ _ _ hh'.out]
  have h : (List.take _ cur.toList)[j]? = some u := (congrArg (fun (l : List Value) => l[j]?) htk'.out).trans hu
  rw [List.getElem?_take_of_lt (by
    have := (List.getElem?_eq_some_iff.1 hu).1
    have h3 : tab.length = 168 := by decide +kernel
    omega), Array.getElem?_toList] at h
  exact h
theorem infoC3 (n : ByteArray) (a g : Int) : (Tryz.prog.info? 56).map (·.size) = some (#[.string n, .int .i64 a, .int .u16 g] : Array Value).size := by
  show _ = some 3
  kernel_rfl
theorem oneC3 (n : ByteArray) (a g : Int) : (#[.string n, .int .i64 a, .int .u16 g] : Array Value).all (·.oneCell') = true := by simp [Value.oneCell']
theorem addr3 (b i : Nat) : (⟨b, 0, none⟩ : Addr).add i = ⟨b, i, none⟩ := by rw [Addr.add_lit, Nat.zero_add]
theorem results_ct {P : Program} {fn : Func} {p q : Tmp} {ty : TypeId} (h : fn.results = #[.cell p ty, .tmp q]) (tmps : Array Value) (w : World) (g : Nat) (t : TypeId) (cs : Array Value) (fr : Nat × Nat) (d : TypeDesc) (x : Value)
    (hp : tmps.getD p undef = .pointer (some ⟨g, 0, none⟩)) (hq : tmps.getD q undef = x) (hg : w.heap[g]? = some (.cells cs t fr))
    (hu : P.underlying ty = some d) (hd : (match d with | .struct _ | .array _ _ => true | _ => false) = true) (hi : (P.info? ty).map (·.size) = some cs.size) :
    (results fn tmps).run P w = .ok (.tuple #[.agg cs, x]) w := by
  have hp' : tmps[p]?.getD undef = .pointer (some ⟨g, 0, none⟩) := by simpa using hp
  have hq' : tmps[q]?.getD undef = x := by simpa using hq
  simp [results, h, hp', hq', asAddr, run_loadVar_row w g t ty cs fr d hg hu hd hi]
theorem below_row {B g : Nat} {w w1 : World} {c : Array Value} (h : Below B w w1) (hg : B ≤ g) : Below B w (w1.setRow g c) :=
  ⟨h.os, h.tape, h.output, by simpa [World.setRow] using h.size, fun k hk => by
    unfold World.setRow
    simp only [Array.getElem?_modify]
    rw [if_neg (fun e => by omega)]
    exact h.block k hk⟩
theorem set_row (w : World) (g : Nat) (old c : Array Value) (t : TypeId) (hg : w.heap[g]? = some (.cells old t (0, 0))) : (w.setRow g c).heap[g]? = some (.cells c t (0, 0)) := by
  unfold World.setRow
  simp only [Array.getElem?_modify]
  simp [hg]
set_option maxRecDepth 100000 in
set_option maxHeartbeats 8000000 in
theorem At_any (k : Nat) (n : ByteArray) (a g : Int) (w : World) (hk : k < 56) (h0 : tab[k * 3]? = some (.string n)) (h1 : tab[k * 3 + 1]? = some (.int .i64 a)) (h2 : tab[k * 3 + 2]? = some (.int .u16 g)) :
    Calls Tryz.prog 19 #[.int .i64 k] w fun e w' => e = .returned (.tuple #[.agg #[.string n, .int .i64 a, .int .u16 g], .bool true]) ∧ Below w.heap.size w w' := by
  go_enter Tryz.func19, Tryz.ntmps19
  go_wp2_with fail
  refine (All_any _).mono ?_
  rintro e w1 ⟨b, cap, rfl, hcap, hc, hb1⟩
  have c0 := hc _ _ h0
  have c1 := hc _ _ h1
  have c2 := hc _ _ h2
  have k0 : (0 : Int) ≤ k := by omega
  have kN : (k : Int) < 56 := by omega
  have hr : w1.heap[w.heap.size]? = some (.cells #[.string ⟨#[]⟩, .int .i64 0, .int .u16 0] 56 (0, 0)) := (hb1.block _ (by simp)).trans (heap_alloc_new w _)
  have hB := veil (two_below (below_alloc (Below.refl _ _) _) hb1)
  have hr' := veil hr
  clear hc h0 h1 h2 hk hb1 hcap
  go_wp2_with (refine wpList_store_row rfl 56 _ _ rfl w.heap.size (#[.string n, .int .i64 a, .int .u16 g]) rfl rfl 56 (#[.string ⟨#[]⟩, .int .i64 0, .int .u16 0]) hr (infoC3 _ _ _) rfl (oneC3 _ _ _) ?_)
  refine bodyPost_ret (v := .tuple #[.agg #[.string n, .int .i64 a, .int .u16 g], .bool true]) ?_ rfl ⟨rfl, below_row hB.out (Nat.le_refl _)⟩
  exact results_ct (p := 2) (q := 3) (ty := 56) Tryz.results19 _ _ w.heap.size 56 (#[.string n, .int .i64 a, .int .u16 g]) (0, 0) _ _ rfl rfl (set_row _ _ _ _ _ hr'.out) Tryz.underlying56 rfl (infoC3 _ _ _)
/-- the row of a command -/
def atF (a0 : Int) : Option (ByteArray × Int × Int × Bool) :=
  if 0 ≤ a0 ∧ a0 < 56 then (match tab[a0.toNat * 3]?, tab[a0.toNat * 3 + 1]?, tab[a0.toNat * 3 + 2]? with
    | some (.string n), some (.int .i64 a), some (.int .u16 g) => some (n, a, g, true)
    | _, _, _ => none) else none
theorem X_At (a0 : Int) (r1 : ByteArray) (r2 r3 : Int) (r4 : Bool) (w : World) (h : atF a0 = some (r1, r2, r3, r4)) :
    Calls Tryz.prog 19 #[.int .i64 a0] w fun e w' => e = .returned (.tuple #[.agg #[.string r1, .int .i64 r2, .int .u16 r3], .bool r4]) ∧ Below w.heap.size w w' := by
  unfold atF at h
  split at h
  · next hk =>
    split at h
    · next h1 h2 h3 =>
      simp only [Option.some.injEq, Prod.mk.injEq] at h
      obtain ⟨rfl, rfl, rfl, rfl⟩ := h
      have hc := At_any a0.toNat _ _ _ w (by omega) h1 h2 h3
      rwa [show ((a0.toNat : Nat) : Int) = a0 by omega] at hc
    · cases h
  · cases h
end Go.Proofs.Tryz.Cmd
