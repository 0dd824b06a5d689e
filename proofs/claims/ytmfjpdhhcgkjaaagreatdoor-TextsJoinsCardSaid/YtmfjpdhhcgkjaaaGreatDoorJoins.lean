import Derived.Test.YtmfjpdhhcgkjaaaGreatDoorLawT
/- The law of texts that are joined. -/
namespace Go.Proofs.Tryz.Ln
open Go Go.RowKit Go.Proofs.Mem Go.Proofs.App
open Go.Proofs.YtmfjpdhhcgkjaaaGreatDoorW.PrintWords Go.Proofs.YtmfjpdhhcgkjaaaGreatDoorW.PrintMore
attribute [local go_sem] max2_int min2_int max_two min_two max_three min_three max_four min_four   -- for this text's walks alone
set_option linter.unusedVariables false
set_option linter.unusedSimpArgs false
def joinT : List ByteArray → ByteArray
  | [] => ⟨#[]⟩
  | s :: r => joinT r ++ cut20 s
/-- the first k texts, cut and joined -/
def J (l : List ByteArray) (k : Nat) : ByteArray := joinT (l.take k).reverse
theorem J_zero (l : List ByteArray) : J l 0 = ⟨#[]⟩ := by simp [J, joinT]
theorem J_succ (l : List ByteArray) (k : Nat) (s : ByteArray) (h : l[k]? = some s) : J l (k + 1) = J l k ++ cut20 s := by
  unfold J
  rw [List.take_add_one, h]
  simp [joinT]
theorem J_size (l : List ByteArray) : ∀ k, (J l k).size ≤ 20 * k
  | 0 => by rw [J_zero]; decide
  | k + 1 => by
    have ih := J_size l k
    cases h : l[k]? with
    | none =>
      have : J l (k + 1) = J l k := by unfold J; rw [List.take_add_one, h]; simp
      rw [this]; omega
    | some s =>
      have := cut20_size s
      rw [J_succ l k s h, ByteArray.size_append]; omega
def kJ (k : Nat) : Int := if k = 0 then 0 else 1
def VJ (l : List ByteArray) (k : Nat) : Array Value := vS (kJ k) (J l k) nl nl nl
theorem kJ_or (k : Nat) : kJ k = 0 ∨ kJ k = 1 := by unfold kJ; split <;> simp
theorem VJ_zero (l : List ByteArray) : VJ l 0 = zS := by unfold VJ; rw [J_zero]; rfl
theorem VJ_succ (l : List ByteArray) (k : Nat) (s : ByteArray) (h : l[k]? = some s) : VJ l (k + 1) = tS (J l k ++ cut20 s) := by unfold VJ; rw [J_succ l k s h]; rfl
theorem VJ_one (l : List ByteArray) (k : Nat) : (VJ l k).all (·.oneCell') = true := by simp [VJ, vS, Value.oneCell']
theorem le7 {a b c d e f g : Nat} (h1 : a ≤ b) (h2 : c = b + 1) (h3 : c ≤ d) (h4 : e = d + 1) (h5 : e ≤ f) (h6 : g = f) : a ≤ g := by omega
theorem meas {k n : Nat} {i : Int} (h : i = ((k + 1 : Nat) : Int)) (hk : k < n) : n - (intOf (.int .i64 i)).toNat < n - (intOf (.int .i64 (k : Int))).toNat := by
  subst h
  show n - (((k + 1 : Nat) : Int)).toNat < n - ((k : Int)).toNat
  rw [Int.toNat_natCast, Int.toNat_natCast]
  omega
theorem low_append : lowS ⟨#[65, 112, 112, 101, 110, 100]⟩ = ⟨#[97, 112, 112, 101, 110, 100]⟩ := by decide +kernel
theorem low_append' : lowS ⟨#[97, 112, 112, 101, 110, 100]⟩ = ⟨#[97, 112, 112, 101, 110, 100]⟩ := by decide +kernel
theorem low_get : lowS ⟨#[103, 101, 116]⟩ = ⟨#[103, 101, 116]⟩ := by decide +kernel
set_option maxRecDepth 100000 in
set_option maxHeartbeats 8000000 in
theorem joins_any (A : Option Addr) (c : Nat) (l : List ByteArray) (w : World) (hr : ReadsOf Value.string ByteArray.empty w A l.length l) (hc : l.length ≤ c) (hT : Tabs w) :
    Calls Tryz.prog 6 #[.slice A l.length c] w fun e w' => e = .returned (.bool true) ∧ Below w.heap.size w w' := by
  have hT' := veil hT
  have hr' := veil hr
  clear hT hr
  go_enter Tryz.func6, Tryz.ntmps6
  go_wp2_with fail
  refine (shown11_any _ hT'.out).mono ?_
  rintro e w1 ⟨rfl, hb1⟩
  have hB1 := veil hb1
  obtain ⟨w2, hw2⟩ : ∃ w2 : World, w2 = w1.alloc (.cells #[.int .u8 0, .string ⟨#[]⟩, .slice none 0 0, .slice none 0 0, .slice none 0 0] 26) := ⟨_, rfl⟩
  have hsz2 : w2.heap.size = w1.heap.size + 1 := by rw [hw2]; simp
  have hb2 : Below w1.heap.size w1 w2 := by rw [hw2]; exact below_alloc (Below.refl _ _) _
  have hx2 : w2.heap[w1.heap.size]? = some (.cells (VJ l 0) 26 (0, 0)) := by rw [hw2, VJ_zero]; exact heap_alloc_last w1 _
  have hB2 := veil (two_below hB1.out hb2)
  have hx2' := veil hx2
  have hw2' := veil hw2
  have hsz1 := hb1.size
  clear hb1 hb2 hx2 hw2
  go_wp2_with fail
  rw [← hw2'.out]
  go_loopw [5, 6] (fun t i wr => ∃ k : Nat, k ≤ l.length ∧ k ≤ 10 ∧ t = .string (J l k) ∧ i = .int .i64 k ∧ wr.heap[w1.heap.size]? = some (.cells (VJ l k) 26 (0, 0)) ∧ w2.heap.size ≤ wr.heap.size ∧ Below w.heap.size w wr) (fun _ i _ => l.length - (intOf i).toNat)
  case atStart => exact ⟨0, by omega, by omega, by rw [J_zero], rfl, hx2'.out, Nat.le_refl _, hB2.out⟩
  case round =>
    obtain ⟨k, hk, hk10, rfl, rfl, hx, hsz, hb⟩ := hrel
    have hx' := veil hx
    have hb' := veil hb
    clear hx hb
    by_cases hin : k < l.length ∧ k < 10
    · obtain ⟨hlt, hlt10⟩ := hin
      focus
        obtain ⟨s, hsk⟩ : ∃ s, l[k]? = some s := ⟨_, List.getElem?_eq_getElem hlt⟩
        obtain ⟨ad, rfl, hcell⟩ := (hr'.out.below hb'.out).2.2 (by omega)
        have hck := hcell k hlt
        rw [List.getD_eq_getElem?_getD, hsk, Option.getD_some] at hck
        have hsz20 := cut20_size s
        have hJ := J_size l k
        have hsk' := veil hsk
        have k0 : (0 : Int) ≤ k := by omega
        have kk : Veil ((k : Int) + 1 = ((k + 1 : Nat) : Int)) := veil (by omega)
        have kl : (k : Int) < l.length := by omega
        have k10 : (k : Int) < 10 := by omega
        have hck' := veil hck
        clear hcell hsk
        have q0 : wr.cell? ⟨w1.heap.size, 0, none⟩ = some (.int .u8 (kJ k)) := by rw [cell_of_row _ _ _ _ _ _ hx'.out]; rfl
        have q1 : wr.cell? ⟨w1.heap.size, 1, none⟩ = some (.string (J l k)) := by rw [cell_of_row _ _ _ _ _ _ hx'.out]; rfl
        have q2 : wr.cell? ⟨w1.heap.size, 2, none⟩ = some nl := by rw [cell_of_row _ _ _ _ _ _ hx'.out]; rfl
        have q3 : wr.cell? ⟨w1.heap.size, 3, none⟩ = some nl := by rw [cell_of_row _ _ _ _ _ _ hx'.out]; rfl
        have q4 : wr.cell? ⟨w1.heap.size, 4, none⟩ = some nl := by rw [cell_of_row _ _ _ _ _ _ hx'.out]; rfl
        obtain ⟨s', hs2⟩ : ∃ s', cut20 s = s' := ⟨_, rfl⟩
        have hs2' := veil hs2
        have hJs := veil (J_succ l k s hsk'.out)
        have hVs := veil (VJ_succ l k s hsk'.out)
        rw [hs2] at hsz20 hJs hVs
        unfold cut20 at hs2
        by_cases h20 : 20 < s.size
        focus
          rw [if_pos h20] at hs2
          have h20' : (20 : Int) < s.size := by omega
          go_wp2_with fail
          repeat (go_quiet (fail); try go_wp2_with fail)
          try rw [hs2]
        rotate_left
        focus
          rw [if_neg h20] at hs2
          have h20' : ¬ (20 : Int) < s.size := by omega
          go_wp2_with fail
          repeat (go_quiet (fail); try go_wp2_with fail)
          try rw [hs2]
        all_goals
          obtain ⟨w3, hw3⟩ : ∃ w3 : World, w3 = (wr.drewN nq).alloc (.cells #[.string ⟨#[65, 112, 112, 101, 110, 100]⟩, .string ⟨#[107]⟩, .string s'] 9) := ⟨_, rfl⟩
          have hb3 : Below wr.heap.size wr w3 := by rw [hw3]; exact (pw_below_drewN (Below.refl wr.heap.size wr) nq).alloc (Nat.le_refl _) _
          have hc3 : w3.heap[wr.heap.size]? = some (.cells #[.string ⟨#[65, 112, 112, 101, 110, 100]⟩, .string ⟨#[107]⟩, .string s'] 9 (0, 0)) := by rw [hw3]; exact heap_alloc_last (wr.drewN nq) _
          have hsz3 : w3.heap.size = wr.heap.size + 1 := by rw [hw3]; simp
          have hB3 := veil (two_below hb'.out hb3)
          have hx3 := veil ((hb3.block _ (by omega)).trans hx'.out)
          rw [← hw3]
          clear hb3 hw3 q0 q1 q2 q3 q4
          have h1 := do_append (kJ k) (J l k) ⟨#[65, 112, 112, 101, 110, 100]⟩ s' nl nl nl ⟨wr.heap.size, 0, none⟩ 3 3 w3 (kJ_or k) (by omega) (by decide) low_append (by decide) (by decide) (by rw [cell_of_row _ _ _ _ _ _ hc3]; rfl) (by omega) (by show w3.cell? ⟨wr.heap.size, 2, none⟩ = _; rw [cell_of_row _ _ _ _ _ _ hc3]; rfl) (by simp [vS, Value.oneCell']) (tabs_below hT'.out hB3.out)
          rw [← hVs.out, ← hJs.out] at h1
          refine h1.mono ?_
          rintro e w4 ⟨A1, n1, c1, rfl, hf1, hb4⟩
          have hsz4 := hb4.size
          have hB4 := veil (two_below hB3.out hb4)
          have hx4 := veil ((hb4.block _ (by omega)).trans hx3.out)
          have hf1' := veil hf1
          have z1 : ¬ 9223372036854775807 < (J l k).size + s'.size := by omega
          clear h1 hf1 hb4 hc3
          go_wp2_with (first | (refine wpList_store_row rfl 26 _ _ rfl w4.heap.size (VJ l (k + 1)) rfl rfl 26 zS (heap_alloc_last w4 _) (by kernel_rfl) rfl (VJ_one l (k + 1)) ?_))
          obtain ⟨w5, hw5⟩ : ∃ w5 : World, w5 = (w4.alloc (.cells #[.int .u8 0, .string ⟨#[]⟩, .slice none 0 0, .slice none 0 0, .slice none 0 0] 26)).setRow w4.heap.size (VJ l (k + 1)) := ⟨_, rfl⟩
          have hsz5 : w5.heap.size = w4.heap.size + 1 := by rw [hw5]; simp [World.setRow]
          have hn5 : w5.heap[w4.heap.size]? = some (.cells (VJ l (k + 1)) 26 (0, 0)) := by rw [hw5]; exact setRow_heap _ w4.heap.size zS _ _ (0, 0) (heap_alloc_last w4 _)
          have hb5 : Below w4.heap.size w4 w5 := by rw [hw5]; exact below_set (below_alloc (Below.refl _ _) _) _ (Nat.le_refl _) _
          have hB5 := veil (two_below hB4.out hb5)
          have hx5 := veil ((hb5.block _ (by omega)).trans hx4.out)
          have hn5' := veil hn5
          have hr5 := veil ((hf1'.out.reads (by have h1 := hf1'.out.len; have h2 := numS_size ((J l (k + 1)).size : Int) (by omega) (by have := J_size l (k + 1); omega); rw [line_len] at h1; omega)).below hb5)
          have hzn := numS_size ((J l (k + 1)).size : Int) (by omega) (by have := J_size l (k + 1); omega)
          have hJ1 := J_size l (k + 1)
          rw [← hw5, ← hJs.out]
          clear hb5 hw5 hn5
          refine Rel.wp_region_rel (n := 94) [Rel.rd (lineL ⟨#[58]⟩ (numS ((J l (k + 1)).size : Nat))), Rel.is (.string (strOfNums (lineL ⟨#[58]⟩ (numS ((J l (k + 1)).size : Nat))))), Rel.is (.string (J l (k + 1))), Rel.is (.int .i64 ((J l (k + 1)).size : Nat)), Rel.rd (lineL ⟨#[58]⟩ (numS ((J l (k + 1)).size : Nat))), Rel.is (.string (strOfNums (lineL ⟨#[58]⟩ (numS ((J l (k + 1)).size : Nat))))), Rel.is (.bool false)] (by kernel_rfl) (by rfl) (by kernel_rfl) ?_ ?_
          · refine Rel.steps_cons (Rel.step_rdB (n := 94) (t := 9) (A := A1) (m := n1) (c := c1) rfl (.inl rfl) rfl rfl (by kernel_rfl) hr5.out rfl) ?_
            refine Rel.steps_cons (Rel.step_strB (n := 94) (j := 0) (t := 47) rfl (.inl rfl) rfl Tryz.underlying29 Tryz.underlying5 Tryz.underlying9 rfl rfl rfl rfl) ?_
            refine Rel.steps_cons (Rel.step_wasB (n := 94) (t := 5) rfl (.inl rfl) (.inl rfl) rfl (by kernel_rfl) rfl) ?_
            refine Rel.steps_cons (Rel.step_run1 (n := 94) (j := 2) (t := 49) rfl (.inl rfl) rfl rfl rfl (fun ρ w' _ h1 hk => by simp [execOp, resolve, invoke, builtin, h1, hk, go_sem, Tryz.underlying9]) rfl) ?_
            refine Rel.steps_cons (Rel.step_callB (n := 94) rfl (.inl rfl) Tryz.func15 (by kernel_rfl) rfl #[.int .i64 ((J l (k + 1)).size : Nat)] rfl (fun b w D => by simp only [List.map_toArray, List.map_cons, List.map_nil, show b.eval (.tmp 50) = .int .i64 ((J l (k + 1)).size : Nat) from D.is 3 50 rfl rfl rfl]) (fun w hb => rdB (by rw [line_len]; omega) (YInt_any _ w (by unfold Int64; omega)))) ?_
            refine Rel.steps_cons (Rel.step_strB (n := 94) (j := 4) (t := 51) rfl (.inl rfl) rfl Tryz.underlying29 Tryz.underlying5 Tryz.underlying9 rfl rfl rfl rfl) ?_
            refine Rel.steps_cons (Rel.step_texts (n := 94) (j := 1) (t := 48) (j2 := 5) (t2 := 52) rfl (.inl rfl) rfl Tryz.underlying9 rfl rfl rfl rfl rfl rfl (.inr ⟨rfl, (by rw [decide_eq_true rfl]; rfl)⟩) rfl) ?_
            exact trivial
          intro v w6 hv hb6
          have e6 : v 6 = .bool false := hv 6 (by decide)
          have hB6 := veil (two_below hB5.out hb6)
          have hx6 := (hb6.block _ (by omega)).trans hx5.out
          have hn6 := (hb6.block _ (by omega)).trans hn5'.out
          have hsz6 := hb6.size
          have hx6' := veil hx6
          have hn6' := veil hn6
          simp only [Rel.fill, Act.put, List.setIfInBounds_toArray, List.set_cons_zero, List.set_cons_succ]
          rw [e6]
          clear hb6 hv e6 hr5 hx5 hn5' hx6 hn6
          go_wp2_with (first | (refine wpList_load_row rfl 26 _ rfl w4.heap.size rfl 26 (VJ l (k + 1)) (0, 0) _ hn6'.out Tryz.underlying26 rfl (by kernel_rfl) ?_) | (refine wpList_store_row rfl 26 _ _ rfl w1.heap.size (VJ l (k + 1)) rfl rfl 26 (VJ l k) hx6'.out (by kernel_rfl) rfl (VJ_one l (k + 1)) ?_))
          obtain ⟨w7, hw7⟩ : ∃ w7 : World, w7 = w6.setRow w1.heap.size (VJ l (k + 1)) := ⟨_, rfl⟩
          have hx7 : w7.heap[w1.heap.size]? = some (.cells (VJ l (k + 1)) 26 (0, 0)) := by rw [hw7]; exact setRow_heap w6 w1.heap.size (VJ l k) (VJ l (k + 1)) 26 (0, 0) hx6'.out
          have hB7 : Below w.heap.size w w7 := by rw [hw7]; exact below_set hB6.out w1.heap.size hsz1 (VJ l (k + 1))
          have hsz7 : w7.heap.size = w6.heap.size := by rw [hw7]; simp [World.setRow]
          rw [← hw7]
          clear hw7
          have k1 : wrap64 ((k : Int) + 1) = ((k + 1 : Nat) : Int) := by unfold wrap64; omega
          go_roundw
          case rel =>
            refine ⟨k + 1, ?_, ?_, rfl, ?_, hx7, ?_, hB7⟩
            case refine_1 => exact hlt
            case refine_2 => exact hlt10
            case refine_3 => exact congrArg (Value.int .i64) kk.out
            case refine_4 => exact le7 hsz hsz3 hsz4 hsz5 hsz6 hsz7
          case measure => exact meas kk.out hlt
        all_goals trace_state; exact test_sorry
    · have k0 : (0 : Int) ≤ k := by omega
      have hkl : l.length = 0 ∨ 0 < k := by omega
      have hJ := J_size l k
      by_cases hlt : k < l.length
      focus
        have kl : (k : Int) < l.length := by omega
        have k10 : ¬ (k : Int) < 10 := by omega
        go_wp2_with fail
      rotate_left
      focus
        have kl : ¬ (k : Int) < l.length := by omega
        go_wp2_with fail
      all_goals
        obtain ⟨w3, hw3⟩ : ∃ w3 : World, w3 = wr.alloc (.cells #[.string ⟨#[97, 112, 112, 101, 110, 100]⟩, .string ⟨#[107]⟩, .string (J l k)] 9) := ⟨_, rfl⟩
        have hb3 : Below wr.heap.size wr w3 := by rw [hw3]; exact below_alloc (Below.refl _ _) _
        have hc3 : w3.heap[wr.heap.size]? = some (.cells #[.string ⟨#[97, 112, 112, 101, 110, 100]⟩, .string ⟨#[107]⟩, .string (J l k)] 9 (0, 0)) := by rw [hw3]; exact heap_alloc_last wr _
        have hsz3 : w3.heap.size = wr.heap.size + 1 := by rw [hw3]; simp
        have hB3 := veil (two_below hb'.out hb3)
        have hx3 := veil ((hb3.block _ (by omega)).trans hx'.out)
        rw [← hw3]
        clear hb3 hw3
        have h1 := do_append 0 ⟨#[]⟩ ⟨#[97, 112, 112, 101, 110, 100]⟩ (J l k) nl nl nl ⟨wr.heap.size, 0, none⟩ 3 3 w3 (.inl rfl) (by decide) (by decide) low_append' (by decide) (by decide) (by rw [cell_of_row _ _ _ _ _ _ hc3]; rfl) (by omega) (by show w3.cell? ⟨wr.heap.size, 2, none⟩ = _; rw [cell_of_row _ _ _ _ _ _ hc3]; rfl) (by simp [vS, Value.oneCell']) (tabs_below hT'.out hB3.out)
        rw [show (⟨#[]⟩ : ByteArray) ++ J l k = J l k from ByteArray.empty_append] at h1
        refine h1.mono ?_
        rintro e w4 ⟨A1, n1, c1, rfl, hf1, hb4⟩
        have hsz4 := hb4.size
        have hB4 := veil (two_below hB3.out hb4)
        have hx4 := veil ((hb4.block _ (by omega)).trans hx3.out)
        clear h1 hf1 hb4 hc3
        go_wp2_with (first | (refine wpList_store_row rfl 26 _ _ rfl w4.heap.size (tS (J l k)) rfl rfl 26 zS (heap_alloc_last w4 _) (by kernel_rfl) rfl (tS_one (J l k)) ?_) | (refine wpList_load_row rfl 26 _ rfl w4.heap.size rfl 26 (tS (J l k)) (0, 0) _ (setRow_heap _ w4.heap.size zS _ _ (0, 0) (heap_alloc_last w4 _)) Tryz.underlying26 rfl (by kernel_rfl) ?_))
        obtain ⟨w5, hw5⟩ : ∃ w5 : World, w5 = (w4.alloc (.cells #[.int .u8 0, .string ⟨#[]⟩, .slice none 0 0, .slice none 0 0, .slice none 0 0] 26)).setRow w4.heap.size (tS (J l k)) := ⟨_, rfl⟩
        have hN := newV (tS (J l k)) w4
        rw [← hw5] at hN ⊢
        obtain ⟨w6, hw6⟩ : ∃ w6 : World, w6 = w5.alloc (.cells #[.string ⟨#[103, 101, 116]⟩, .string ⟨#[107]⟩] 9) := ⟨_, rfl⟩
        have hT6 := newT #[.string ⟨#[103, 101, 116]⟩, .string ⟨#[107]⟩] w5
        rw [← hw6] at hT6 ⊢
        have hz5 := hN.sz
        have hz6 := hT6.sz
        have hB6 := veil (two_below (two_below hB4.out hN.bel) hT6.bel)
        have hx6 := veil ((hT6.bel.block _ (by omega)).trans ((hN.bel.block _ (by omega)).trans hx4.out))
        have hn6 := veil ((hT6.bel.block _ (by omega)).trans hN.cell)
        have h2 := do_get 1 (J l k) ⟨#[103, 101, 116]⟩ nl nl nl ⟨w5.heap.size, 0, none⟩ 2 2 w6 (.inr rfl) (by omega) (by decide) low_get (by decide) (by decide) (by rw [cell_of_row _ _ _ _ _ _ hT6.cell]; rfl) (by simp [vS, Value.oneCell']) (tabs_below hT'.out hB6.out)
        rw [show gotL 1 (J l k) = bulkL (J l k) from rfl, hz5] at h2
        clear hT6 hN hw5 hw6
        refine h2.mono ?_
        rintro e w7 ⟨A2, n2, c2, rfl, hf2, hb7⟩
        have hz7 := hb7.size
        have hB7 := veil (two_below hB6.out hb7)
        have hx7 := veil ((hb7.block _ (by omega)).trans hx6.out)
        have hn7 := veil ((hb7.block _ (by omega)).trans hn6.out)
        have hbl := bulkL_len (J l k) (by omega)
        have hr7 := veil (hf2.reads (by have := hf2.len; omega))
        clear h2 hf2 hb7
        go_wp2_with (first | (refine wpList_store_row rfl 26 _ _ rfl w7.heap.size (tS (J l k)) rfl rfl 26 zS (heap_alloc_last w7 _) (by kernel_rfl) rfl (tS_one (J l k)) ?_))
        obtain ⟨w9, hw9⟩ : ∃ w9 : World, w9 = (w7.alloc (.cells #[.int .u8 0, .string ⟨#[]⟩, .slice none 0 0, .slice none 0 0, .slice none 0 0] 26)).setRow w7.heap.size (tS (J l k)) := ⟨_, rfl⟩
        have hN := newV (tS (J l k)) w7
        rw [← hw9] at hN ⊢
        have hz9 := hN.sz
        have hB9 := veil (two_below hB7.out hN.bel)
        have hx9 := veil ((hN.bel.block _ (by omega)).trans hx7.out)
        have hn9 := veil ((hN.bel.block _ (by omega)).trans hn7.out)
        have hr9 := veil (hr7.out.below hN.bel)
        clear hN hw9 hr7 hx7 hn7
        rcases hkl with hl0 | hk0
        focus
          have hl1 : l = [] := List.eq_nil_of_length_eq_zero hl0
          refine Rel.wp_region_rel (n := 94) [Rel.is (.bool true), Rel.is (.bool true), Rel.is (.slice A l.length c), Rel.is (.int .i64 (l.length : Nat)), Rel.is (.bool true), Rel.is (.bool true), Rel.is undef, Rel.is undef, Rel.is undef, Rel.is undef, Rel.is undef, Rel.is undef, Rel.is undef, Rel.is undef, Rel.is undef, Rel.is undef, Rel.is (.bool true), Rel.is (.bool true), Rel.is (.bool true), Rel.rd (bulkL (J l k)), Rel.is (.string (strOfNums (bulkL (J l k)))), Rel.is (.string (J l k)), Rel.rd (bulkL (J l k)), Rel.is (.string (strOfNums (bulkL (J l k)))), Rel.is (.bool true), Rel.is (.bool true), Rel.is (.bool true)] (by kernel_rfl) (by rfl) (by kernel_rfl) ?_ ?_
          · refine Rel.steps_cons (Rel.step_wasB (n := 94) (t := 3) rfl (.inl rfl) (.inl rfl) rfl (by kernel_rfl) rfl) ?_
            refine Rel.steps_cons (Rel.step_passB (n := 94) (j := 0) (t := 68) rfl (.inl rfl) (.inl rfl) rfl rfl rfl rfl) ?_
            refine Rel.steps_cons (Rel.step_wasB (n := 94) (t := 0) rfl (.inr ⟨1, 69, true, rfl, rfl, rfl, by decide, rfl⟩) (.inl rfl) rfl (by kernel_rfl) rfl) ?_
            refine Rel.steps_cons (Rel.step_run1 (n := 94) (j := 2) (t := 70) rfl (.inr ⟨1, 69, true, rfl, rfl, rfl, by decide, rfl⟩) rfl rfl rfl (fun ρ w' _ h1 hk => by simp [execOp, resolve, invoke, builtin, h1, hk, go_sem, Tryz.underlying22]) rfl) ?_
            refine Rel.steps_cons (Rel.step_run1 (n := 94) (j := 3) (t := 71) rfl (.inr ⟨1, 69, true, rfl, rfl, rfl, by decide, rfl⟩) rfl rfl rfl (fun ρ w' hb h1 hk => by simp [execOp, h1, hk, go_sem, hl0, hl1]) rfl) ?_
            refine Rel.steps_cons (Rel.step_passB (n := 94) (j := 4) (t := 72) rfl (.inr ⟨1, 69, true, rfl, rfl, rfl, by decide, rfl⟩) (.inl rfl) rfl rfl rfl rfl) ?_
            refine Rel.steps_cons (Rel.step_off (n := 94) (g := 5) (t := 73) (v := false) (x := .bool true) rfl rfl rfl rfl (by decide) rfl (by decide) rfl) ?_
            refine Rel.steps_cons (Rel.step_off (n := 94) (g := 5) (t := 73) (v := false) (x := .bool true) rfl rfl rfl rfl (by decide) rfl (by decide) rfl) ?_
            refine Rel.steps_cons (Rel.step_off (n := 94) (g := 5) (t := 73) (v := false) (x := .bool true) rfl rfl rfl rfl (by decide) rfl (by decide) rfl) ?_
            refine Rel.steps_cons (Rel.step_off (n := 94) (g := 5) (t := 73) (v := false) (x := .bool true) rfl rfl rfl rfl (by decide) rfl (by decide) rfl) ?_
            refine Rel.steps_cons (Rel.step_off (n := 94) (g := 5) (t := 73) (v := false) (x := .bool true) rfl rfl rfl rfl (by decide) rfl (by decide) rfl) ?_
            refine Rel.steps_cons (Rel.step_off (n := 94) (g := 5) (t := 73) (v := false) (x := .bool true) rfl rfl rfl rfl (by decide) rfl (by decide) rfl) ?_
            refine Rel.steps_cons (Rel.step_off (n := 94) (g := 11) (t := 79) (v := true) (x := undef) rfl rfl rfl rfl (by decide) rfl (by decide) rfl) ?_
            refine Rel.steps_cons (Rel.step_off (n := 94) (g := 11) (t := 79) (v := true) (x := undef) rfl rfl rfl rfl (by decide) rfl (by decide) rfl) ?_
            refine Rel.steps_cons (Rel.step_off (n := 94) (g := 11) (t := 79) (v := true) (x := undef) rfl rfl rfl rfl (by decide) rfl (by decide) rfl) ?_
            refine Rel.steps_cons (Rel.step_off (n := 94) (g := 5) (t := 73) (v := false) (x := .bool true) rfl rfl rfl rfl (by decide) rfl (by decide) rfl) ?_
            refine Rel.steps_cons (Rel.step_run1 (n := 94) (j := 5) (t := 73) rfl (.inr ⟨1, 69, true, rfl, rfl, rfl, by decide, rfl⟩) rfl rfl rfl (fun ρ w' _ h1 hk => by simp [execOp, h1, hk, asBool]) rfl) ?_
            refine Rel.steps_cons (Rel.step_run2 (n := 94) (j := 1) (t := 69) (j2 := 16) (t2 := 84) rfl (.inl rfl) rfl rfl rfl rfl rfl rfl (fun ρ w' _ h1 h2 hk => by simp [execOp, h1, h2, hk, asBool]) rfl) ?_
            refine Rel.steps_cons (Rel.step_passB (n := 94) (j := 17) (t := 85) rfl (.inl rfl) (.inl rfl) rfl rfl rfl rfl) ?_
            refine Rel.steps_cons (Rel.step_rdB (n := 94) (t := 13) (A := A2) (m := n2) (c := c2) rfl (.inr ⟨18, 86, true, rfl, rfl, rfl, by decide, rfl⟩) rfl rfl (by kernel_rfl) hr9.out rfl) ?_
            refine Rel.steps_cons (Rel.step_strB (n := 94) (j := 19) (t := 87) rfl (.inr ⟨18, 86, true, rfl, rfl, rfl, by decide, rfl⟩) rfl Tryz.underlying29 Tryz.underlying5 Tryz.underlying9 rfl rfl rfl rfl) ?_
            refine Rel.steps_cons (Rel.step_wasB (n := 94) (t := 5) rfl (.inr ⟨18, 86, true, rfl, rfl, rfl, by decide, rfl⟩) (.inl rfl) rfl (by kernel_rfl) rfl) ?_
            refine Rel.steps_cons (Rel.step_callB (n := 94) rfl (.inr ⟨18, 86, true, rfl, rfl, rfl, by decide, rfl⟩) Tryz.func14 (by kernel_rfl) rfl #[.string (J l k)] rfl (fun b w D => by simp only [List.map_toArray, List.map_cons, List.map_nil, show b.eval (.tmp 89) = .string (J l k) from D.is 21 89 rfl rfl rfl]) (fun w hb => rdB (bulkL_len _ (by omega)) (YBulk_any _ w (by omega)))) ?_
            refine Rel.steps_cons (Rel.step_strB (n := 94) (j := 22) (t := 90) rfl (.inr ⟨18, 86, true, rfl, rfl, rfl, by decide, rfl⟩) rfl Tryz.underlying29 Tryz.underlying5 Tryz.underlying9 rfl rfl rfl rfl) ?_
            refine Rel.steps_cons (Rel.step_texts (n := 94) (j := 20) (t := 88) (j2 := 23) (t2 := 91) rfl (.inr ⟨18, 86, true, rfl, rfl, rfl, by decide, rfl⟩) rfl Tryz.underlying9 rfl rfl rfl rfl rfl rfl (.inl ⟨rfl, (decide_eq_true rfl).symm⟩) rfl) ?_
            refine Rel.steps_cons (Rel.step_run2 (n := 94) (j := 18) (t := 86) (j2 := 24) (t2 := 92) rfl (.inl rfl) rfl rfl rfl rfl rfl rfl (fun ρ w' _ h1 h2 hk => by simp [execOp, h1, h2, hk, asBool]) rfl) ?_
            refine Rel.steps_cons (Rel.step_passB (n := 94) (j := 25) (t := 93) rfl (.inl rfl) (.inr rfl) rfl rfl rfl rfl) ?_
            exact trivial
          intro v w10 hv hb10
          have e26 : v 26 = .bool true := hv 26 (by decide)
          have hB10 := veil (two_below hB9.out hb10)
          simp only [Rel.fill, Act.put, List.setIfInBounds_toArray, List.set_cons_zero, List.set_cons_succ]
          rw [e26]
          clear hb10 hv e26
          go_wp2_with fail
          go_ret
          exact ⟨rfl, hB10.out⟩
        focus
          have hl0 : ¬ l.length = 0 := by omega
          have hl1 : ¬ l = [] := fun h => hl0 (by rw [h]; rfl)
          rw [show VJ l k = tS (J l k) from by unfold VJ kJ; rw [if_neg (by omega)]; rfl] at hx9
          refine Rel.wp_region_rel (n := 94) [Rel.is (.bool true), Rel.is (.bool true), Rel.is (.slice A l.length c), Rel.is (.int .i64 (l.length : Nat)), Rel.is (.bool false), Rel.is (.bool false), Rel.is (.pointer (some ⟨w1.heap.size, 1, none⟩)), Rel.is (.string (J l k)), Rel.is (.pointer (some ⟨w4.heap.size, 1, none⟩)), Rel.is (.string (J l k)), Rel.is (.bool true), Rel.is (.bool true), Rel.is (.pointer (some ⟨w1.heap.size, 0, none⟩)), Rel.is (.int .u8 1), Rel.is (.bool true), Rel.is (.bool true), Rel.is (.bool true), Rel.is (.bool true), Rel.is (.bool true), Rel.rd (bulkL (J l k)), Rel.is (.string (strOfNums (bulkL (J l k)))), Rel.is (.string (J l k)), Rel.rd (bulkL (J l k)), Rel.is (.string (strOfNums (bulkL (J l k)))), Rel.is (.bool true), Rel.is (.bool true), Rel.is (.bool true)] (by kernel_rfl) (by rfl) (by kernel_rfl) ?_ ?_
          · refine Rel.steps_cons (Rel.step_wasB (n := 94) (t := 3) rfl (.inl rfl) (.inl rfl) rfl (by kernel_rfl) rfl) ?_
            refine Rel.steps_cons (Rel.step_passB (n := 94) (j := 0) (t := 68) rfl (.inl rfl) (.inl rfl) rfl rfl rfl rfl) ?_
            refine Rel.steps_cons (Rel.step_wasB (n := 94) (t := 0) rfl (.inr ⟨1, 69, true, rfl, rfl, rfl, by decide, rfl⟩) (.inl rfl) rfl (by kernel_rfl) rfl) ?_
            refine Rel.steps_cons (Rel.step_run1 (n := 94) (j := 2) (t := 70) rfl (.inr ⟨1, 69, true, rfl, rfl, rfl, by decide, rfl⟩) rfl rfl rfl (fun ρ w' _ h1 hk => by simp [execOp, resolve, invoke, builtin, h1, hk, go_sem, Tryz.underlying22]) rfl) ?_
            refine Rel.steps_cons (Rel.step_run1 (n := 94) (j := 3) (t := 71) rfl (.inr ⟨1, 69, true, rfl, rfl, rfl, by decide, rfl⟩) rfl rfl rfl (fun ρ w' hb h1 hk => by simp [execOp, h1, hk, go_sem, hl0, hl1]) rfl) ?_
            refine Rel.steps_cons (Rel.step_passB (n := 94) (j := 4) (t := 72) rfl (.inr ⟨1, 69, true, rfl, rfl, rfl, by decide, rfl⟩) (.inl rfl) rfl rfl rfl rfl) ?_
            refine Rel.steps_cons (Rel.step_run0 (n := 94) (t := 4) (v := .pointer (some ⟨w1.heap.size, 0, none⟩)) rfl (.inr ⟨5, 73, false, rfl, rfl, rfl, by decide, rfl⟩) rfl (by kernel_rfl) (fun ρ w' hb h1 hk => by simp [execOp, h1, hk, go_sem, Addr.add]) rfl) ?_
            refine Rel.steps_cons (Rel.step_cell (n := 94) (j := 6) (t := 74) rfl (.inr ⟨5, 73, false, rfl, rfl, rfl, by decide, rfl⟩) rfl rfl rfl rfl Tryz.underlying9 (.inl rfl) (by rw [cell_of_row _ _ _ _ _ _ hx9.out]; rfl) rfl) ?_
            refine Rel.steps_cons (Rel.step_run0 (n := 94) (t := 10) (v := .pointer (some ⟨w4.heap.size, 0, none⟩)) rfl (.inr ⟨5, 73, false, rfl, rfl, rfl, by decide, rfl⟩) rfl (by kernel_rfl) (fun ρ w' hb h1 hk => by simp [execOp, h1, hk, go_sem, Addr.add]) rfl) ?_
            refine Rel.steps_cons (Rel.step_cell (n := 94) (j := 8) (t := 76) rfl (.inr ⟨5, 73, false, rfl, rfl, rfl, by decide, rfl⟩) rfl rfl rfl rfl Tryz.underlying9 (.inl rfl) (by rw [cell_of_row _ _ _ _ _ _ hn9.out]; rfl) rfl) ?_
            refine Rel.steps_cons (Rel.step_texts (n := 94) (j := 7) (t := 75) (j2 := 9) (t2 := 77) rfl (.inr ⟨5, 73, false, rfl, rfl, rfl, by decide, rfl⟩) rfl Tryz.underlying9 rfl rfl rfl rfl rfl rfl (.inl ⟨rfl, (decide_eq_true rfl).symm⟩) rfl) ?_
            refine Rel.steps_cons (Rel.step_passB (n := 94) (j := 10) (t := 78) rfl (.inr ⟨5, 73, false, rfl, rfl, rfl, by decide, rfl⟩) (.inl rfl) rfl rfl rfl rfl) ?_
            refine Rel.steps_cons (Rel.step_run0 (n := 94) (t := 4) (v := .pointer (some ⟨w1.heap.size, 0, none⟩)) rfl (.inr ⟨11, 79, true, rfl, rfl, rfl, by decide, rfl⟩) rfl (by kernel_rfl) (fun ρ w' hb h1 hk => by simp [execOp, h1, hk, go_sem, Addr.add]) rfl) ?_
            refine Rel.steps_cons (Rel.step_cell (n := 94) (j := 12) (t := 80) rfl (.inr ⟨11, 79, true, rfl, rfl, rfl, by decide, rfl⟩) rfl rfl rfl rfl Tryz.underlying5 (.inr (.inr (.inl ⟨_, rfl⟩))) (by rw [cell_of_row _ _ _ _ _ _ hx9.out]; rfl) rfl) ?_
            refine Rel.steps_cons (Rel.step_run1 (n := 94) (j := 13) (t := 81) rfl (.inr ⟨11, 79, true, rfl, rfl, rfl, by decide, rfl⟩) rfl rfl rfl (fun ρ w' hb h1 hk => by simp [execOp, h1, hk, go_sem]) rfl) ?_
            refine Rel.steps_cons (Rel.step_run2 (n := 94) (j := 11) (t := 79) (j2 := 14) (t2 := 82) rfl (.inr ⟨5, 73, false, rfl, rfl, rfl, by decide, rfl⟩) rfl rfl rfl rfl rfl rfl (fun ρ w' _ h1 h2 hk => by simp [execOp, h1, h2, hk, asBool]) rfl) ?_
            refine Rel.steps_cons (Rel.step_run2 (n := 94) (j := 5) (t := 73) (j2 := 15) (t2 := 83) rfl (.inr ⟨1, 69, true, rfl, rfl, rfl, by decide, rfl⟩) rfl rfl rfl rfl rfl rfl (fun ρ w' _ h1 h2 hk => by simp [execOp, h1, h2, hk, asBool]) rfl) ?_
            refine Rel.steps_cons (Rel.step_run2 (n := 94) (j := 1) (t := 69) (j2 := 16) (t2 := 84) rfl (.inl rfl) rfl rfl rfl rfl rfl rfl (fun ρ w' _ h1 h2 hk => by simp [execOp, h1, h2, hk, asBool]) rfl) ?_
            refine Rel.steps_cons (Rel.step_passB (n := 94) (j := 17) (t := 85) rfl (.inl rfl) (.inl rfl) rfl rfl rfl rfl) ?_
            refine Rel.steps_cons (Rel.step_rdB (n := 94) (t := 13) (A := A2) (m := n2) (c := c2) rfl (.inr ⟨18, 86, true, rfl, rfl, rfl, by decide, rfl⟩) rfl rfl (by kernel_rfl) hr9.out rfl) ?_
            refine Rel.steps_cons (Rel.step_strB (n := 94) (j := 19) (t := 87) rfl (.inr ⟨18, 86, true, rfl, rfl, rfl, by decide, rfl⟩) rfl Tryz.underlying29 Tryz.underlying5 Tryz.underlying9 rfl rfl rfl rfl) ?_
            refine Rel.steps_cons (Rel.step_wasB (n := 94) (t := 5) rfl (.inr ⟨18, 86, true, rfl, rfl, rfl, by decide, rfl⟩) (.inl rfl) rfl (by kernel_rfl) rfl) ?_
            refine Rel.steps_cons (Rel.step_callB (n := 94) rfl (.inr ⟨18, 86, true, rfl, rfl, rfl, by decide, rfl⟩) Tryz.func14 (by kernel_rfl) rfl #[.string (J l k)] rfl (fun b w D => by simp only [List.map_toArray, List.map_cons, List.map_nil, show b.eval (.tmp 89) = .string (J l k) from D.is 21 89 rfl rfl rfl]) (fun w hb => rdB (bulkL_len _ (by omega)) (YBulk_any _ w (by omega)))) ?_
            refine Rel.steps_cons (Rel.step_strB (n := 94) (j := 22) (t := 90) rfl (.inr ⟨18, 86, true, rfl, rfl, rfl, by decide, rfl⟩) rfl Tryz.underlying29 Tryz.underlying5 Tryz.underlying9 rfl rfl rfl rfl) ?_
            refine Rel.steps_cons (Rel.step_texts (n := 94) (j := 20) (t := 88) (j2 := 23) (t2 := 91) rfl (.inr ⟨18, 86, true, rfl, rfl, rfl, by decide, rfl⟩) rfl Tryz.underlying9 rfl rfl rfl rfl rfl rfl (.inl ⟨rfl, (decide_eq_true rfl).symm⟩) rfl) ?_
            refine Rel.steps_cons (Rel.step_run2 (n := 94) (j := 18) (t := 86) (j2 := 24) (t2 := 92) rfl (.inl rfl) rfl rfl rfl rfl rfl rfl (fun ρ w' _ h1 h2 hk => by simp [execOp, h1, h2, hk, asBool]) rfl) ?_
            refine Rel.steps_cons (Rel.step_passB (n := 94) (j := 25) (t := 93) rfl (.inl rfl) (.inr rfl) rfl rfl rfl rfl) ?_
            exact trivial
          intro v w10 hv hb10
          have e26 : v 26 = .bool true := hv 26 (by decide)
          have hB10 := veil (two_below hB9.out hb10)
          simp only [Rel.fill, Act.put, List.setIfInBounds_toArray, List.set_cons_zero, List.set_cons_succ]
          rw [e26]
          clear hb10 hv e26
          go_wp2_with fail
          go_ret
          exact ⟨rfl, hB10.out⟩
theorem joins_walk (A : Option Addr) (c : Nat) (l : List ByteArray) (w : World) (hr : Kd.C Kd.string w A l.length l) (hc : l.length ≤ c) (hs : ∀ s ∈ l, s.size ≤ maxLen) (hT : Tabs w) :
    Calls Tryz.prog 6 #[.slice A l.length c] w fun e w' => e = .returned (.bool true) ∧ Below w.heap.size w w' :=
  joins_any A c l w (Kd.reads_of_C (enc := Value.string) (d := ByteArray.empty) (h1 := fun _ => rfl) hr) hc hT
end Go.Proofs.Tryz.Ln
