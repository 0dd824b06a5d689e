import Derived.Test.YtpgllpnebaonoaaUnhex
/- What the reference's Unhex tells. -/
namespace Go.Proofs.Sha
open Go Go.RowKit Hex2 Mem QTail
open Go.Proofs.YtpgllpnebaonoaaW.PrintWords
set_option linter.unusedVariables false

theorem dg_low (c : UInt8) (h1 : 48 ≤ (c.toNat : Int)) (h2 : (c.toNat : Int) ≤ 57) : dg c = (c.toNat : Int) - 48 := by unfold dg; rw [if_pos (by omega)]
theorem dg_mid (c : UInt8) (h1 : 97 ≤ (c.toNat : Int)) (h2 : (c.toNat : Int) ≤ 102) : dg c = (c.toNat : Int) - 87 := by unfold dg; rw [if_neg (by omega), if_pos (by omega)]
theorem dg_none (c : UInt8) (h : ¬ (48 ≤ (c.toNat : Int) ∧ (c.toNat : Int) ≤ 57)) (h2 : ¬ (97 ≤ (c.toNat : Int) ∧ (c.toNat : Int) ≤ 102)) : dg c = -1 := by unfold dg; rw [if_neg (by omega), if_neg (by omega)]
theorem digit_int (n : Int) (r : Int) (w : World) (h0 : 0 ≤ n) (h : n ≤ 255) (hr : (48 ≤ n ∧ n ≤ 57 ∧ r = n - 48) ∨ (97 ≤ n ∧ n ≤ 102 ∧ r = n - 87) ∨ (¬ (48 ≤ n ∧ n ≤ 57) ∧ ¬ (97 ≤ n ∧ n ≤ 102) ∧ r = -1)) :
    Calls Try.prog 24 #[.int .u8 n] w fun e w' => e = .returned (.int .i64 r) ∧ w' = w := by
  rcases hr with ⟨h1, h2, hr⟩ | ⟨h1, h2, hr⟩ | ⟨h1, h2, hr⟩
  · have hr' := veil hr
    clear hr
    go_enter Try.func24, Try.ntmps24
    go_wp2_with fail
    go_ret
    exact ⟨ret_int (by rw [hr'.out]), rfl⟩
  · have hr' := veil hr
    clear hr
    have a1 : 48 ≤ n := by omega
    have a2 : ¬ n ≤ 57 := by omega
    go_enter Try.func24, Try.ntmps24
    go_wp2_with fail
    go_ret
    exact ⟨ret_int (by rw [hr'.out]; omega), rfl⟩
  · have hr' := veil hr
    clear hr
    by_cases b1 : 48 ≤ n
    · have b2 : ¬ n ≤ 57 := by omega
      by_cases b3 : 97 ≤ n
      · have b4 : ¬ n ≤ 102 := by omega
        clear h1 h2
        go_enter Try.func24, Try.ntmps24
        go_wp2_with fail
        go_ret
        exact ⟨ret_int (by rw [hr'.out]), rfl⟩
      · clear h1 h2
        go_enter Try.func24, Try.ntmps24
        go_wp2_with fail
        go_ret
        exact ⟨ret_int (by rw [hr'.out]), rfl⟩
    · have b3 : ¬ 97 ≤ n := by omega
      clear h1 h2
      go_enter Try.func24, Try.ntmps24
      go_wp2_with fail
      go_ret
      exact ⟨ret_int (by rw [hr'.out]), rfl⟩
theorem digit_any (c : UInt8) (w : World) : Calls Try.prog 24 #[.int .u8 c.toNat] w fun e w' => e = .returned (.int .i64 (dg c)) ∧ w' = w := by
  have hc : c.toNat < 256 := c.toNat_lt
  refine digit_int _ _ w (by omega) (by omega) ?_
  by_cases h1 : 48 ≤ (c.toNat : Int) ∧ (c.toNat : Int) ≤ 57
  · exact Or.inl ⟨h1.1, h1.2, dg_low c h1.1 h1.2⟩
  · by_cases h2 : 97 ≤ (c.toNat : Int) ∧ (c.toNat : Int) ≤ 102
    · exact Or.inr (Or.inl ⟨h2.1, h2.2, dg_mid c h2.1 h2.2⟩)
    · exact Or.inr (Or.inr ⟨h1, h2, dg_none c h1 h2⟩)
set_option maxHeartbeats 2000000 in
theorem runhex_any (s : ByteArray) (w : World) (hs : s.size ≤ 601) :
    Calls Try.prog 13 #[.string s] w (Unhexed s.data.toList w) := by
  by_cases hodd : s.size % 2 = 1
  · have h1 : ((s.size : Int) % 2 != 0) = true := by rw [bne_iff_ne]; omega
    have hn := veil (unhexed_no (l := s.data.toList) (w := w) (w' := w) (unhex_odd _ (by rw [data_length]; exact hodd)) (Below.refl _ _))
    go_enter Try.func13, Try.ntmps13
    go_wp2_with fail
    go_ret2
    exact hn.out
  · obtain ⟨m, hm⟩ : ∃ m, s.size = 2 * m := ⟨s.size / 2, by omega⟩
    have h1 : ((s.size : Int) % 2 != 0) = false := by rw [bne_eq_false_iff_eq]; omega
    have hm9 : m ≤ 300 := by omega
    have hm' := veil hm
    have hown0 : Veil ((w.alloc (.cells #[] 5)).ownsRow w.heap.size 5 1 (.slice (some ⟨w.heap.size, 0, none⟩) 0 0) 0 (nums .u8 [])) := veil (own_lit w w.heap.size 5 .u8 [] (Nat.le_refl _) (by simp))
    have hb0 := veil (below_alloc (Below.refl w.heap.size w) (.cells #[] 5))
    clear hm hodd
    go_enter Try.func13, Try.ntmps13
    go_wp2_with fail
    go_loopw [4, 5] (fun v i wr => ∃ (k : Nat) (ys : List Int), k ≤ m ∧ i = .int .i64 (2 * (k : Int)) ∧ ys.length = k ∧ unhexU (s.data.toList.take (2 * k)) = some ys ∧ wr.ownsRow w.heap.size 5 1 v ys.length (nums .u8 ys) ∧ Below w.heap.size w wr) (fun _ i _ => 2 * m - (intOf i).toNat)
    case atStart => exact ⟨0, [], by omega, rfl, rfl, by simp [unhexU], hown0.out, hb0.out⟩
    case round =>
      obtain ⟨k, ys, hk, rfl, hl, hu, hown, hb⟩ := hrel
      obtain ⟨A1, c1, rfl⟩ := own_slice hown
      have hl' := veil hl
      have hu' := veil hu
      have hown' := veil hown
      have hb' := veil hb
      clear hl hu hown hb
      by_cases hlt : k < m
      · obtain ⟨a, ha⟩ : ∃ a, s.data.toList[2 * k]? = some a := by rw [List.getElem?_eq_getElem (by rw [data_length]; have := hm'.out; omega)]; exact ⟨_, rfl⟩
        obtain ⟨b, hbb⟩ : ∃ b, s.data.toList[2 * k + 1]? = some b := by rw [List.getElem?_eq_getElem (by rw [data_length]; have := hm'.out; omega)]; exact ⟨_, rfl⟩
        obtain ⟨i, hi⟩ : ∃ i : Int, 2 * (k : Int) = i := ⟨_, rfl⟩
        have w3 : (0 : Int) ≤ i := by omega
        have w4 : i + 1 < s.size := by have := hm'.out; omega
        have w5 : i ≤ 601 := by omega
        have ea : ∀ h : i.toNat < s.size, ((s[i.toNat]'h).toNat : Int) = a.toNat := fun h => by
          have h2 : i.toNat = 2 * k := by omega
          have h3 : 2 * k < s.size := by omega
          have h4 : s[2 * k]'h3 = a := by
            rw [List.getElem?_eq_getElem (by rw [data_length]; exact h3)] at ha
            exact Option.some.inj ha
          simp only [h2, h4]
        have eb : ∀ h : (i + 1).toNat < s.size, ((s[(i + 1).toNat]'h).toNat : Int) = b.toNat := fun h => by
          have h2 : (i + 1).toNat = 2 * k + 1 := by omega
          have h3 : 2 * k + 1 < s.size := by omega
          have h4 : s[2 * k + 1]'h3 = b := by
            rw [List.getElem?_eq_getElem (by rw [data_length]; exact h3)] at hbb
            exact Option.some.inj hbb
          simp only [h2, h4]
        have ha' := veil ha
        have hbb' := veil hbb
        have ea' := veil ea
        have eb' := veil eb
        rw [hi]
        have hi' := veil hi
        clear ha hbb ea eb hi
        have ga := dg_ge a
        have gb := dg_ge b
        go_wp2_with fail
        rw [ea'.out]
        refine (digit_any a _).mono ?_
        rintro e wx ⟨rfl, rfl⟩
        go_wp2_with fail
        rw [eb'.out]
        refine (digit_any b _).mono ?_
        rintro e wx ⟨rfl, rfl⟩
        obtain ⟨x, hx⟩ : ∃ x, dg a = x := ⟨_, rfl⟩
        obtain ⟨y, hy⟩ : ∃ y, dg b = y := ⟨_, rfl⟩
        rw [hx, hy]
        rw [hx] at ga
        rw [hy] at gb
        have hx' := veil hx
        have hy' := veil hy
        clear hx hy
        by_cases hx0 : x < 0
        · have hno := unhex_stop ha'.out hbb'.out (Or.inl (by rw [hx'.out]; exact hx0))
          have hn := veil (unhexed_no (w := w) hno hb'.out)
          clear hno
          go_wp2_with fail
          go_ret2
          exact hn.out
        · by_cases hy0 : y < 0
          · have hno := unhex_stop ha'.out hbb'.out (Or.inr (by rw [hy'.out]; exact hy0))
            have hn := veil (unhexed_no (w := w) hno hb'.out)
            clear hno
            go_wp2_with fail
            go_ret2
            exact hn.out
          · have lx : x < 16 := by rw [← hx'.out]; exact dg_lt a (by rw [hx'.out]; omega)
            have ly : y < 16 := by rw [← hy'.out]; exact dg_lt b (by rw [hy'.out]; omega)
            have gx0 : 0 ≤ x := by omega
            have gy0 : 0 ≤ y := by omega
            have hst : Veil (unhexU (s.data.toList.take (2 * (k + 1))) = some (ys ++ [16 * dg a + dg b])) := veil (unhex_step ha'.out hbb'.out hu'.out (by rw [hx'.out]; exact gx0) (by rw [hy'.out]; exact gy0))
            rw [hx'.out, hy'.out] at hst
            obtain ⟨ml, hml⟩ : ∃ ml, ys.length = ml := ⟨_, rfl⟩
            have hown2 : wx.ownsRow w.heap.size 5 1 (.slice A1 ml c1) ys.length (nums .u8 ys) := by have h := hown'.out; rw [hml] at h ⊢; exact h
            have hown2' := veil hown2
            have hml' := veil hml
            have hml0 : ml ≤ 300 := by have := hl'.out; omega
            rw [hml]
            clear hml hown2 hown'
            go_wp2_with (at_builtin; refine print_append_num (w0 := w) w.heap.size rfl (.tmp 35) (.tmp 41) 22 5 .u8 1 rfl Try.underlying22 info5 (by omega) _ ys _ rfl rfl hown2'.out hb'.out (hb'.out.size) (by rw [hml'.out]; omega) ?_; intro v3 w3 hown4 hb4 hg4 hat4)
            have hin := hi'.out
            have hown5 : w3.ownsRow w.heap.size 5 1 v3 (ys ++ [16 * x + y]).length (nums .u8 (ys ++ [16 * x + y])) := by
              rw [show (16 * x + y) = _ from rfl] at hown4
              exact hown4
            refine ⟨⟨k + 1, ys ++ [16 * x + y], by omega, ?_, by simp [hl'.out], hst.out, hown5, hb4⟩, ?_⟩
            · rw [show i + 2 = 2 * ((k + 1 : Nat) : Int) by omega]
            · simp only [intOf]; omega
      · obtain rfl : k = m := by omega
        have hr := own_reads' hown'.out
        have hu2 := hu'.out
        rw [List.take_of_length_le (by rw [data_length]; have := hm'.out; omega)] at hu2
        obtain ⟨ml, hml⟩ : ∃ ml, ys.length = ml := ⟨_, rfl⟩
        have hcap := Go.Proofs.YtpgllpnebaonoaaW.PrintWords.own_cap hown'.out
        rw [hml] at hr hcap ⊢
        have hy := veil (unhexed_yes (w := w) (c := c1) hu2 hcap hr hb'.out)
        obtain ⟨i, hi⟩ : ∃ i : Int, 2 * (k : Int) = i := ⟨_, rfl⟩
        have w3 : (0 : Int) ≤ i := by omega
        have w4 : ¬ i + 1 < s.size := by have := hm'.out; omega
        have w5 : i ≤ 601 := by omega
        rw [hi]
        clear hr hu2 hml hcap hi
        go_wp2_with fail
        go_ret2
        exact hy.out
end Go.Proofs.Sha
