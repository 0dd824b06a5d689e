import Derived.Test.YtpgllpnebaonoaaSumsLaw
import Derived.Test.YtpgllpnebaonoaaRefHex
import Derived.Test.YtpgllpnebaonoaaRefUnhex
/- The laws of the digits tell true. -/
namespace Go.Proofs.Sha
open Go Go.RowKit Hex2 Mem QTail
open Go.Proofs.YtpgllpnebaonoaaW.PrintWords
set_option linter.unusedVariables false

theorem cut_size (s : ByteArray) (h : 300 < s.size) : (s.extract 0 300).size = 300 := by rw [ByteArray.size_extract]; omega
theorem unhexed_same {l : List UInt8} {w w1 w2 w3 : World} {A B : Option Addr} {n m : Nat} {xs ys : List Int} {p q : Bool} (h1 : p = true → unhexU l = some xs) (h2 : p = false → xs = [] ∧ unhexU l = none) (h3 : q = true → unhexU l = some ys) (h4 : q = false → ys = [] ∧ unhexU l = none) : xs = ys ∧ p = q := by
  cases p <;> cases q
  · exact ⟨(h2 rfl).1.trans (h4 rfl).1.symm, rfl⟩
  · have := (h2 rfl).2.symm.trans (h3 rfl); cases this
  · have := (h4 rfl).2.symm.trans (h1 rfl); cases this
  · have := (h1 rfl).symm.trans (h3 rfl)
    injection this with this
    exact ⟨this, rfl⟩
set_option maxHeartbeats 2000000 in
theorem lawHex_any (A : Option Addr) (n c : Nat) (xs : List Int) (s : ByteArray) (w : World) (hc : n ≤ c) (hc2 : c ≤ 9223372036854775807) (HR : ReadsInt w .u8 A n xs) (hx : Bytes xs) (hs : s.size ≤ 140737488351232) :
    Calls Try.prog 5 #[.slice A n c, .string s] w (YesBelow w) := by
  obtain ⟨m, hm⟩ : ∃ m, min n 300 = m := ⟨_, rfl⟩
  have hm1 : m ≤ 300 := by omega
  have hm2 : m ≤ c := by omega
  have HT := HR.take_ m (by omega)
  have HT' := veil HT
  have hxt : Bytes (xs.take m) := fun x h => hx x (List.mem_of_mem_take h)
  have hxt' := veil hxt
  have hm' := veil hm
  clear HT HR hx hxt hm
  obtain ⟨ys, hys⟩ : ∃ ys, xs.take m = ys := ⟨_, rfl⟩
  rw [hys] at HT' hxt'
  clear hys
  obtain ⟨z, hz⟩ : ∃ z : ByteArray, ⟨(hexU ys).toArray⟩ = z := ⟨_, rfl⟩
  have hz' := veil hz
  clear hz
  by_cases hlong : 300 < s.size
  · obtain ⟨t, ht⟩ : ∃ t, s.extract 0 300 = t := ⟨_, rfl⟩
    have ht1 : t.size ≤ 601 := by rw [← ht, cut_size s hlong]; omega
    have ht' := veil ht
    clear ht
    go_enter Try.func5, Try.ntmps5
    go_wp2_with fail
    refine (shown_any _).mono ?_
    rintro e w1 ⟨rfl, hb1⟩
    have hb1' := veil hb1
    clear hb1
    go_wp2_with fail
    refine (short_any A n c _ hc hc2).mono ?_
    rintro e w1' ⟨rfl, rfl⟩
    rw [hm'.out]
    go_wp2_with fail
    rw [ht'.out]
    refine (unhex_any t _ ht1).mono ?_
    rintro e w2 ⟨A1, n1, c1, ys1, ok1, rfl, hc1, hr1, hb2, h1, h2⟩
    have hr1' := veil hr1
    have hb2' := veil (hb1'.out.trans (hb2.mono hb1'.out.size))
    have h1' := veil h1
    have h2' := veil h2
    clear hr1 hb2 h1 h2
    go_wp2_with fail
    refine (runhex_any t _ ht1).mono ?_
    rintro e w3 ⟨A2, n2, c2, ys2, ok2, rfl, hc2, hr2, hb3, h3, h4⟩
    obtain ⟨rfl, rfl⟩ := unhexed_same (w := w) (w1 := w) (w2 := w) (w3 := w) (A := A) (B := A) (n := n) (m := n) h1'.out h2'.out h3 h4
    have hr2' := veil hr2
    have hr1'' := veil (hr1'.out.below hb3)
    have hb3' := veil (hb2'.out.trans (hb3.mono hb2'.out.size))
    clear hr2 hb3 h3 h4 hr1' h1' h2'
    go_wp2_with fail
    refine (hex_any A m c ys _ hm1 hm2 (HT'.out.below hb3'.out) hxt'.out).mono ?_
    rintro e w4 ⟨rfl, hb4⟩
    rw [hz'.out]
    have hr1 := veil (hr1''.out.below hb4)
    have hr2 := veil (hr2'.out.below hb4)
    have hb4' := veil (hb3'.out.trans (hb4.mono hb3'.out.size))
    clear hb4 hr1'' hr2'
    go_wp2_with fail
    refine (rhex_any A m c ys _ hm1 hm2 (HT'.out.below hb4'.out) hxt'.out).mono ?_
    rintro e w5 ⟨rfl, hb5⟩
    rw [hz'.out]
    have st1 := string_of_reads (P := Try.prog) (src := 22) (dst := 9) (c := c1) Try.underlying22 Try.underlying5 Try.underlying9 (hr1.out.below hb5)
    have st2 := string_of_reads (P := Try.prog) (src := 22) (dst := 9) (c := c2) Try.underlying22 Try.underlying5 Try.underlying9 (hr2.out.below hb5)
    obtain ⟨u, hu⟩ : ∃ u, strOfNums ys1 = u := ⟨_, rfl⟩
    rw [hu] at st1 st2
    have hb5' := veil (hb4'.out.trans (hb5.mono hb4'.out.size))
    clear hb5 hu
    go_wp2_with fail
    go_ret
    exact ⟨rfl, hb5'.out⟩
  · have ht1 : s.size ≤ 601 := by omega
    go_enter Try.func5, Try.ntmps5
    go_wp2_with fail
    refine (shown_any _).mono ?_
    rintro e w1 ⟨rfl, hb1⟩
    have hb1' := veil hb1
    clear hb1
    go_wp2_with fail
    refine (short_any A n c _ hc hc2).mono ?_
    rintro e w1' ⟨rfl, rfl⟩
    rw [hm'.out]
    go_wp2_with fail
    refine (unhex_any s _ ht1).mono ?_
    rintro e w2 ⟨A1, n1, c1, ys1, ok1, rfl, hc1, hr1, hb2, h1, h2⟩
    have hr1' := veil hr1
    have hb2' := veil (hb1'.out.trans (hb2.mono hb1'.out.size))
    have h1' := veil h1
    have h2' := veil h2
    clear hr1 hb2 h1 h2
    go_wp2_with fail
    refine (runhex_any s _ ht1).mono ?_
    rintro e w3 ⟨A2, n2, c2, ys2, ok2, rfl, hc2, hr2, hb3, h3, h4⟩
    obtain ⟨rfl, rfl⟩ := unhexed_same (w := w) (w1 := w) (w2 := w) (w3 := w) (A := A) (B := A) (n := n) (m := n) h1'.out h2'.out h3 h4
    have hr2' := veil hr2
    have hr1'' := veil (hr1'.out.below hb3)
    have hb3' := veil (hb2'.out.trans (hb3.mono hb2'.out.size))
    clear hr2 hb3 h3 h4 hr1' h1' h2'
    go_wp2_with fail
    refine (hex_any A m c ys _ hm1 hm2 (HT'.out.below hb3'.out) hxt'.out).mono ?_
    rintro e w4 ⟨rfl, hb4⟩
    rw [hz'.out]
    have hr1 := veil (hr1''.out.below hb4)
    have hr2 := veil (hr2'.out.below hb4)
    have hb4' := veil (hb3'.out.trans (hb4.mono hb3'.out.size))
    clear hb4 hr1'' hr2'
    go_wp2_with fail
    refine (rhex_any A m c ys _ hm1 hm2 (HT'.out.below hb4'.out) hxt'.out).mono ?_
    rintro e w5 ⟨rfl, hb5⟩
    rw [hz'.out]
    have st1 := string_of_reads (P := Try.prog) (src := 22) (dst := 9) (c := c1) Try.underlying22 Try.underlying5 Try.underlying9 (hr1.out.below hb5)
    have st2 := string_of_reads (P := Try.prog) (src := 22) (dst := 9) (c := c2) Try.underlying22 Try.underlying5 Try.underlying9 (hr2.out.below hb5)
    obtain ⟨u, hu⟩ : ∃ u, strOfNums ys1 = u := ⟨_, rfl⟩
    rw [hu] at st1 st2
    have hb5' := veil (hb4'.out.trans (hb5.mono hb4'.out.size))
    clear hb5 hu
    go_wp2_with fail
    go_ret
    exact ⟨rfl, hb5'.out⟩
theorem hexU_size (ys : List Int) : (⟨(hexU ys).toArray⟩ : ByteArray).size = 2 * ys.length := by
  show (hexU ys).toArray.size = _
  rw [List.size_toArray, hexU_length]
/-- what follows the three readings: told apart from the text that came in -/
theorem back_eq {l : List UInt8} {ys : List Int} (h : unhexU l = some ys) : hexU ys = l ∧ Bytes ys ∧ l.length = 2 * ys.length := unhex_some _ l ys (Nat.le_refl _) h
theorem odd_size (z : ByteArray) (h : z.size ≤ 600) : (z ++ (⟨#[48]⟩ : ByteArray)).size ≤ 601 := by
  rw [ByteArray.size_append]
  show z.size + 1 ≤ 601
  omega
theorem odd_none (z : ByteArray) (m : Nat) (h : z.size = 2 * m) : unhexU (z ++ (⟨#[48]⟩ : ByteArray)).data.toList = none := by
  refine unhex_odd _ ?_
  rw [data_length, ByteArray.size_append]
  show (z.size + 1) % 2 = 1
  omega
set_option maxHeartbeats 4000000 in
theorem lawBack_any (A : Option Addr) (n c : Nat) (xs : List Int) (s : ByteArray) (w : World) (hc : n ≤ c) (hc2 : c ≤ 9223372036854775807) (HR : ReadsInt w .u8 A n xs) (hx : Bytes xs) (hs : s.size ≤ 140737488351232) :
    Calls Try.prog 6 #[.slice A n c, .string s] w (YesBelow w) := by
  obtain ⟨m, hm⟩ : ∃ m, min n 300 = m := ⟨_, rfl⟩
  have hm1 : m ≤ 300 := by omega
  have hm2 : m ≤ c := by omega
  have HT := HR.take_ m (by omega)
  have HT' := veil HT
  have hxt : Bytes (xs.take m) := fun x h => hx x (List.mem_of_mem_take h)
  have hxt' := veil hxt
  have hm' := veil hm
  clear HT HR hx hxt hm
  obtain ⟨ys, hys⟩ : ∃ ys, xs.take m = ys := ⟨_, rfl⟩
  rw [hys] at HT' hxt'
  clear hys
  have hlen := veil HT'.out.1
  obtain ⟨z, hz⟩ : ∃ z : ByteArray, ⟨(hexU ys).toArray⟩ = z := ⟨_, rfl⟩
  have hzs : z.size = 2 * m := by rw [← hz, hexU_size, hlen.out]
  have hzl : z.data.toList = hexU ys := by rw [← hz]
  have hz' := veil hz
  have hz9 : z.size ≤ 600 := by omega
  have hz2 : ((z.size : Int) == 2 * (m : Int)) = true := by rw [beq_iff_eq]; omega
  have hzs' := veil hzs
  have hzl' := veil hzl
  clear hz hzs hzl
  by_cases hlong : 300 < s.size
  · obtain ⟨t, ht⟩ : ∃ t, s.extract 0 300 = t := ⟨_, rfl⟩
    have ht1 : t.size ≤ 300 := by rw [← ht, cut_size s hlong]; omega
    have ht' := veil ht
    clear ht
    go_enter Try.func6, Try.ntmps6
    go_wp2_with fail
    refine (shown_any _).mono ?_
    rintro e w1 ⟨rfl, hb1⟩
    have hb1' := veil hb1
    clear hb1
    go_wp2_with fail
    refine (short_any A n c _ hc hc2).mono ?_
    rintro e w1' ⟨rfl, rfl⟩
    rw [hm'.out]
    go_wp2_with fail
    rw [ht'.out]
    refine (hex_any A m c ys _ hm1 hm2 (HT'.out.below hb1'.out) hxt'.out).mono ?_
    rintro e w2 ⟨rfl, hb2⟩
    rw [hz'.out]
    have hb2' := veil (hb1'.out.trans (hb2.mono hb1'.out.size))
    clear hb2
    go_wp2_with fail
    refine (unhex_any z _ (by omega)).mono ?_
    rintro e w3 ⟨A1, n1, c1, ys1, ok1, rfl, hc1, hr1, hb3, h1, h2⟩
    have hok : unhexU z.data.toList = some ys := by rw [hzl'.out]; exact unhex_hex ys hxt'.out
    obtain rfl : ok1 = true := by
      cases ok1
      · have := (h2 rfl).2.symm.trans hok; cases this
      · rfl
    obtain rfl : ys1 = ys := by
      have := (h1 rfl).symm.trans hok
      injection this
    have hr1' := veil hr1
    have hb3' := veil (hb2'.out.trans (hb3.mono hb2'.out.size))
    clear hr1 hb3 h1 h2 hok
    go_wp2_with fail
    refine (unhex_any t _ (by omega)).mono ?_
    rintro e w4 ⟨A2, n2, c2, ys2, ok2, rfl, hc2', hr2, hb4, h3, h4⟩
    have hr1 := veil (hr1'.out.below hb4)
    have hr2' := veil hr2
    have h3' := veil h3
    have h4' := veil h4
    have hb4' := veil (hb3'.out.trans (hb4.mono hb3'.out.size))
    clear hr2 hb4 h3 h4 hr1'
    go_wp2_with fail
    refine (unhex_any _ _ (odd_size z hz9)).mono ?_
    rintro e w5 ⟨A3, n3, c3, ys3, ok3, rfl, hc3, hr3, hb5, h5, h6⟩
    obtain rfl : ok3 = false := by
      cases ok3
      · rfl
      · have := (odd_none z m hzs'.out).symm.trans (h5 rfl); cases this
    have hr2 := veil (hr2'.out.below hb5)
    have hr1' := veil (hr1.out.below hb5)
    have hb5' := veil (hb4'.out.trans (hb5.mono hb4'.out.size))
    clear hr3 hb5 h5 h6 hr1 hr2'
    have st1 := string_of_reads (P := Try.prog) (src := 22) (dst := 9) (c := c1) Try.underlying22 Try.underlying5 Try.underlying9 hr1'.out
    have st2 := string_of_reads (P := Try.prog) (src := 22) (dst := 9) (c := c) Try.underlying22 Try.underlying5 Try.underlying9 (HT'.out.below hb5'.out)
    obtain ⟨u, hu⟩ : ∃ u, strOfNums ys1 = u := ⟨_, rfl⟩
    rw [hu] at st1 st2
    clear hu
    cases ok2
    · obtain ⟨he, _⟩ := h4'.out rfl
      have hn2 : n2 = 0 := by rw [← hr2.out.1, he]; rfl
      subst hn2
      clear he
      go_wp2_with fail
      go_ret
      exact ⟨rfl, hb5'.out⟩
    · obtain ⟨e1, e2, e3⟩ := back_eq (h3'.out rfl)
      have hn2 : n2 ≤ 300 := by rw [← hr2.out.1]; rw [data_length] at e3; omega
      have e4 : (⟨(hexU ys2).toArray⟩ : ByteArray) = t := by rw [e1]
      have e2' := veil e2
      have e4' := veil e4
      clear e1 e2 e3 e4
      go_wp2_with fail
      refine (hex_any A2 n2 c2 ys2 _ hn2 hc2' hr2.out e2'.out).mono ?_
      rintro e w6 ⟨rfl, hb6⟩
      rw [e4'.out]
      have hb6' := veil (hb5'.out.trans (hb6.mono hb5'.out.size))
      clear hb6
      go_wp2_with fail
      go_ret
      exact ⟨rfl, hb6'.out⟩
  · have ht1 : s.size ≤ 300 := by omega
    go_enter Try.func6, Try.ntmps6
    go_wp2_with fail
    refine (shown_any _).mono ?_
    rintro e w1 ⟨rfl, hb1⟩
    have hb1' := veil hb1
    clear hb1
    go_wp2_with fail
    refine (short_any A n c _ hc hc2).mono ?_
    rintro e w1' ⟨rfl, rfl⟩
    rw [hm'.out]
    go_wp2_with fail
    refine (hex_any A m c ys _ hm1 hm2 (HT'.out.below hb1'.out) hxt'.out).mono ?_
    rintro e w2 ⟨rfl, hb2⟩
    rw [hz'.out]
    have hb2' := veil (hb1'.out.trans (hb2.mono hb1'.out.size))
    clear hb2
    go_wp2_with fail
    refine (unhex_any z _ (by omega)).mono ?_
    rintro e w3 ⟨A1, n1, c1, ys1, ok1, rfl, hc1, hr1, hb3, h1, h2⟩
    have hok : unhexU z.data.toList = some ys := by rw [hzl'.out]; exact unhex_hex ys hxt'.out
    obtain rfl : ok1 = true := by
      cases ok1
      · have := (h2 rfl).2.symm.trans hok; cases this
      · rfl
    obtain rfl : ys1 = ys := by
      have := (h1 rfl).symm.trans hok
      injection this
    have hr1' := veil hr1
    have hb3' := veil (hb2'.out.trans (hb3.mono hb2'.out.size))
    clear hr1 hb3 h1 h2 hok
    go_wp2_with fail
    refine (unhex_any s _ (by omega)).mono ?_
    rintro e w4 ⟨A2, n2, c2, ys2, ok2, rfl, hc2', hr2, hb4, h3, h4⟩
    have hr1 := veil (hr1'.out.below hb4)
    have hr2' := veil hr2
    have h3' := veil h3
    have h4' := veil h4
    have hb4' := veil (hb3'.out.trans (hb4.mono hb3'.out.size))
    clear hr2 hb4 h3 h4 hr1'
    go_wp2_with fail
    refine (unhex_any _ _ (odd_size z hz9)).mono ?_
    rintro e w5 ⟨A3, n3, c3, ys3, ok3, rfl, hc3, hr3, hb5, h5, h6⟩
    obtain rfl : ok3 = false := by
      cases ok3
      · rfl
      · have := (odd_none z m hzs'.out).symm.trans (h5 rfl); cases this
    have hr2 := veil (hr2'.out.below hb5)
    have hr1' := veil (hr1.out.below hb5)
    have hb5' := veil (hb4'.out.trans (hb5.mono hb4'.out.size))
    clear hr3 hb5 h5 h6 hr1 hr2'
    have st1 := string_of_reads (P := Try.prog) (src := 22) (dst := 9) (c := c1) Try.underlying22 Try.underlying5 Try.underlying9 hr1'.out
    have st2 := string_of_reads (P := Try.prog) (src := 22) (dst := 9) (c := c) Try.underlying22 Try.underlying5 Try.underlying9 (HT'.out.below hb5'.out)
    obtain ⟨u, hu⟩ : ∃ u, strOfNums ys1 = u := ⟨_, rfl⟩
    rw [hu] at st1 st2
    clear hu
    cases ok2
    · obtain ⟨he, _⟩ := h4'.out rfl
      have hn2 : n2 = 0 := by rw [← hr2.out.1, he]; rfl
      subst hn2
      clear he
      go_wp2_with fail
      go_ret
      exact ⟨rfl, hb5'.out⟩
    · obtain ⟨e1, e2, e3⟩ := back_eq (h3'.out rfl)
      have hn2 : n2 ≤ 300 := by rw [← hr2.out.1]; rw [data_length] at e3; omega
      have e4 : (⟨(hexU ys2).toArray⟩ : ByteArray) = s := by rw [e1]
      have e2' := veil e2
      have e4' := veil e4
      clear e1 e2 e3 e4
      go_wp2_with fail
      refine (hex_any A2 n2 c2 ys2 _ hn2 hc2' hr2.out e2'.out).mono ?_
      rintro e w6 ⟨rfl, hb6⟩
      rw [e4'.out]
      have hb6' := veil (hb5'.out.trans (hb6.mono hb5'.out.size))
      clear hb6
      go_wp2_with fail
      go_ret
      exact ⟨rfl, hb6'.out⟩
theorem hex_walk (A : Option Addr) (len cap : Nat) (z : List Int) (s : ByteArray) (w : World) (hz : (A = none ∧ len = 0 ∧ cap = 0 ∧ z = []) ∨ ∃ x, A = some x ∧ len ≤ cap ∧ cap ≤ maxLen ∧ z.length = cap ∧ (∀ i, i < z.length → w.cell? (x.add i) = some (.int .u8 (z.getD i 0))) ∧ ∀ n ∈ z, (Lit.int .u8 n).wf = true) (y : len * 1 ≤ 140737488351232) (hs : s.size ≤ 140737488351232) :
    Calls Try.prog 5 #[.slice A len cap, .string s] w fun e w' => e = .returned (.bool true) ∧ Below w.heap.size w w' := by
  have hcap : cap ≤ 9223372036854775807 := by
    rcases hz with ⟨_, _, rfl, _⟩ | ⟨_, _, _, h, _⟩
    · omega
    · simpa [maxLen] using h
  obtain ⟨l, rfl, hr, hm, hw, hc⟩ := ReadsInt.ofRowC hz
  exact lawHex_any A _ cap l s w hc hcap hr (bytes_of_wf hw) hs
theorem back_walk (A : Option Addr) (len cap : Nat) (z : List Int) (s : ByteArray) (w : World) (hz : (A = none ∧ len = 0 ∧ cap = 0 ∧ z = []) ∨ ∃ x, A = some x ∧ len ≤ cap ∧ cap ≤ maxLen ∧ z.length = cap ∧ (∀ i, i < z.length → w.cell? (x.add i) = some (.int .u8 (z.getD i 0))) ∧ ∀ n ∈ z, (Lit.int .u8 n).wf = true) (y : len * 1 ≤ 140737488351232) (hs : s.size ≤ 140737488351232) :
    Calls Try.prog 6 #[.slice A len cap, .string s] w fun e w' => e = .returned (.bool true) ∧ Below w.heap.size w w' := by
  have hcap : cap ≤ 9223372036854775807 := by
    rcases hz with ⟨_, _, rfl, _⟩ | ⟨_, _, _, h, _⟩
    · omega
    · simpa [maxLen] using h
  obtain ⟨l, rfl, hr, hm, hw, hc⟩ := ReadsInt.ofRowC hz
  exact lawBack_any A _ cap l s w hc hcap hr (bytes_of_wf hw) hs
end Go.Proofs.Sha
