import Derived.Test.YtpgllpnebaonoaaHex
/- What sha.Unhex tells. -/
namespace Go.Proofs.Sha
open Go Go.RowKit Hex2 Mem
open Go.Proofs.YtpgllpnebaonoaaW.PrintWords
set_option linter.unusedVariables false

/-- bytes, and whether the text said some -/
def Unhexed (l : List UInt8) (w : World) (e : Ending) (w' : World) : Prop := ∃ A n c ys ok, e = .returned (.tuple #[.slice A n c, .bool ok]) ∧ n ≤ c ∧ ReadsInt w' .u8 A n ys ∧ Below w.heap.size w w' ∧ (ok = true → unhexU l = some ys) ∧ (ok = false → ys = [] ∧ unhexU l = none)
theorem unhexed_no {l : List UInt8} {w w' : World} (h : unhexU l = none) (hb : Below w.heap.size w w') : Unhexed l w (.returned (.tuple #[.slice none 0 0, .bool false])) w' :=
  ⟨none, 0, 0, [], false, rfl, Nat.le_refl _, ReadsInt.nil _ _, hb, (fun h => by cases h), (fun _ => ⟨rfl, h⟩)⟩
theorem unhexed_yes {l : List UInt8} {w w' : World} {A : Option Addr} {n c : Nat} {ys : List Int} (h : unhexU l = some ys) (hc : n ≤ c) (hr : ReadsInt w' .u8 A n ys) (hb : Below w.heap.size w w') : Unhexed l w (.returned (.tuple #[.slice A n c, .bool true])) w' :=
  ⟨A, n, c, ys, true, rfl, hc, hr, hb, (fun _ => h), (fun h => by cases h)⟩
theorem nib : ∀ a b : Fin 16, bits .or .i64 (IntKind.i64.wrap ((a.val : Int) * 16)) (b.val : Int) = 16 * (a.val : Int) + b.val := by decide +kernel
theorem nib_or (a b : Int) (ha0 : 0 ≤ a) (ha : a < 16) (hb0 : 0 ≤ b) (hb : b < 16) : bits .or .i64 (a * 16) b = 16 * a + b := by
  have h := nib ⟨a.toNat, by omega⟩ ⟨b.toNat, by omega⟩
  simp only [Int.toNat_of_nonneg ha0, Int.toNat_of_nonneg hb0] at h
  rwa [IntWalk.i64_in _ (by omega)] at h
theorem index_dig' (c : UInt8) : Lib.indexByte (⟨#[48, 49, 50, 51, 52, 53, 54, 55, 56, 57, 97, 98, 99, 100, 101, 102]⟩ : ByteArray).data.toList (c.toNat : Int).toNat.toUInt8 = dg c := by
  rw [show (c.toNat : Int).toNat.toUInt8 = c by simp]
  exact dg_index c
theorem dg_ge (c : UInt8) : -1 ≤ dg c := by unfold dg; split <;> (try split) <;> omega
theorem take_two {l : List UInt8} {k : Nat} {a b : UInt8} (ha : l[2 * k]? = some a) (hb : l[2 * k + 1]? = some b) : l.take (2 * (k + 1)) = l.take (2 * k) ++ [a, b] := by
  obtain ⟨h1, rfl⟩ := List.getElem?_eq_some_iff.1 ha
  obtain ⟨h2, rfl⟩ := List.getElem?_eq_some_iff.1 hb
  rw [show 2 * (k + 1) = 2 * k + 1 + 1 by omega, List.take_succ_eq_append_getElem h2, List.take_succ_eq_append_getElem h1, List.append_assoc]
  rfl
theorem unhex_step {l : List UInt8} {k : Nat} {a b : UInt8} {ys : List Int} (ha : l[2 * k]? = some a) (hb : l[2 * k + 1]? = some b) (h : unhexU (l.take (2 * k)) = some ys) (h1 : 0 ≤ dg a) (h2 : 0 ≤ dg b) : unhexU (l.take (2 * (k + 1))) = some (ys ++ [16 * dg a + dg b]) := by
  have hk : 2 * k < l.length := (List.getElem?_eq_some_iff.1 ha).1
  rw [take_two ha hb, unhex_append k _ _ (by rw [List.length_take]; omega), h, unhex_pair, if_neg (by omega), if_neg (by omega)]
  rfl
theorem unhex_stop {l : List UInt8} {k : Nat} {a b : UInt8} (ha : l[2 * k]? = some a) (hb : l[2 * k + 1]? = some b) (h : dg a < 0 ∨ dg b < 0) : unhexU l = none := by
  have hk : 2 * k < l.length := (List.getElem?_eq_some_iff.1 ha).1
  have e : l = l.take (2 * (k + 1)) ++ l.drop (2 * (k + 1)) := (List.take_append_drop _ _).symm
  have hb1 : 2 * k + 1 < l.length := (List.getElem?_eq_some_iff.1 hb).1
  rw [e, unhex_append (k + 1) _ _ (by rw [List.length_take]; omega), take_two ha hb, unhex_append k _ _ (by rw [List.length_take]; omega), unhex_pair]
  rcases h with h | h
  · rw [if_pos h]; simp
  · by_cases h1 : dg a < 0
    · rw [if_pos h1]; simp
    · rw [if_neg h1, if_pos h]; simp
theorem row_step {ys : List Int} {m k : Nat} (hl : ys.length = k) (hk : k < m) (x : Int) : (ys ++ List.replicate (m - k) 0).set k x = (ys ++ [x]) ++ List.replicate (m - (k + 1)) 0 := by
  obtain ⟨d, hd⟩ : ∃ d, m - k = d + 1 := ⟨m - k - 1, by omega⟩
  rw [hd, show m - (k + 1) = d by omega, List.set_append_right _ _ (by omega), hl, Nat.sub_self, List.replicate_succ, List.set_cons_zero]
  simp
theorem pw_own_set_drew {W : World} {q : Nat} {p : Addr} {u : Value} {base n : Nat} {e : TypeId} {size : Nat} {v : Value} {xs : List Value} (h : (W.setCell p u).ownsRow base e size v n xs) : ((W.drewN q).setCell p u).ownsRow base e size v n xs := h
theorem index_dig (c : UInt8) : Lib.indexByte (⟨#[48, 49, 50, 51, 52, 53, 54, 55, 56, 57, 97, 98, 99, 100, 101, 102]⟩ : ByteArray).data.toList c = dg c := dg_index c

set_option maxHeartbeats 2000000 in
theorem unhex_any (s : ByteArray) (w : World) (hs : s.size ≤ 601) :
    Calls Try.prog 12 #[.string s] w (Unhexed s.data.toList w) := by
  by_cases hodd : s.size % 2 = 1
  · have h1 : (s.size : Int) % 2 = 1 := by omega
    have hn := veil (unhexed_no (l := s.data.toList) (w := w) (w' := w) (unhex_odd _ (by rw [data_length]; exact hodd)) (Below.refl _ _))
    go_enter Try.func12, Try.ntmps12
    go_wp2_with fail
    go_ret2
    exact hn.out
  · obtain ⟨m, hm⟩ : ∃ m, s.size = 2 * m := ⟨s.size / 2, by omega⟩
    have h1 : (s.size : Int) % 2 = 0 := by omega
    have h2 : (s.size : Int) / 2 = (m : Int) := by omega
    have hm9 : m ≤ 300 := by omega
    have hm' := veil hm
    have hmk := print_make_int (P := Try.prog) 22 5 (.int .u8 0) 1 Try.underlying22 info5 rfl (by omega) (m : Int) (by omega) (by omega)
    rw [Int.toNat_natCast] at hmk
    have hown0 := veil (show (w.alloc (.cells (madeCells #[.int .u8 0] m) 5)).ownsRow w.heap.size 5 1 (.slice (some ⟨w.heap.size, 0, none⟩) m m) m (nums .u8 ([] ++ List.replicate (m - 0) 0)) from by
      have h := own_made w w.heap.size 5 .u8 m (Nat.le_refl _) (by omega)
      simpa using h)
    have hb0 := veil (below_alloc (Below.refl w.heap.size w) (.cells (madeCells #[.int .u8 0] m) 5))
    clear hm hodd
    go_enter Try.func12, Try.ntmps12
    go_wp2_with fail
    go_loopw [18] (fun i wr => ∃ (k : Nat) (ys : List Int), k ≤ m ∧ i = .int .i64 k ∧ ys.length = k ∧ unhexU (s.data.toList.take (2 * k)) = some ys ∧ wr.ownsRow w.heap.size 5 1 (.slice (some ⟨w.heap.size, 0, none⟩) m m) m (nums .u8 (ys ++ List.replicate (m - k) 0)) ∧ Below w.heap.size w wr) (fun i _ => m - (intOf i).toNat)
    case atStart => exact ⟨0, [], by omega, rfl, rfl, by simp [unhexU], hown0.out, hb0.out⟩
    case round =>
      obtain ⟨k, ys, hk, rfl, hl, hu, hown, hb⟩ := hrel
      have hl' := veil hl
      have hu' := veil hu
      have hown' := veil hown
      have hb' := veil hb
      clear hl hu hown hb
      by_cases hlt : k < m
      · obtain ⟨a, ha⟩ : ∃ a, s.data.toList[2 * k]? = some a := by rw [List.getElem?_eq_getElem (by rw [data_length]; have := hm'.out; omega)]; exact ⟨_, rfl⟩
        obtain ⟨b, hbb⟩ : ∃ b, s.data.toList[2 * k + 1]? = some b := by rw [List.getElem?_eq_getElem (by rw [data_length]; have := hm'.out; omega)]; exact ⟨_, rfl⟩
        have w1 : IntKind.i64.wrap (2 * (k : Int)) = 2 * k := IntWalk.i64_in _ (by omega)
        have w2 : IntKind.i64.wrap (2 * (k : Int) + 1) = 2 * k + 1 := IntWalk.i64_in _ (by omega)
        have w3 : (0 : Int) ≤ 2 * k := by omega
        have w4 : (0 : Int) ≤ 2 * k + 1 := by omega
        have w5 : (2 * (k : Int)) < s.size := by have := hm'.out; omega
        have w6 : (2 * (k : Int) + 1) < s.size := by have := hm'.out; omega
        have w7 : (2 * (k : Int)).toNat = 2 * k := by omega
        have w8 : (2 * (k : Int) + 1).toNat = 2 * k + 1 := by omega
        have ea : ∀ h : 2 * k < s.size, s[2 * k]'h = a := fun h => by
          rw [List.getElem?_eq_getElem (by rw [data_length]; exact h)] at ha
          exact Option.some.inj ha
        have eb : ∀ h : 2 * k + 1 < s.size, s[2 * k + 1]'h = b := fun h => by
          rw [List.getElem?_eq_getElem (by rw [data_length]; exact h)] at hbb
          exact Option.some.inj hbb
        have ha' := veil ha
        have hbb' := veil hbb
        clear ha hbb
        have ga := dg_ge a
        have gb := dg_ge b
        go_wp2_with fail
        go_quiet ((go_at_call 23; exact Calls.quiet_of_same (Try.strings_IndexByte _ _ _)))
        rw [index_dig' a, index_dig' b]
        obtain ⟨x, hx⟩ : ∃ x, dg a = x := ⟨_, rfl⟩
        obtain ⟨y, hy⟩ : ∃ y, dg b = y := ⟨_, rfl⟩
        rw [hx, hy]
        rw [hx] at ga
        rw [hy] at gb
        have hx' := veil hx
        have hy' := veil hy
        clear hx hy w1 w2 w3 w4 w5 w6 w7 w8 ea eb
        by_cases hx0 : x < 0
        · have hno := unhex_stop ha'.out hbb'.out (Or.inl (by rw [hx'.out]; exact hx0))
          have hn := veil (unhexed_no (w := w) (w' := wr.drewN nq) hno (pw_below_drewN hb'.out nq))
          clear hno
          go_wp2_with fail
          go_ret2
          exact hn.out
        · by_cases hy0 : y < 0
          · have hno := unhex_stop ha'.out hbb'.out (Or.inr (by rw [hy'.out]; exact hy0))
            have hn := veil (unhexed_no (w := w) (w' := wr.drewN nq) hno (pw_below_drewN hb'.out nq))
            clear hno
            go_wp2_with fail
            go_ret2
            exact hn.out
          · have lx : x < 16 := by rw [← hx'.out]; exact dg_lt a (by rw [hx'.out]; omega)
            have ly : y < 16 := by rw [← hy'.out]; exact dg_lt b (by rw [hy'.out]; omega)
            have gx0 : 0 ≤ x := by omega
            have gy0 : 0 ≤ y := by omega
            have hor := nib_or x y gx0 lx gy0 ly
            have hst : Veil (unhexU (s.data.toList.take (2 * (k + 1))) = some (ys ++ [16 * dg a + dg b])) := veil (unhex_step ha'.out hbb'.out hu'.out (by rw [hx'.out]; exact gx0) (by rw [hy'.out]; exact gy0))
            obtain ⟨hcell, hfz⟩ := own_at hown'.out (k : Int) (by omega) (by omega)
            rw [Int.toNat_natCast] at hcell hfz
            have gk : (0 : Int) ≤ k := by omega
            go_wp2_with fail
            have ho := (own_store hown'.out (k : Int) (16 * x + y)).1
            rw [Int.toNat_natCast, row_step hl'.out hlt] at ho
            rw [hx'.out, hy'.out] at hst
            have hst' := hst.out
            refine ⟨⟨k + 1, ys ++ [16 * x + y], by omega, by go_num, by simp [hl'.out], hst', pw_own_set_drew ho, (pw_below_drewN hb'.out nq).setCell (Nat.le_refl _) _⟩, ?_⟩
            simp [intOf]
            omega
      · obtain rfl : k = m := by omega
        have hr := own_reads' hown'.out
        rw [Nat.sub_self, List.replicate_zero, List.append_nil] at hr
        have hu2 := hu'.out
        rw [List.take_of_length_le (by rw [data_length]; have := hm'.out; omega)] at hu2
        have hy := veil (unhexed_yes (w := w) (c := k) hu2 (Nat.le_refl _) hr hb'.out)
        clear hr hu2
        go_wp2_with fail
        go_ret2
        exact hy.out
end Go.Proofs.Sha
