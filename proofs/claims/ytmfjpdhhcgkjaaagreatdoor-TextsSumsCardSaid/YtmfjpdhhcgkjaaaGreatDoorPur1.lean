import Derived.Test.YtmfjpdhhcgkjaaaGreatDoorTk
import Derived.Laws.BytesArg
import Derived.RowKit
import Derived.Lib.Strings
import Derived.Test.YtmfjpdhhcgkjaaaGreatDoorZr
import Derived.Test.YtmfjpdhhcgkjaaaGreatDoorNumb
import Derived.Test.YtmfjpdhhcgkjaaaGreatDoorPars
/- The document's digits: what its Text and Parse come to. -/
namespace Go.Proofs.YtmfjpdhhcgkjaaaGreatDoor.Pure1
open Go Go.RowKit Go.Lib Go.Proofs.Dig
open Go.Proofs.YtmfjpdhhcgkjaaaGreatDoorW.PrintWords Go.Proofs.YtmfjpdhhcgkjaaaGreatDoor.Zr
set_option linter.unusedVariables false
theorem one_byte (x : Int) (i : Nat) (h : i < 10) (e : wrap64 x % 256 = 48 + (i : Int)) : strOfNums [wrap64 x % 256] = ⟨#[UInt8.ofNat (48 + i)]⟩ := by
  rw [e]
  unfold strOfNums
  rw [show (48 + (i : Int)) = ((48 + i : Nat) : Int) from by omega]
  simp only [List.map_cons, List.map_nil, Int.toNat_natCast]
theorem ba_ext {a b : ByteArray} (h : a.data.toList = b.data.toList) : a = b := by
  apply ByteArray.ext
  exact Array.ext' h
theorem ba_app (a b : ByteArray) : (a ++ b).data.toList = a.data.toList ++ b.data.toList := by
  rw [ByteArray.data_append, Array.toList_append]
theorem num_size (n : Int) (h : I64 n) : (numB n).size ≤ 21 := by
  show (itoa n).toArray.size ≤ 21
  rw [List.size_toArray]
  exact itoa_length_le n h.1 h.2
theorem num_small (i : Nat) (h : i < 10) : numB (i : Int) = ⟨#[UInt8.ofNat (48 + i)]⟩ := by
  apply ba_ext
  rw [numB_list, itoa, if_neg (by omega), Int.toNat_natCast, dec_lt i h]
theorem num_ge (u : Nat) (h : ¬ u < 10) : numB (u : Int) = numB ((u / 10 : Nat) : Int) ++ ⟨#[UInt8.ofNat (48 + u % 10)]⟩ := by
  apply ba_ext
  rw [ba_app, numB_list, numB_list, itoa, itoa, if_neg (by omega), if_neg (by omega), Int.toNat_natCast, Int.toNat_natCast, dec_ge u h]
theorem num_neg_small (i : Nat) (h : i < 10) (h0 : 0 < i) : numB (-(i : Int)) = ⟨#[45]⟩ ++ ⟨#[UInt8.ofNat (48 + i)]⟩ := by
  apply ba_ext
  rw [ba_app, numB_list, itoa, if_pos (by omega), show (-(i : Int)).natAbs = i from by omega, dec_lt i h]
  rfl
theorem num_neg_ge (u : Nat) (h : ¬ u < 10) : numB (-(u : Int)) = numB (-((u / 10 : Nat) : Int)) ++ ⟨#[UInt8.ofNat (48 + u % 10)]⟩ := by
  apply ba_ext
  rw [ba_app, numB_list, numB_list, itoa, itoa, if_pos (by omega), if_pos (by omega), show (-(u : Int)).natAbs = u from by omega, show (-((u / 10 : Nat) : Int)).natAbs = u / 10 from by omega, dec_ge u h]
  rfl
theorem text_ev : ∀ (u : Nat) (n : Int), n.natAbs = u → I64 n → Ev (fun k => tipstaffref01_Text.f k n) (numB n) := by
  intro u
  induction u using Nat.strongRecOn with
  | _ u ih =>
    intro n hn h
    obtain ⟨h0, h1⟩ := h
    by_cases hneg : n < 0
    · obtain rfl : n = -(u : Int) := by omega
      by_cases hs : u < 10
      · refine ⟨1, fun k hk => ?_⟩
        obtain ⟨k, rfl⟩ : ∃ m, k = m + 1 := ⟨k - 1, by omega⟩
        show tipstaffref01_Text.f (k + 1) (-(u : Int)) = _
        rw [tipstaffref01_Text.f, if_pos hneg, if_pos (by omega), Option.bind_some, one_byte _ u hs (by unfold wrap64; omega), if_pos (by simp [ByteArray.size]), num_neg_small u hs (by omega)]
      · obtain ⟨K, hK⟩ := ih (u / 10) (by omega) (-((u / 10 : Nat) : Int)) (by omega) ⟨by omega, by omega⟩
        refine ⟨K + 1, fun k hk => ?_⟩
        obtain ⟨k, rfl⟩ : ∃ m, k = m + 1 := ⟨k - 1, by omega⟩
        have hz := num_size (-((u / 10 : Nat) : Int)) ⟨by omega, by omega⟩
        have e1 : wrap64 (Int.tdiv (-(u : Int)) 10) = -((u / 10 : Nat) : Int) := by
          rw [Int.neg_tdiv, Int.tdiv_eq_ediv_of_nonneg (by omega)]
          unfold wrap64; omega
        have e2 : Int.tmod (-(u : Int)) 10 = -((u % 10 : Nat) : Int) := by
          rw [Int.neg_tmod, Int.tmod_eq_emod_of_nonneg (by omega)]
          omega
        show tipstaffref01_Text.f (k + 1) (-(u : Int)) = _
        rw [tipstaffref01_Text.f, if_pos hneg, if_neg (by omega), e1, (show tipstaffref01_Text.f k _ = _ from hK k (by omega)), Option.bind_some, Option.bind_some, e2, one_byte _ (u % 10) (by omega) (by unfold wrap64; omega), if_pos (by simp only [ByteArray.size, List.size_toArray] at hz ⊢; simp only [List.length_cons, List.length_nil]; omega), num_neg_ge u hs]
    · obtain rfl : n = (u : Int) := by omega
      by_cases hs : u < 10
      · refine ⟨1, fun k hk => ?_⟩
        obtain ⟨k, rfl⟩ : ∃ m, k = m + 1 := ⟨k - 1, by omega⟩
        show tipstaffref01_Text.f (k + 1) (u : Int) = _
        rw [tipstaffref01_Text.f, if_neg hneg, if_pos (by omega), one_byte _ u hs (by unfold wrap64; omega), num_small u hs]
      · obtain ⟨K, hK⟩ := ih (u / 10) (by omega) ((u / 10 : Nat) : Int) (by omega) ⟨by omega, by omega⟩
        refine ⟨K + 1, fun k hk => ?_⟩
        obtain ⟨k, rfl⟩ : ∃ m, k = m + 1 := ⟨k - 1, by omega⟩
        have hz := num_size ((u / 10 : Nat) : Int) ⟨by omega, by omega⟩
        have e1 : wrap64 (Int.tdiv (u : Int) 10) = ((u / 10 : Nat) : Int) := by
          rw [Int.tdiv_eq_ediv_of_nonneg (by omega)]
          unfold wrap64; omega
        have e2 : Int.tmod (u : Int) 10 = ((u % 10 : Nat) : Int) := by
          rw [Int.tmod_eq_emod_of_nonneg (by omega)]
          omega
        show tipstaffref01_Text.f (k + 1) (u : Int) = _
        rw [tipstaffref01_Text.f, if_neg hneg, if_neg (by omega), e1, (show tipstaffref01_Text.f k _ = _ from hK k (by omega)), Option.bind_some, Option.bind_some, e2, one_byte _ (u % 10) (by omega) (by unfold wrap64; omega), if_pos (by simp only [ByteArray.size, List.size_toArray] at hz ⊢; simp only [List.length_cons, List.length_nil]; omega), num_ge u hs]
theorem dec_len : ∀ (k u : Nat), u < 10 ^ (k + 1) → (decDigits u).length ≤ k + 1
  | 0, u, h => by rw [dec_lt u (by simpa using h)]; simp
  | k + 1, u, h => by
    by_cases hu : u < 10
    · rw [dec_lt u hu]; simp
    · rw [dec_ge u hu, List.length_append]
      have := dec_len k (u / 10) (by rw [Nat.pow_succ] at h; omega)
      simp only [List.length_cons, List.length_nil]
      omega
theorem num_size20 (n : Int) (h : I64 n) : (numB n).size ≤ 20 := by
  obtain ⟨h0, h1⟩ := h
  show (itoa n).toArray.size ≤ 20
  rw [List.size_toArray, itoa]
  split
  · have := dec_len 18 n.natAbs (by omega)
    simp only [List.length_cons]
    omega
  · have := dec_len 18 n.toNat (by omega)
    omega
theorem num_pos (n : Int) : 0 < (numB n).size := by
  show 0 < (itoa n).toArray.size
  rw [List.size_toArray, itoa]
  split
  · simp
  · have := List.length_pos_iff.2 (dec_ne n.toNat)
    exact this
def stepV (acc : Int) (c : UInt8) : Int := IntKind.u64.wrap ((IntKind.u64.wrap (acc * 10)) + (((c.toNat : Int) - 48) % 256))
def goV (acc : Int) (l : List UInt8) : Int := l.foldl stepV acc
theorem u64_id (n : Int) (h0 : 0 ≤ n) (h : n < 18446744073709551616) : IntKind.u64.wrap n = n := by
  simp only [IntKind.wrap, IntKind.bits, IntKind.signed]
  simp
  omega
theorem step_digit (acc i : Nat) (hi : i < 10) (h : acc * 10 + i < 18446744073709551616) : stepV acc (UInt8.ofNat (48 + i)) = ((acc * 10 + i : Nat) : Int) := by
  unfold stepV
  rw [ub_val i hi, u64_id ((acc : Int) * 10) (by omega) (by omega), u64_id _ (by omega) (by omega)]
  omega
theorem goV_dec : ∀ (u : Nat), u < 18446744073709551616 → goV 0 (decDigits u) = (u : Int) := by
  intro u
  induction u using Nat.strongRecOn with
  | _ u ih =>
    intro hu
    by_cases h : u < 10
    · rw [dec_lt u h]
      have := step_digit 0 u h (by omega)
      simpa [goV] using this
    · rw [dec_ge u h, goV, List.foldl_append]
      have e := ih (u / 10) (by omega) (by omega)
      unfold goV at e
      rw [e]
      have := step_digit (u / 10) (u % 10) (by omega) (by omega)
      simp only [List.foldl_cons, List.foldl_nil, this]
      omega
theorem drop_bt (s : ByteArray) (i : Nat) (h : i < s.size) : ∃ c, s.data.toList.drop i = c :: s.data.toList.drop (i + 1) ∧ bt s (i : Int) = (c.toNat : Int) := by
  have hl : i < s.data.toList.length := by rw [data_length]; exact h
  refine ⟨s.data.toList[i], List.drop_eq_getElem_cons hl, ?_⟩
  rw [← bt_at s (i : Int) (by simpa using h)]
  simp
  rfl
theorem w1 (i : Nat) (h : i < 1000) : wrap64 ((i : Int) + 1) = ((i + 1 : Nat) : Int) := by unfold wrap64; omega
theorem l0_run (s : ByteArray) (hs : s.size ≤ 20) : ∀ (d k i : Nat) (acc : Int), i + d = s.size → tipstaffref01_Parse.l0 (k + 1 + d) s acc i = tipstaffref01_Parse.l0 (k + 1) s (goV acc (s.data.toList.drop i)) s.size
  | 0, k, i, acc, h => by
    obtain rfl : i = s.size := by omega
    rw [List.drop_of_length_le (by rw [data_length]; omega)]
    rfl
  | d + 1, k, i, acc, h => by
    obtain ⟨c, hc, hb⟩ := drop_bt s i (by omega)
    rw [show k + 1 + (d + 1) = (k + 1 + d) + 1 from rfl, tipstaffref01_Parse.l0, if_pos (by omega), if_pos (by omega), w1 i (by omega), hb, hc]
    exact l0_run s hs d k (i + 1) _ (by omega)
theorem l1_run (s : ByteArray) (hs : s.size ≤ 20) : ∀ (d k i : Nat) (acc : Int), i + d = s.size → tipstaffref01_Parse.l1 (k + 1 + d) s acc i = tipstaffref01_Parse.l1 (k + 1) s (goV acc (s.data.toList.drop i)) s.size
  | 0, k, i, acc, h => by
    obtain rfl : i = s.size := by omega
    rw [List.drop_of_length_le (by rw [data_length]; omega)]
    rfl
  | d + 1, k, i, acc, h => by
    obtain ⟨c, hc, hb⟩ := drop_bt s i (by omega)
    rw [show k + 1 + (d + 1) = (k + 1 + d) + 1 from rfl, tipstaffref01_Parse.l1, if_pos (by omega), if_pos (by omega), w1 i (by omega), hb, hc]
    exact l1_run s hs d k (i + 1) _ (by omega)
def pairO : Option Int → Int × Bool
  | some n => (n, true)
  | none => (0, false)
theorem toList_inj {a b : ByteArray} (h : a.toList = b.toList) : a = b := by
  apply ba_ext
  rwa [Go.Lib.toList_data, Go.Lib.toList_data] at h
theorem w64_i64 (n : Int) : I64 (wrap64 n) := by unfold wrap64 I64; omega
theorem text_cmp (s : ByteArray) (v : Int) (hv : I64 v) (hp : ∀ n, parseO s = some n → v = n) : Ev (fun k => (tipstaffref01_Text.f k v).bind fun t => (if t.toList = s.toList then (some (v, true)) else (some (0, false)))) (pairO (parseO s)) := by
  refine Ev.bind (text_ev _ v rfl hv) ?_
  cases h : parseO s with
  | none =>
    have := parse_none h v hv
    rw [if_neg (fun e => this (toList_inj e))]
    exact Ev.now _
  | some n =>
    obtain rfl := hp n h
    have := (parse_some h).2
    rw [if_pos (by rw [this])]
    exact Ev.now _
theorem ev_shift {α : Type} {g : Nat → Option α} {r : α} (d : Nat) (h : Ev (fun k => g (k + d)) r) : Ev g r := by
  obtain ⟨K, hK⟩ := h
  refine ⟨K + d, fun k hk => ?_⟩
  have := hK (k - d) (by omega)
  simp only at this
  rwa [show k - d + d = k from by omega] at this
theorem ev_add {α : Type} {g : Nat → Option α} {r : α} (d : Nat) (h : Ev g r) : Ev (fun k => g (k + d)) r := by
  obtain ⟨K, hK⟩ := h
  exact ⟨K, fun k hk => hK (k + d) (by omega)⟩
theorem parse_ev (s : ByteArray) : Ev (fun k => tipstaffref01_Parse.f k s) (pairO (parseO s)) := by
  have hsz : ∀ n, parseO s = some n → 0 < s.size ∧ s.size ≤ 20 := fun n hn => by
    obtain ⟨h1, h2⟩ := parse_some hn
    rw [← h2]
    exact ⟨num_pos n, num_size20 n h1⟩
  by_cases h0 : s.size = 0
  · have hp : parseO s = none := by
      cases h : parseO s with
      | none => rfl
      | some n => have := hsz n h; omega
    rw [hp]
    refine ev_shift 1 ⟨0, fun k _ => ?_⟩
    show tipstaffref01_Parse.f (k + 1) s = _
    rw [tipstaffref01_Parse.f, if_pos (by omega), tipstaffref01_Parse.j0, if_pos rfl]
    rfl
  by_cases h20 : 20 < s.size
  · have hp : parseO s = none := by
      cases h : parseO s with
      | none => rfl
      | some n => have := hsz n h; omega
    rw [hp]
    refine ev_shift 1 ⟨0, fun k _ => ?_⟩
    show tipstaffref01_Parse.f (k + 1) s = _
    rw [tipstaffref01_Parse.f, if_neg (by omega), tipstaffref01_Parse.j0, if_pos (decide_eq_true (by omega))]
    rfl
  obtain ⟨c, hc, hb⟩ := drop_bt s 0 (by omega)
  rw [List.drop_zero, Nat.zero_add] at hc
  have hb0 : bt s 0 = (c.toNat : Int) := hb
  refine Ev.congr (f := fun k => tipstaffref01_Parse.j0 k s false) (fun k => ?_) ?_
  · rw [tipstaffref01_Parse.f, if_neg (by omega), decide_eq_false (by omega)]
  refine Ev.step (f := fun k => tipstaffref01_Parse.l0 k s 0 0) (fun k => by rw [tipstaffref01_Parse.j0, if_neg (by decide)]) ?_
  refine ev_shift (1 + s.size) ?_
  refine Ev.congr (f := fun k => if bt s 0 = 45 then tipstaffref01_Parse.l1 k s 0 1 else (tipstaffref01_Text.f k (wrap64 (goV 0 s.data.toList))).bind fun t => (if t.toList = s.toList then (some (wrap64 (goV 0 s.data.toList), true)) else (some (0, false)))) (fun k => ?_) ?_
  · have := l0_run s (by omega) s.size k 0 0 (by omega)
    rw [List.drop_zero] at this
    rw [show k + (1 + s.size) = k + 1 + s.size from by omega]
    refine this.trans ?_
    rw [tipstaffref01_Parse.l0, if_neg (by omega), if_pos (by omega)]
  by_cases hm : bt s 0 = 45
  · simp only [if_pos hm]
    refine ev_shift (1 + (s.size - 1)) ?_
    refine Ev.congr (f := fun k => (tipstaffref01_Text.f k (wrap64 (-(wrap64 (goV 0 (s.data.toList.drop 1)))))).bind fun t => (if t.toList = s.toList then (some (wrap64 (-(wrap64 (goV 0 (s.data.toList.drop 1)))), true)) else (some (0, false)))) (fun k => ?_) (text_cmp s _ (w64_i64 _) fun n hn => ?_)
    · have := l1_run s (by omega) (s.size - 1) k 1 0 (by omega)
      rw [show k + (1 + (s.size - 1)) = k + 1 + (s.size - 1) from by omega]
      refine this.trans ?_
      rw [tipstaffref01_Parse.l1, if_neg (by omega)]
    · obtain ⟨⟨h1, h2⟩, e⟩ := parse_some hn
      rw [← e, numB_list, itoa] at hc ⊢
      by_cases hneg : n < 0
      · rw [if_pos hneg, List.drop_one, List.tail_cons, goV_dec _ (by omega)]
        unfold wrap64
        omega
      · rw [if_neg hneg] at hc
        have := dec_digit n.toNat c (by rw [hc]; simp)
        omega
  · simp only [if_neg hm]
    refine text_cmp s _ (w64_i64 _) fun n hn => ?_
    obtain ⟨⟨h1, h2⟩, e⟩ := parse_some hn
    rw [← e, numB_list, itoa] at hc ⊢
    by_cases hneg : n < 0
    · rw [if_pos hneg] at hc
      injection hc with hc _
      subst hc
      exact absurd hb0 hm
    · rw [if_neg hneg, goV_dec _ (by omega)]
      unfold wrap64
      omega
end Go.Proofs.YtmfjpdhhcgkjaaaGreatDoor.Pure1
namespace Go.Proofs.Tryz.Ln
open Go Go.RowKit Go.Proofs.Dig Go.Lib
open Go.Proofs.YtmfjpdhhcgkjaaaGreatDoorW.PrintWords
set_option linter.unusedVariables false
theorem bytesOf_append' (a b : ByteArray) : bytesOf (a ++ b) = bytesOf a ++ bytesOf b := by
  simp [bytesOf, ByteArray.data_append]
theorem flat_num (n : Int) : (bytesOf (numS n)).map flatB = bytesOf (numS n) := by
  conv => rhs; rw [← List.map_id (bytesOf (numS n))]
  apply List.map_congr_left
  intro x hx
  unfold bytesOf at hx
  obtain ⟨u, hu, rfl⟩ := List.mem_map.1 hx
  have hu' : u ∈ Lib.itoa n := by simpa [numS] using hu
  have : u.toNat ≠ 13 ∧ u.toNat ≠ 10 := by
    unfold Lib.itoa at hu'
    split at hu'
    · rcases List.mem_cons.1 hu' with rfl | h
      · decide
      · have := Dig.dec_digit _ u h; omega
    · have := Dig.dec_digit _ u hu'; omega
  unfold flatB
  rw [if_neg (by omega), if_neg (by omega)]
  rfl
theorem str_flat_num (n : Int) : strOfNums ((bytesOf (numS n)).map flatB) = numS n := by
  rw [flat_num]; exact str_bytes _
end Go.Proofs.Tryz.Ln
