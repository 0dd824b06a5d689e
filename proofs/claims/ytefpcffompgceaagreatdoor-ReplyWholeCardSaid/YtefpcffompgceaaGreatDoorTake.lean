import Derived.Test.YtefpcffompgceaaGreatDoorTk
import Derived.Laws.BytesArg
import Derived.RowKit
import Derived.Lib.Strings
import Derived.Test.YtefpcffompgceaaGreatDoorZr
import Derived.Test.YtefpcffompgceaaGreatDoorRp
import Derived.Test.YtefpcffompgceaaGreatDoorLaw5
/- The document's digits: what its Text and Parse come to. -/
namespace Go.Proofs.YtefpcffompgceaaGreatDoor.Pure1
open Go Go.RowKit Go.Lib Go.Proofs.Dig
open Go.Proofs.YtefpcffompgceaaGreatDoorW.PrintWords Go.Proofs.YtefpcffompgceaaGreatDoor.Zr
set_option linter.unusedVariables false
theorem one_byte (x : Int) (i : Nat) (h : i < 10) (e : wrap64 x % 256 = 48 + (i : Int)) : strOfNums [wrap64 x % 256] = ⟨#[UInt8.ofNat (48 + i)]⟩ := by
  rw [e]
  unfold strOfNums
  rw [show (48 + (i : Int)) = ((48 + i : Nat) : Int) from by omega]
  simp only [List.map_cons, List.map_nil, Int.toNat_natCast]
theorem ba_ext {a b : ByteArray} (h : a.data.toList = b.data.toList) : a = b := by
  apply ByteArray.ext
  exact Array.ext' h
theorem ba_app (a b : ByteArray) : (a ++ b).data.toList = a.data.toList ++ b.data.toList := by
  rw [ByteArray.data_append, Array.toList_append]
theorem num_size (n : Int) (h : I64 n) : (numB n).size ≤ 21 := by
  show (itoa n).toArray.size ≤ 21
  rw [List.size_toArray]
  exact itoa_length_le n h.1 h.2
theorem num_small (i : Nat) (h : i < 10) : numB (i : Int) = ⟨#[UInt8.ofNat (48 + i)]⟩ := by
  apply ba_ext
  rw [numB_list, itoa, if_neg (by omega), Int.toNat_natCast, dec_lt i h]
theorem num_ge (u : Nat) (h : ¬ u < 10) : numB (u : Int) = numB ((u / 10 : Nat) : Int) ++ ⟨#[UInt8.ofNat (48 + u % 10)]⟩ := by
  apply ba_ext
  rw [ba_app, numB_list, numB_list, itoa, itoa, if_neg (by omega), if_neg (by omega), Int.toNat_natCast, Int.toNat_natCast, dec_ge u h]
theorem num_neg_small (i : Nat) (h : i < 10) (h0 : 0 < i) : numB (-(i : Int)) = ⟨#[45]⟩ ++ ⟨#[UInt8.ofNat (48 + i)]⟩ := by
  apply ba_ext
  rw [ba_app, numB_list, itoa, if_pos (by omega), show (-(i : Int)).natAbs = i from by omega, dec_lt i h]
  rfl
theorem num_neg_ge (u : Nat) (h : ¬ u < 10) : numB (-(u : Int)) = numB (-((u / 10 : Nat) : Int)) ++ ⟨#[UInt8.ofNat (48 + u % 10)]⟩ := by
  apply ba_ext
  rw [ba_app, numB_list, numB_list, itoa, itoa, if_pos (by omega), if_pos (by omega), show (-(u : Int)).natAbs = u from by omega, show (-((u / 10 : Nat) : Int)).natAbs = u / 10 from by omega, dec_ge u h]
  rfl
theorem text_ev : ∀ (u : Nat) (n : Int), n.natAbs = u → I64 n → Ev (fun k => tipstaffref01_Text.f k n) (numB n) := by
  intro u
  induction u using Nat.strongRecOn with
  | _ u ih =>
    intro n hn h
    obtain ⟨h0, h1⟩ := h
    by_cases hneg : n < 0
    · obtain rfl : n = -(u : Int) := by omega
      by_cases hs : u < 10
      · refine ⟨1, fun k hk => ?_⟩
        obtain ⟨k, rfl⟩ : ∃ m, k = m + 1 := ⟨k - 1, by omega⟩
        show tipstaffref01_Text.f (k + 1) (-(u : Int)) = _
        rw [tipstaffref01_Text.f, if_pos hneg, if_pos (by omega), Option.bind_some, one_byte _ u hs (by unfold wrap64; omega), if_pos (by simp [ByteArray.size]), num_neg_small u hs (by omega)]
      · obtain ⟨K, hK⟩ := ih (u / 10) (by omega) (-((u / 10 : Nat) : Int)) (by omega) ⟨by omega, by omega⟩
        refine ⟨K + 1, fun k hk => ?_⟩
        obtain ⟨k, rfl⟩ : ∃ m, k = m + 1 := ⟨k - 1, by omega⟩
        have hz := num_size (-((u / 10 : Nat) : Int)) ⟨by omega, by omega⟩
        have e1 : wrap64 (Int.tdiv (-(u : Int)) 10) = -((u / 10 : Nat) : Int) := by
          rw [Int.neg_tdiv, Int.tdiv_eq_ediv_of_nonneg (by omega)]
          unfold wrap64; omega
        have e2 : Int.tmod (-(u : Int)) 10 = -((u % 10 : Nat) : Int) := by
          rw [Int.neg_tmod, Int.tmod_eq_emod_of_nonneg (by omega)]
          omega
        show tipstaffref01_Text.f (k + 1) (-(u : Int)) = _
        rw [tipstaffref01_Text.f, if_pos hneg, if_neg (by omega), e1, (show tipstaffref01_Text.f k _ = _ from hK k (by omega)), Option.bind_some, Option.bind_some, e2, one_byte _ (u % 10) (by omega) (by unfold wrap64; omega), if_pos (by simp only [ByteArray.size, List.size_toArray] at hz ⊢; simp only [List.length_cons, List.length_nil]; omega), num_neg_ge u hs]
    · obtain rfl : n = (u : Int) := by omega
      by_cases hs : u < 10
      · refine ⟨1, fun k hk => ?_⟩
        obtain ⟨k, rfl⟩ : ∃ m, k = m + 1 := ⟨k - 1, by omega⟩
        show tipstaffref01_Text.f (k + 1) (u : Int) = _
        rw [tipstaffref01_Text.f, if_neg hneg, if_pos (by omega), one_byte _ u hs (by unfold wrap64; omega), num_small u hs]
      · obtain ⟨K, hK⟩ := ih (u / 10) (by omega) ((u / 10 : Nat) : Int) (by omega) ⟨by omega, by omega⟩
        refine ⟨K + 1, fun k hk => ?_⟩
        obtain ⟨k, rfl⟩ : ∃ m, k = m + 1 := ⟨k - 1, by omega⟩
        have hz := num_size ((u / 10 : Nat) : Int) ⟨by omega, by omega⟩
        have e1 : wrap64 (Int.tdiv (u : Int) 10) = ((u / 10 : Nat) : Int) := by
          rw [Int.tdiv_eq_ediv_of_nonneg (by omega)]
          unfold wrap64; omega
        have e2 : Int.tmod (u : Int) 10 = ((u % 10 : Nat) : Int) := by
          rw [Int.tmod_eq_emod_of_nonneg (by omega)]
          omega
        show tipstaffref01_Text.f (k + 1) (u : Int) = _
        rw [tipstaffref01_Text.f, if_neg hneg, if_neg (by omega), e1, (show tipstaffref01_Text.f k _ = _ from hK k (by omega)), Option.bind_some, Option.bind_some, e2, one_byte _ (u % 10) (by omega) (by unfold wrap64; omega), if_pos (by simp only [ByteArray.size, List.size_toArray] at hz ⊢; simp only [List.length_cons, List.length_nil]; omega), num_ge u hs]
theorem dec_len : ∀ (k u : Nat), u < 10 ^ (k + 1) → (decDigits u).length ≤ k + 1
  | 0, u, h => by rw [dec_lt u (by simpa using h)]; simp
  | k + 1, u, h => by
    by_cases hu : u < 10
    · rw [dec_lt u hu]; simp
    · rw [dec_ge u hu, List.length_append]
      have := dec_len k (u / 10) (by rw [Nat.pow_succ] at h; omega)
      simp only [List.length_cons, List.length_nil]
      omega
theorem num_size20 (n : Int) (h : I64 n) : (numB n).size ≤ 20 := by
  obtain ⟨h0, h1⟩ := h
  show (itoa n).toArray.size ≤ 20
  rw [List.size_toArray, itoa]
  split
  · have := dec_len 18 n.natAbs (by omega)
    simp only [List.length_cons]
    omega
  · have := dec_len 18 n.toNat (by omega)
    omega
theorem num_pos (n : Int) : 0 < (numB n).size := by
  show 0 < (itoa n).toArray.size
  rw [List.size_toArray, itoa]
  split
  · simp
  · have := List.length_pos_iff.2 (dec_ne n.toNat)
    exact this
def stepV (acc : Int) (c : UInt8) : Int := IntKind.u64.wrap ((IntKind.u64.wrap (acc * 10)) + (((c.toNat : Int) - 48) % 256))
def goV (acc : Int) (l : List UInt8) : Int := l.foldl stepV acc
theorem u64_id (n : Int) (h0 : 0 ≤ n) (h : n < 18446744073709551616) : IntKind.u64.wrap n = n := by
  simp only [IntKind.wrap, IntKind.bits, IntKind.signed]
  simp
  omega
theorem step_digit (acc i : Nat) (hi : i < 10) (h : acc * 10 + i < 18446744073709551616) : stepV acc (UInt8.ofNat (48 + i)) = ((acc * 10 + i : Nat) : Int) := by
  unfold stepV
  rw [ub_val i hi, u64_id ((acc : Int) * 10) (by omega) (by omega), u64_id _ (by omega) (by omega)]
  omega
theorem goV_dec : ∀ (u : Nat), u < 18446744073709551616 → goV 0 (decDigits u) = (u : Int) := by
  intro u
  induction u using Nat.strongRecOn with
  | _ u ih =>
    intro hu
    by_cases h : u < 10
    · rw [dec_lt u h]
      have := step_digit 0 u h (by omega)
      simpa [goV] using this
    · rw [dec_ge u h, goV, List.foldl_append]
      have e := ih (u / 10) (by omega) (by omega)
      unfold goV at e
      rw [e]
      have := step_digit (u / 10) (u % 10) (by omega) (by omega)
      simp only [List.foldl_cons, List.foldl_nil, this]
      omega
theorem drop_bt (s : ByteArray) (i : Nat) (h : i < s.size) : ∃ c, s.data.toList.drop i = c :: s.data.toList.drop (i + 1) ∧ bt s (i : Int) = (c.toNat : Int) := by
  have hl : i < s.data.toList.length := by rw [data_length]; exact h
  refine ⟨s.data.toList[i], List.drop_eq_getElem_cons hl, ?_⟩
  rw [← bt_at s (i : Int) (by simpa using h)]
  simp
  rfl
theorem w1 (i : Nat) (h : i < 1000) : wrap64 ((i : Int) + 1) = ((i + 1 : Nat) : Int) := by unfold wrap64; omega
theorem l0_run (s : ByteArray) (hs : s.size ≤ 20) : ∀ (d k i : Nat) (acc : Int), i + d = s.size → tipstaffref01_Parse.l0 (k + 1 + d) s acc i = tipstaffref01_Parse.l0 (k + 1) s (goV acc (s.data.toList.drop i)) s.size
  | 0, k, i, acc, h => by
    obtain rfl : i = s.size := by omega
    rw [List.drop_of_length_le (by rw [data_length]; omega)]
    rfl
  | d + 1, k, i, acc, h => by
    obtain ⟨c, hc, hb⟩ := drop_bt s i (by omega)
    rw [show k + 1 + (d + 1) = (k + 1 + d) + 1 from rfl, tipstaffref01_Parse.l0, if_pos (by omega), if_pos (by omega), w1 i (by omega), hb, hc]
    exact l0_run s hs d k (i + 1) _ (by omega)
theorem l1_run (s : ByteArray) (hs : s.size ≤ 20) : ∀ (d k i : Nat) (acc : Int), i + d = s.size → tipstaffref01_Parse.l1 (k + 1 + d) s acc i = tipstaffref01_Parse.l1 (k + 1) s (goV acc (s.data.toList.drop i)) s.size
  | 0, k, i, acc, h => by
    obtain rfl : i = s.size := by omega
    rw [List.drop_of_length_le (by rw [data_length]; omega)]
    rfl
  | d + 1, k, i, acc, h => by
    obtain ⟨c, hc, hb⟩ := drop_bt s i (by omega)
    rw [show k + 1 + (d + 1) = (k + 1 + d) + 1 from rfl, tipstaffref01_Parse.l1, if_pos (by omega), if_pos (by omega), w1 i (by omega), hb, hc]
    exact l1_run s hs d k (i + 1) _ (by omega)
def pairO : Option Int → Int × Bool
  | some n => (n, true)
  | none => (0, false)
theorem toList_inj {a b : ByteArray} (h : a.toList = b.toList) : a = b := by
  apply ba_ext
  rwa [Go.Lib.toList_data, Go.Lib.toList_data] at h
theorem w64_i64 (n : Int) : I64 (wrap64 n) := by unfold wrap64 I64; omega
theorem text_cmp (s : ByteArray) (v : Int) (hv : I64 v) (hp : ∀ n, parseO s = some n → v = n) : Ev (fun k => (tipstaffref01_Text.f k v).bind fun t => (if t.toList = s.toList then (some (v, true)) else (some (0, false)))) (pairO (parseO s)) := by
  refine Ev.bind (text_ev _ v rfl hv) ?_
  cases h : parseO s with
  | none =>
    have := parse_none h v hv
    rw [if_neg (fun e => this (toList_inj e))]
    exact Ev.now _
  | some n =>
    obtain rfl := hp n h
    have := (parse_some h).2
    rw [if_pos (by rw [this])]
    exact Ev.now _
theorem ev_shift {α : Type} {g : Nat → Option α} {r : α} (d : Nat) (h : Ev (fun k => g (k + d)) r) : Ev g r := by
  obtain ⟨K, hK⟩ := h
  refine ⟨K + d, fun k hk => ?_⟩
  have := hK (k - d) (by omega)
  simp only at this
  rwa [show k - d + d = k from by omega] at this
theorem ev_add {α : Type} {g : Nat → Option α} {r : α} (d : Nat) (h : Ev g r) : Ev (fun k => g (k + d)) r := by
  obtain ⟨K, hK⟩ := h
  exact ⟨K, fun k hk => hK (k + d) (by omega)⟩
theorem parse_ev (s : ByteArray) : Ev (fun k => tipstaffref01_Parse.f k s) (pairO (parseO s)) := by
  have hsz : ∀ n, parseO s = some n → 0 < s.size ∧ s.size ≤ 20 := fun n hn => by
    obtain ⟨h1, h2⟩ := parse_some hn
    rw [← h2]
    exact ⟨num_pos n, num_size20 n h1⟩
  by_cases h0 : s.size = 0
  · have hp : parseO s = none := by
      cases h : parseO s with
      | none => rfl
      | some n => have := hsz n h; omega
    rw [hp]
    refine ev_shift 1 ⟨0, fun k _ => ?_⟩
    show tipstaffref01_Parse.f (k + 1) s = _
    rw [tipstaffref01_Parse.f, if_pos (by omega), tipstaffref01_Parse.j0, if_pos rfl]
    rfl
  by_cases h20 : 20 < s.size
  · have hp : parseO s = none := by
      cases h : parseO s with
      | none => rfl
      | some n => have := hsz n h; omega
    rw [hp]
    refine ev_shift 1 ⟨0, fun k _ => ?_⟩
    show tipstaffref01_Parse.f (k + 1) s = _
    rw [tipstaffref01_Parse.f, if_neg (by omega), tipstaffref01_Parse.j0, if_pos (decide_eq_true (by omega))]
    rfl
  obtain ⟨c, hc, hb⟩ := drop_bt s 0 (by omega)
  rw [List.drop_zero, Nat.zero_add] at hc
  have hb0 : bt s 0 = (c.toNat : Int) := hb
  refine Ev.congr (f := fun k => tipstaffref01_Parse.j0 k s false) (fun k => ?_) ?_
  · rw [tipstaffref01_Parse.f, if_neg (by omega), decide_eq_false (by omega)]
  refine Ev.step (f := fun k => tipstaffref01_Parse.l0 k s 0 0) (fun k => by rw [tipstaffref01_Parse.j0, if_neg (by decide)]) ?_
  refine ev_shift (1 + s.size) ?_
  refine Ev.congr (f := fun k => if bt s 0 = 45 then tipstaffref01_Parse.l1 k s 0 1 else (tipstaffref01_Text.f k (wrap64 (goV 0 s.data.toList))).bind fun t => (if t.toList = s.toList then (some (wrap64 (goV 0 s.data.toList), true)) else (some (0, false)))) (fun k => ?_) ?_
  · have := l0_run s (by omega) s.size k 0 0 (by omega)
    rw [List.drop_zero] at this
    rw [show k + (1 + s.size) = k + 1 + s.size from by omega]
    refine this.trans ?_
    rw [tipstaffref01_Parse.l0, if_neg (by omega), if_pos (by omega)]
  by_cases hm : bt s 0 = 45
  · simp only [if_pos hm]
    refine ev_shift (1 + (s.size - 1)) ?_
    refine Ev.congr (f := fun k => (tipstaffref01_Text.f k (wrap64 (-(wrap64 (goV 0 (s.data.toList.drop 1)))))).bind fun t => (if t.toList = s.toList then (some (wrap64 (-(wrap64 (goV 0 (s.data.toList.drop 1)))), true)) else (some (0, false)))) (fun k => ?_) (text_cmp s _ (w64_i64 _) fun n hn => ?_)
    · have := l1_run s (by omega) (s.size - 1) k 1 0 (by omega)
      rw [show k + (1 + (s.size - 1)) = k + 1 + (s.size - 1) from by omega]
      refine this.trans ?_
      rw [tipstaffref01_Parse.l1, if_neg (by omega)]
    · obtain ⟨⟨h1, h2⟩, e⟩ := parse_some hn
      rw [← e, numB_list, itoa] at hc ⊢
      by_cases hneg : n < 0
      · rw [if_pos hneg, List.drop_one, List.tail_cons, goV_dec _ (by omega)]
        unfold wrap64
        omega
      · rw [if_neg hneg] at hc
        have := dec_digit n.toNat c (by rw [hc]; simp)
        omega
  · simp only [if_neg hm]
    refine text_cmp s _ (w64_i64 _) fun n hn => ?_
    obtain ⟨⟨h1, h2⟩, e⟩ := parse_some hn
    rw [← e, numB_list, itoa] at hc ⊢
    by_cases hneg : n < 0
    · rw [if_pos hneg] at hc
      injection hc with hc _
      subst hc
      exact absurd hb0 hm
    · rw [if_neg hneg, goV_dec _ (by omega)]
      unfold wrap64
      omega
end Go.Proofs.YtefpcffompgceaaGreatDoor.Pure1
/- Which reply any bytes begin with: what the code and the document's text come to is the definition's answer. -/
namespace Go.Proofs.YtefpcffompgceaaGreatDoor.Pure5
open Go Go.RowKit Go.Lib Go.Proofs.Dig Go.Proofs.Tk Go.Proofs.YtefpcffompgceaaGreatDoor.Pure1
open Go.Proofs.YtefpcffompgceaaGreatDoorW.PrintWords Go.Proofs.YtefpcffompgceaaGreatDoor.Zr
set_option linter.unusedVariables false
set_option linter.unusedSimpArgs false
def Byt (l : List Int) : Prop := ∀ x ∈ l, 0 ≤ x ∧ x ≤ 255
theorem ub_eq {x : Int} (h : 0 ≤ x ∧ x ≤ 255) (n : Nat) (hn : n ≤ 255) : UInt8.ofNat x.toNat = UInt8.ofNat n ↔ x = n := by
  constructor
  · intro e
    have := congrArg UInt8.toNat e
    simp at this
    omega
  · rintro rfl
    simp
theorem index_eol : ∀ (l : List Int), Byt l → Lib.index (l.map fun n => UInt8.ofNat n.toNat) [13, 10] = match eol l with | some n => (n : Int) | none => -1
  | [], _ => rfl
  | [a], _ => by simp [Lib.index, eol]
  | a :: b :: r, h => by
    have ih := index_eol (b :: r) (fun x hx => h x (List.mem_cons_of_mem _ hx))
    have ha := ub_eq (h a (by simp)) 13 (by omega)
    have hb := ub_eq (h b (by simp)) 10 (by omega)
    rw [eol]
    by_cases hc : a = 13 ∧ b = 10
    · rw [if_pos hc]
      obtain ⟨rfl, rfl⟩ := hc
      rfl
    · rw [if_neg hc, List.map_cons, Lib.index]
      have hp : List.isPrefixOf [13, 10] (UInt8.ofNat a.toNat :: List.map (fun n => UInt8.ofNat n.toNat) (b :: r)) = false := by
        simp only [List.map_cons, List.isPrefixOf, Bool.and_true]
        rw [Bool.eq_false_iff]
        intro e
        simp only [Bool.and_eq_true, beq_iff_eq] at e
        exact hc ⟨ha.1 e.1.symm, hb.1 e.2.symm⟩
      rw [hp, ih]
      cases h' : eol (b :: r) with
      | none => rfl
      | some n =>
        simp only [Option.map_some, Bool.false_eq_true, if_false]
        have : (((n : Int)) == -1) = false := by simp
        rw [this]
        simp
theorem str_take (l : List Int) (n : Nat) : (⟨((l.map fun n => UInt8.ofNat n.toNat).take n).toArray⟩ : ByteArray) = strOfNums (l.take n) := by
  unfold strOfNums
  rw [List.map_take]
theorem str_drop (l : List Int) (n : Nat) (h : n ≤ l.length) : (strOfNums l).extract n (strOfNums l).size = strOfNums (l.drop n) := by
  apply ba_ext
  rw [ByteArray.data_extract, Array.toList_extract]
  have : (strOfNums l).size = l.length := strOfNums_size l
  rw [this]
  show List.extract (l.map fun n => UInt8.ofNat n.toNat) n l.length = (l.drop n).map fun n => UInt8.ofNat n.toNat
  rw [List.extract_eq_take_drop, List.map_drop, List.take_of_length_le (by simp)]
theorem bt_str (l : List Int) (h : Byt l) (i : Nat) (hi : i < l.length) : bt (strOfNums l) (i : Int) = l.getD i 0 := by
  rw [← bt_at (strOfNums l) (i : Int) (by rw [strOfNums_size]; simpa using hi)]
  have hm := h l[i] (List.getElem_mem hi)
  have : (strOfNums l)[i]'(by rw [strOfNums_size]; exact hi) = UInt8.ofNat l[i].toNat := by
    show (strOfNums l).data[i]'_ = _
    simp [strOfNums]
  simp only [Int.toNat_natCast, this]
  rw [List.getD_eq_getElem?_getD, List.getElem?_eq_getElem hi]
  simp
  omega
theorem cut_eol (l : List Int) (h : Byt l) (hs : l.length < 4294967281) : Tryz.Ln.cutF (strOfNums l) ⟨#[13, 10]⟩ = match eol l with | some n => some (strOfNums (l.take n), strOfNums (l.drop (n + 2)), true) | none => some (strOfNums l, ⟨#[]⟩, false) := by
  have hi := index_eol l h
  have hl : (strOfNums l).data.toList = l.map fun n => UInt8.ofNat n.toNat := rfl
  have h2 : (⟨#[13, 10]⟩ : ByteArray).data.toList = [13, 10] := rfl
  unfold Tryz.Ln.cutF
  rw [if_pos (by rw [strOfNums_size]; exact hs), hl, h2, Lib.cut, hi]
  cases eol l with
  | none => rfl
  | some n =>
    simp only
    rw [if_pos (by omega), Int.toNat_natCast, str_take]
    unfold strOfNums
    rw [List.map_drop]
    rfl
def resS : Option (Nat × Nat) → Int × Int
  | none => (-1, 0)
  | some (m, k) => ((m : Int), (k : Int))
theorem anyL : ∀ (l : List Int), Byt l → decide ((0 : Int) ≤ Lib.indexAny (l.map fun n => UInt8.ofNat n.toNat) [13, 10]) = !lf l
  | [], _ => by simp [Lib.indexAny, lf]
  | a :: r, h => by
    have ih := anyL r (fun x hx => h x (by simp [hx]))
    have ha := ub_eq (h a (by simp)) 13 (by omega)
    have hb := ub_eq (h a (by simp)) 10 (by omega)
    rw [List.map_cons, Lib.indexAny]
    by_cases hc : a = 13 ∨ a = 10
    · have e : List.contains [13, 10] (UInt8.ofNat a.toNat) = true := by
        rcases hc with rfl | rfl <;> rfl
      have e2 : lf (a :: r) = false := by
        rcases hc with rfl | rfl <;> rfl
      rw [e, e2]
      rfl
    · have e : List.contains [13, 10] (UInt8.ofNat a.toNat) = false := by
        rw [List.contains_eq_mem]
        simp only [List.mem_cons, List.not_mem_nil, or_false, decide_eq_false_iff_not]
        rintro (e | e)
        · exact hc (.inl (ha.1 e))
        · exact hc (.inr (hb.1 e))
      have e2 : lf (a :: r) = lf r := by
        have : a ≠ 13 ∧ a ≠ 10 := ⟨fun e => hc (.inl e), fun e => hc (.inr e)⟩
        simp [lf, this.1, this.2]
      rw [e, e2, ← ih]
      simp only [Bool.false_eq_true, if_false]
      split
      · rename_i h1
        rw [beq_iff_eq] at h1
        rw [h1]
      · rename_i h1
        rw [beq_iff_eq] at h1
        have := Lib.indexAny_ge [13, 10] (r.map fun n => UInt8.ofNat n.toNat)
        congr 1
        rw [eq_iff_iff]
        omega
theorem any_lf (l : List Int) (h : Byt l) (hs : l.length < 4294967281) : Tryz.Ln.anyF (strOfNums l) ⟨#[13, 10]⟩ = some (!lf l) := by
  unfold Tryz.Ln.anyF Tryz.Ln.lfB
  rw [if_pos ⟨by rw [strOfNums_size]; exact hs, rfl⟩, ← anyL l h]
  rfl
theorem w64 {n : Int} (h0 : -9223372036854775808 ≤ n) (h1 : n ≤ 9223372036854775807) : wrap64 n = n := by unfold wrap64; omega
theorem ends_eq (l : List Int) (h : Byt l) (a : Nat) (ha : a + 2 ≤ l.length) : ((strOfNums ((l.take (a + 2)).drop a)).toList == ([13, 10] : List UInt8)) = decide (l.getD a 0 = 13 ∧ l.getD (a + 1) 0 = 10) := by
  rw [ByteArray.toList_eq]
  have e : (l.take (a + 2)).drop a = [l.getD a 0, l.getD (a + 1) 0] := by
    rw [List.drop_take, show a + 2 - a = 2 from by omega, List.drop_eq_getElem_cons (show a < l.length by omega), List.drop_eq_getElem_cons (show a + 1 < l.length by omega), List.take_succ_cons, List.take_succ_cons, List.take_zero]
    simp [List.getD_eq_getElem?_getD, List.getElem?_eq_getElem (show a < l.length by omega), List.getElem?_eq_getElem (show a + 1 < l.length by omega)]
  rw [e]
  have g : ∀ i, i < l.length → 0 ≤ l.getD i 0 ∧ l.getD i 0 ≤ 255 := fun i hi => by
    rw [List.getD_eq_getElem?_getD, List.getElem?_eq_getElem hi]
    exact h _ (List.getElem_mem hi)
  have h1 := ub_eq (g a (by omega)) 13 (by omega)
  have h2 := ub_eq (g (a + 1) (by omega)) 10 (by omega)
  show ([UInt8.ofNat (l.getD a 0).toNat, UInt8.ofNat (l.getD (a + 1) 0).toNat] == ([13, 10] : List UInt8)) = _
  rw [Bool.eq_iff_iff, beq_iff_eq, decide_eq_true_iff]
  simp only [List.cons.injEq, and_true]
  exact ⟨fun e => ⟨h1.1 e.1, h2.1 e.2⟩, fun e => ⟨h1.2 e.1, h2.2 e.2⟩⟩
theorem w3 (a b : Int) (h0 : 0 ≤ a) (h1 : a ≤ 1000000) (h2 : 0 ≤ b) (h3 : b ≤ 1000002) : wrap64 (wrap64 (a - b) - 2) = a - b - 2 := by
  rw [w64 (n := a - b) (by omega) (by omega), w64 (n := a - b - 2) (by omega) (by omega)]
set_option maxHeartbeats 4000000 in
theorem first_ev (l : List Int) (h : Byt l) (hs : l.length ≤ 1000000) : Ev (fun k => reply_first.f k l) (resS (oneS l)) := by
  refine ev_shift 6 ⟨0, fun k _ => ?_⟩
  show reply_first.f (k + 6) l = _
  have hc := cut_eol l h (by omega)
  unfold reply_first.f strings_Cut.f
  rw [hc]
  cases he : eol l with
  | none =>
    simp only [Option.bind_some, Bool.false_eq_true, if_false, reply_first.j0, if_true]
    rw [oneS, he]; rfl
  | some n =>
    have hn := eol_at he
    simp only [Option.bind_some, if_true]
    by_cases h0 : n = 0
    · subst h0
      have e : ((strOfNums (l.take 0)).toList == ([] : List UInt8)) = true := by rw [List.take_zero, ByteArray.toList_eq]; rfl
      rw [e]
      simp only [reply_first.j0, if_true]
      rw [oneS, he]; rfl
    · have hz : (strOfNums (l.take n)).size = n := by rw [strOfNums_size, List.length_take]; omega
      have e : ((strOfNums (l.take n)).toList == ([] : List UInt8)) = false := by
        rw [beq_eq_false_iff_ne, ByteArray.toList_eq]
        intro e
        have := congrArg List.length e
        rw [Array.length_toList] at this
        change (strOfNums (l.take n)).size = 0 at this
        omega
      have hBt : Byt (l.take n) := fun x hx => h x (List.mem_of_mem_take hx)
      have hlt : (l.take n).length = n := by rw [List.length_take]; omega
      have hx : (strOfNums (l.take n)).extract 1 n = strOfNums ((l.take n).drop 1) := by
        have := str_drop (l.take n) 1 (by omega)
        rwa [hz] at this
      have hp : num_Parse.f (strOfNums ((l.take n).drop 1)) = some ((parseO (strOfNums ((l.take n).drop 1))).getD 0, (parseO (strOfNums ((l.take n).drop 1))).isSome) := by
        unfold num_Parse.f Tryz.Ln.parseF
        rw [if_pos]
        rw [strOfNums_size, List.length_drop]
        omega
      have hm : bt (strOfNums (l.take n)) 0 = l.headD 0 := by
        have := bt_str (l.take n) hBt 0 (by omega)
        have e0 : ((0 : Nat) : Int) = 0 := rfl
        rw [e0] at this
        rw [this]
        obtain ⟨x, r, rfl⟩ : ∃ x r, l = x :: r := by
          cases l with
          | nil => simp at hn
          | cons x r => exact ⟨x, r, rfl⟩
        obtain ⟨n, rfl⟩ : ∃ m, n = m + 1 := ⟨n - 1, by omega⟩
        simp
      have hcon : strings_ContainsAny.f (strOfNums (l.take n)) ⟨#[13, 10]⟩ = some (!lf (l.take n)) := any_lf (l.take n) hBt (by omega)
      have hw : wrap64 ((n : Int) + 2) = (n : Int) + 2 := w64 (by omega) (by omega)
      rw [e, oneS, he]
      simp only [reply_first.j0, reply_first.j1, Bool.false_eq_true, if_false, hz, hx, hp, Option.bind_some, hm, if_neg h0, hw]
      rw [if_pos (by omega)]
      generalize hP : parseO (strOfNums ((l.take n).drop 1)) = p
      generalize hM : l.headD 0 = m
      clear hP hM hp hx hm
      have hpos : (0 : Int) < (n : Int) := by omega
      have hposN : 0 < n := by omega
      by_cases c43 : m = 43
      · subst c43
        cases p <;> simp [reply_first.j2, hpos, hposN, h0, hcon, resS] <;> (cases lf (l.take n) <;> simp [resS])
      · by_cases c45 : m = 45
        · subst c45
          cases p <;> simp [reply_first.j2, hpos, hposN, h0, hcon, resS] <;> (cases lf (l.take n) <;> simp [resS])
        · by_cases c58 : m = 58
          · subst c58
            cases p <;> simp [reply_first.j2, reply_first.j3, reply_first.j4, reply_first.j5, hpos, hposN, h0, resS]
          · by_cases c36 : m = 36
            · subst c36
              cases p with
              | none => simp [reply_first.j2, reply_first.j3, reply_first.j4, reply_first.j5, hpos, hposN, h0, resS]
              | some v =>
                by_cases hv : v = -1
                · subst hv
                  simp [reply_first.j2, reply_first.j3, reply_first.j4, reply_first.j5, hpos, hposN, h0, resS]
                · have hne : (v == -1) = false := beq_eq_false_iff_ne.2 hv
                  by_cases hv0 : 0 ≤ v
                  · by_cases hle : v ≤ (l.length : Int) - (n + 2) - 2
                    · obtain ⟨u, rfl⟩ : ∃ u : Nat, v = (u : Int) := ⟨v.toNat, by omega⟩
                      have e1 : Aside0 (wrap64 ((n : Int) + 2 + u) = ((n + 2 + u : Nat) : Int)) := ⟨by rw [w64 (n := (n : Int) + 2 + u) (by omega) (by omega)]; omega⟩
                      have e2 : Aside0 (wrap64 (((n + 2 + u : Nat) : Int) + 2) = ((n + 2 + u + 2 : Nat) : Int)) := ⟨by rw [w64 (n := ((n + 2 + u : Nat) : Int) + 2) (by omega) (by omega)]; omega⟩
                      have e3 : Aside0 (wrap64 (wrap64 ((l.length : Int) - ((n : Int) + 2)) - 2) = (l.length : Int) - (n + 2) - 2) := ⟨w3 _ _ (by omega) (by omega) (by omega) (by omega)⟩
                      have e4 := ends_eq l h (n + 2 + u) (by omega)
                      simp only [reply_first.j2, reply_first.j3, reply_first.j4, Option.getD_some, Option.isSome_some, hne, if_true, if_false, Bool.false_eq_true, if_pos hpos, if_neg c43, if_neg c45]
                      simp only [show ((36 : Int) == 45) = false from rfl, show ¬ ((36 : Int) = 58) from by decide, show ¬ ((36 : Int) = 42) from by decide, show ¬ ((36 : Int) = 43) from by decide, show ¬ ((36 : Int) = 45) from by decide, or_self, if_false, if_true, Bool.false_eq_true]
                      rw [if_pos (show (u : Int) ≥ 0 by omega), e3.out, if_pos hle, e1.out, if_pos (show (0 : Int) ≤ ((n + 2 + u : Nat) : Int) by omega), e2.out, if_pos (show ((n + 2 + u : Nat) : Int) ≤ ((n + 2 + u + 2 : Nat) : Int) by omega), if_pos (show ((n + 2 + u + 2 : Nat) : Int) ≤ (l.length : Int) by omega)]
                      simp only [Int.toNat_natCast]
                      rw [e4]
                      by_cases hq : l.getD (n + 2 + u) 0 = 13 ∧ l.getD (n + 2 + u + 1) 0 = 10
                      · have hq' : 0 ≤ (u : Int) ∧ n + 2 + u + 2 ≤ l.length ∧ l.getD (n + 2 + u) 0 = 13 ∧ l.getD (n + 2 + u + 1) 0 = 10 := ⟨hv0, by omega, hq.1, hq.2⟩
                        rw [decide_eq_true hq, if_neg hv, if_pos hq']
                        simp only [reply_first.j5, if_true, e1.out, e2.out, resS]
                        rfl
                      · rw [decide_eq_false hq, if_neg hv, if_neg (fun hh => hq ⟨hh.2.2.1, hh.2.2.2⟩)]
                        simp only [reply_first.j5, Bool.false_eq_true, if_false, resS]
                        rfl
                    · have e3 : Aside0 (wrap64 (wrap64 ((l.length : Int) - ((n : Int) + 2)) - 2) = (l.length : Int) - (n + 2) - 2) := ⟨w3 _ _ (by omega) (by omega) (by omega) (by omega)⟩
                      simp only [reply_first.j2, reply_first.j3, reply_first.j4, reply_first.j5, Option.getD_some, Option.isSome_some, hne, if_true, if_false, Bool.false_eq_true, if_pos hpos]
                      simp only [show ((36 : Int) == 45) = false from rfl, show ¬ ((36 : Int) = 58) from by decide, show ¬ ((36 : Int) = 42) from by decide, show ¬ ((36 : Int) = 43) from by decide, show ¬ ((36 : Int) = 45) from by decide, or_self, if_false, if_true, Bool.false_eq_true]
                      rw [if_pos (show v ≥ 0 by omega), e3.out, if_neg hle, if_neg hv, if_neg (fun hh => hle (by omega))]
                      rfl
                  · simp only [reply_first.j2, reply_first.j3, reply_first.j4, reply_first.j5, Option.getD_some, Option.isSome_some, hne, if_true, if_false, Bool.false_eq_true, if_pos hpos]
                    simp only [show ((36 : Int) == 45) = false from rfl, show ¬ ((36 : Int) = 58) from by decide, show ¬ ((36 : Int) = 42) from by decide, show ¬ ((36 : Int) = 43) from by decide, show ¬ ((36 : Int) = 45) from by decide, or_self, if_false, if_true, Bool.false_eq_true]
                    rw [if_neg (show ¬ v ≥ 0 by omega), if_neg hv, if_neg (fun hh => hv0 hh.1)]
                    rfl
            · by_cases c42 : m = 42
              · subst c42
                cases p with
                | none => simp [reply_first.j2, reply_first.j3, reply_first.j4, reply_first.j5, hpos, hposN, h0, resS]
                | some v =>
                  by_cases hv : v = -1
                  · subst hv
                    simp [reply_first.j2, reply_first.j3, reply_first.j4, reply_first.j5, hpos, hposN, h0, resS]
                  · have hne : (v == -1) = false := beq_eq_false_iff_ne.2 hv
                    simp only [reply_first.j2, reply_first.j3, reply_first.j4, reply_first.j5, Option.getD_some, Option.isSome_some, hne, if_true, if_false, Bool.false_eq_true, if_pos hpos]
                    simp only [show ((42 : Int) == 45) = false from rfl, show ¬ ((42 : Int) = 58) from by decide, show ¬ ((42 : Int) = 36) from by decide, show ¬ ((42 : Int) = 43) from by decide, show ¬ ((42 : Int) = 45) from by decide, or_self, if_false, if_true, Bool.false_eq_true]
                    by_cases hq : 0 ≤ v ∧ v ≤ (l.length : Int)
                    · rw [if_pos (show v ≥ 0 from hq.1), if_pos hq.2, if_neg hv, if_pos hq]
                      simp only [resS]
                      congr 2
                      omega
                    · rw [if_neg hv, if_neg hq]
                      by_cases hv0 : v ≥ 0
                      · rw [if_pos hv0, if_neg (fun hh => hq ⟨hv0, hh⟩)]
                        rfl
                      · rw [if_neg hv0]
                        rfl
              · cases p <;> simp [reply_first.j2, reply_first.j3, reply_first.j4, reply_first.j5, hpos, hposN, h0, resS, c43, c45, c58, c36, c42]
end Go.Proofs.YtefpcffompgceaaGreatDoor.Pure5
/- Take: what the code comes to is the definition's answer. -/
namespace Go.Proofs.YtefpcffompgceaaGreatDoor.Pure6
open Go Go.RowKit Go.Lib Go.Proofs.Dig Go.Proofs.Tk Go.Proofs.YtefpcffompgceaaGreatDoor.Pure1 Go.Proofs.YtefpcffompgceaaGreatDoor.Pure5
open Go.Proofs.YtefpcffompgceaaGreatDoorW.PrintWords Go.Proofs.YtefpcffompgceaaGreatDoor.Zr
set_option linter.unusedVariables false
set_option linter.unusedSimpArgs false
def resT (l : List Int) : Option Nat → List Int × List Int × Bool
  | none => ([], [], false)
  | some e => (l.take e, l.drop e, true)
theorem byt_drop {l : List Int} (h : Byt l) (a : Nat) : Byt (l.drop a) := fun x hx => h x (List.mem_of_mem_drop hx)
theorem go_ev (l : List Int) (h : Byt l) (hs : l.length ≤ 1000000) : ∀ (f a left : Nat), a ≤ l.length → l.length + 1 ≤ f + a → left ≤ 1 + a * 1000000 → Ev (fun k => reply_Take.l0 k l a left) (resT l (takeGo l f a left))
  | 0, a, left, ha, hf, _ => by omega
  | f + 1, a, left, ha, hf, hleft => by
    have hlb : a * 1000000 ≤ 1000000000000 := by
      have : a ≤ 1000000 := by omega
      calc a * 1000000 ≤ 1000000 * 1000000 := Nat.mul_le_mul_right _ this
        _ = 1000000000000 := rfl
    by_cases h0 : left = 0
    · subst h0
      rw [takeGo, if_pos rfl]
      refine Ev.step (f := fun _ => some (l.take a, l.drop a, true)) (fun k => ?_) (Ev.now _)
      show reply_Take.l0 (k + 1) l a ((0 : Nat) : Int) = _
      rw [reply_Take.l0, if_neg (by omega), if_pos (by omega), if_pos (by omega)]
      unfold bytes_Clone.f
      rw [Int.toNat_natCast, if_pos (by rw [List.length_take]; omega), if_pos (by rw [List.length_drop]; omega)]
      rfl
    · rw [takeGo, if_neg h0]
      refine Ev.step (f := fun k => (reply_first.f k (l.drop a)).bind fun bt => (if bt.1 < 0 then (some (([] : List Int), ([] : List Int), false)) else (reply_Take.l0 k l (wrap64 (a + bt.1)) (wrap64 ((wrap64 (left + bt.2)) - 1))))) (fun k => ?_) ?_
      · rw [reply_Take.l0, if_pos (by omega), if_pos (by omega), if_pos (by omega), Int.toNat_natCast]
      · refine Ev.bind (first_ev (l.drop a) (byt_drop h a) (by rw [List.length_drop]; omega)) ?_
        cases ho : oneS (l.drop a) with
        | none => exact Ev.now _
        | some mk =>
          obtain ⟨m, k⟩ := mk
          have hp := one_pos ho
          rw [List.length_drop] at hp
          have ih := go_ev l h hs f (a + m) (left - 1 + k) (by omega) (by omega) (by
            have : (a + m) * 1000000 = a * 1000000 + m * 1000000 := Nat.add_mul _ _ _
            omega)
          refine Ev.congr (fun n => ?_) ih
          show (if (m : Int) < 0 then (some (([] : List Int), ([] : List Int), false)) else reply_Take.l0 n l (wrap64 ((a : Int) + (m : Int))) (wrap64 (wrap64 ((left : Int) + (k : Int)) - 1))) = _
          rw [if_neg (by omega)]
          have e1 : wrap64 ((a : Int) + (m : Int)) = ((a + m : Nat) : Int) := by rw [w64 (n := (a : Int) + m) (by omega) (by omega)]; omega
          have e2 : wrap64 (wrap64 ((left : Int) + (k : Int)) - 1) = ((left - 1 + k : Nat) : Int) := by
            rw [w64 (n := (left : Int) + k) (by omega) (by omega), w64 (n := (left : Int) + k - 1) (by omega) (by omega)]; omega
          rw [e1, e2]
theorem take_ev (l : List Int) (h : Byt l) (hs : l.length ≤ 1000000) : Ev (fun k => reply_Take.f k l) (takeS l) := by
  have := go_ev l h hs (l.length + 1) 0 1 (by omega) (by omega) (by omega)
  refine Ev.congr (fun k => rfl) ?_
  have e : takeS l = resT l (takeGo l (l.length + 1) 0 1) := by
    unfold takeS takeE
    cases takeGo l (l.length + 1) 0 1 <;> rfl
  rw [e]
  exact this
end Go.Proofs.YtefpcffompgceaaGreatDoor.Pure6
/- Each reply that is told is one. -/
namespace Go.Proofs.Tryz.Ln
open Go Go.RowKit Go.Proofs.Mem Go.Proofs.App Go.Proofs.Tk
open Go.Proofs.YtefpcffompgceaaGreatDoorW.PrintWords
set_option linter.unusedVariables false
theorem bytesOf_append' (a b : ByteArray) : bytesOf (a ++ b) = bytesOf a ++ bytesOf b := by
  simp [bytesOf, ByteArray.data_append]
theorem bytes_str' (l : List Int) (h : Byt l) : bytesOf (strOfNums l) = l := by
  unfold bytesOf strOfNums
  rw [List.map_map]
  conv => rhs; rw [← List.map_id l]
  apply List.map_congr_left
  intro x hx
  have := h x hx
  simp
  omega
theorem byt_flat' (s : ByteArray) : Byt ((bytesOf s).map flatB) := fun x hx => by
  obtain ⟨y, hy, rfl⟩ := List.mem_map.1 hx
  have := byt_bytes s y hy
  unfold flatB
  split
  · omega
  · split <;> omega
theorem line_cut' (mark s : ByteArray) : lineL mark s = bytesOf mark ++ ((bytesOf s).map flatB ++ [13, 10]) := by
  rw [lineL, bytesOf_append', bytesOf_append', flatS, bytes_str' _ (byt_flat' s), List.append_assoc]
  rfl
theorem lf_flat (s : ByteArray) : lf ((bytesOf s).map flatB) = true := by
  unfold lf
  rw [List.all_eq_true]
  intro x hx
  obtain ⟨y, _, rfl⟩ := List.mem_map.1 hx
  simp only [decide_eq_true_eq]
  unfold flatB
  split
  · omega
  · split
    · omega
    · rename_i h1 h2
      exact ⟨h1, h2⟩
theorem eol_line : ∀ (b : List Int) (rest : List Int), lf b = true → eol (b ++ 13 :: 10 :: rest) = some b.length
  | [], rest, _ => by simp [eol]
  | c :: b, rest, h => by
    have h1 : (c ≠ 13 ∧ c ≠ 10) ∧ lf b = true := by simpa [lf] using h
    have ih := eol_line b rest h1.2
    obtain ⟨x, r, hx⟩ : ∃ x r, b ++ 13 :: 10 :: rest = x :: r := by
      cases b with
      | nil => exact ⟨_, _, rfl⟩
      | cons y q => exact ⟨_, _, rfl⟩
    rw [List.cons_append, hx, eol, if_neg (fun e => h1.1.1 e.1), ← hx, ih]
    rfl
/-- a line with something behind it -/
theorem one_line (m : Int) (b rest : List Int) (hm : m ≠ 13 ∧ m ≠ 10) (hb : lf b = true) : oneS (m :: (b ++ 13 :: 10 :: rest)) =
    (let p := Dig.parseO (strOfNums b); let n := b.length + 1
     if m = 43 ∨ m = 45 then some (n + 2, 0)
     else if m = 58 then (if p.isSome = true then some (n + 2, 0) else none)
     else if m = 36 then
       match p with
       | none => none
       | some v => if v = -1 then some (n + 2, 0) else if 0 ≤ v ∧ n + 2 + v.toNat + 2 ≤ (m :: (b ++ 13 :: 10 :: rest)).length ∧ (m :: (b ++ 13 :: 10 :: rest)).getD (n + 2 + v.toNat) 0 = 13 ∧ (m :: (b ++ 13 :: 10 :: rest)).getD (n + 2 + v.toNat + 1) 0 = 10 then some (n + 2 + v.toNat + 2, 0) else none
     else if m = 42 then
       match p with
       | none => none
       | some v => if v = -1 then some (n + 2, 0) else if 0 ≤ v ∧ v ≤ (m :: (b ++ 13 :: 10 :: rest)).length then some (n + 2, v.toNat) else none
     else none) := by
  have he : eol (m :: (b ++ 13 :: 10 :: rest)) = some (b.length + 1) := by
    have := eol_line (m :: b) rest (by simp [lf, hm]; simpa [lf] using hb)
    simpa using this
  have ht : (m :: (b ++ 13 :: 10 :: rest)).take (b.length + 1) = m :: b := by
    rw [List.take_succ_cons, List.take_left]
  have hl : lf (m :: b) = true := by simp [lf, hm]; simpa [lf] using hb
  unfold oneS
  rw [he]
  simp only
  rw [if_neg (by omega), ht]
  simp only [List.drop_one, List.tail_cons, List.headD_cons, hl, if_true]
  cases Dig.parseO (strOfNums b) <;> rfl
theorem flat_num (n : Int) : (bytesOf (numS n)).map flatB = bytesOf (numS n) := by
  conv => rhs; rw [← List.map_id (bytesOf (numS n))]
  apply List.map_congr_left
  intro x hx
  unfold bytesOf at hx
  obtain ⟨u, hu, rfl⟩ := List.mem_map.1 hx
  have hu' : u ∈ Lib.itoa n := by simpa [numS] using hu
  have : u.toNat ≠ 13 ∧ u.toNat ≠ 10 := by
    unfold Lib.itoa at hu'
    split at hu'
    · rcases List.mem_cons.1 hu' with rfl | h
      · decide
      · have := Dig.dec_digit _ u h; omega
    · have := Dig.dec_digit _ u hu'; omega
  unfold flatB
  rw [if_neg (by omega), if_neg (by omega)]
  rfl
theorem str_flat_num (n : Int) : strOfNums ((bytesOf (numS n)).map flatB) = numS n := by
  rw [flat_num]; exact str_bytes _
theorem lf_num (n : Int) : lf ((bytesOf (numS n)).map flatB) = true := lf_flat _
theorem line_cons (m : UInt8) (s : ByteArray) : lineL ⟨#[m]⟩ s = (m.toNat : Int) :: ((bytesOf s).map flatB ++ 13 :: 10 :: []) := by
  rw [line_cut']; rfl
theorem line_len (m : UInt8) (s : ByteArray) : (lineL ⟨#[m]⟩ s).length = s.size + 3 := by
  rw [lineL_len]; show 1 + _ + 2 = _; omega
theorem rep_simple (s : ByteArray) : Rep (lineL ⟨#[43]⟩ s) := by
  apply rep_one
  rw [line_len, line_cons]
  have := one_line 43 ((bytesOf s).map flatB) [] (by decide) (lf_flat s)
  rw [show ((43 : UInt8).toNat : Int) = 43 from rfl, this]
  simp [bytesOf_length]
theorem rep_err (s : ByteArray) : Rep (lineL ⟨#[45]⟩ s) := by
  apply rep_one
  rw [line_len, line_cons]
  have := one_line 45 ((bytesOf s).map flatB) [] (by decide) (lf_flat s)
  rw [show ((45 : UInt8).toNat : Int) = 45 from rfl, this]
  simp [bytesOf_length]
theorem rep_int (n : Int) (h : Int64 n) : Rep (lineL ⟨#[58]⟩ (numS n)) := by
  apply rep_one
  rw [line_len, line_cons]
  have := one_line 58 ((bytesOf (numS n)).map flatB) [] (by decide) (lf_num n)
  rw [show ((58 : UInt8).toNat : Int) = 58 from rfl, this, str_flat_num]
  have hp : Dig.parseO (numS n) = some n := Dig.parse_num n h
  simp [bytesOf_length, hp]
theorem rep_null : Rep (lineL ⟨#[36]⟩ ⟨#[45, 49]⟩) := by unfold Rep; decide +kernel
theorem rep_noarray : Rep (lineL ⟨#[42]⟩ ⟨#[45, 49]⟩) := by unfold Rep; decide +kernel
theorem rep_bulk (s : ByteArray) (hs : s.size ≤ 70368744177664) : Rep (bulkL s) := by
  apply rep_one
  have hl : (bulkL s).length = (numS s.size).size + 3 + (s.size + 2) := by
    rw [bulkL, List.length_append, line_len, bytesOf_length, ByteArray.size_append]; rfl
  have e : bulkL s = 36 :: ((bytesOf (numS s.size)).map flatB ++ 13 :: 10 :: (bytesOf s ++ [13, 10])) := by
    rw [bulkL, line_cons, bytesOf_append']
    show (36 : Int) :: _ = _
    simp
    rfl
  have := one_line 36 ((bytesOf (numS s.size)).map flatB) (bytesOf s ++ [13, 10]) (by decide) (lf_num _)
  rw [← e, str_flat_num] at this
  have hp : Dig.parseO (numS s.size) = some (s.size : Int) := Dig.parse_num _ ⟨by omega, by omega⟩
  rw [hp] at this
  rw [this]
  simp only [List.length_map, bytesOf_length]
  have hn : ¬ ((s.size : Int) = -1) := by omega
  have g1 : (bulkL s).getD ((numS s.size).size + 1 + 2 + s.size) 0 = 13 ∧ (bulkL s).getD ((numS s.size).size + 1 + 2 + s.size + 1) 0 = 10 := by
    have e2 : bulkL s = (36 :: ((bytesOf (numS s.size)).map flatB ++ 13 :: 10 :: bytesOf s)) ++ [13, 10] := by
      rw [e]; simp
    have hl2 : (36 :: ((bytesOf (numS s.size)).map flatB ++ 13 :: 10 :: bytesOf s)).length = (numS s.size).size + 1 + 2 + s.size := by
      simp [bytesOf_length]; omega
    rw [e2, List.getD_eq_getElem?_getD, List.getD_eq_getElem?_getD, List.getElem?_append_right (by omega), List.getElem?_append_right (by omega), hl2]
    simp
  simp only [Int.toNat_natCast]
  rw [if_neg (by decide), if_neg (by decide), if_pos trivial, if_neg hn, if_pos ⟨by omega, by omega, g1.1, g1.2⟩]
  congr 2
  omega
theorem rep_array (ls : List (List Int)) (hn : ls.length ≤ 1000000) (h : ∀ l ∈ ls, Rep l) : Rep (arrL ls) := by
  unfold arrL
  refine rep_arr ?_ h
  have hr := rows_len ls h
  have e : lineL ⟨#[42]⟩ (numS ls.length) ++ ls.flatten = 42 :: ((bytesOf (numS ls.length)).map flatB ++ 13 :: 10 :: ls.flatten) := by
    rw [line_cons]
    show (42 : Int) :: _ = _
    simp
  have := one_line 42 ((bytesOf (numS ls.length)).map flatB) ls.flatten (by decide) (lf_num _)
  rw [str_flat_num] at this
  have hp : Dig.parseO (numS ls.length) = some (ls.length : Int) := Dig.parse_num _ ⟨by omega, by omega⟩
  rw [hp] at this
  rw [e, this, line_len]
  simp only [List.length_map, bytesOf_length, List.length_cons, List.length_append]
  have hn : ¬ ((ls.length : Int) = -1) := by omega
  rw [if_neg (by decide), if_neg (by decide), if_neg (by decide), if_pos trivial, if_neg hn, if_pos ⟨by omega, by omega⟩]
  simp only [Int.toNat_natCast]
theorem rep_texts (ss : List ByteArray) (hn : ss.length ≤ 1000000) (h : ∀ s ∈ ss, s.size ≤ 70368744177664) : Rep (textsL ss) := by
  refine rep_array _ (by simpa [bulks] using hn) fun l hl => ?_
  obtain ⟨s, hs, rfl⟩ := List.mem_map.1 hl
  exact rep_bulk s (h s hs)
end Go.Proofs.Tryz.Ln
/- reply.Take, in the form that a print takes. -/
namespace Go.Proofs.Tryz.Ln
open Go Go.RowKit Go.Proofs.Mem Go.Proofs.App Go.Proofs.Tk
open Go.Proofs.YtefpcffompgceaaGreatDoorW.PrintWords
set_option linter.unusedVariables false
def takeF (l : List Int) : Option (List Int × List Int × Bool) := if BytB l = true ∧ l.length ≤ 1000000 then some (takeS l) else none
theorem X_Take (A0 : Option Addr) (c0 : Nat) (l0 : List Int) (r1 : List Int) (r2 : List Int) (r3 : Bool) (w : World) (hr0 : Kd.C (Kd.int .u8) w A0 l0.length l0) (hc0 : l0.length ≤ c0) (hT : Tabs w) (h : takeF l0 = some (r1, r2, r3)) :
    Calls Tryz.prog 8 #[.slice A0 l0.length c0] w fun e w' => ∃ v0_ v1_ : Value, e = .returned (.tuple #[v0_, v1_, .bool r3]) ∧ Kd.R (Kd.int .u8) 5 w' w.heap.size (fun k_ => some k_ ≠ (v1_ : Value).ownBlock) v0_ r1 ∧ Kd.R (Kd.int .u8) 5 w' w.heap.size (fun k_ => some k_ ≠ (v0_ : Value).ownBlock) v1_ r2 ∧ Below w.heap.size w w' := by
  unfold takeF at h
  split at h
  · rename_i hi
    injection h with h
    obtain ⟨k, hk⟩ := (YtefpcffompgceaaGreatDoor.Pure6.take_ev l0 (byt_of hi.1) hi.2).rounds
    rw [h] at hk
    exact YtefpcffompgceaaGreatDoor.Zr.reply_Take.calls k A0 c0 l0 r1 r2 r3 w hr0 hc0 hT hk
  · cases h
end Go.Proofs.Tryz.Ln
