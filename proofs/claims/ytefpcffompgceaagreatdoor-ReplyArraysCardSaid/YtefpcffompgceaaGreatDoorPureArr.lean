import Derived.Test.YtefpcffompgceaaGreatDoorZc
import Derived.Test.YtefpcffompgceaaGreatDoorTake
import Derived.Test.YtefpcffompgceaaGreatDoorStr
/- The law of arrays of replies: its plain part. -/
namespace Go.Proofs.YtefpcffompgceaaGreatDoor.PureArr
open Go Go.RowKit Go.Proofs.Tryz.Ln Go.Proofs.Tk
open Go.Proofs.YtefpcffompgceaaGreatDoorW.PrintWords Go.Proofs.YtefpcffompgceaaGreatDoor.Zc
set_option linter.unusedVariables false
set_option linter.unusedSimpArgs false
theorem w64' {n : Int} (h0 : -9223372036854775808 ≤ n) (h1 : n ≤ 9223372036854775807) : wrap64 n = n := by unfold wrap64; omega
theorem wn (i : Nat) (h : i ≤ 1000000000) : wrap64 ((i : Int) + 1) = ((i + 1 : Nat) : Int) := by rw [w64' (by omega) (by omega)]; omega
theorem short_f (s : ByteArray) : tipstafflaw05_short.f s = some (shortS s) := by
  unfold tipstafflaw05_short.f shortS
  by_cases h : 100 < s.size
  · rw [if_pos (by omega), if_pos (by omega), if_pos (by omega), if_pos h]
  · rw [if_neg (by omega), if_neg h]
theorem rd_get {α : Type} (d : α) (l : List α) (i : Nat) (h : i < l.length) : rdOf d l (i : Int) = l[i] := by
  unfold rdOf
  rw [Int.toNat_natCast, List.getD_eq_getElem?_getD, List.getElem?_eq_getElem h]
  rfl
def fewS (l : List ByteArray) : List ByteArray := (l.take 20).map shortS
theorem fewS_len (l : List ByteArray) : (fewS l).length ≤ 20 := by simp [fewS]; omega
theorem fewS_size (l : List ByteArray) : ∀ s ∈ fewS l, s.size ≤ 100 := fun s hs => by
  obtain ⟨x, _, rfl⟩ := List.mem_map.1 hs
  exact shortS_size x
theorem few_go (l : List ByteArray) : ∀ (d i : Nat), min l.length 20 - i = d → i ≤ l.length → i ≤ 20 → Ev (fun k => tipstafflaw05_few.l0 k l ((l.take i).map shortS) i) (fewS l)
  | 0, i, hd, h1, h2 => by
    refine Ev.step (f := fun _ => some (fewS l)) (fun k => ?_) (Ev.now _)
    rw [tipstafflaw05_few.l0]
    by_cases h : i < l.length
    · obtain rfl : i = 20 := by omega
      rw [if_pos (by omega), if_neg (by omega)]; rfl
    · obtain rfl : i = l.length := by omega
      rw [if_neg (by omega)]
      congr 1
      unfold fewS
      rw [List.take_of_length_le (Nat.le_refl _), List.take_of_length_le h2]
  | d + 1, i, hd, h1, h2 => by
    have ih := few_go l d (i + 1) (by omega) (by omega) (by omega)
    refine Ev.step (f := fun k => tipstafflaw05_few.l0 k l ((l.take (i + 1)).map shortS) ((i + 1 : Nat) : Int)) (fun k => ?_) ih
    rw [tipstafflaw05_few.l0, if_pos (by omega), if_pos (by omega), if_pos (by omega), rd_get _ _ i (by omega), short_f, Option.bind_some, if_pos (by simp; omega), wn i (by omega), List.take_succ_eq_append_getElem (by omega), List.map_append]
    rfl
theorem few_ev (l : List ByteArray) : Ev (fun k => tipstafflaw05_few.f k l) (fewS l) := few_go l _ 0 rfl (by omega) (by omega)
/-- a reply of a modest length -/
structure Good (r : List Int) : Prop where
  rep : Rep r
  byt : BytB r = true
  len : r.length ≤ 10000
theorem bytB_of {l : List Int} (h : Byt l) : BytB l = true := List.all_eq_true.2 fun x hx => by simpa using h x hx
theorem good_bulk (s : ByteArray) (hs : s.size ≤ 100) : Good (bulkL s) := by
  have hz := numS_size s.size (by omega) (by omega)
  refine ⟨rep_bulk s (by omega), bytB_of (byt_bulk s), ?_⟩
  rw [bulkL, List.length_append, line_len, bytesOf_length, ByteArray.size_append]
  show _ + (s.size + 2) ≤ _
  omega
theorem bulks_len : ∀ (l : List ByteArray), (∀ s ∈ l, s.size ≤ 100) → (bulks l).flatten.length ≤ 130 * l.length
  | [], _ => by simp [bulks]
  | s :: l, h => by
    have ih := bulks_len l (fun x hx => h x (by simp [hx]))
    have hs := h s (by simp)
    have hz := numS_size s.size (by omega) (by omega)
    have : (bulkL s).length ≤ 130 := by
      rw [bulkL, List.length_append, line_len, bytesOf_length, ByteArray.size_append]
      show _ + (s.size + 2) ≤ _
      omega
    unfold bulks at ih ⊢
    rw [List.map_cons, List.flatten_cons, List.length_append, List.length_cons]
    omega
theorem byt_arr (ls : List (List Int)) (h : ∀ l ∈ ls, Byt l) : Byt (arrL ls) := byt_append (byt_line _ _) (byt_flatten h)
theorem good_texts (l : List ByteArray) (hl : l.length ≤ 20) (h : ∀ s ∈ l, s.size ≤ 100) : Good (textsL l) := by
  have hz := numS_size (l.length : Int) (by omega) (by omega)
  have hb := bulks_len l h
  refine ⟨rep_texts l (by omega) (fun s hs => by have := h s hs; omega), bytB_of (byt_arr _ fun x hx => ?_), ?_⟩
  · obtain ⟨s, _, rfl⟩ := List.mem_map.1 hx
    exact byt_bulk s
  · unfold textsL arrL
    rw [List.length_append, line_len]
    have : (bulks l).length = l.length := by simp [bulks]
    rw [this]
    omega
theorem texts_f (l : List ByteArray) (hl : l.length ≤ 20) (h : ∀ s ∈ l, s.size ≤ 100) : reply_Texts.f l = some (textsL l) := by
  have hb := bulks_len l h
  unfold reply_Texts.f textsF
  rw [if_pos ⟨fun s hs => by have := h s hs; omega, by omega, by omega⟩]
theorem good_line (s : ByteArray) (hs : s.size ≤ 100) (m : UInt8) (hr : Rep (lineL ⟨#[m]⟩ s)) : Good (lineL ⟨#[m]⟩ s) := ⟨hr, bytB_of (byt_line _ _), by rw [line_len]; omega⟩
theorem good_int (n : Int) (h : Int64 n) : Good (lineL ⟨#[58]⟩ (numS n)) := good_line _ (by have := numS_size n h.1 h.2; omega) _ (rep_int n h)
set_option maxHeartbeats 1000000 in
theorem reps_go (l : List ByteArray) (n : Int) (hn : Int64 n) (hl : l.length ≤ 20) (h : ∀ s ∈ l, s.size ≤ 100) : ∀ (d i : Nat) (acc : List (List Int)), l.length - i = d → i ≤ l.length → acc.length ≤ 2 + 2 * i → (∀ r ∈ acc, Good r) → ∃ R, Ev (fun k => tipstafflaw05_replies.l0 k l n acc i) R ∧ (∀ r ∈ R, Good r) ∧ R.length ≤ 42
  | 0, i, acc, hd, hi, ha, hg => by
    refine ⟨acc, Ev.step (f := fun _ => some acc) (fun k => ?_) (Ev.now _), hg, by omega⟩
    rw [tipstafflaw05_replies.l0, if_neg (by omega)]
  | d + 1, i, acc, hd, hi, ha, hg => by
    have hs : (l[i]'(by omega)).size ≤ 100 := h _ (List.getElem_mem _)
    have hm : Int.tmod (i : Int) 4 = ((i % 4 : Nat) : Int) := by rw [Int.tmod_eq_emod_of_nonneg (by omega)]; omega
    have step : ∀ (new : List (List Int)), new.length ≤ 2 → (∀ r ∈ new, Good r) → (∀ k, tipstafflaw05_replies.l0 (k + 1) l n acc i = tipstafflaw05_replies.l0 k l n (acc ++ new) ((i + 1 : Nat) : Int)) → ∃ R, Ev (fun k => tipstafflaw05_replies.l0 k l n acc i) R ∧ (∀ r ∈ R, Good r) ∧ R.length ≤ 42 := fun new h1 h2 h3 => by
      obtain ⟨R, hR, hR2⟩ := reps_go l n hn hl h d (i + 1) (acc ++ new) (by omega) (by omega) (by rw [List.length_append]; omega) (fun r hr => (List.mem_append.1 hr).elim (hg r) (h2 r))
      exact ⟨R, Ev.step h3 hR, hR2⟩
    have rdl := rd_get ByteArray.empty l i (by omega)
    rcases (by omega : i % 4 = 0 ∨ i % 4 = 1 ∨ i % 4 = 2 ∨ i % 4 = 3) with e | e | e | e
    · refine step [bulkL (l[i]'(by omega))] (by simp) (fun r hr => by rw [List.mem_singleton.1 hr]; exact good_bulk _ hs) fun k => ?_
      rw [tipstafflaw05_replies.l0, if_pos (by omega), hm, e, if_pos (by decide), if_pos (by omega), rdl, wn i (by omega)]
      unfold reply_Bulk.f
      rw [if_pos (by omega), Option.bind_some, if_pos (by omega)]
    · refine step [lineL ⟨#[43]⟩ (l[i]'(by omega)), lineL ⟨#[58]⟩ (numS n)] (by simp) (fun r hr => ?_) fun k => ?_
      · rcases List.mem_cons.1 hr with rfl | hr
        · exact good_line _ hs _ (rep_simple _)
        · rw [List.mem_singleton.1 hr]; exact good_int n hn
      · rw [tipstafflaw05_replies.l0, if_pos (by omega), hm, e, if_neg (by decide), if_pos (by decide), if_pos (by omega), rdl, wn i (by omega)]
        unfold reply_Simple.f reply_Int.f
        rw [if_pos (by omega), Option.bind_some, if_pos hn, Option.bind_some, Option.bind_some, if_pos (by simp; omega)]
    · refine step [lineL ⟨#[45]⟩ (l[i]'(by omega))] (by simp) (fun r hr => by rw [List.mem_singleton.1 hr]; exact good_line _ hs _ (rep_err _)) fun k => ?_
      rw [tipstafflaw05_replies.l0, if_pos (by omega), hm, e, if_neg (by decide), if_neg (by decide), if_pos (by decide), if_pos (by omega), rdl, wn i (by omega)]
      unfold reply_Err.f
      rw [if_pos (by omega), Option.bind_some, if_pos (by omega)]
    · have ht : (l.take i).length ≤ 20 := by rw [List.length_take]; omega
      have hts : ∀ s ∈ l.take i, s.size ≤ 100 := fun s hs => h s (List.mem_of_mem_take hs)
      refine step [textsL (l.take i)] (by simp) (fun r hr => by rw [List.mem_singleton.1 hr]; exact good_texts _ ht hts) fun k => ?_
      rw [tipstafflaw05_replies.l0, if_pos (by omega), hm, e, if_neg (by decide), if_neg (by decide), if_neg (by decide), if_pos (by decide), if_pos (by omega), if_pos (by omega), Int.toNat_natCast, texts_f _ ht hts, Option.bind_some, if_pos (by omega), wn i (by omega)]
theorem reps_ev (l : List ByteArray) (n : Int) (hn : Int64 n) (hl : l.length ≤ 20) (h : ∀ s ∈ l, s.size ≤ 100) : ∃ R, Ev (fun k => tipstafflaw05_replies.f k l n) R ∧ (∀ r ∈ R, Good r) ∧ R.length ≤ 42 := by
  obtain ⟨R, h1, h2⟩ := reps_go l n hn hl h l.length 0 [lineL ⟨#[42]⟩ ⟨#[45, 49]⟩, lineL ⟨#[36]⟩ ⟨#[45, 49]⟩] (by omega) (by omega) (by simp) (fun r hr => by
    rcases List.mem_cons.1 hr with rfl | hr
    · exact good_line _ (by decide) _ rep_noarray
    · rw [List.mem_singleton.1 hr]; exact good_line _ (by decide) _ rep_null)
  exact ⟨R, h1, h2⟩
theorem good_flat : ∀ (R : List (List Int)), (∀ r ∈ R, Good r) → R.flatten.length ≤ 10000 * R.length ∧ BytB R.flatten = true
  | [], _ => ⟨by simp, rfl⟩
  | r :: R, h => by
    obtain ⟨h1, h2⟩ := good_flat R (fun x hx => h x (by simp [hx]))
    have hr := h r (by simp)
    refine ⟨?_, ?_⟩
    · rw [List.flatten_cons, List.length_append, List.length_cons]
      have := hr.len
      omega
    · rw [List.flatten_cons]
      unfold BytB at h2 ⊢
      rw [List.all_append, h2, Bool.and_true]
      exact hr.byt
theorem rdl_get (l : List (List Int)) (i : Nat) (h : i < l.length) : rd_L2 l (i : Int) = l[i] := by
  unfold rd_L2
  rw [Int.toNat_natCast, List.getD_eq_getElem?_getD, List.getElem?_eq_getElem h]
  rfl
theorem take_f (l : List Int) (h1 : BytB l = true) (h2 : l.length ≤ 1000000) : reply_Take.f l = some (takeS l) := by
  unfold reply_Take.f takeF
  rw [if_pos ⟨h1, h2⟩]
theorem flat_take (R : List (List Int)) (i : Nat) (h : i < R.length) : (R.take (i + 1)).flatten = (R.take i).flatten ++ R[i] := by
  rw [List.take_succ_eq_append_getElem h, List.flatten_append]
  simp
theorem flat_drop (R : List (List Int)) (i : Nat) (h : i < R.length) : (R.drop i).flatten = R[i] ++ (R.drop (i + 1)).flatten := by
  rw [List.drop_eq_getElem_cons h, List.flatten_cons]
theorem bytB_app {a b : List Int} (ha : BytB a = true) (hb : BytB b = true) : BytB (a ++ b) = true := by
  unfold BytB at *
  rw [List.all_append, ha, hb]; rfl
theorem bytB_take {a : List Int} (ha : BytB a = true) (q : Nat) : BytB (a.take q) = true := bytB_of fun x hx => byt_of ha x (List.mem_of_mem_take hx)
theorem str_app (a b : List Int) : strOfNums (a ++ b) = strOfNums a ++ strOfNums b := by
  apply ByteArray.ext
  rw [ByteArray.data_append]
  apply Array.ext'
  simp [strOfNums]
theorem line_cut (m : UInt8) (s : ByteArray) : strOfNums ((lineL ⟨#[m]⟩ s).drop 1) = flatS s ++ ⟨#[13, 10]⟩ := by
  have e : (lineL ⟨#[m]⟩ s).drop 1 = bytesOf (flatS s ++ ⟨#[13, 10]⟩) := by
    unfold lineL bytesOf
    simp
  rw [e, str_bytes]
theorem line_str (m : UInt8) (s : ByteArray) : strOfNums (lineL ⟨#[m]⟩ s) = (⟨#[m]⟩ : ByteArray) ++ (flatS s ++ ⟨#[13, 10]⟩) := by
  unfold lineL
  rw [str_bytes, ByteArray.append_assoc]
theorem arr_told (R : List (List Int)) : (strOfNums (arrL R)).toList = (((⟨#[42]⟩ : ByteArray) ++ strOfNums ((lineL ⟨#[58]⟩ (numS R.length)).drop 1)) ++ strOfNums R.flatten).toList := by
  unfold arrL
  rw [str_app, line_str, line_cut]
theorem str_len (l : List Int) : (strOfNums l).size = l.length := by simp [strOfNums, ByteArray.size]
theorem arr_none : (strOfNums (arrL [])).toList = ([42, 48, 13, 10] : List UInt8) := by decide +kernel
theorem tail_ok (R : List (List Int)) (hg : ∀ r ∈ R, Good r) (hl : R.length ≤ 42) (l : List ByteArray) (k : Nat) (hk : tipstafflaw05_few.f k l = some (fewS l)) :
    (arrX).bind (fun t185 => ((reply_Take.f t185).bind fun bt188 => (if true = true then ((reply_Array.f R).bind fun t195 => (if 1 ≤ ((lineL ⟨#[58]⟩ (numS R.length)).length : Int) then ((some ((lineL ⟨#[58]⟩ (numS R.length)).drop 1 : List Int)).bind fun y198 => (if 1 + (strOfNums y198).size ≤ 9223372036854775807 then (if ((⟨#[42]⟩ : ByteArray) ++ (strOfNums y198)).size + (strOfNums R.flatten).size ≤ 9223372036854775807 then (if (strOfNums t195).toList = (((⟨#[42]⟩ : ByteArray) ++ (strOfNums y198)) ++ (strOfNums R.flatten)).toList then ((tipstafflaw05_few.f k l).bind fun t203 => ((reply_Texts.f t203).bind fun t206 => ((reply_Array.f (bulks (fewS l))).bind fun t209 => (if (strOfNums t206).toList = (strOfNums t209).toList then (if bt188.2.2 = true then (if (strOfNums bt188.1).toList = ([42, 48, 13, 10] : List UInt8) then (some ((strOfNums bt188.2.1).toList == ([120] : List UInt8))) else (none)) else (none)) else (none))))) else (none)) else (none)) else (none))) else (none))) else (none)))) = some true := by
  obtain ⟨hfl, hfb⟩ := good_flat R hg
  have hz := numS_size (R.length : Int) (by omega) (by omega)
  have hrep : Rep (arrL []) := rep_array [] (by decide) (fun l h => by cases h)
  have hA : BytB (arrL [] ++ bytesOf ⟨#[120]⟩) = true := by decide +kernel
  have hL : (arrL [] ++ bytesOf ⟨#[120]⟩).length ≤ 1000000 := by decide +kernel
  have harr : reply_Array.f R = some (arrL R) := by
    unfold reply_Array.f arrF
    rw [if_pos ⟨List.all_eq_true.2 fun r hr => (hg r hr).byt, by omega, by omega⟩]
  have hbl := bulks_len (fewS l) (fewS_size l)
  have hfew := fewS_len l
  have htx : reply_Texts.f (fewS l) = some (textsL (fewS l)) := texts_f _ hfew (fewS_size l)
  have hbk : reply_Array.f (bulks (fewS l)) = some (textsL (fewS l)) := by
    unfold reply_Array.f arrF
    rw [if_pos ⟨List.all_eq_true.2 fun r hr => by
      obtain ⟨s, hs, rfl⟩ := List.mem_map.1 hr
      exact (good_bulk s (fewS_size l s hs)).byt, by simp [bulks]; omega, by omega⟩]
    rfl
  have hll := line_len 58 (numS (R.length : Int))
  unfold arrX
  rw [Option.bind_some, take_f _ hA hL, rep_take hrep, Option.bind_some, if_pos rfl, harr, Option.bind_some, if_pos (by rw [hll]; omega), Option.bind_some, if_pos (by rw [str_len, List.length_drop]; omega), if_pos (by rw [ByteArray.size_append, str_len, str_len, List.length_drop]; show 1 + _ + _ ≤ _; omega), if_pos (arr_told R), hk, Option.bind_some, htx, Option.bind_some, hbk, Option.bind_some, if_pos rfl, if_pos rfl, if_pos arr_none]
  exact congrArg some (by decide +kernel)
theorem l1_ev (R : List (List Int)) (hg : ∀ r ∈ R, Good r) (hl : R.length ≤ 42) (l : List ByteArray) : ∀ (d i : Nat), (fewS l).length - i = d → i ≤ (fewS l).length → Ev (fun k => tipstafflaw05_ReplyArrays.l1 k l true R R.flatten (lineL ⟨#[58]⟩ (numS R.length)) (bulks ((fewS l).take i)) i) true
  | 0, i, hd, hi => by
    obtain rfl : i = (fewS l).length := by omega
    obtain ⟨K, hK⟩ := few_ev l
    refine ⟨K + 1, fun k hk => ?_⟩
    obtain ⟨k, rfl⟩ : ∃ k', k = k' + 1 := ⟨k - 1, by omega⟩
    have h1 : tipstafflaw05_few.f k l = some (fewS l) := hK k (by omega)
    rw [List.take_of_length_le (Nat.le_refl _)]
    have h2 := tail_ok R hg hl l k h1
    show tipstafflaw05_ReplyArrays.l1 (k + 1) l true R R.flatten (lineL ⟨#[58]⟩ (numS R.length)) (bulks (fewS l)) ((fewS l).length : Int) = some true
    rw [tipstafflaw05_ReplyArrays.l1, h1, Option.bind_some, if_neg (by omega)]
    rw [h1] at h2
    exact h2
  | d + 1, i, hd, hi => by
    have hlt : i < (fewS l).length := by omega
    have hfew := fewS_len l
    obtain ⟨K2, ih⟩ := l1_ev R hg hl l d (i + 1) (by omega) (by omega)
    obtain ⟨K, hK⟩ := few_ev l
    refine ⟨K + K2 + 1, fun k hk => ?_⟩
    obtain ⟨k, rfl⟩ : ∃ k', k = k' + 1 := ⟨k - 1, by omega⟩
    have h1 : tipstafflaw05_few.f k l = some (fewS l) := hK k (by omega)
    have hb : reply_Bulk.f (fewS l)[i] = some (bulkL (fewS l)[i]) := by
      have := fewS_size l _ (List.getElem_mem hlt)
      unfold reply_Bulk.f
      rw [if_pos (by omega)]
    have e : bulks ((fewS l).take i) ++ [bulkL (fewS l)[i]] = bulks ((fewS l).take (i + 1)) := by
      unfold bulks
      rw [List.take_succ_eq_append_getElem hlt, List.map_append]
      rfl
    show tipstafflaw05_ReplyArrays.l1 (k + 1) l true R R.flatten (lineL ⟨#[58]⟩ (numS R.length)) (bulks ((fewS l).take i)) (i : Int) = some true
    rw [tipstafflaw05_ReplyArrays.l1, h1, Option.bind_some, if_pos (by omega), Option.bind_some, if_pos (by omega), if_pos (by omega), rd_get _ _ i hlt, hb, Option.bind_some, if_pos (by simp [bulks]; omega), wn i (by omega), e]
    exact ih k (by omega)
theorem l0_ev (R : List (List Int)) (hg : ∀ r ∈ R, Good r) (hl : R.length ≤ 42) (l : List ByteArray) : ∀ (d i : Nat), R.length - i = d → i ≤ R.length → Ev (fun k => tipstafflaw05_ReplyArrays.l0 k l true R (R.take i).flatten i) true
  | 0, i, hd, hi => by
    obtain rfl : i = R.length := by omega
    have := l1_ev R hg hl l (fewS l).length 0 (by omega) (by omega)
    refine Ev.step (f := fun k => tipstafflaw05_ReplyArrays.l1 k l true R R.flatten (lineL ⟨#[58]⟩ (numS R.length)) (bulks ((fewS l).take 0)) ((0 : Nat) : Int)) (fun k => ?_) this
    rw [tipstafflaw05_ReplyArrays.l0, if_neg (by omega)]
    unfold reply_Int.f
    rw [if_pos ⟨by omega, by omega⟩, Option.bind_some, List.take_of_length_le (Nat.le_refl _)]
    rfl
  | d + 1, i, hd, hi => by
    have hlt : i < R.length := by omega
    have ih := l0_ev R hg hl l d (i + 1) (by omega) (by omega)
    obtain ⟨hfl, _⟩ := good_flat (R.take i) (fun r hr => hg r (List.mem_of_mem_take hr))
    rw [List.length_take] at hfl
    have hil := (hg _ (List.getElem_mem hlt)).len
    refine Ev.step (f := fun k => tipstafflaw05_ReplyArrays.l0 k l true R (R.take (i + 1)).flatten ((i + 1 : Nat) : Int)) (fun k => ?_) ih
    rw [tipstafflaw05_ReplyArrays.l0, if_pos (by omega), if_pos (by omega), rdl_get R i hlt, if_pos (by omega), wn i (by omega), flat_take R i hlt]
theorem arrays (l : List ByteArray) (n : Int) (hn : Int64 n) : ∃ k, tipstafflaw05_ReplyArrays.f k l n = some true := by
  obtain ⟨R, hR, hg, hl⟩ := reps_ev (fewS l) n hn (fewS_len l) (fewS_size l)
  have h := l0_ev R hg hl l R.length 0 (by omega) (by omega)
  have e := Ev.bind (few_ev l) (f := fun k t168 => ((tipstafflaw05_replies.f k t168 n).bind fun t171 => (tipstafflaw05_ReplyArrays.l0 k l true t171 (([] : List Int)) 0))) (Ev.bind hR (f := fun k t171 => tipstafflaw05_ReplyArrays.l0 k l true t171 (([] : List Int)) 0) h)
  obtain ⟨k, hk⟩ := e.rounds
  exact ⟨k, hk⟩
theorem walk (A : Option Addr) (c : Nat) (l : List ByteArray) (n : Int) (w : World) (hr : Kd.C Kd.string w A l.length l) (hc : l.length ≤ c) (hs : ∀ s ∈ l, s.size ≤ maxLen) (wn : (Lit.int .i64 n).wf = true) (hT : Tryz.Ln.Tabs w) :
    Calls Tryz.prog 6 #[.slice A l.length c, .int .i64 n] w fun e w' => e = .returned (.bool true) ∧ Below w.heap.size w w' := by
  have h1 : -9223372036854775808 ≤ n ∧ n ≤ 9223372036854775807 := by simpa [Lit.wf, IntKind.min, IntKind.max, IntKind.signed, IntKind.bits] using wn
  obtain ⟨k, hk⟩ := arrays l n h1
  exact Zc.tipstafflaw05_ReplyArrays.calls k A c l n true w hr hc hT hk
end Go.Proofs.YtefpcffompgceaaGreatDoor.PureArr
