import Derived.Test.YtefpcffompgceaaGreatDoorZb
import Derived.Test.YtefpcffompgceaaGreatDoorTake
/- The law of replies that are taken back: its plain part. -/
namespace Go.Proofs.YtefpcffompgceaaGreatDoor.PureBack
open Go Go.RowKit Go.Proofs.Tryz.Ln Go.Proofs.Tk
open Go.Proofs.YtefpcffompgceaaGreatDoorW.PrintWords Go.Proofs.YtefpcffompgceaaGreatDoor.Zb
set_option linter.unusedVariables false
set_option linter.unusedSimpArgs false
theorem w64' {n : Int} (h0 : -9223372036854775808 ≤ n) (h1 : n ≤ 9223372036854775807) : wrap64 n = n := by unfold wrap64; omega
theorem wn (i : Nat) (h : i ≤ 1000000000) : wrap64 ((i : Int) + 1) = ((i + 1 : Nat) : Int) := by rw [w64' (by omega) (by omega)]; omega
theorem short_f (s : ByteArray) : tipstafflaw05_short.f s = some (shortS s) := by
  unfold tipstafflaw05_short.f shortS
  by_cases h : 100 < s.size
  · rw [if_pos (by omega), if_pos (by omega), if_pos (by omega), if_pos h]
  · rw [if_neg (by omega), if_neg h]
theorem rd_get {α : Type} (d : α) (l : List α) (i : Nat) (h : i < l.length) : rdOf d l (i : Int) = l[i] := by
  unfold rdOf
  rw [Int.toNat_natCast, List.getD_eq_getElem?_getD, List.getElem?_eq_getElem h]
  rfl
def fewS (l : List ByteArray) : List ByteArray := (l.take 20).map shortS
theorem fewS_len (l : List ByteArray) : (fewS l).length ≤ 20 := by simp [fewS]; omega
theorem fewS_size (l : List ByteArray) : ∀ s ∈ fewS l, s.size ≤ 100 := fun s hs => by
  obtain ⟨x, _, rfl⟩ := List.mem_map.1 hs
  exact shortS_size x
theorem few_go (l : List ByteArray) : ∀ (d i : Nat), min l.length 20 - i = d → i ≤ l.length → i ≤ 20 → Ev (fun k => tipstafflaw05_few.l0 k l ((l.take i).map shortS) i) (fewS l)
  | 0, i, hd, h1, h2 => by
    refine Ev.step (f := fun _ => some (fewS l)) (fun k => ?_) (Ev.now _)
    rw [tipstafflaw05_few.l0]
    by_cases h : i < l.length
    · obtain rfl : i = 20 := by omega
      rw [if_pos (by omega), if_neg (by omega)]; rfl
    · obtain rfl : i = l.length := by omega
      rw [if_neg (by omega)]
      congr 1
      unfold fewS
      rw [List.take_of_length_le (Nat.le_refl _), List.take_of_length_le h2]
  | d + 1, i, hd, h1, h2 => by
    have ih := few_go l d (i + 1) (by omega) (by omega) (by omega)
    refine Ev.step (f := fun k => tipstafflaw05_few.l0 k l ((l.take (i + 1)).map shortS) ((i + 1 : Nat) : Int)) (fun k => ?_) ih
    rw [tipstafflaw05_few.l0, if_pos (by omega), if_pos (by omega), if_pos (by omega), rd_get _ _ i (by omega), short_f, Option.bind_some, if_pos (by simp; omega), wn i (by omega), List.take_succ_eq_append_getElem (by omega), List.map_append]
    rfl
theorem few_ev (l : List ByteArray) : Ev (fun k => tipstafflaw05_few.f k l) (fewS l) := few_go l _ 0 rfl (by omega) (by omega)
/-- a reply of a modest length -/
structure Good (r : List Int) : Prop where
  rep : Rep r
  byt : BytB r = true
  len : r.length ≤ 10000
theorem bytB_of {l : List Int} (h : Byt l) : BytB l = true := List.all_eq_true.2 fun x hx => by simpa using h x hx
theorem good_bulk (s : ByteArray) (hs : s.size ≤ 100) : Good (bulkL s) := by
  have hz := numS_size s.size (by omega) (by omega)
  refine ⟨rep_bulk s (by omega), bytB_of (byt_bulk s), ?_⟩
  rw [bulkL, List.length_append, line_len, bytesOf_length, ByteArray.size_append]
  show _ + (s.size + 2) ≤ _
  omega
theorem bulks_len : ∀ (l : List ByteArray), (∀ s ∈ l, s.size ≤ 100) → (bulks l).flatten.length ≤ 130 * l.length
  | [], _ => by simp [bulks]
  | s :: l, h => by
    have ih := bulks_len l (fun x hx => h x (by simp [hx]))
    have hs := h s (by simp)
    have hz := numS_size s.size (by omega) (by omega)
    have : (bulkL s).length ≤ 130 := by
      rw [bulkL, List.length_append, line_len, bytesOf_length, ByteArray.size_append]
      show _ + (s.size + 2) ≤ _
      omega
    unfold bulks at ih ⊢
    rw [List.map_cons, List.flatten_cons, List.length_append, List.length_cons]
    omega
theorem byt_arr (ls : List (List Int)) (h : ∀ l ∈ ls, Byt l) : Byt (arrL ls) := byt_append (byt_line _ _) (byt_flatten h)
theorem good_texts (l : List ByteArray) (hl : l.length ≤ 20) (h : ∀ s ∈ l, s.size ≤ 100) : Good (textsL l) := by
  have hz := numS_size (l.length : Int) (by omega) (by omega)
  have hb := bulks_len l h
  refine ⟨rep_texts l (by omega) (fun s hs => by have := h s hs; omega), bytB_of (byt_arr _ fun x hx => ?_), ?_⟩
  · obtain ⟨s, _, rfl⟩ := List.mem_map.1 hx
    exact byt_bulk s
  · unfold textsL arrL
    rw [List.length_append, line_len]
    have : (bulks l).length = l.length := by simp [bulks]
    rw [this]
    omega
theorem texts_f (l : List ByteArray) (hl : l.length ≤ 20) (h : ∀ s ∈ l, s.size ≤ 100) : reply_Texts.f l = some (textsL l) := by
  have hb := bulks_len l h
  unfold reply_Texts.f textsF
  rw [if_pos ⟨fun s hs => by have := h s hs; omega, by omega, by omega⟩]
theorem good_line (s : ByteArray) (hs : s.size ≤ 100) (m : UInt8) (hr : Rep (lineL ⟨#[m]⟩ s)) : Good (lineL ⟨#[m]⟩ s) := ⟨hr, bytB_of (byt_line _ _), by rw [line_len]; omega⟩
theorem good_int (n : Int) (h : Int64 n) : Good (lineL ⟨#[58]⟩ (numS n)) := good_line _ (by have := numS_size n h.1 h.2; omega) _ (rep_int n h)
set_option maxHeartbeats 1000000 in
theorem reps_go (l : List ByteArray) (n : Int) (hn : Int64 n) (hl : l.length ≤ 20) (h : ∀ s ∈ l, s.size ≤ 100) : ∀ (d i : Nat) (acc : List (List Int)), l.length - i = d → i ≤ l.length → acc.length ≤ 2 + 2 * i → (∀ r ∈ acc, Good r) → ∃ R, Ev (fun k => tipstafflaw05_replies.l0 k l n acc i) R ∧ (∀ r ∈ R, Good r) ∧ R.length ≤ 42
  | 0, i, acc, hd, hi, ha, hg => by
    refine ⟨acc, Ev.step (f := fun _ => some acc) (fun k => ?_) (Ev.now _), hg, by omega⟩
    rw [tipstafflaw05_replies.l0, if_neg (by omega)]
  | d + 1, i, acc, hd, hi, ha, hg => by
    have hs : (l[i]'(by omega)).size ≤ 100 := h _ (List.getElem_mem _)
    have hm : Int.tmod (i : Int) 4 = ((i % 4 : Nat) : Int) := by rw [Int.tmod_eq_emod_of_nonneg (by omega)]; omega
    have step : ∀ (new : List (List Int)), new.length ≤ 2 → (∀ r ∈ new, Good r) → (∀ k, tipstafflaw05_replies.l0 (k + 1) l n acc i = tipstafflaw05_replies.l0 k l n (acc ++ new) ((i + 1 : Nat) : Int)) → ∃ R, Ev (fun k => tipstafflaw05_replies.l0 k l n acc i) R ∧ (∀ r ∈ R, Good r) ∧ R.length ≤ 42 := fun new h1 h2 h3 => by
      obtain ⟨R, hR, hR2⟩ := reps_go l n hn hl h d (i + 1) (acc ++ new) (by omega) (by omega) (by rw [List.length_append]; omega) (fun r hr => (List.mem_append.1 hr).elim (hg r) (h2 r))
      exact ⟨R, Ev.step h3 hR, hR2⟩
    have rdl := rd_get ByteArray.empty l i (by omega)
    rcases (by omega : i % 4 = 0 ∨ i % 4 = 1 ∨ i % 4 = 2 ∨ i % 4 = 3) with e | e | e | e
    · refine step [bulkL (l[i]'(by omega))] (by simp) (fun r hr => by rw [List.mem_singleton.1 hr]; exact good_bulk _ hs) fun k => ?_
      rw [tipstafflaw05_replies.l0, if_pos (by omega), hm, e, if_pos (by decide), if_pos (by omega), rdl, wn i (by omega)]
      unfold reply_Bulk.f
      rw [if_pos (by omega), Option.bind_some, if_pos (by omega)]
    · refine step [lineL ⟨#[43]⟩ (l[i]'(by omega)), lineL ⟨#[58]⟩ (numS n)] (by simp) (fun r hr => ?_) fun k => ?_
      · rcases List.mem_cons.1 hr with rfl | hr
        · exact good_line _ hs _ (rep_simple _)
        · rw [List.mem_singleton.1 hr]; exact good_int n hn
      · rw [tipstafflaw05_replies.l0, if_pos (by omega), hm, e, if_neg (by decide), if_pos (by decide), if_pos (by omega), rdl, wn i (by omega)]
        unfold reply_Simple.f reply_Int.f
        rw [if_pos (by omega), Option.bind_some, if_pos hn, Option.bind_some, Option.bind_some, if_pos (by simp; omega)]
    · refine step [lineL ⟨#[45]⟩ (l[i]'(by omega))] (by simp) (fun r hr => by rw [List.mem_singleton.1 hr]; exact good_line _ hs _ (rep_err _)) fun k => ?_
      rw [tipstafflaw05_replies.l0, if_pos (by omega), hm, e, if_neg (by decide), if_neg (by decide), if_pos (by decide), if_pos (by omega), rdl, wn i (by omega)]
      unfold reply_Err.f
      rw [if_pos (by omega), Option.bind_some, if_pos (by omega)]
    · have ht : (l.take i).length ≤ 20 := by rw [List.length_take]; omega
      have hts : ∀ s ∈ l.take i, s.size ≤ 100 := fun s hs => h s (List.mem_of_mem_take hs)
      refine step [textsL (l.take i)] (by simp) (fun r hr => by rw [List.mem_singleton.1 hr]; exact good_texts _ ht hts) fun k => ?_
      rw [tipstafflaw05_replies.l0, if_pos (by omega), hm, e, if_neg (by decide), if_neg (by decide), if_neg (by decide), if_pos (by decide), if_pos (by omega), if_pos (by omega), Int.toNat_natCast, texts_f _ ht hts, Option.bind_some, if_pos (by omega), wn i (by omega)]
theorem reps_ev (l : List ByteArray) (n : Int) (hn : Int64 n) (hl : l.length ≤ 20) (h : ∀ s ∈ l, s.size ≤ 100) : ∃ R, Ev (fun k => tipstafflaw05_replies.f k l n) R ∧ (∀ r ∈ R, Good r) ∧ R.length ≤ 42 := by
  obtain ⟨R, h1, h2⟩ := reps_go l n hn hl h l.length 0 [lineL ⟨#[42]⟩ ⟨#[45, 49]⟩, lineL ⟨#[36]⟩ ⟨#[45, 49]⟩] (by omega) (by omega) (by simp) (fun r hr => by
    rcases List.mem_cons.1 hr with rfl | hr
    · exact good_line _ (by decide) _ rep_noarray
    · rw [List.mem_singleton.1 hr]; exact good_line _ (by decide) _ rep_null)
  exact ⟨R, h1, h2⟩
theorem good_flat : ∀ (R : List (List Int)), (∀ r ∈ R, Good r) → R.flatten.length ≤ 10000 * R.length ∧ BytB R.flatten = true
  | [], _ => ⟨by simp, rfl⟩
  | r :: R, h => by
    obtain ⟨h1, h2⟩ := good_flat R (fun x hx => h x (by simp [hx]))
    have hr := h r (by simp)
    refine ⟨?_, ?_⟩
    · rw [List.flatten_cons, List.length_append, List.length_cons]
      have := hr.len
      omega
    · rw [List.flatten_cons]
      unfold BytB at h2 ⊢
      rw [List.all_append, h2, Bool.and_true]
      exact hr.byt
theorem rdl_get (l : List (List Int)) (i : Nat) (h : i < l.length) : rd_L2 l (i : Int) = l[i] := by
  unfold rd_L2
  rw [Int.toNat_natCast, List.getD_eq_getElem?_getD, List.getElem?_eq_getElem h]
  rfl
theorem take_f (l : List Int) (h1 : BytB l = true) (h2 : l.length ≤ 1000000) : reply_Take.f l = some (takeS l) := by
  unfold reply_Take.f takeF
  rw [if_pos ⟨h1, h2⟩]
theorem flat_take (R : List (List Int)) (i : Nat) (h : i < R.length) : (R.take (i + 1)).flatten = (R.take i).flatten ++ R[i] := by
  rw [List.take_succ_eq_append_getElem h, List.flatten_append]
  simp
theorem flat_drop (R : List (List Int)) (i : Nat) (h : i < R.length) : (R.drop i).flatten = R[i] ++ (R.drop (i + 1)).flatten := by
  rw [List.drop_eq_getElem_cons h, List.flatten_cons]
theorem bytB_app {a b : List Int} (ha : BytB a = true) (hb : BytB b = true) : BytB (a ++ b) = true := by
  unfold BytB at *
  rw [List.all_append, ha, hb]; rfl
theorem bytB_take {a : List Int} (ha : BytB a = true) (q : Nat) : BytB (a.take q) = true := bytB_of fun x hx => byt_of ha x (List.mem_of_mem_take hx)
theorem l1_ev (at_ : Int) (h0 : 0 ≤ at_) (h1 : at_ ≤ 65535) (R : List (List Int)) (hg : ∀ r ∈ R, Good r) (hl : R.length ≤ 42) (W : List Int) (hW : W = arrL R) : ∀ (d i : Nat), R.length - i = d → i ≤ R.length → Ev (fun k => tipstafflaw05_ReplyBack.l1 k at_ true R W (R.drop i).flatten i) true
  | 0, i, hd, hi => by
    obtain rfl : i = R.length := by omega
    have hrep : Rep W := by rw [hW]; exact rep_array R (by omega) (fun r hr => (hg r hr).rep)
    obtain ⟨hfl, hfb⟩ := good_flat R hg
    have hz := numS_size (R.length : Int) (by omega) (by omega)
    have hWl : W.length ≤ 500000 := by rw [hW]; unfold arrL; rw [List.length_append, line_len]; omega
    have hWb : BytB W = true := by rw [hW]; exact bytB_app (bytB_of (byt_line _ _)) hfb
    have h3 := rep_len hrep
    have hwa : wrap64 at_ = at_ := w64' (by omega) (by omega)
    obtain ⟨q, hq⟩ : ∃ q : Nat, Int.tmod at_ (W.length : Int) = (q : Int) ∧ q < W.length := by
      refine ⟨(at_ % (W.length : Int)).toNat, ?_, ?_⟩
      · rw [Int.tmod_eq_emod_of_nonneg h0]
        have := Int.emod_nonneg at_ (show (W.length : Int) ≠ 0 by omega)
        omega
      · have := Int.emod_lt_of_pos at_ (show (0 : Int) < (W.length : Int) by omega)
        have := Int.emod_nonneg at_ (show (W.length : Int) ≠ 0 by omega)
        omega
    refine Ev.step (f := fun _ => some true) (fun k => ?_) (Ev.now _)
    rw [tipstafflaw05_ReplyBack.l1, if_neg (by omega), if_neg (by omega), Option.bind_some, if_pos (by simp; omega), Option.bind_some, if_pos (by simp; omega), List.nil_append, take_f _ (bytB_app hWb (by decide)) (by simp; omega), rep_take hrep, Option.bind_some, hwa, hq.1, if_pos (by omega), if_pos (by omega), Int.toNat_natCast, take_f _ (bytB_take hWb q) (by rw [List.length_take]; omega), rep_part hrep q hq.2, Option.bind_some, if_pos rfl]
    simp only [List.drop_length, List.flatten_nil, List.length_nil]
    rw [if_pos (by decide), if_pos trivial, if_pos trivial, if_pos (by rw [ByteArray.toList_eq]; rfl)]
    rfl
  | d + 1, i, hd, hi => by
    have hlt : i < R.length := by omega
    have ih := l1_ev at_ h0 h1 R hg hl W hW d (i + 1) (by omega) (by omega)
    have hgd : ∀ r ∈ R.drop i, Good r := fun r hr => hg r (List.mem_of_mem_drop hr)
    obtain ⟨hfl, hfb⟩ := good_flat (R.drop i) hgd
    rw [List.length_drop] at hfl
    refine Ev.step (f := fun k => tipstafflaw05_ReplyBack.l1 k at_ true R W (R.drop (i + 1)).flatten ((i + 1 : Nat) : Int)) (fun k => ?_) ih
    rw [tipstafflaw05_ReplyBack.l1, if_pos (by omega), take_f _ hfb (by omega), flat_drop R i hlt, rep_take (hg _ (List.getElem_mem hlt)).rep, Option.bind_some, if_pos rfl, if_pos (by omega), rdl_get R i hlt, if_pos rfl, wn i (by omega)]
theorem l0_ev (at_ : Int) (h0 : 0 ≤ at_) (h1 : at_ ≤ 65535) (R : List (List Int)) (hg : ∀ r ∈ R, Good r) (hl : R.length ≤ 42) : ∀ (d i : Nat), R.length - i = d → i ≤ R.length → Ev (fun k => tipstafflaw05_ReplyBack.l0 k at_ true R (R.take i).flatten i) true
  | 0, i, hd, hi => by
    obtain rfl : i = R.length := by omega
    obtain ⟨hfl, hfb⟩ := good_flat R hg
    have := l1_ev at_ h0 h1 R hg hl (arrL R) rfl R.length 0 (by omega) (by omega)
    refine Ev.step (f := fun k => tipstafflaw05_ReplyBack.l1 k at_ true R (arrL R) (R.drop 0).flatten ((0 : Nat) : Int)) (fun k => ?_) this
    rw [tipstafflaw05_ReplyBack.l0, if_neg (by omega)]
    unfold reply_Array.f arrF
    rw [if_pos ⟨List.all_eq_true.2 fun r hr => (hg r hr).byt, by omega, by omega⟩, Option.bind_some, List.take_of_length_le (Nat.le_refl _)]
    rfl
  | d + 1, i, hd, hi => by
    have hlt : i < R.length := by omega
    have ih := l0_ev at_ h0 h1 R hg hl d (i + 1) (by omega) (by omega)
    obtain ⟨hfl, _⟩ := good_flat (R.take i) (fun r hr => hg r (List.mem_of_mem_take hr))
    rw [List.length_take] at hfl
    have hil := (hg _ (List.getElem_mem hlt)).len
    refine Ev.step (f := fun k => tipstafflaw05_ReplyBack.l0 k at_ true R (R.take (i + 1)).flatten ((i + 1 : Nat) : Int)) (fun k => ?_) ih
    rw [tipstafflaw05_ReplyBack.l0, if_pos (by omega), if_pos (by omega), rdl_get R i hlt, if_pos (by omega), wn i (by omega), flat_take R i hlt]
theorem back (l : List ByteArray) (n at_ : Int) (hn : Int64 n) (h0 : 0 ≤ at_) (h1 : at_ ≤ 65535) : ∃ k, tipstafflaw05_ReplyBack.f k l n at_ = some true := by
  obtain ⟨R, hR, hg, hl⟩ := reps_ev (fewS l) n hn (fewS_len l) (fewS_size l)
  have h := l0_ev at_ h0 h1 R hg hl R.length 0 (by omega) (by omega)
  have e := Ev.bind (few_ev l) (f := fun k t168 => ((tipstafflaw05_replies.f k t168 n).bind fun t171 => (tipstafflaw05_ReplyBack.l0 k at_ true t171 (([] : List Int)) 0))) (Ev.bind hR (f := fun k t171 => tipstafflaw05_ReplyBack.l0 k at_ true t171 (([] : List Int)) 0) h)
  obtain ⟨k, hk⟩ := e.rounds
  exact ⟨k, hk⟩
theorem walk (A : Option Addr) (c : Nat) (l : List ByteArray) (n at_ : Int) (w : World) (hr : Kd.C Kd.string w A l.length l) (hc : l.length ≤ c) (hs : ∀ s ∈ l, s.size ≤ maxLen) (wn : (Lit.int .i64 n).wf = true) (wa : (Lit.int .u16 at_).wf = true) (hT : Tryz.Ln.Tabs w) :
    Calls Tryz.prog 5 #[.slice A l.length c, .int .i64 n, .int .u16 at_] w fun e w' => e = .returned (.bool true) ∧ Below w.heap.size w w' := by
  have h1 : -9223372036854775808 ≤ n ∧ n ≤ 9223372036854775807 := by simpa [Lit.wf, IntKind.min, IntKind.max, IntKind.signed, IntKind.bits] using wn
  have h2 : 0 ≤ at_ ∧ at_ ≤ 65535 := by simpa [Lit.wf, IntKind.min, IntKind.max, IntKind.signed, IntKind.bits] using wa
  obtain ⟨k, hk⟩ := back l n at_ h1 h2.1 h2.2
  exact Zb.tipstafflaw05_ReplyBack.calls k A c l n at_ true w hr hc hT hk
end Go.Proofs.YtefpcffompgceaaGreatDoor.PureBack
