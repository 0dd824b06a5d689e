import Derived.Test.YtefpcffompgceaaGreatDoorRel
import Derived.Test.YtefpcffompgceaaGreatDoorRef
import Derived.Test.YtefpcffompgceaaGreatDoorPureRef
import Derived.Test.YtefpcffompgceaaGreatDoorZt
import Derived.Test.YtefpcffompgceaaGreatDoorZe
/- What is read of the replies: the program's and the document's, by what they tell. -/
namespace Go.Proofs.Tryz.Ln
open Go Go.RowKit Go.Proofs.Mem Go.Proofs.App Go.Proofs.Tk
open Go.Proofs.YtefpcffompgceaaGreatDoorW.PrintWords
set_option linter.unusedVariables false
theorem rdB {P : Program} {f : FuncId} {args : Array Value} {l : List Int} {w : World} (hl : l.length ≤ 9223372036854775807) (h : Calls P f args w (Bytes_ l w)) : Calls P f args w fun e w' => ∃ x, e = .returned x ∧ (Rel.rd l).1 x w' ∧ Below w.heap.size w w' :=
  h.mono fun e w' ⟨A, c, he, hf, hb⟩ => ⟨_, he, ⟨A, _, c, rfl, hf.reads hl⟩, hb⟩
theorem rdV {P : Program} {f : FuncId} {args : Array Value} {r : List Int} {w : World} (h : Calls P f args w (VB w r)) : Calls P f args w fun e w' => ∃ x, e = .returned x ∧ (Rel.rd r).1 x w' ∧ Below w.heap.size w w' :=
  h.mono fun e w' ⟨v, he, hv, hb⟩ => by
    obtain ⟨A, c, rfl⟩ := Kd.V_slice hv
    exact ⟨_, he, ⟨A, _, c, rfl, reads_C (Kd.V_reads' hv).2.2⟩, hb⟩
theorem bytB_of {l : List Int} (h : Byt l) : BytB l = true := List.all_eq_true.2 fun x hx => by simpa using h x hx
theorem texts_go (ss : List ByteArray) (hn : ss.length ≤ 1000000) (hs : ∀ s ∈ ss, s.size ≤ 70368744177664) (hl : (bulks ss).flatten.length ≤ 70368744177664) : ∀ (d i : Nat), ss.length - i = d → i ≤ ss.length → Ev (fun k => Go.Proofs.YtefpcffompgceaaGreatDoor.Zt.tipstaffref05_Texts.l0 k ss (bulks (ss.take i)) i) (textsL ss)
  | 0, i, hd, hi => by
    obtain rfl : i = ss.length := by omega
    refine Ev.step (f := fun _ => some (textsL ss)) (fun k => ?_) (Ev.now _)
    rw [Go.Proofs.YtefpcffompgceaaGreatDoor.Zt.tipstaffref05_Texts.l0, if_neg (by omega), List.take_of_length_le (Nat.le_refl _)]
    unfold Go.Proofs.YtefpcffompgceaaGreatDoor.Zt.tipstaffref05_Array.f arrF
    rw [if_pos ⟨List.all_eq_true.2 fun r hr => by
      obtain ⟨s, hs, rfl⟩ := List.mem_map.1 hr
      exact bytB_of (byt_bulk s), by simp [bulks]; omega, hl⟩]
    rfl
  | d + 1, i, hd, hi => by
    have hlt : i < ss.length := by omega
    have ih := texts_go ss hn hs hl d (i + 1) (by omega) (by omega)
    have e : bulks (ss.take i) ++ [bulkL ss[i]] = bulks (ss.take (i + 1)) := by
      unfold bulks
      rw [List.take_succ_eq_append_getElem hlt, List.map_append]
      rfl
    have hw : wrap64 ((i : Int) + 1) = ((i + 1 : Nat) : Int) := by unfold wrap64; omega
    have hr : rdOf ByteArray.empty ss (i : Int) = ss[i] := by
      unfold rdOf
      rw [Int.toNat_natCast, List.getD_eq_getElem?_getD, List.getElem?_eq_getElem hlt]
      rfl
    have hb := hs _ (List.getElem_mem hlt)
    refine Ev.step (f := fun k => Go.Proofs.YtefpcffompgceaaGreatDoor.Zt.tipstaffref05_Texts.l0 k ss (bulks (ss.take (i + 1))) ((i + 1 : Nat) : Int)) (fun k => ?_) ih
    rw [Go.Proofs.YtefpcffompgceaaGreatDoor.Zt.tipstaffref05_Texts.l0, if_pos (by omega), if_pos (by omega), hr]
    unfold Go.Proofs.YtefpcffompgceaaGreatDoor.Zt.tipstaffref05_Bulk.f
    rw [if_pos hb, Option.bind_some, if_pos (by simp [bulks]; omega), hw, e]
theorem Y_Texts (A0 : Option Addr) (c0 : Nat) (l0 : List ByteArray) (r : List Int) (w : World) (hr0 : Kd.C Kd.string w A0 l0.length l0) (hc0 : l0.length ≤ c0) (h : textsF l0 = some r) :
    Calls Tryz.prog 25 #[.slice A0 l0.length c0] w (VB w r) := by
  unfold textsF at h
  split at h
  · rename_i hi
    injection h with h
    subst h
    obtain ⟨h1, h2, h3⟩ := hi
    obtain ⟨k, hk⟩ := (texts_go l0 h2 h1 h3 l0.length 0 (by omega) (by omega)).rounds
    exact Go.Proofs.YtefpcffompgceaaGreatDoor.Zt.tipstaffref05_Texts.calls k A0 c0 l0 (textsL l0) w hr0 hc0 hk
  · cases h
/-- what is taken, and what is behind it -/
def TkR (l : List Int) (w : World) (e : Ending) (w' : World) : Prop := ∃ A c B d, e = .returned (.tuple #[.slice A (takeS l).1.length c, .slice B (takeS l).2.1.length d, .bool (takeS l).2.2]) ∧ ReadsInt w' .u8 A (takeS l).1.length (takeS l).1 ∧ (takeS l).1.length ≤ c ∧ ReadsInt w' .u8 B (takeS l).2.1.length (takeS l).2.1 ∧ Below w.heap.size w w'
theorem tkR {w w' : World} {e : Ending} {l r1 r2 : List Int} {r3 : Bool} {v0 v1 : Value} {ok1 ok2 : Nat → Prop} (ht : takeS l = (r1, r2, r3)) (he : e = .returned (.tuple #[v0, v1, .bool r3])) (h0 : Kd.R (Kd.int .u8) 5 w' w.heap.size ok1 v0 r1) (h1 : Kd.R (Kd.int .u8) 5 w' w.heap.size ok2 v1 r2) (hb : Below w.heap.size w w') : TkR l w e w' := by
  obtain ⟨A, c, rfl⟩ := Kd.R_slice h0
  obtain ⟨B, d, rfl⟩ := Kd.R_slice h1
  unfold TkR
  rw [ht]
  exact ⟨A, c, B, d, he, reads_C (Kd.R_reads' h0).2.2, (Kd.R_reads' h0).2.1, reads_C (Kd.R_reads' h1).2.2, hb⟩
theorem take_any (A : Option Addr) (c : Nat) (l : List Int) (w : World) (hr : (Kd.int .u8).C w A l.length l) (hc : l.length ≤ c) (hT : Tabs w) (hb : BytB l = true) (hl : l.length ≤ 1000000) : Calls Tryz.prog 8 #[.slice A l.length c] w (TkR l w) := by
  obtain ⟨r1, r2, r3, ht⟩ : ∃ r1 r2 r3, takeS l = (r1, r2, r3) := ⟨_, _, _, rfl⟩
  exact (X_Take A c l r1 r2 r3 w hr hc hT (by unfold takeF; rw [if_pos ⟨hb, hl⟩, ht])).mono fun e w' ⟨v0, v1, he, h0, h1, hb⟩ => tkR ht he h0 h1 hb
theorem rtake_any (A : Option Addr) (c : Nat) (l : List Int) (w : World) (hr : (Kd.int .u8).C w A l.length l) (hc : l.length ≤ c) (hb : BytB l = true) (hl : l.length ≤ 1000000) : Calls Tryz.prog 11 #[.slice A l.length c] w (TkR l w) := by
  obtain ⟨r1, r2, r3, ht⟩ : ∃ r1 r2 r3, takeS l = (r1, r2, r3) := ⟨_, _, _, rfl⟩
  obtain ⟨k, hk⟩ := (Go.Proofs.YtefpcffompgceaaGreatDoor.PureRef.rtake_ev l (byt_of hb) hl).rounds
  rw [ht] at hk
  exact (Go.Proofs.YtefpcffompgceaaGreatDoor.Zr.tipstaffref05_Take.calls k A c l r1 r2 r3 w hr hc hk).mono fun e w' ⟨v0, v1, he, h0, h1, hb⟩ => tkR ht he h0 h1 hb
theorem take_n (A : Option Addr) (n c : Nat) (l : List Int) (w : World) (hn : l.length = n) (hr : ReadsInt w .u8 A n l) (hc : n ≤ c) (hT : Tabs w) (hb : BytB l = true) (hl : l.length ≤ 1000000) : Calls Tryz.prog 8 #[.slice A n c] w (TkR l w) := by
  subst hn
  exact take_any A c l w (C_reads hr) hc hT hb hl
/-- .. where it is known what it is -/
def Tk3 (r1 r2 : List Int) (r3 : Bool) (w : World) (e : Ending) (w' : World) : Prop := ∃ A c B d, e = .returned (.tuple #[.slice A r1.length c, .slice B r2.length d, .bool r3]) ∧ ReadsInt w' .u8 A r1.length r1 ∧ r1.length ≤ c ∧ ReadsInt w' .u8 B r2.length r2 ∧ Below w.heap.size w w'
theorem tk3 {f : FuncId} {args : Array Value} {x r1 r2 : List Int} {r3 : Bool} {w : World} (ht : takeS x = (r1, r2, r3)) (h : Calls Tryz.prog f args w (TkR x w)) : Calls Tryz.prog f args w (Tk3 r1 r2 r3 w) :=
  h.mono fun e w' ⟨A, c, B, d, he, h1, h0, h2, hb⟩ => by
    rw [ht] at he h1 h0 h2
    exact ⟨A, c, B, d, he, h1, h0, h2, hb⟩
def fewS (l : List ByteArray) : List ByteArray := (l.take 20).map shortS
theorem fewS_len (l : List ByteArray) : (fewS l).length ≤ 20 := by simp [fewS]; omega
theorem fewS_size (l : List ByteArray) : ∀ s ∈ fewS l, s.size ≤ 100 := fun s hs => by
  obtain ⟨x, _, rfl⟩ := List.mem_map.1 hs
  exact shortS_size x
theorem short_f (s : ByteArray) : Go.Proofs.YtefpcffompgceaaGreatDoor.Ze.tipstafflaw05_short.f s = some (shortS s) := by
  unfold Go.Proofs.YtefpcffompgceaaGreatDoor.Ze.tipstafflaw05_short.f shortS
  by_cases h : 100 < s.size
  · rw [if_pos (by omega), if_pos (by omega), if_pos (by omega), if_pos h]
  · rw [if_neg (by omega), if_neg h]
theorem few_go (l : List ByteArray) : ∀ (d i : Nat), min l.length 20 - i = d → i ≤ l.length → i ≤ 20 → Ev (fun k => Go.Proofs.YtefpcffompgceaaGreatDoor.Ze.tipstafflaw05_few.l0 k l ((l.take i).map shortS) i) (fewS l)
  | 0, i, hd, h1, h2 => by
    refine Ev.step (f := fun _ => some (fewS l)) (fun k => ?_) (Ev.now _)
    rw [Go.Proofs.YtefpcffompgceaaGreatDoor.Ze.tipstafflaw05_few.l0]
    by_cases h : i < l.length
    · obtain rfl : i = 20 := by omega
      rw [if_pos (by omega), if_neg (by omega)]; rfl
    · obtain rfl : i = l.length := by omega
      rw [if_neg (by omega)]
      congr 1
      unfold fewS
      rw [List.take_of_length_le (Nat.le_refl _), List.take_of_length_le h2]
  | d + 1, i, hd, h1, h2 => by
    have ih := few_go l d (i + 1) (by omega) (by omega) (by omega)
    have hw : wrap64 ((i : Int) + 1) = ((i + 1 : Nat) : Int) := by unfold wrap64; omega
    have hr : rdOf ByteArray.empty l (i : Int) = l[i]'(by omega) := by
      unfold rdOf
      rw [Int.toNat_natCast, List.getD_eq_getElem?_getD, List.getElem?_eq_getElem (by omega)]
      rfl
    refine Ev.step (f := fun k => Go.Proofs.YtefpcffompgceaaGreatDoor.Ze.tipstafflaw05_few.l0 k l ((l.take (i + 1)).map shortS) ((i + 1 : Nat) : Int)) (fun k => ?_) ih
    rw [Go.Proofs.YtefpcffompgceaaGreatDoor.Ze.tipstafflaw05_few.l0, if_pos (by omega), if_pos (by omega), if_pos (by omega), hr, short_f, Option.bind_some, if_pos (by simp; omega), hw, List.take_succ_eq_append_getElem (by omega), List.map_append]
    rfl
theorem few_any (A : Option Addr) (c : Nat) (l : List ByteArray) (w : World) (hr : Kd.C Kd.string w A l.length l) (hc : l.length ≤ c) :
    Calls Tryz.prog 10 #[.slice A l.length c] w fun e w' => ∃ FA fc, e = .returned (.slice FA (fewS l).length fc) ∧ Kd.C Kd.string w' FA (fewS l).length (fewS l) ∧ (fewS l).length ≤ fc ∧ Below w.heap.size w w' := by
  obtain ⟨k, hk⟩ := (few_go l _ 0 rfl (by omega) (by omega)).rounds
  refine (Go.Proofs.YtefpcffompgceaaGreatDoor.Ze.tipstafflaw05_few.calls k A c l (fewS l) w hr hc hk).mono ?_
  rintro e w' ⟨v, rfl, hv, hb⟩
  obtain ⟨FA, fc, rfl⟩ := Kd.R_slice hv
  exact ⟨FA, fc, rfl, (Kd.R_reads' hv).2.2, (Kd.R_reads' hv).2.1, hb⟩
end Go.Proofs.Tryz.Ln
