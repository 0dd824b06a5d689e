import Derived.Test.YtnlmdijpbedefaaGreatDoorRel
import Derived.Test.YtnlmdijpbedefaaGreatDoorLs14
import Derived.Test.YtnlmdijpbedefaaGreatDoorZt
/- What is read of the document's replies. -/
namespace Go.Proofs.Tryz.Ln
open Go Go.RowKit Go.Proofs.Mem Go.Proofs.App
open Go.Proofs.YtnlmdijpbedefaaGreatDoorW.PrintWords
set_option linter.unusedVariables false
theorem rdB {P : Program} {f : FuncId} {args : Array Value} {l : List Int} {w : World} (hl : l.length ≤ 9223372036854775807) (h : Calls P f args w (Bytes_ l w)) : Calls P f args w fun e w' => ∃ x, e = .returned x ∧ (Rel.rd l).1 x w' ∧ Below w.heap.size w w' :=
  h.mono fun e w' ⟨A, c, he, hf, hb⟩ => ⟨_, he, ⟨A, _, c, rfl, hf.reads hl⟩, hb⟩
theorem rdV {P : Program} {f : FuncId} {args : Array Value} {r : List Int} {w : World} (h : Calls P f args w (VB w r)) : Calls P f args w fun e w' => ∃ x, e = .returned x ∧ (Rel.rd r).1 x w' ∧ Below w.heap.size w w' :=
  h.mono fun e w' ⟨v, he, hv, hb⟩ => by
    obtain ⟨A, c, rfl⟩ := Kd.V_slice hv
    exact ⟨_, he, ⟨A, _, c, rfl, reads_C (Kd.V_reads' hv).2.2⟩, hb⟩
theorem bytB_of {l : List Int} (h : Byt l) : BytB l = true := List.all_eq_true.2 fun x hx => by simpa using h x hx
theorem texts_go (ss : List ByteArray) (hn : ss.length ≤ 1000000) (hs : ∀ s ∈ ss, s.size ≤ 70368744177664) (hl : (bulks ss).flatten.length ≤ 70368744177664) : ∀ (d i : Nat), ss.length - i = d → i ≤ ss.length → Ev (fun k => Go.Proofs.YtnlmdijpbedefaaGreatDoor.Zt.tipstaffref05_Texts.l0 k ss (bulks (ss.take i)) i) (textsL ss)
  | 0, i, hd, hi => by
    obtain rfl : i = ss.length := by omega
    refine Ev.step (f := fun _ => some (textsL ss)) (fun k => ?_) (Ev.now _)
    rw [Go.Proofs.YtnlmdijpbedefaaGreatDoor.Zt.tipstaffref05_Texts.l0, if_neg (by omega), List.take_of_length_le (Nat.le_refl _)]
    unfold Go.Proofs.YtnlmdijpbedefaaGreatDoor.Zt.tipstaffref05_Array.f arrF
    rw [if_pos ⟨List.all_eq_true.2 fun r hr => by
      obtain ⟨s, hs, rfl⟩ := List.mem_map.1 hr
      exact bytB_of (byt_bulk s), by simp [bulks]; omega, hl⟩]
    rfl
  | d + 1, i, hd, hi => by
    have hlt : i < ss.length := by omega
    have ih := texts_go ss hn hs hl d (i + 1) (by omega) (by omega)
    have e : bulks (ss.take i) ++ [bulkL ss[i]] = bulks (ss.take (i + 1)) := by
      unfold bulks
      rw [List.take_succ_eq_append_getElem hlt, List.map_append]
      rfl
    have hw : wrap64 ((i : Int) + 1) = ((i + 1 : Nat) : Int) := by unfold wrap64; omega
    have hr : rdOf ByteArray.empty ss (i : Int) = ss[i] := by
      unfold rdOf
      rw [Int.toNat_natCast, List.getD_eq_getElem?_getD, List.getElem?_eq_getElem hlt]
      rfl
    have hb := hs _ (List.getElem_mem hlt)
    refine Ev.step (f := fun k => Go.Proofs.YtnlmdijpbedefaaGreatDoor.Zt.tipstaffref05_Texts.l0 k ss (bulks (ss.take (i + 1))) ((i + 1 : Nat) : Int)) (fun k => ?_) ih
    rw [Go.Proofs.YtnlmdijpbedefaaGreatDoor.Zt.tipstaffref05_Texts.l0, if_pos (by omega), if_pos (by omega), hr]
    unfold Go.Proofs.YtnlmdijpbedefaaGreatDoor.Zt.tipstaffref05_Bulk.f
    rw [if_pos hb, Option.bind_some, if_pos (by simp [bulks]; omega), hw, e]
theorem Y_Texts (A0 : Option Addr) (c0 : Nat) (l0 : List ByteArray) (r : List Int) (w : World) (hr0 : Kd.C Kd.string w A0 l0.length l0) (hc0 : l0.length ≤ c0) (h : textsF l0 = some r) :
    Calls Tryz.prog 13 #[.slice A0 l0.length c0] w (VB w r) := by
  unfold textsF at h
  split at h
  · rename_i hi
    injection h with h
    subst h
    obtain ⟨h1, h2, h3⟩ := hi
    obtain ⟨k, hk⟩ := (texts_go l0 h2 h1 h3 l0.length 0 (by omega) (by omega)).rounds
    exact Go.Proofs.YtnlmdijpbedefaaGreatDoor.Zt.tipstaffref05_Texts.calls k A0 c0 l0 (textsL l0) w hr0 hc0 hk
  · cases h
end Go.Proofs.Tryz.Ln
