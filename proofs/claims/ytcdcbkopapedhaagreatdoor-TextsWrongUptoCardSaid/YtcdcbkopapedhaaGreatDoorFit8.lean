import Derived.Test.YtcdcbkopapedhaaGreatDoorSm
import Derived.Test.YtcdcbkopapedhaaGreatDoorZw
/- ref08.Fit: a request made to fit, told whole (no 'mset'). -/
namespace Go.Proofs.Tryz.Vl
open Go Go.RowKit Go.Proofs.Mem Go.Proofs.App
open Go.Proofs.YtcdcbkopapedhaaGreatDoorW.PrintWords Go.Proofs.YtcdcbkopapedhaaGreatDoorW.PrintLast Go.Proofs.YtcdcbkopapedhaaGreatDoorW.PrintMore
set_option linter.unusedVariables false
set_option linter.unusedSimpArgs false
def padL (L : Nat) (xs : List BA) : List BA := xs ++ List.replicate (L - xs.length) ⟨#[49]⟩
def cut20 (s : BA) : BA := s.extract 0 (mn (s.size : Int) 20).toNat
theorem cut20_size (s : BA) : (cut20 s).size ≤ 20 := by
  unfold cut20
  rw [ByteArray.size_extract]
  have : mn (s.size : Int) 20 ≤ 20 := by unfold mn; split <;> omega
  omega
def fit8 (n : BA) (a : Int) (l : List BA) : List BA := padL a.natAbs (n :: (l.take ((if a < 0 then 10 else a.natAbs) - 1)).map cut20)
theorem fit8_l1 (n : BA) (hn : ¬ n.toList = [109, 115, 101, 116]) (a g : Int) (L : Nat) (hL : L ≤ 10) : ∀ (d : Nat) (xs : List BA), L - xs.length = d → xs.length ≤ 1000 → Ev (fun k => Go.Proofs.YtcdcbkopapedhaaGreatDoor.Zw.tipstaffref08_Fit.l1 k xs L n a g) (padL L xs)
  | 0, xs, hd, hx => by
    have e : padL L xs = xs := by unfold padL; rw [hd]; simp
    rw [e]
    refine Ev.step (f := fun _ => some xs) (fun k => ?_) (Ev.now _)
    rw [Go.Proofs.YtcdcbkopapedhaaGreatDoor.Zw.tipstaffref08_Fit.l1, if_neg (by omega), if_neg hn]
  | d + 1, xs, hd, hx => by
    have ih := fit8_l1 n hn a g L hL d (xs ++ [⟨#[49]⟩]) (by simp; omega) (by simp; omega)
    have e : padL L (xs ++ [⟨#[49]⟩]) = padL L xs := by
      unfold padL
      rw [List.append_assoc]
      congr 1
      rw [show L - xs.length = (L - (xs ++ [(⟨#[49]⟩ : BA)]).length) + 1 by simp; omega, List.replicate_succ]
      rfl
    rw [e] at ih
    refine Ev.step (f := fun k => Go.Proofs.YtcdcbkopapedhaaGreatDoor.Zw.tipstaffref08_Fit.l1 k (xs ++ [⟨#[49]⟩]) L n a g) (fun k => ?_) ih
    rw [Go.Proofs.YtcdcbkopapedhaaGreatDoor.Zw.tipstaffref08_Fit.l1, if_pos (by omega), if_pos (by omega)]
theorem fit8_l0 (n : BA) (hn : ¬ n.toList = [109, 115, 101, 116]) (a g : Int) (L most : Nat) (hL : L ≤ 10) (h1 : 1 ≤ most) (h10 : most ≤ 10) (l : List BA) :
    ∀ (d q : Nat), min l.length (most - 1) - q = d → q ≤ min l.length (most - 1) → Ev (fun k => Go.Proofs.YtcdcbkopapedhaaGreatDoor.Zw.tipstaffref08_Fit.l0 k l (n :: (l.take q).map cut20) L most q n a g) (padL L (n :: (l.take (min l.length (most - 1))).map cut20))
  | 0, q, hd, hq => by
    obtain rfl : q = min l.length (most - 1) := by omega
    have hlen : ((n :: (l.take (min l.length (most - 1))).map cut20).length : Int) = (min l.length (most - 1) : Nat) + 1 := by simp
    have ih := fit8_l1 n hn a g L hL _ (n :: (l.take (min l.length (most - 1))).map cut20) rfl (by simp; omega)
    have ih2 : Ev (fun k => Go.Proofs.YtcdcbkopapedhaaGreatDoor.Zw.tipstaffref08_Fit.j2 k (n :: (l.take (min l.length (most - 1))).map cut20) L n a g) (padL L (n :: (l.take (min l.length (most - 1))).map cut20)) := Ev.step (fun k => by rw [Go.Proofs.YtcdcbkopapedhaaGreatDoor.Zw.tipstaffref08_Fit.j2]) ih
    refine Ev.step (fun k => ?_) ih2
    rw [Go.Proofs.YtcdcbkopapedhaaGreatDoor.Zw.tipstaffref08_Fit.l0]
    by_cases hA : ((min l.length (most - 1) : Nat) : Int) < (l.length : Int)
    · rw [if_pos hA, if_neg (by rw [hlen]; omega)]
    · rw [if_neg hA]
  | d + 1, q, hd, hq => by
    have hlt : q < l.length := by omega
    have ih := fit8_l0 n hn a g L most hL h1 h10 l d (q + 1) (by omega) (by omega)
    have e : (n :: (l.take q).map cut20) ++ [cut20 l[q]] = n :: (l.take (q + 1)).map cut20 := by
      rw [List.take_succ_eq_append_getElem hlt, List.map_append]
      rfl
    have hw : wrap64 ((q : Int) + 1) = ((q + 1 : Nat) : Int) := by unfold wrap64; omega
    have hr : rdOf ByteArray.empty l (q : Int) = l[q] := by
      unfold rdOf
      rw [Int.toNat_natCast, List.getD_eq_getElem?_getD, List.getElem?_eq_getElem hlt]
      rfl
    have hlen : ((n :: (l.take q).map cut20).length : Int) = q + 1 := by simp; omega
    have hm0 : 0 ≤ mn ((l[q]).size : Int) 20 := by unfold mn; split <;> omega
    have hm1 : mn ((l[q]).size : Int) 20 ≤ ((l[q]).size : Int) := by unfold mn; split <;> omega
    refine Ev.step (fun k => ?_) ih
    rw [Go.Proofs.YtcdcbkopapedhaaGreatDoor.Zw.tipstaffref08_Fit.l0, if_pos (by omega), if_pos (by rw [hlen]; omega), if_pos (by omega), hr, if_pos hm0, if_pos hm1, if_pos (by omega), hw]
    rw [← e]
    rfl
theorem fit8_f (id : Int) (n : BA) (a g : Int) (l : List BA) (hat : Go.Proofs.Tryz.Cmd.atF id = some (n, a, g, true)) (hn : ¬ n.toList = [109, 115, 101, 116]) (ha : a ≠ 0 ∧ -10 ≤ a ∧ a ≤ 10) : ∃ k, Go.Proofs.YtcdcbkopapedhaaGreatDoor.Zw.tipstaffref08_Fit.f k id l = some (fit8 n a l) := by
  obtain ⟨ha0, ha1, ha2⟩ := ha
  have hmx : mx a (wrap64 (-a)) = (a.natAbs : Int) := by
    have : wrap64 (-a) = -a := by unfold wrap64; omega
    rw [this]
    unfold mx
    split <;> omega
  have h := fit8_l0 n hn a g a.natAbs (if a < 0 then 10 else a.natAbs) (by omega) (by split <;> omega) (by split <;> omega) l _ 0 rfl (by omega)
  have e : n :: (l.take (min l.length ((if a < 0 then 10 else a.natAbs) - 1))).map cut20 = n :: (l.take ((if a < 0 then 10 else a.natAbs) - 1)).map cut20 := by
    congr 2
    rcases Nat.le_total l.length ((if a < 0 then 10 else a.natAbs) - 1) with h | h
    · rw [Nat.min_eq_left h, List.take_of_length_le (Nat.le_refl _), List.take_of_length_le h]
    · rw [Nat.min_eq_right h]
  rw [e] at h
  have h2 : Ev (fun k => Go.Proofs.YtcdcbkopapedhaaGreatDoor.Zw.tipstaffref08_Fit.j0 k l [n] a.natAbs (if a < 0 then 10 else a.natAbs : Nat) n a g) (fit8 n a l) := Ev.step (fun k => by rw [Go.Proofs.YtcdcbkopapedhaaGreatDoor.Zw.tipstaffref08_Fit.j0]; rfl) h
  obtain ⟨k, hk⟩ := h2.rounds
  refine ⟨k, ?_⟩
  unfold Go.Proofs.YtcdcbkopapedhaaGreatDoor.Zw.tipstaffref08_Fit.f Go.Proofs.YtcdcbkopapedhaaGreatDoor.Zw.tipstaffref07_At.f
  rw [hat]
  simp only [Option.bind_some, hmx]
  by_cases h0 : a < 0
  · rw [if_pos h0]
    rw [if_pos h0] at hk
    exact hk
  · rw [if_neg h0]
    rw [if_neg h0] at hk
    exact hk
theorem Fit8_any (id : Int) (n : BA) (a g : Int) (A : Option Addr) (c : Nat) (l : List BA) (w : World) (hat : Go.Proofs.Tryz.Cmd.atF id = some (n, a, g, true)) (hn : ¬ n.toList = [109, 115, 101, 116]) (ha : a ≠ 0 ∧ -10 ≤ a ∧ a ≤ 10) (hr : Kd.C Kd.string w A l.length l) (hc : l.length ≤ c) :
    Calls Tryz.prog 14 #[.int .i64 id, .slice A l.length c] w fun e w' => ∃ v, e = .returned v ∧ w'.ownsRow w.heap.size 9 1 v (fit8 n a l).length (encs Value.string (fit8 n a l)) ∧ Below w.heap.size w w' := by
  obtain ⟨k, hk⟩ := fit8_f id n a g l hat hn ha
  refine (Go.Proofs.YtcdcbkopapedhaaGreatDoor.Zw.tipstaffref08_Fit.calls k id A c l _ w hr hc hk).mono ?_
  rintro e w' ⟨v, rfl, hR, hb⟩
  exact ⟨v, rfl, Kd.own_of_R hR, hb⟩
/-- at least so many words, and the first is the name -/
theorem fit8_len (n : BA) (a : Int) (l : List BA) : a.natAbs ≤ (fit8 n a l).length ∧ 1 ≤ (fit8 n a l).length := by
  unfold fit8 padL
  simp only [List.length_append, List.length_cons, List.length_replicate]
  omega
theorem fit8_le (n : BA) (a : Int) (l : List BA) (ha : a ≠ 0 ∧ -10 ≤ a ∧ a ≤ 10) : (fit8 n a l).length ≤ 10 := by
  unfold fit8 padL
  simp only [List.length_append, List.length_cons, List.length_replicate, List.length_map, List.length_take]
  split <;> omega
theorem fit8_exact (n : BA) (a : Int) (l : List BA) (ha : 0 < a) : (fit8 n a l).length = a.natAbs := by
  unfold fit8 padL
  simp only [List.length_append, List.length_cons, List.length_replicate, List.length_map, List.length_take]
  rw [if_neg (by omega)]
  omega
theorem fit8_head (n : BA) (a : Int) (l : List BA) : (fit8 n a l)[0]? = some n := by
  unfold fit8 padL
  simp
theorem fit8_size (n : BA) (a : Int) (l : List BA) (hn : n.size ≤ 20) : ∀ s ∈ fit8 n a l, s.size ≤ 20 := by
  intro s hs
  unfold fit8 padL at hs
  simp only [List.cons_append, List.mem_cons, List.mem_append, List.mem_map, List.mem_replicate] at hs
  rcases hs with rfl | ⟨t, _, rfl⟩ | ⟨_, rfl⟩
  · exact hn
  · exact cut20_size t
  · decide
end Go.Proofs.Tryz.Vl
