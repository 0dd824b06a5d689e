import Derived.Test.YtnkjejmgpempkaaGreatDoorWrL
/- What a layer answers: in general. -/
namespace Go.Proofs.Tryz.Vl
open Go Go.RowKit Go.Proofs.Mem Go.Proofs.App
open Go.Proofs.YtnkjejmgpempkaaGreatDoorW.PrintWords Go.Proofs.YtnkjejmgpempkaaGreatDoorW.PrintLast
open Go.Proofs.Tryz.Ln (tR TR lineL bulkL bulks textsL arrL Tabs tabs_below WrongT lineL_len numS)
set_option linter.unusedVariables false
set_option linter.unusedSimpArgs false
theorem bytesOf_app (a b : ByteArray) : bytesOf (a ++ b) = bytesOf a ++ bytesOf b := by
  simp [bytesOf, ByteArray.data_append]
theorem line_head (c : UInt8) (s : BA) : (lineL ⟨#[c]⟩ s)[0]? = some (c.toNat : Int) := by
  unfold lineL
  rw [bytesOf_app, bytesOf_app]
  simp [bytesOf]
theorem line_ne (c : UInt8) (s : BA) : lineL ⟨#[c]⟩ s ≠ [] := fun h => by
  have := line_head c s
  rw [h] at this
  cases this
theorem bulk_head (s : BA) : (bulkL s)[0]? = some 36 := by
  unfold bulkL
  have h := line_head 36 (numS s.size)
  have h2 : 0 < (lineL ⟨#[36]⟩ (numS s.size)).length := List.length_pos_iff.2 (line_ne _ _)
  rw [List.getElem?_append_left h2, h]
  rfl
theorem texts_head (l : List BA) : (textsL l)[0]? = some 42 := by
  unfold textsL arrL
  have h := line_head 42 (numS (bulks l).length)
  have h2 : 0 < (lineL ⟨#[42]⟩ (numS (bulks l).length)).length := List.length_pos_iff.2 (line_ne _ _)
  rw [List.getElem?_append_left h2, h]
  rfl
theorem ne_of_head {r : List Int} {a : Int} (h : r[0]? = some a) : r ≠ [] := fun e => by rw [e] at h; cases h
theorem fitV_len (k : Int) (s : BA) (l : List BA) (h : List PR) (z : List MK) : (fitV k s l h z).l.length ≤ 1000 ∧ (fitV k s l h z).h.length ≤ 1000 ∧ (fitV k s l h z).z.length ≤ 1000 := by
  have t8 : ∀ {α : Type} (m : List α), (m.take 8).length ≤ 8 := fun m => by rw [List.length_take]; omega
  have h1 := putAll_len (putF id) (putF_len id) (l.take 8) (t8 l)
  have h2 := putAll_len (putF Prod.fst) (putF_len Prod.fst) (h.take 8) (t8 h)
  have h3 := putAll_len putM putM_len (z.take 8) (t8 z)
  have h4 := t8 l
  unfold fitV
  split
  · simp [vvText]
  split
  · unfold vvList; split
    · simp [zeroV]
    · exact ⟨by show (l.take 8).length ≤ _; omega, by simp, by simp⟩
  split
  · unfold vvSet; split
    · simp [zeroV]
    · exact ⟨h1, by simp, by simp⟩
  split
  · unfold vvHash; split
    · simp [zeroV]
    · exact ⟨by simp, h2, by simp⟩
  split
  · unfold vvSorted; split
    · simp [zeroV]
    · exact ⟨by simp, by simp, h3⟩
  simp [zeroV]
theorem fitV_two (k : Int) (s : BA) (l : List BA) (h : List PR) (z : List MK) : fitV k s l h z = zeroV ∨ fitV k s l h z = ⟨2, ⟨#[]⟩, l.take 8, [], []⟩ ∧ l.take 8 ≠ [] ∨ ((fitV k s l h z).k ≠ 0 ∧ (fitV k s l h z).k ≠ 2) := by
  unfold fitV
  split
  · exact .inr (.inr ⟨by simp [vvText], by simp [vvText]⟩)
  split
  · unfold vvList; split
    · exact .inl rfl
    · next hn => exact .inr (.inl ⟨rfl, hn⟩)
  split
  · unfold vvSet; split
    · exact .inl rfl
    · exact .inr (.inr ⟨by simp, by simp⟩)
  split
  · unfold vvHash; split
    · exact .inl rfl
    · exact .inr (.inr ⟨by simp, by simp⟩)
  split
  · unfold vvSorted; split
    · exact .inl rfl
    · exact .inr (.inr ⟨by simp, by simp⟩)
  exact .inl rfl
end Go.Proofs.Tryz.Vl
/- What layer 12 answers to any request: for the law of values of another type. -/
namespace Go.Proofs.Tryz.Vl
open Go Go.RowKit Go.Proofs.Mem Go.Proofs.App
open Go.Proofs.YtnkjejmgpempkaaGreatDoorW.PrintWords Go.Proofs.YtnkjejmgpempkaaGreatDoorW.PrintLast
open Go.Proofs.Tryz.Ln
set_option linter.unusedVariables false
set_option linter.unusedSimpArgs false
theorem dor_of_dres {g : Nat} {cs : Array Value} {v : VV} {r : List Int} {w : World} {e : Ending} {w' : World} (hv : IsVg g w cs v) (h : Dres cs r w e w') : DoR g cs v r True w e w' := by
  obtain ⟨A, n, c, he, hf, hb⟩ := h
  exact ⟨cs, A, n, c, he, hf, hv.below hb, fun _ => rfl, hb⟩
theorem dor_of_pres {g : Nat} {cs : Array Value} {L : List BA} {r : List Int} {w : World} {e : Ending} {w' : World} (hg : g < w.heap.size) (h : Pres L r w e w') : DoR g cs (vvList L) r False w e w' := by
  obtain ⟨v, A, n, c, he, ho, hf, hb⟩ := h
  refine ⟨lvS L v, A, n, c, he, hf, ?_, fun h => h.elim, hb⟩
  by_cases hL : L = []
  · subst hL
    exact ⟨nlv, nlv, nlv, rfl, gN_nil _ _, gN_nil _ _, gN_nil _ _⟩
  · rw [show vvList L = _ from if_neg hL, lvS_ne v hL]
    have ho' : w'.ownsRow w.heap.size 9 1 v L.length (scs L) := by rw [scs_encs]; exact ho
    exact ⟨v, nlv, nlv, rfl, gN_own ho' hg, gN_nil _ _, gN_nil _ _⟩
theorem tR_slice {w : World} {x : Value} {l : List BA} (h : tR w x l) : ∃ B c, x = .slice B l.length c := by
  obtain ⟨A, c, e, _⟩ := h.ex
  exact ⟨A, c, e⟩
theorem part_ok (n : Nat) (f t : Int) (hf : Int64 f) (ht : Int64 t) : ∃ a b : Nat, partA (n : Int) f t = (a : Int) ∧ partB (n : Int) f t = (b : Int) ∧ a ≤ b ∧ b ≤ n := by
  have h : 0 ≤ partA (n : Int) f t ∧ partA (n : Int) f t ≤ partB (n : Int) f t ∧ partB (n : Int) f t ≤ n := by
    unfold partA partB partF partT Go.Proofs.Tryz.Ln.mn Go.Proofs.Tryz.Ln.mx
    refine ⟨?_, ?_, ?_⟩ <;> (repeat' split) <;> omega
  exact ⟨(partA (n : Int) f t).toNat, (partB (n : Int) f t).toNat, by omega, by omega, by omega, by omega⟩
theorem vvList_len (L : List BA) (h : L.length ≤ 1000000) : (vvList L).l.length ≤ 1000000 ∧ (vvList L).h.length ≤ 1000000 ∧ (vvList L).z.length ≤ 1000000 := by
  unfold vvList
  split
  · simp [zeroV]
  · exact ⟨h, by simp, by simp⟩
theorem wrong_layer (v : VV) (M : List BA) (nm : BA) (hk0 : v.k ≠ 0) (hk2 : v.k ≠ 2) (hv : v.l.length ≤ 1000 ∧ v.h.length ≤ 1000 ∧ v.z.length ≤ 1000) (h1 : 1 ≤ M.length) (h0 : M[0]? = some nm) (hz : nm.size ≤ 1000) (hlow : lowS nm = nm)
    (hnm : nm = ⟨#[108, 112, 117, 115, 104]⟩ ∨ nm = ⟨#[114, 112, 117, 115, 104]⟩ ∨ nm = ⟨#[108, 112, 111, 112]⟩ ∨ nm = ⟨#[114, 112, 111, 112]⟩ ∨ nm = ⟨#[108, 108, 101, 110]⟩ ∨ nm = ⟨#[108, 114, 97, 110, 103, 101]⟩) : LayerOK 2 v M := by
  refine ⟨v, lineL ⟨#[45]⟩ WrongT, True, fun g w' x cs hg hcs hx hT => ?_, line_ne _ _, by rw [lineL_len]; decide +kernel, fun _ _ => ⟨trivial, rfl⟩, fun _ => trivial, fun _ => rfl, by omega, by omega, by omega⟩
  obtain ⟨B, c, rfl⟩ := tR_slice hx
  obtain ⟨xL, xH, xZ, rfl, g1, g2, g3⟩ := hcs.ex
  exact (do_wrong v.k v.s nm nm xL xH xZ M B c w' hk0 hk2 hcs.v.one hx h1 h0 hz hlow hnm).mono fun e w'' h => dor_of_dres hcs h
theorem push_layer (ahead : Bool) (v : VV) (M : List BA) (hv : v = zeroV ∨ ∃ l, v = ⟨2, ⟨#[]⟩, l, [], []⟩ ∧ l ≠ []) (hl : v.l.length ≤ 1000) (hM : M.length ≤ 1000) (h2 : 2 ≤ M.length) (h0 : M[0]? = some (pushN ahead)) (hlow : lowS (pushN ahead) = pushN ahead) : LayerOK 2 v M := by
  have hk : v.k = 0 ∨ v.k = 2 := by rcases hv with rfl | ⟨l, rfl, _⟩; exact .inl rfl; exact .inr rfl
  have hLl : (putL ahead v.l (M.drop 2)).length ≤ 2000 := by
    unfold putL
    split <;> simp <;> omega
  obtain ⟨b1, b2, b3⟩ := vvList_len (putL ahead v.l (M.drop 2)) (by omega)
  have hz := numS_size ((putL ahead v.l (M.drop 2)).length : Int) (by omega) (by omega)
  refine ⟨vvList (putL ahead v.l (M.drop 2)), lineL ⟨#[58]⟩ (numS ((putL ahead v.l (M.drop 2)).length : Int)), False, fun g w' x cs hg hcs hx hT => ?_, line_ne _ _, by rw [lineL_len]; show 1 + _ + 2 ≤ _; omega, fun h0 h2 => by rcases hk with h | h; exact absurd h h0; exact absurd h h2, fun h => by rw [line_head] at h; exact absurd h (by decide), fun h => h.elim, b1, b2, b3⟩
  obtain ⟨B, c, rfl⟩ := tR_slice hx
  obtain ⟨xL, xH, xZ, rfl, g1, g2, g3⟩ := hcs.ex
  exact (do_push ahead v.k v.s (pushN ahead) xL xH xZ v.l M B c w' hk (tR_of_gR g1.r) hx h2 h0 (by cases ahead <;> decide) hlow (by omega) hT).mono fun e w'' h => dor_of_pres hg h
theorem pop_layer (back : Bool) (v : VV) (M : List BA) (hv : v = zeroV ∨ ∃ l, v = ⟨2, ⟨#[]⟩, l, [], []⟩ ∧ l ≠ []) (hl : v.l.length ≤ 1000) (hs : sumS v.l ≤ 1048576) (h1 : 1 ≤ M.length) (h0 : M[0]? = some (popN back)) (hlow : lowS (popN back) = popN back) : LayerOK 2 v M := by
  rcases hv with rfl | ⟨l, rfl, hl0⟩
  · refine ⟨zeroV, lineL ⟨#[36]⟩ ⟨#[45, 49]⟩, True, fun g w' x cs hg hcs hx hT => ?_, line_ne _ _, by rw [lineL_len]; decide, fun h0 => absurd rfl h0, fun _ => trivial, fun _ => rfl, by decide, by decide, by decide⟩
    obtain ⟨B, c, rfl⟩ := tR_slice hx
    obtain ⟨xL, xH, xZ, rfl, g1, g2, g3⟩ := hcs.ex
    exact (do_popnil back ⟨#[]⟩ (popN back) xL xH xZ M B c w' (tR_of_gR g1.r) hx h1 h0 (by cases back <;> decide) hlow (gR_one g2.r) (gR_one g3.r) hT).mono fun e w'' h => dor_of_dres hcs h
  · have hp : popI back l < l.length := by
      have := List.length_pos_iff.2 hl0
      unfold popI
      split <;> omega
    obtain ⟨sx, hsx⟩ : ∃ sx, l[popI back l]? = some sx := ⟨_, List.getElem?_eq_getElem hp⟩
    have hz : sx.size ≤ 1048576 := Nat.le_trans (size_le (List.mem_of_getElem? hsx)) hs
    obtain ⟨b1, b2, b3⟩ := vvList_len (l.eraseIdx (popI back l)) (by rw [List.length_eraseIdx]; simp only at hl; split <;> omega)
    refine ⟨vvList (l.eraseIdx (popI back l)), bulkL sx, False, fun g w' x cs hg hcs hx hT => ?_, ne_of_head (bulk_head sx), Nat.le_trans (bulkL_le sx (by omega)) (by omega), fun _ h2 => absurd rfl h2, fun h => by rw [bulk_head] at h; exact absurd h (by decide), fun h => h.elim, b1, b2, b3⟩
    obtain ⟨B, c, rfl⟩ := tR_slice hx
    obtain ⟨xL, xH, xZ, rfl, g1, g2, g3⟩ := hcs.ex
    exact (do_pop back ⟨#[]⟩ (popN back) sx xL xH xZ l M B c w' (tR_of_gR g1.r) hx h1 h0 (by cases back <;> decide) hlow hsx (by simp only at hl; omega) (by omega) hT).mono fun e w'' h => dor_of_pres hg h
theorem llen_layer (v : VV) (M : List BA) (hk : v.k = 0 ∨ v.k = 2) (hv : v.l.length ≤ 1000 ∧ v.h.length ≤ 1000 ∧ v.z.length ≤ 1000) (h1 : 1 ≤ M.length) (h0 : M[0]? = some llenN) : LayerOK 2 v M := by
  have hz := numS_size (v.l.length : Int) (by omega) (by omega)
  refine ⟨v, lineL ⟨#[58]⟩ (numS (v.l.length : Int)), True, fun g w' x cs hg hcs hx hT => ?_, line_ne _ _, by rw [lineL_len]; show 1 + _ + 2 ≤ _; omega, fun h0 h2 => by rcases hk with h | h; exact absurd h h0; exact absurd h h2, fun _ => trivial, fun _ => rfl, by omega, by omega, by omega⟩
  obtain ⟨B, c, rfl⟩ := tR_slice hx
  obtain ⟨xL, xH, xZ, rfl, g1, g2, g3⟩ := hcs.ex
  exact (do_llen v.k v.s llenN xL xH xZ v.l M B c w' hk (tR_of_gR g1.r) hx h1 h0 (by decide) low_llen (by omega) (gR_one g2.r) (gR_one g3.r) hT).mono fun e w'' h => dor_of_dres hcs h
theorem lrange_layer (v : VV) (M : List BA) (hk : v.k = 0 ∨ v.k = 2) (hv : v.l.length ≤ 1000 ∧ v.h.length ≤ 1000 ∧ v.z.length ≤ 1000) (hs : sumS v.l ≤ 1048576) (h4 : 4 ≤ M.length) (h0 : M[0]? = some lrangeN) (hM : ∀ s ∈ M, s.size ≤ 20) : LayerOK 2 v M := by
  obtain ⟨fa, hfa⟩ : ∃ fa, M[2]? = some fa := ⟨_, List.getElem?_eq_getElem (by omega)⟩
  obtain ⟨fb, hfb⟩ : ∃ fb, M[3]? = some fb := ⟨_, List.getElem?_eq_getElem (by omega)⟩
  have hza := hM fa (List.mem_of_getElem? hfa)
  have hzb := hM fb (List.mem_of_getElem? hfb)
  have hno : v.k ≠ 0 → v.k ≠ 2 → False := fun h0 h2 => by rcases hk with h | h; exact absurd h h0; exact absurd h h2
  cases hpa : Dig.parseO fa with
  | none =>
    refine ⟨v, lineL ⟨#[45]⟩ NotIntT, True, fun g w' x cs hg hcs hx hT => ?_, line_ne _ _, by rw [lineL_len]; decide +kernel, fun h0 h2 => (hno h0 h2).elim, fun _ => trivial, fun _ => rfl, by omega, by omega, by omega⟩
    obtain ⟨B, c, rfl⟩ := tR_slice hx
    obtain ⟨xL, xH, xZ, rfl, g1, g2, g3⟩ := hcs.ex
    exact (do_lrange_bad v.k v.s lrangeN fa fb xL xH xZ v.l M B c w' hk (tR_of_gR g1.r) hx h4 h0 hfa hfb (by decide) low_lrange (by omega) (.inl hpa) (by omega) (by omega) (gR_one g2.r) (gR_one g3.r) hT).mono fun e w'' h => dor_of_dres hcs h
  | some f =>
    cases hpb : Dig.parseO fb with
    | none =>
      refine ⟨v, lineL ⟨#[45]⟩ NotIntT, True, fun g w' x cs hg hcs hx hT => ?_, line_ne _ _, by rw [lineL_len]; decide +kernel, fun h0 h2 => (hno h0 h2).elim, fun _ => trivial, fun _ => rfl, by omega, by omega, by omega⟩
      obtain ⟨B, c, rfl⟩ := tR_slice hx
      obtain ⟨xL, xH, xZ, rfl, g1, g2, g3⟩ := hcs.ex
      exact (do_lrange_bad v.k v.s lrangeN fa fb xL xH xZ v.l M B c w' hk (tR_of_gR g1.r) hx h4 h0 hfa hfb (by decide) low_lrange (by omega) (.inr hpb) (by omega) (by omega) (gR_one g2.r) (gR_one g3.r) hT).mono fun e w'' h => dor_of_dres hcs h
    | some t =>
      have hf : Int64 f := (Dig.parse_some hpa).1
      have ht : Int64 t := (Dig.parse_some hpb).1
      obtain ⟨a, b, hA, hB, hab, hbl⟩ := part_ok v.l.length f t hf ht
      have hlen : ((v.l.take b).drop a).length ≤ 1000 := by rw [List.length_drop, List.length_take]; omega
      have hsum : sumS ((v.l.take b).drop a) ≤ 1048576 := Nat.le_trans (sumS_drop _ _) (Nat.le_trans (sumS_take _ _) hs)
      obtain ⟨h1, h2, _, _⟩ := texts_ok ((v.l.take b).drop a) hsum hlen
      have hbk := bulks_le ((v.l.take b).drop a) (by omega)
      have hz := numS_size ((bulks ((v.l.take b).drop a)).length : Int) (by omega) (by simp [bulks]; omega)
      refine ⟨v, textsL ((v.l.take b).drop a), True, fun g w' x cs hg hcs hx hT => ?_, ne_of_head (texts_head _), ?_, fun h0 h2 => (hno h0 h2).elim, fun _ => trivial, fun _ => rfl, by omega, by omega, by omega⟩
      · obtain ⟨B, c, rfl⟩ := tR_slice hx
        obtain ⟨xL, xH, xZ, rfl, g1, g2, g3⟩ := hcs.ex
        exact (do_lrange v.k f t v.s lrangeN fa fb xL xH xZ v.l M B c a b w' hk (tR_of_gR g1.r) hx h4 h0 hfa hfb (by decide) low_lrange (by omega) hpa hpb hf ht (by omega) (by omega) hA hB hab hbl h1 h2 (gR_one g2.r) (gR_one g3.r) hT).mono fun e w'' h => dor_of_dres hcs h
      · unfold textsL arrL
        rw [List.length_append, lineL_len]
        show 1 + _ + 2 + _ ≤ _
        omega
/-- the layer, at all its six commands -/
theorem lists_layer (k : Int) (s : BA) (l : List BA) (h : List PR) (z : List MK) (hs : sumS l ≤ 1048576) (q : Int) (hq : 0 ≤ q ∧ q < 6) (ws : List BA) :
    ∃ nm ar cg, Go.Proofs.Tryz.Cmd.atF (9 + q) = some (nm, ar, cg, true) ∧ ¬ nm.toList = [109, 115, 101, 116] ∧ (ar ≠ 0 ∧ -10 ≤ ar ∧ ar ≤ 10) ∧ LayerOK 2 (fitV k s l h z) (fit8 nm ar ws) := by
  have hlen := fitV_len k s l h z
  have h2 := fitV_two k s l h z
  generalize fitV k s l h z = v at hlen h2
  have hsv : v = zeroV ∨ (∃ l, v = ⟨2, ⟨#[]⟩, l, [], []⟩ ∧ l ≠ []) → sumS v.l ≤ 1048576 := by
    intro h
    rcases h2 with rfl | ⟨rfl, _⟩ | ⟨h0, hk2⟩
    · decide
    · exact Nat.le_trans (sumS_take _ _) hs
    · rcases h with rfl | ⟨l, rfl, _⟩
      · decide
      · exact absurd rfl hk2
  have hcase : (v.k ≠ 0 ∧ v.k ≠ 2) ∨ (v = zeroV ∨ ∃ l, v = ⟨2, ⟨#[]⟩, l, [], []⟩ ∧ l ≠ []) := by
    rcases h2 with h | ⟨h, hn⟩ | h
    · exact .inr (.inl h)
    · exact .inr (.inr ⟨_, h, hn⟩)
    · exact .inl h
  have hkk : (v = zeroV ∨ ∃ l, v = ⟨2, ⟨#[]⟩, l, [], []⟩ ∧ l ≠ []) → v.k = 0 ∨ v.k = 2 := by
    rintro (rfl | ⟨l, rfl, _⟩)
    · exact .inl rfl
    · exact .inr rfl
  have go : ∀ (nm : BA) (ar cg : Int), Go.Proofs.Tryz.Cmd.atF (9 + q) = some (nm, ar, cg, true) → ¬ nm.toList = [109, 115, 101, 116] → (ar ≠ 0 ∧ -10 ≤ ar ∧ ar ≤ 10) → nm.size ≤ 20 → lowS nm = nm → (nm = ⟨#[108, 112, 117, 115, 104]⟩ ∨ nm = ⟨#[114, 112, 117, 115, 104]⟩ ∨ nm = ⟨#[108, 112, 111, 112]⟩ ∨ nm = ⟨#[114, 112, 111, 112]⟩ ∨ nm = ⟨#[108, 108, 101, 110]⟩ ∨ nm = ⟨#[108, 114, 97, 110, 103, 101]⟩) →
      ((v = zeroV ∨ ∃ l, v = ⟨2, ⟨#[]⟩, l, [], []⟩ ∧ l ≠ []) → LayerOK 2 v (fit8 nm ar ws)) → ∃ nm ar cg, Go.Proofs.Tryz.Cmd.atF (9 + q) = some (nm, ar, cg, true) ∧ ¬ nm.toList = [109, 115, 101, 116] ∧ (ar ≠ 0 ∧ -10 ≤ ar ∧ ar ≤ 10) ∧ LayerOK 2 v (fit8 nm ar ws) := by
    intro nm ar cg h1 h2 h3 hz hlow hnm hgood
    refine ⟨nm, ar, cg, h1, h2, h3, ?_⟩
    rcases hcase with ⟨hk0, hk2⟩ | hc
    · exact wrong_layer v _ nm hk0 hk2 hlen (fit8_len nm ar ws).2 (fit8_head nm ar ws) (by omega) hlow hnm
    · exact hgood hc
  obtain ⟨qn, rfl⟩ : ∃ qn : Nat, q = (qn : Int) := ⟨q.toNat, by omega⟩
  have hqn : qn < 6 := by omega
  have lem : ∀ nm ar, (ar ≠ 0 ∧ -10 ≤ ar ∧ ar ≤ 10) → (fit8 nm ar ws).length ≤ 1000 := fun nm ar har => Nat.le_trans (fit8_le nm ar ws har) (by decide)
  match qn, hqn with
  | 0, _ => exact go (pushN true) (-3) 18 (by decide +kernel) (by decide +kernel) (by decide) (by decide) low_lpush (.inl rfl) (fun hc => push_layer true v _ hc (by omega) (lem _ _ (by decide)) (by have := (fit8_len (pushN true) (-3) ws).1; omega) (fit8_head _ _ _) low_lpush)
  | 1, _ => exact go (pushN false) (-3) 18 (by decide +kernel) (by decide +kernel) (by decide) (by decide) low_rpush (.inr (.inl rfl)) (fun hc => push_layer false v _ hc (by omega) (lem _ _ (by decide)) (by have := (fit8_len (pushN false) (-3) ws).1; omega) (fit8_head _ _ _) low_rpush)
  | 2, _ => exact go (popN false) 2 18 (by decide +kernel) (by decide +kernel) (by decide) (by decide) low_lpop (.inr (.inr (.inl rfl))) (fun hc => pop_layer false v _ hc (by omega) (hsv hc) (fit8_len _ _ _).2 (fit8_head _ _ _) low_lpop)
  | 3, _ => exact go (popN true) 2 18 (by decide +kernel) (by decide +kernel) (by decide) (by decide) low_rpop (.inr (.inr (.inr (.inl rfl)))) (fun hc => pop_layer true v _ hc (by omega) (hsv hc) (fit8_len _ _ _).2 (fit8_head _ _ _) low_rpop)
  | 4, _ => exact go llenN 2 17 (by decide +kernel) (by decide +kernel) (by decide) (by decide) low_llen (.inr (.inr (.inr (.inr (.inl rfl))))) (fun hc => llen_layer v _ (hkk hc) hlen (fit8_len _ _ _).2 (fit8_head _ _ _))
  | 5, _ => exact go lrangeN 4 17 (by decide +kernel) (by decide +kernel) (by decide) (by decide) low_lrange (.inr (.inr (.inr (.inr (.inr rfl))))) (fun hc => lrange_layer v _ (hkk hc) hlen (hsv hc) (by have := (fit8_len lrangeN 4 ws).1; omega) (fit8_head _ _ _) (fit8_size _ _ _ (by decide)))
  | n + 6, h => exact absurd h (by omega)
end Go.Proofs.Tryz.Vl
/- ListsWrong, as its row wants it. -/
namespace Go.Proofs.Tryz.Vl
open Go Go.RowKit Go.Proofs.Mem Go.Proofs.App
open Go.Proofs.YtnkjejmgpempkaaGreatDoorW.PrintWords Go.Proofs.YtnkjejmgpempkaaGreatDoorW.PrintLast
open Go.Proofs.Tryz.Ln (Tabs sumS)
set_option linter.unusedVariables false
theorem lists_wrong_walk (k : Int) (s : BA) (x y u : Value) (l : List BA) (e : List PR) (z : List MK) (q : Int) (A : Option Addr) (cap : Nat) (ws : List BA) (W : World) (hk : 0 ≤ k ∧ k ≤ 255) (gl : gR W x l.length (scs l)) (ge : gR W y e.length (pcs e)) (gz : gR W u z.length (mcs z)) (hb : (l.map (·.size)).sum + l.length ≤ 1048576)
    (hq : (Lit.int .u8 q).wf = true) (hw : Kd.C Kd.string W A ws.length ws) (hc : ws.length ≤ cap) (hbw : (ws.map (·.size)).sum + ws.length ≤ 1048576) (hT : Tabs W) :
    Calls Tryz.prog 3 #[.agg #[.int .u8 k, .string s, x, y, u], .int .u8 q, .slice A ws.length cap] W fun e w' => e = .returned (.bool true) ∧ Below W.heap.size W w' := by
  simp only [Lit.wf, Bool.and_eq_true, decide_eq_true_eq] at hq
  have hq' : 0 ≤ q ∧ q ≤ 255 := hq
  obtain ⟨nm, ar, cg, h1, h2, h3, h4⟩ := lists_layer k s l e z (Nat.le_trans (Nat.le_add_right _ l.length) hb) (q % 6) ⟨Int.emod_nonneg _ (by decide), Int.emod_lt_of_pos _ (by decide)⟩ ws
  obtain ⟨v1, v2, v3⟩ := fitV_len k s l e z
  exact ListsWrong_any k s x y u l e z q A cap ws W hk gl ge gz hq' hw hc _ rfl ⟨by omega, by omega, by omega⟩ nm ar cg h1 h2 h3 h4 hT
end Go.Proofs.Tryz.Vl
