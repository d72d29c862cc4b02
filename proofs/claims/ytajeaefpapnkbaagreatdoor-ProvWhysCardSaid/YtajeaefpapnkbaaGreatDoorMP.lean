import Derived.Test.YtajeaefpapnkbaaGreatDoorMS
import Derived.Test.YtajeaefpapnkbaaGreatDoorMF2
import Derived.Test.YtajeaefpapnkbaaGreatDoorMF
/- Plain facts under ProvWhys: what the reference's small functions answer, by rounds. -/
namespace Go.Proofs.YtajeaefpapnkbaaGreatDoor.P
open Go.RowKit Go.Proofs.YtajeaefpapnkbaaGreatDoorW.PrintWords Go.Proofs.YtajeaefpapnkbaaGreatDoorW.PrintLast Go.Proofs.YtajeaefpapnkbaaGreatDoorW.PrintMore
theorem awake_ev : Ev (fun k => firnlaw09_Awake.f k) true := Ev.of (fun k => firnlaw09_Awake.mono k) (k := 60) (by kernel_rfl)
theorem long_l0 (l : List S37) (hl : l.length ≤ 140737488351232) (d : Nat) : ∀ i, i ≤ l.length → l.length - i = d → ∃ b, Ev (fun k => firnlaw09_Long.l0 k l l (l.length : Int) (i : Int)) b := by
  induction d with
  | zero =>
    intro i hi hd
    refine ⟨decide ((l.length : Int) > 100), Ev.step (f := fun _ => some (decide ((l.length : Int) > 100))) (fun k => ?_) (Ev.now _)⟩
    simp only [firnlaw09_Long.l0]
    rw [if_neg (by omega)]
  | succ d ih =>
    intro i hi hd
    have hlt : i < l.length := by omega
    by_cases hb : (((rd_T37 l (i : Int)).f0).size : Int) > 100
    · refine ⟨true, Ev.step (f := fun _ => some true) (fun k => ?_) (Ev.now _)⟩
      simp only [firnlaw09_Long.l0]
      rw [if_pos (by omega), if_pos (by omega), if_pos (by omega), if_pos hb]
    · obtain ⟨b, h⟩ := ih (i + 1) (by omega) (by omega)
      refine ⟨b, Ev.step (fun k => ?_) h⟩
      simp only [firnlaw09_Long.l0]
      rw [if_pos (by omega), if_pos (by omega), if_pos (by omega), if_neg hb, wrap_up hlt hl]
theorem long_ev (l : List S37) (hl : l.length ≤ 140737488351232) : ∃ b, Ev (fun k => firnlaw09_Long.f k l) b := long_l0 l hl l.length 0 (by omega) (by omega)
theorem sameTexts_ev (xs : List ByteArray) (hl : xs.length ≤ 140737488351232) : Ev (fun k => firnref09_SameTexts.f k xs xs) true := by
  have main : ∀ d i, i ≤ xs.length → xs.length - i = d → Ev (fun k => firnref09_SameTexts.l0 k xs xs (xs.length : Int) (i : Int)) true := by
    intro d
    induction d with
    | zero =>
      intro i hi hd
      refine Ev.step (f := fun _ => some true) (fun k => ?_) (Ev.now _)
      simp only [firnref09_SameTexts.l0]
      rw [if_neg (by omega)]
    | succ d ih =>
      intro i hi hd
      have hlt : i < xs.length := by omega
      refine Ev.step (fun k => ?_) (ih (i + 1) (by omega) (by omega))
      simp only [firnref09_SameTexts.l0]
      rw [if_pos (by omega), if_pos (by omega), if_pos (by omega), if_pos (by omega), if_pos trivial, wrap_up hlt hl]
  refine Ev.congr (fun k => ?_) (main xs.length 0 (by omega) (by omega))
  unfold firnref09_SameTexts.f
  rw [if_pos rfl]
  rfl
theorem sameSums_ev (xs : List S37) (hl : xs.length ≤ 140737488351232) : Ev (fun k => firnref09_SameSums.f k xs xs) true := by
  have main : ∀ d i, i ≤ xs.length → xs.length - i = d → Ev (fun k => firnref09_SameSums.l0 k xs xs (xs.length : Int) (i : Int)) true := by
    intro d
    induction d with
    | zero =>
      intro i hi hd
      refine Ev.step (f := fun _ => some true) (fun k => ?_) (Ev.now _)
      simp only [firnref09_SameSums.l0]
      rw [if_neg (by omega)]
    | succ d ih =>
      intro i hi hd
      have hlt : i < xs.length := by omega
      refine Ev.step (fun k => ?_) (ih (i + 1) (by omega) (by omega))
      simp only [firnref09_SameSums.l0]
      rw [if_pos (by omega), if_pos (by omega), if_pos (by omega), if_pos (by omega), if_neg (by simp), wrap_up hlt hl]
  refine Ev.congr (fun k => ?_) (main xs.length 0 (by omega) (by omega))
  unfold firnref09_SameSums.f
  rw [if_pos rfl]
  rfl
theorem has_take {s : ByteArray} {q : Nat} (hq : q < s.size) (t : UInt8) : ((s.data.toList.take (q + 1)).any (· == t)) = ((s.data.toList.take q).any (· == t) || (s[q] == t)) := inTo_succ s t hq
theorem spared_l1 (t : UInt8) (l acc r : List S37) (hl : l.length ≤ 5000000000000) (hacc : acc.length ≤ l.length) (i : Nat) (hi : i < l.length) (x : S37) (hx : x.f0.size ≤ 140737488351232)
    (h1 : hasB t x = true → Ev (fun k => firnref09_spared.l0 k (t.toNat : Int) acc l (l.length : Int) ((i + 1 : Nat) : Int)) r) (h2 : hasB t x = false → Ev (fun k => firnref09_spared.l0 k (t.toNat : Int) (acc ++ [x]) l (l.length : Int) ((i + 1 : Nat) : Int)) r) (d : Nat) :
    ∀ q, q ≤ x.f0.size → x.f0.size - q = d → Ev (fun k => firnref09_spared.l1 k (t.toNat : Int) acc (inTo x.f0 q t) l (l.length : Int) (i : Int) (x.f0.size : Int) (q : Int) x.f0 x.f1) r := by
  induction d with
  | zero =>
    intro q hq hd
    obtain rfl : q = x.f0.size := by omega
    rw [inTo_all]
    have hh : inB x.f0 t = hasB t x := rfl
    rw [hh]
    cases hin : hasB t x with
    | true =>
      refine Ev.step (fun k => ?_) (h1 hin)
      simp only [firnref09_spared.l1]
      rw [if_neg (by omega), if_pos trivial, wrap_up hi (by omega)]
    | false =>
      refine Ev.step (fun k => ?_) (h2 hin)
      simp only [firnref09_spared.l1]
      rw [if_neg (by omega), if_neg (by simp), if_pos (by omega), wrap_up hi (by omega)]
  | succ d ih =>
    intro q hq hd
    have hlt : q < x.f0.size := by omega
    have hbl : q < x.f0.data.toList.length := by rw [← ByteArray_size]; exact hlt
    have hbq : bt x.f0 (q : Int) = (x.f0[q].toNat : Int) := by rw [bt_lt x.f0 hlt, getD_lt 0 hbl]; simp [ByteArray.getElem_eq_getElem_data]
    have hs := inTo_succ x.f0 t hlt
    cases hin : inTo x.f0 q t with
    | true =>
      rw [hin, Bool.true_or] at hs
      refine Ev.step (fun k => ?_) (ih (q + 1) (by omega) (by omega))
      simp only [firnref09_spared.l1]
      rw [if_pos (by omega), if_pos trivial, wrap_up hlt hx, hs]
    | false =>
      rw [hin, Bool.false_or] at hs
      refine Ev.step (fun k => ?_) (ih (q + 1) (by omega) (by omega))
      simp only [firnref09_spared.l1]
      have he : (((x.f0[q].toNat : Int)) == (t.toNat : Int)) = (x.f0[q] == t) := by
        rw [Bool.eq_iff_iff]
        simp [← UInt8.toNat_inj]
        omega
      rw [if_pos (by omega), if_neg (by simp), if_pos (by omega), if_pos (by omega), wrap_up hlt hx, hs, hbq, he]
theorem spared_ev (t : UInt8) (l : List S37) (hl : l.length ≤ 5000000000000) (hs : ∀ x ∈ l, x.f0.size ≤ 140737488351232) : Ev (fun k => firnref09_spared.f k l (t.toNat : Int)) (l.filter fun x => !hasB t x) := by
  have main : ∀ d i, i ≤ l.length → l.length - i = d → Ev (fun k => firnref09_spared.l0 k (t.toNat : Int) ((l.take i).filter fun x => !hasB t x) l (l.length : Int) (i : Int)) (l.filter fun x => !hasB t x) := by
    intro d
    induction d with
    | zero =>
      intro i hi hd
      obtain rfl : i = l.length := by omega
      rw [List.take_of_length_le (Nat.le_refl _)]
      refine Ev.step (f := fun _ => some (l.filter fun x => !hasB t x)) (fun k => ?_) (Ev.now _)
      simp only [firnref09_spared.l0]
      rw [if_neg (by omega)]
    | succ d ih =>
      intro i hi hd
      have hlt : i < l.length := by omega
      have hacc : ((l.take i).filter fun x => !hasB t x).length ≤ l.length := by
        refine Nat.le_trans (List.length_filter_le _ _) ?_
        rw [List.length_take]; omega
      have hf := filter_step (hasB t) l hlt z37
      have hn := ih (i + 1) (by omega) (by omega)
      rw [hf] at hn
      have hx : rd_T37 l (i : Int) = l.getD i z37 := rfl
      refine Ev.step (fun k => ?_) (spared_l1 t l ((l.take i).filter fun x => !hasB t x) _ hl hacc i hlt (l.getD i z37) (hs _ (getD_mem _ hlt)) (fun h => ?_) (fun h => ?_) (l.getD i z37).f0.size 0 (by omega) (by omega))
      · simp only [firnref09_spared.l0]
        rw [if_pos (by omega), if_pos (by omega), if_pos (by omega), hx]
        rfl
      · rw [h] at hn; exact hn
      · rw [h] at hn; exact hn
  exact main l.length 0 (by omega) (by omega)
theorem isTokens_ev (s : ByteArray) (hs : s.size ≤ 140737488351232) : Ev (fun k => firnref09_isTokens.f k s) (tokB s) :=
  Ev.of (fun k => firnref09_isTokens.mono _ k) (isTokens_l0 s hs s.size (s.size + 1) 0 (Nat.zero_le _) rfl (Nat.lt_succ_self _) rfl)
theorem any_contains (l : List UInt8) (c : UInt8) : (l.any fun x => x == c) = l.contains c := by
  rw [Bool.eq_iff_iff, List.any_eq_true]
  simp
theorem tok_one {t : ByteArray} (h : t.size = 1) : tokB t = isTokB t := by
  obtain ⟨c, rfl, hc⟩ := one_byte h
  have hb : bt ⟨#[c]⟩ 0 = (c.toNat : Int) := by
    have := bt_lt ⟨#[c]⟩ (i := 0) (by rw [h]; omega)
    rw [hc] at this
    exact this
  have e1 : tokB ⟨#[c]⟩ = (decide (97 ≤ c.toNat) && decide (c.toNat < 105)) := by
    unfold tokB tokTo tokAt
    rw [h]
    simp [List.range_succ, hb]
    rw [Bool.eq_iff_iff]
    simp
    omega
  have e2 : isTokB ⟨#[c]⟩ = (decide (97 ≤ c.toNat) && decide (c.toNat < 105)) := by
    unfold isTokB tokC
    rw [hc, ← cs_contains, ← any_contains, h]
    rfl
  rw [e1, e2]
theorem isToken_ev (t : ByteArray) : Ev (fun k => firnref09_IsToken.f k t) (isTokB t) := by
  by_cases h : t.size = 1
  · rw [← tok_one h]
    refine Ev.congr (fun k => ?_) ((isTokens_ev t (by omega)).bind (f := fun _ b => some b) (Ev.now _))
    unfold firnref09_IsToken.f
    rw [if_pos (by omega)]
  · have e : isTokB t = false := by unfold isTokB; rw [beq_eq_false_iff_ne.2 h]; rfl
    rw [e]
    refine Ev.congr (fun k => ?_) (Ev.now false)
    unfold firnref09_IsToken.f
    rw [if_neg (by omega)]
end Go.Proofs.YtajeaefpapnkbaaGreatDoor.P
/- The least sets of the program and those of the reference are the same lists. -/
namespace Go.Proofs.YtajeaefpapnkbaaGreatDoor.P
open Go.RowKit Go.Proofs.YtajeaefpapnkbaaGreatDoorW.PrintWords Go.Proofs.YtajeaefpapnkbaaGreatDoorW.PrintLast Go.Proofs.YtajeaefpapnkbaaGreatDoorW.PrintMore
theorem cb_less : ∀ a b : List UInt8, Lib.compareBytes a b < 0 → Op.bytesLess a b = true
  | [], [] => fun h => by simp [Lib.compareBytes] at h
  | [], _ :: _ => fun _ => rfl
  | _ :: _, [] => fun h => by simp [Lib.compareBytes] at h
  | a :: x, b :: y => fun h => by
    simp only [Lib.compareBytes] at h
    simp only [Op.bytesLess]
    by_cases h1 : a < b
    · simp [h1]
    · rw [if_neg h1] at h
      by_cases h2 : b < a
      · rw [if_pos h2] at h; omega
      · rw [if_neg h2] at h
        have h3 : a = b := by rw [UInt8.lt_iff_toNat_lt] at *; exact UInt8.toNat_inj.1 (by omega)
        simp [h3, cb_less x y h]
/-- What the least sets of a valid sum are. -/
structure Least (l : List S37) (ss : List ByteArray) : Prop where
  len : ss.length ≤ 40
  emp : (ss.length = 0) = (l.length = 0)
  ord : ∀ i, 0 < i → i < ss.length → (ss.getD (i - 1) ByteArray.empty).size ≤ (ss.getD i ByteArray.empty).size ∧ ((ss.getD i ByteArray.empty).size = (ss.getD (i - 1) ByteArray.empty).size → Op.bytesLess (ss.getD (i - 1) ByteArray.empty).toList (ss.getD i ByteArray.empty).toList = true)
  apart : ∀ i j, i < ss.length → j < ss.length → i ≠ j → subB (ss.getD i ByteArray.empty) (ss.getD j ByteArray.empty) = false
  src : ∀ i, i < ss.length → ∃ j, j < l.length ∧ subB (ss.getD i ByteArray.empty) (l.getD j z37).f0 = true ∧ subB (l.getD j z37).f0 (ss.getD i ByteArray.empty) = true
  cov : ∀ j, j < l.length → ∃ i, i < ss.length ∧ subB (ss.getD i ByteArray.empty) (l.getD j z37).f0 = true
  size : ∀ i, i < ss.length → (ss.getD i ByteArray.empty).size ≤ 140737488351232
  lsize : ∀ j, j < l.length → (l.getD j z37).f0.size ≤ 140737488351232
  llen : l.length ≤ 40
theorem least_of {l : List S37} (h : validB l = true) : Least l (whyOf l) := by
  have hl := validB_len h
  have hmem : ∀ a ∈ whyOf l, ∃ x ∈ l, a = onceB x.f0 := fun a ha => by
    rcases foldMin_mem _ _ _ ha with h1 | h1
    · exact absurd h1 List.not_mem_nil
    · have h2 := (srtS_perm _).mem_iff.1 h1
      unfold setsOf at h2
      rw [List.mem_map] at h2
      obtain ⟨x, hx, rfl⟩ := h2
      exact ⟨x, hx, rfl⟩
  have hlen : (whyOf l).length ≤ l.length := by
    have := foldMin_len (srtS (setsOf l)) []
    rw [(srtS_perm _).length_eq] at this
    unfold setsOf at this
    rw [List.length_map] at this
    simp at this
    exact this
  have hsrt : (whyOf l).Pairwise fun a b => leS a b = true := fold_sorted _ [] (by simpa using srtS_sorted (setsOf l))
  have hap : (whyOf l).Pairwise fun a b => subB a b = false := fold_apart _ [] List.Pairwise.nil
  have hcov : ∀ j, j < l.length → ∃ i, i < (whyOf l).length ∧ subB ((whyOf l).getD i ByteArray.empty) (l.getD j z37).f0 = true := fun j hj => by
    have h1 : onceB (l.getD j z37).f0 ∈ srtS (setsOf l) := by
      rw [(srtS_perm _).mem_iff]
      unfold setsOf
      rw [List.mem_map]
      exact ⟨_, getD_mem _ hj, rfl⟩
    have hx : ∃ b ∈ whyOf l, subB b (onceB (l.getD j z37).f0) = true := fold_cov _ [] _ h1
    obtain ⟨b, hb, hs⟩ := hx
    obtain ⟨i, hi, rfl⟩ := List.getElem_of_mem hb
    refine ⟨i, hi, ?_⟩
    rw [getD_lt _ hi]
    exact subB_trans hs ((subB_iff _ _).2 fun c hc => onceB_mem hc)
  have hle : ∀ i j, i < j → j < (whyOf l).length → leS ((whyOf l).getD i ByteArray.empty) ((whyOf l).getD j ByteArray.empty) = true ∧ subB ((whyOf l).getD i ByteArray.empty) ((whyOf l).getD j ByteArray.empty) = false := fun i j hij hj => by
    rw [getD_lt _ (by omega), getD_lt _ hj]
    exact ⟨List.pairwise_iff_getElem.1 hsrt i j (by omega) hj hij, List.pairwise_iff_getElem.1 hap i j (by omega) hj hij⟩
  have hnd : ∀ i, i < (whyOf l).length → ((whyOf l).getD i ByteArray.empty).data.toList.Nodup ∧ ((whyOf l).getD i ByteArray.empty).size ≤ 12 := fun i hi => by
    obtain ⟨x, hx, e⟩ := hmem _ (getD_mem ByteArray.empty hi)
    rw [e]
    have := prodB_tok (validB_mem h x hx)
    exact ⟨once_nodup this, Nat.le_trans (onceB_size _) (tokB_ascii this).2⟩
  have hsz : ∀ {a b : ByteArray}, leS a b = true → a.size ≤ b.size ∧ (b.size = a.size → cmpS a b ≤ 0) := fun {a b} hab => by
    unfold leS at hab
    rw [decide_eq_true_eq] at hab
    refine ⟨?_, fun _ => hab⟩
    unfold cmpS at hab
    split at hab <;> omega
  refine ⟨by omega, ?_, ?_, ?_, ?_, hcov, fun i hi => by have := (hnd i hi).2; omega, fun j hj => by have := (tokB_ascii (prodB_tok (validB_mem h _ (getD_mem z37 hj)))).2; omega, hl⟩
  · apply propext
    constructor
    · intro h0
      apply Classical.byContradiction
      intro hn
      obtain ⟨i, hi, _⟩ := hcov 0 (by omega)
      omega
    · intro h0; omega
  · intro i h0 hi
    obtain ⟨h1, h2⟩ := hle (i - 1) i (by omega) hi
    refine ⟨(hsz h1).1, fun he => ?_⟩
    have h3 := (hsz h1).2 he
    have hne : cmpS ((whyOf l).getD (i - 1) ByteArray.empty) ((whyOf l).getD i ByteArray.empty) ≠ 0 := fun h0 => by
      have := cmpS_zero h0
      rw [this, subB_self] at h2
      cases h2
    unfold cmpS at h3 hne
    rw [if_pos he.symm] at h3 hne
    rw [toList_data, toList_data]
    exact cb_less _ _ (by omega)
  · intro i j hi hj hne
    rcases Nat.lt_or_gt_of_ne hne with hlt | hgt
    · exact (hle i j hlt hj).2
    · obtain ⟨h1, h2⟩ := hle j i hgt hi
      cases hs : subB ((whyOf l).getD i ByteArray.empty) ((whyOf l).getD j ByteArray.empty) with
      | false => rfl
      | true =>
        have := nodup_sub_back (hnd i hi).1 ((subB_iff _ _).1 hs) (by rw [← ByteArray_size, ← ByteArray_size]; exact (hsz h1).1)
        rw [(subB_iff _ _).2 this] at h2
        cases h2
  · intro i hi
    obtain ⟨x, hx, e⟩ := hmem _ (getD_mem ByteArray.empty hi)
    obtain ⟨j, hj, rfl⟩ := List.getElem_of_mem hx
    refine ⟨j, hj, ?_⟩
    rw [e, getD_lt _ hj]
    exact ⟨(subB_iff _ _).2 fun c hc => onceB_mem hc, (subB_iff _ _).2 fun c hc => once_cover _ c hc⟩
theorem bl_irrefl (a : List UInt8) : Op.bytesLess a a = false := by
  have h := less_or_eq a a
  cases hb : Op.bytesLess a a with
  | false => rfl
  | true => rw [hb] at h; simp at h
theorem bl_iff (a b : List UInt8) : Op.bytesLess a b = true ↔ Lib.compareBytes a b < 0 := by
  constructor
  · intro h
    have hf := cb_flip a b
    rcases Int.lt_trichotomy (Lib.compareBytes a b) 0 with h1 | h1 | h1
    · exact h1
    · have := cb_zero a b h1
      subst this
      rw [bl_irrefl] at h
      cases h
    · have h2 := cb_less b a (by omega)
      have h3 := less_or_eq a b
      rw [h, h2] at h3
      simp at h3
  · exact cb_less a b
theorem bl_cmp {a b : ByteArray} (h : a.size = b.size) : Op.bytesLess a.toList b.toList = true ↔ cmpS a b < 0 := by
  rw [toList_data, toList_data, bl_iff]
  unfold cmpS
  rw [if_pos h]
theorem leS_iff (a b : ByteArray) : leS a b = true ↔ cmpS a b ≤ 0 := by unfold leS; rw [decide_eq_true_eq]
theorem leS_size {a b : ByteArray} (h : a.size < b.size) : leS a b = true := by
  rw [leS_iff]
  unfold cmpS
  rw [if_neg (by omega)]
  omega
theorem insS_perm (ss : List ByteArray) (y : ByteArray) : (insS ss y).Perm (y :: ss) := by
  unfold insS
  have h := List.perm_middle (a := y) (l₁ := ss.take (insAt ss y)) (l₂ := ss.drop (insAt ss y))
  rw [List.take_append_drop] at h
  exact h
theorem insS_sorted {n : Nat} {ss : List ByteArray} {y : ByteArray} (hs : ss.Pairwise fun a b => leS a b = true) (hz : ∀ x ∈ ss, x.size = n) (hy : y.size = n) : (insS ss y).Pairwise fun a b => leS a b = true := by
  have hbefore : ∀ x ∈ ss.take (insAt ss y), leS x y = true := by
    intro x hx
    obtain ⟨j, hj, rfl⟩ := List.getElem_of_mem hx
    rw [List.length_take] at hj
    rw [List.getElem_take]
    have hb : Op.bytesLess (ss[j]).toList y.toList = true := by
      have := List.not_of_lt_findIdx (show j < ss.findIdx (fun x => !Op.bytesLess x.toList y.toList) by unfold insAt at hj; omega)
      simpa using this
    have := (bl_cmp (by rw [hz _ (List.getElem_mem _), hy])).1 hb
    rw [leS_iff]; omega
  have hbehind : ∀ z ∈ ss.drop (insAt ss y), leS y z = true := by
    intro z hz2
    obtain ⟨j, hj, rfl⟩ := List.getElem_of_mem hz2
    rw [List.length_drop] at hj
    rw [List.getElem_drop]
    have hlt : insAt ss y < ss.length := by omega
    have hf : leS y ss[insAt ss y] = true := by
      have h1 := List.findIdx_getElem (p := fun x => !Op.bytesLess x.toList y.toList) (xs := ss) (w := (show ss.findIdx (fun x => !Op.bytesLess x.toList y.toList) < ss.length from hlt))
      have h2 : ¬ Op.bytesLess (ss[insAt ss y]).toList y.toList = true := by
        have h3 : (!Op.bytesLess (ss[insAt ss y]).toList y.toList) = true := h1
        simpa using h3
      rw [bl_cmp (by rw [hz _ (List.getElem_mem _), hy])] at h2
      have := cmpS_flip y ss[insAt ss y]
      rw [leS_iff]; omega
    rcases Nat.eq_zero_or_pos j with rfl | h0
    · exact hf
    · exact leS_trans _ _ _ hf (List.pairwise_iff_getElem.1 hs _ _ _ _ (by omega))
  unfold insS
  rw [List.pairwise_append]
  refine ⟨hs.sublist (List.take_sublist _ _), ?_, ?_⟩
  · rw [List.singleton_append, List.pairwise_cons]
    exact ⟨hbehind, hs.sublist (List.drop_sublist _ _)⟩
  · intro x hx z hz2
    rw [List.singleton_append, List.mem_cons] at hz2
    rcases hz2 with rfl | hz2
    · exact hbefore x hx
    · exact leS_trans _ _ _ (hbefore x hx) (hbehind z hz2)
theorem leastB_iff (out same : List ByteArray) (n : Nat) (y : ByteArray) : leastB out same n y = true ↔ (y.size = n ∧ ∀ t ∈ out, subB t y = false) ∧ y ∉ same := by
  unfold leastB
  rw [Bool.and_eq_true, Bool.and_eq_true, decide_eq_true_eq, List.all_eq_true, List.all_eq_true]
  constructor
  · rintro ⟨⟨h1, h2⟩, h3⟩
    refine ⟨⟨h1, fun t ht => by simpa using h2 t ht⟩, fun hm => ?_⟩
    have := h3 y hm
    simp at this
  · rintro ⟨⟨h1, h2⟩, h3⟩
    refine ⟨⟨h1, fun t ht => by rw [h2 t ht]; rfl⟩, fun t ht => ?_⟩
    have : t ≠ y := fun e => h3 (e ▸ ht)
    simp [this]
theorem foldR_all (out : List ByteArray) (n : Nat) : ∀ (L same : List ByteArray), (∀ x ∈ same, x.size = n) → (same.Pairwise fun a b => leS a b = true) → same.Nodup →
    (∀ x ∈ L.foldl (stepR out n) same, x.size = n) ∧ ((L.foldl (stepR out n) same).Pairwise fun a b => leS a b = true) ∧ (L.foldl (stepR out n) same).Nodup ∧ ∀ x, x ∈ L.foldl (stepR out n) same ↔ (x ∈ same ∨ (x ∈ L ∧ x.size = n ∧ ∀ t ∈ out, subB t x = false))
  | [], same, h1, h2, h3 => ⟨h1, h2, h3, fun x => by simp⟩
  | y :: L, same, h1, h2, h3 => by
    rw [List.foldl_cons]
    cases hl : leastB out same n y with
    | true =>
      obtain ⟨⟨hy1, hy2⟩, hy3⟩ := (leastB_iff _ _ _ _).1 hl
      have e : stepR out n same y = insS same y := by unfold stepR; rw [hl]; rfl
      rw [e]
      have ih := foldR_all out n L (insS same y) (fun x hx => (insS_mem.1 hx).elim (fun h => h ▸ hy1) (h1 x)) (insS_sorted h2 h1 hy1) ((insS_perm same y).nodup_iff.2 (List.nodup_cons.2 ⟨hy3, h3⟩))
      refine ⟨ih.1, ih.2.1, ih.2.2.1, fun x => ?_⟩
      rw [ih.2.2.2 x, insS_mem, List.mem_cons]
      constructor
      · rintro ((rfl | h) | h)
        · exact .inr ⟨.inl rfl, hy1, hy2⟩
        · exact .inl h
        · exact .inr ⟨.inr h.1, h.2⟩
      · rintro (h | ⟨rfl | h, hr⟩)
        · exact .inl (.inr h)
        · exact .inl (.inl rfl)
        · exact .inr ⟨h, hr⟩
    | false =>
      have e : stepR out n same y = same := by unfold stepR; rw [hl]; rfl
      rw [e]
      have ih := foldR_all out n L same h1 h2 h3
      refine ⟨ih.1, ih.2.1, ih.2.2.1, fun x => ?_⟩
      rw [ih.2.2.2 x, List.mem_cons]
      constructor
      · rintro (h | h)
        · exact .inl h
        · exact .inr ⟨.inr h.1, h.2⟩
      · rintro (h | ⟨rfl | h, hr⟩)
        · exact .inl h
        · refine .inl ?_
          apply Classical.byContradiction
          intro hn
          rw [(leastB_iff _ _ _ _).2 ⟨hr, hn⟩] at hl
          cases hl
        · exact .inr ⟨h, hr⟩
/-- A set of the sum of which no other one is a part. -/
def MinS (l : List S37) (a : ByteArray) : Prop := a ∈ setsOf l ∧ ∀ b ∈ setsOf l, subB b a = true → b = a
theorem sets_facts {l : List S37} (h : validB l = true) : ∀ a ∈ setsOf l, a.data.toList.Nodup ∧ a.size ≤ 8 := by
  intro a ha
  unfold setsOf at ha
  obtain ⟨x, hx, rfl⟩ := List.mem_map.1 ha
  have ht := prodB_tok (validB_mem h x hx)
  have hnd := once_nodup ht
  refine ⟨hnd, ?_⟩
  rw [ByteArray_size]
  refine nodup_sub_len (Y := [97, 98, 99, 100, 101, 102, 103, 104]) hnd fun c hc => ?_
  have hc2 := onceB_mem hc
  obtain ⟨j, hj, rfl⟩ := mem_at hc2
  have hjl : j < x.f0.data.toList.length := by rw [← ByteArray_size]; exact hj
  have hT : tokAt x.f0 j = true := by
    unfold tokB at ht
    rw [Bool.and_eq_true] at ht
    exact tokTo_ge ht.1 hj
  unfold tokAt at hT
  rw [Bool.and_eq_true, Bool.and_eq_true, decide_eq_true_eq, decide_eq_true_eq, bt_lt x.f0 hj, getD_lt 0 hjl] at hT
  have hcs := cs_contains (x.f0[j])
  have e : (x.f0.data.toList[j]).toNat = (x.f0[j]).toNat := by simp [ByteArray.getElem_eq_getElem_data]
  rw [e] at hT
  have h1 : (decide (97 ≤ (x.f0[j]).toNat) && decide ((x.f0[j]).toNat < 105)) = true := by
    rw [Bool.and_eq_true, decide_eq_true_eq, decide_eq_true_eq]; omega
  rw [h1] at hcs
  exact List.contains_iff_mem.1 hcs
theorem once_asc {s : ByteArray} (h : tokB s = true) : (onceB s).data.toList.Pairwise fun a b => a ≤ b := by
  rw [once_list, List.pairwise_map]
  refine (runs_rise h).imp_of_mem ?_
  intro a b ha hb hlt
  have hr : ∀ n ∈ runsB s, 0 ≤ n ∧ n ≤ 255 := fun n hn => by
    have := runsB_mem hn
    unfold bytesOf at this
    obtain ⟨c, _, rfl⟩ := List.mem_map.1 this
    have := c.toNat_lt
    omega
  have h1 := hr a ha
  have h2 := hr b hb
  rw [UInt8.le_iff_toNat_le, UInt8.toNat_ofNat', UInt8.toNat_ofNat']
  omega
theorem sets_ext {l : List S37} (h : validB l = true) {a b : ByteArray} (ha : a ∈ setsOf l) (hb : b ∈ setsOf l) (h1 : subB a b = true) (h2 : subB b a = true) : a = b := by
  have na := (sets_facts h a ha).1
  have nb := (sets_facts h b hb).1
  have asc : ∀ c ∈ setsOf l, c.data.toList.Pairwise fun a b => a ≤ b := by
    intro c hc
    unfold setsOf at hc
    obtain ⟨x, hx, rfl⟩ := List.mem_map.1 hc
    exact once_asc (prodB_tok (validB_mem h x hx))
  apply ba_ext
  refine List.Perm.eq_of_pairwise (fun x y _ _ hxy hyx => ?_) (asc a ha) (asc b hb) ((List.perm_ext_iff_of_nodup na nb).2 fun c => ⟨(subB_iff _ _).1 h1 c, (subB_iff _ _).1 h2 c⟩)
  rw [UInt8.le_iff_toNat_le] at hxy hyx
  exact UInt8.toNat_inj.1 (by omega)
theorem why_sub {l : List S37} : ∀ a ∈ whyOf l, a ∈ setsOf l := by
  intro a ha
  rcases foldMin_mem _ _ _ ha with h1 | h1
  · exact absurd h1 List.not_mem_nil
  · exact (srtS_perm _).mem_iff.1 h1
theorem why_cov {l : List S37} {b : ByteArray} (hb : b ∈ setsOf l) : ∃ c ∈ whyOf l, subB c b = true :=
  fold_cov _ [] b ((srtS_perm _).mem_iff.2 hb)
theorem why_min {l : List S37} (h : validB l = true) (a : ByteArray) : a ∈ whyOf l ↔ MinS l a := by
  constructor
  · intro ha
    refine ⟨why_sub a ha, fun b hb hs => ?_⟩
    obtain ⟨c, hc, hcb⟩ := why_cov hb
    have hca := subB_trans hcb hs
    have hce : c = a := by
      obtain ⟨i, hi, e1⟩ := List.getElem_of_mem hc
      obtain ⟨j, hj, e2⟩ := List.getElem_of_mem ha
      apply Classical.byContradiction
      intro hne
      have hij : i ≠ j := by rintro rfl; exact hne (e1.symm.trans e2)
      have := (least_of h).apart i j hi hj hij
      rw [getD_lt _ hi, getD_lt _ hj, e1, e2, hca] at this
      cases this
    subst hce
    exact sets_ext h hb (why_sub _ hc) hs hcb
  · rintro ⟨ha, hm⟩
    obtain ⟨c, hc, hca⟩ := why_cov ha
    rw [← hm c (why_sub c hc) hca]
    exact hc
theorem sub_len {l : List S37} (h : validB l = true) {a b : ByteArray} (ha : a ∈ setsOf l) (hs : subB a b = true) : a.size ≤ b.size := by
  rw [ByteArray_size, ByteArray_size]
  exact nodup_sub_len (sets_facts h a ha).1 ((subB_iff _ _).1 hs)
theorem sub_full {l : List S37} (h : validB l = true) {a b : ByteArray} (ha : a ∈ setsOf l) (hs : subB a b = true) (hl : b.size ≤ a.size) : subB b a = true :=
  (subB_iff _ _).2 (nodup_sub_back (sets_facts h a ha).1 ((subB_iff _ _).1 hs) (by rw [← ByteArray_size, ← ByteArray_size]; exact hl))
theorem whyR_all {l : List S37} (h : validB l = true) : ∀ n, (∀ x ∈ whyR l n, x.size < n) ∧ ((whyR l n).Pairwise fun a b => leS a b = true) ∧ (whyR l n).Nodup ∧ ∀ a, a ∈ whyR l n ↔ (MinS l a ∧ a.size < n)
  | 0 => ⟨fun x hx => absurd hx List.not_mem_nil, List.Pairwise.nil, List.Pairwise.nil, fun a => ⟨fun hx => absurd hx List.not_mem_nil, fun hx => absurd hx.2 (Nat.not_lt_zero _)⟩⟩
  | n + 1 => by
    obtain ⟨i1, i2, i3, i4⟩ := whyR_all h n
    obtain ⟨s1, s2, s3, s4⟩ := foldR_all (whyR l n) n (setsOf l) [] (fun x hx => absurd hx List.not_mem_nil) List.Pairwise.nil List.Pairwise.nil
    have s1 : ∀ x ∈ sizeR l (whyR l n) n, x.size = n := s1
    have s2 : (sizeR l (whyR l n) n).Pairwise fun a b => leS a b = true := s2
    have s3 : (sizeR l (whyR l n) n).Nodup := s3
    have s4 : ∀ x, x ∈ sizeR l (whyR l n) n ↔ (x ∈ ([] : List ByteArray) ∨ (x ∈ setsOf l ∧ x.size = n ∧ ∀ t ∈ whyR l n, subB t x = false)) := s4
    rw [whyR_succ]
    refine ⟨fun x hx => ?_, ?_, ?_, fun a => ?_⟩
    · rcases List.mem_append.1 hx with hx | hx
      · have := i1 x hx; omega
      · have := s1 x hx; omega
    · rw [List.pairwise_append]
      exact ⟨i2, s2, fun x hx y hy => leS_size (by have := i1 x hx; have := s1 y hy; omega)⟩
    · rw [List.nodup_append]
      exact ⟨i3, s3, fun x hx y hy e => by have h5 := i1 x hx; have h6 := s1 y hy; rw [← e] at h6; omega⟩
    · rw [List.mem_append, i4, s4]
      constructor
      · rintro (⟨hm, hl⟩ | hn | ⟨ha, hz, hno⟩)
        · exact ⟨hm, by omega⟩
        · exact absurd hn List.not_mem_nil
        · refine ⟨⟨ha, fun b hb hs => ?_⟩, by omega⟩
          have hle := sub_len h hb hs
          rcases Nat.lt_or_ge b.size a.size with hlt | hge
          · exfalso
            obtain ⟨c, hc, hcb⟩ := why_cov hb
            have hcm := (why_min h c).1 hc
            have hcl := sub_len h hcm.1 hcb
            have := hno c ((i4 c).2 ⟨hcm, by omega⟩)
            rw [subB_trans hcb hs] at this
            cases this
          · exact sets_ext h hb ha hs (sub_full h hb hs hge)
      · rintro ⟨hm, hl⟩
        rcases Nat.lt_or_ge a.size n with hlt | hge
        · exact .inl ⟨hm, hlt⟩
        · refine .inr (.inr ⟨hm.1, by omega, fun t ht => ?_⟩)
          cases hs : subB t a with
          | false => rfl
          | true =>
            obtain ⟨htm, htl⟩ := (i4 t).1 ht
            have := hm.2 t htm.1 hs
            rw [this] at htl
            omega
theorem why_eq {l : List S37} (h : validB l = true) : whyR l 9 = whyOf l := by
  obtain ⟨_, r2, r3, r4⟩ := whyR_all h 9
  have hap : (whyOf l).Pairwise fun a b => subB a b = false := fold_apart _ [] List.Pairwise.nil
  have hnd : (whyOf l).Nodup := hap.imp fun {a b} hs e => by rw [e, subB_self] at hs; cases hs
  have hsrt : (whyOf l).Pairwise fun a b => leS a b = true := fold_sorted _ [] (by simpa using srtS_sorted (setsOf l))
  refine List.Perm.eq_of_pairwise (fun a b _ _ h1 h2 => cmpS_zero ?_) r2 hsrt ((List.perm_ext_iff_of_nodup r3 hnd).2 fun a => ?_)
  · rw [leS_iff] at h1 h2
    have := cmpS_flip a b
    omega
  · rw [r4, why_min h]
    exact ⟨fun hx => hx.1, fun hx => ⟨hx, by have := (sets_facts h a hx.1).2; omega⟩⟩
end Go.Proofs.YtajeaefpapnkbaaGreatDoor.P
/- The plain law under ProvWhys: what the printed function answers is true, for every sum and every text. -/
namespace Go.Proofs.YtajeaefpapnkbaaGreatDoor.P
open Go.RowKit Go.Proofs.YtajeaefpapnkbaaGreatDoorW.PrintWords Go.Proofs.YtajeaefpapnkbaaGreatDoorW.PrintLast Go.Proofs.YtajeaefpapnkbaaGreatDoorW.PrintMore
/-- The tokens below a bound that some product has. -/
def toksTo (l : List S37) (n : Nat) : List UInt8 := ((List.range n).map fun j => UInt8.ofNat (97 + j)).filter fun c => l.any (hasB c)
theorem toksTo_succ (l : List S37) (n : Nat) : toksTo l (n + 1) = toksTo l n ++ (if l.any (hasB (UInt8.ofNat (97 + n))) then [UInt8.ofNat (97 + n)] else []) := by
  unfold toksTo
  rw [List.range_succ, List.map_append, List.filter_append]
  simp only [List.map_cons, List.map_nil, List.filter_cons, List.filter_nil]
theorem toksTo_len (l : List S37) (n : Nat) : (toksTo l n).length ≤ n := by
  unfold toksTo
  refine Nat.le_trans (List.length_filter_le _ _) ?_
  simp
theorem filter_short {α : Type} (p : α → Bool) (l : List α) : (((l.filter fun x => !p x).length : Int) < (l.length : Int)) ↔ l.any p = true := by
  rw [List.any_eq_true]
  constructor
  · intro h
    apply Classical.byContradiction
    intro hn
    have : l.filter (fun x => !p x) = l := by
      rw [List.filter_eq_self]
      intro x hx
      cases hp : p x with
      | false => rfl
      | true => exact absurd ⟨x, hx, hp⟩ hn
    rw [this] at h
    omega
  · rintro ⟨x, hx, hp⟩
    have h1 := List.length_filter_le (fun x => !p x) l
    have h2 : (l.filter fun x => !p x).length ≠ l.length := fun he => by
      rw [List.length_filter_eq_length_iff] at he
      have := he x hx
      rw [hp] at this
      cases this
    omega
theorem tokens_l0 (l : List S37) (hl : l.length ≤ 5000000000000) (hs : ∀ x ∈ l, x.f0.size ≤ 140737488351232) (r : ByteArray) (hr : r.data.toList = toksTo l 8) (d : Nat) :
    ∀ n (o : ByteArray), n ≤ 8 → 8 - n = d → o.data.toList = toksTo l n → Ev (fun k => firnref09_Tokens.l0 k l o ((97 + n : Nat) : Int)) (r, 0) := by
  induction d with
  | zero =>
    intro n o hn hd ho
    obtain rfl : n = 8 := by omega
    rw [show r = o from ba_ext (by rw [hr, ho])]
    refine Ev.step (f := fun _ => some (o, 0)) (fun k => ?_) (Ev.now _)
    simp only [firnref09_Tokens.l0]
    rw [if_neg (by omega)]
  | succ d ih =>
    intro n o hn hd ho
    have hn8 : n < 8 := by omega
    have hc : (((UInt8.ofNat (97 + n)).toNat : Nat) : Int) = ((97 + n : Nat) : Int) := by rw [UInt8.toNat_ofNat', Nat.mod_eq_of_lt (by omega)]
    have hsp := spared_ev (UInt8.ofNat (97 + n)) l hl hs
    rw [hc] at hsp
    have hw : (((97 + n : Nat) : Int) + 1) % 256 = ((97 + (n + 1) : Nat) : Int) := by omega
    have hol : o.size ≤ 8 := by rw [ByteArray_size, ho]; have := toksTo_len l n; omega
    cases ha : l.any (hasB (UInt8.ofNat (97 + n))) with
    | true =>
      have hone : (strOfNums [((97 + n : Nat) : Int)]).data.toList = [UInt8.ofNat (97 + n)] := by
        show [UInt8.ofNat (((97 + n : Nat) : Int)).toNat] = _
        rw [Int.toNat_natCast]
      have hnx := ih (n + 1) (o ++ strOfNums [((97 + n : Nat) : Int)]) (by omega) (by omega) (by rw [ByteArray.data_append, Array.toList_append, hone, ho, toksTo_succ, ha]; rfl)
      have hsz : (strOfNums [((97 + n : Nat) : Int)]).size = 1 := by rw [ByteArray_size, hone]; rfl
      refine Ev.step (f := fun k => (firnref09_spared.f k l ((97 + n : Nat) : Int)).bind fun t => if (t.length : Int) < (l.length : Int) then firnref09_Tokens.l0 k l (o ++ strOfNums [((97 + n : Nat) : Int)]) ((97 + (n + 1) : Nat) : Int) else firnref09_Tokens.l0 k l o ((97 + (n + 1) : Nat) : Int)) (fun k => ?_) (hsp.bind ?_)
      · simp only [firnref09_Tokens.l0]
        rw [if_pos (by omega)]
        congr 1
        funext t
        by_cases ht : (t.length : Int) < (l.length : Int)
        · rw [if_pos ht, if_pos ht, Option.bind_some, if_pos (by rw [hsz]; omega), hw]
        · rw [if_neg ht, if_neg ht, hw]
      · refine Ev.congr (fun k => ?_) hnx
        rw [if_pos ((filter_short _ _).2 ha)]
    | false =>
      have hnx := ih (n + 1) o (by omega) (by omega) (by rw [ho, toksTo_succ, ha]; simp)
      have hone : (strOfNums [((97 + n : Nat) : Int)]).data.toList = [UInt8.ofNat (97 + n)] := by
        show [UInt8.ofNat (((97 + n : Nat) : Int)).toNat] = _
        rw [Int.toNat_natCast]
      have hsz : (strOfNums [((97 + n : Nat) : Int)]).size = 1 := by rw [ByteArray_size, hone]; rfl
      refine Ev.step (f := fun k => (firnref09_spared.f k l ((97 + n : Nat) : Int)).bind fun t => if (t.length : Int) < (l.length : Int) then firnref09_Tokens.l0 k l (o ++ strOfNums [((97 + n : Nat) : Int)]) ((97 + (n + 1) : Nat) : Int) else firnref09_Tokens.l0 k l o ((97 + (n + 1) : Nat) : Int)) (fun k => ?_) (hsp.bind ?_)
      · simp only [firnref09_Tokens.l0]
        rw [if_pos (by omega)]
        congr 1
        funext t
        by_cases ht : (t.length : Int) < (l.length : Int)
        · rw [if_pos ht, if_pos ht, Option.bind_some, if_pos (by rw [hsz]; omega), hw]
        · rw [if_neg ht, if_neg ht, hw]
      · refine Ev.congr (fun k => ?_) hnx
        rw [if_neg (fun h => by have := (filter_short _ _).1 h; rw [ha] at this; cases this)]
/-! the program's tokens are these -/
theorem runs_rise2 {s : ByteArray} (hm : s.data.toList.Pairwise fun a b => a ≤ b) : (runsB s).Pairwise (· < ·) := by
  have mono : ∀ i j, i < j → j < s.size → bt s (i : Int) ≤ bt s (j : Int) := fun i j hij hj => by
    have hjl : j < s.data.toList.length := by rw [← ByteArray_size]; exact hj
    have := List.pairwise_iff_getElem.1 hm i j (by omega) hjl hij
    rw [bt_lt s hj, bt_lt s (by omega), getD_lt 0 hjl, getD_lt 0 (by omega)]
    rw [UInt8.le_iff_toNat_le] at this
    omega
  unfold runsB Lib.compactUpTo
  rw [List.pairwise_map, List.pairwise_filter, runs_size]
  refine (List.pairwise_lt_range).imp_of_mem ?_
  intro i j hi hj hlt _ hkeep
  have hj' : j < s.size := by simpa using hj
  unfold Lib.keeps at hkeep
  rw [decide_eq_true_eq] at hkeep
  rcases hkeep with h0 | hne
  · omega
  · rw [runs_at s (by omega), runs_at s hj']
    rw [runs_at s hj', runs_at s (by omega)] at hne
    have h2 := mono (j - 1) j (by omega) hj'
    rcases Nat.lt_or_ge i (j - 1) with h | h
    · have h1 := mono i (j - 1) h (by omega)
      omega
    · obtain rfl : i = j - 1 := by omega
      omega
theorem once_asc2 {s : ByteArray} (hm : s.data.toList.Pairwise fun a b => a ≤ b) : (onceB s).data.toList.Pairwise fun a b => a < b := by
  rw [once_list, List.pairwise_map]
  refine (runs_rise2 hm).imp_of_mem ?_
  intro a b ha hb hlt
  have hr : ∀ n ∈ runsB s, 0 ≤ n ∧ n ≤ 255 := fun n hn => by
    have := runsB_mem hn
    unfold bytesOf at this
    obtain ⟨c, _, rfl⟩ := List.mem_map.1 this
    have := c.toNat_lt
    omega
  have h1 := hr a ha
  have h2 := hr b hb
  rw [UInt8.lt_iff_toNat_lt, UInt8.toNat_ofNat', UInt8.toNat_ofNat']
  omega
theorem toks_eq {l : List S37} (h : validB l = true) : (toksOf l).data.toList = toksTo l 8 := by
  have hsrt : (srtB (toksCat l)).data.toList.Pairwise fun a b => a ≤ b := by
    rw [srtB_list]
    have := List.pairwise_mergeSort (le := fun x y : UInt8 => decide (x ≤ y)) (fun a b c h1 h2 => by
        rw [decide_eq_true_eq, UInt8.le_iff_toNat_le] at *
        omega) (fun a b => by
        rw [Bool.or_eq_true, decide_eq_true_eq, decide_eq_true_eq, UInt8.le_iff_toNat_le, UInt8.le_iff_toNat_le]
        omega) (toksCat l).data.toList
    exact this.imp fun {a b} hab => by rw [decide_eq_true_eq] at hab; exact hab
  have asc : (toksOf l).data.toList.Pairwise fun a b => a < b := once_asc2 hsrt
  have asc2 : (toksTo l 8).Pairwise fun a b => a < b := by
    unfold toksTo
    refine List.Pairwise.filter _ ?_
    rw [List.pairwise_map]
    refine (List.pairwise_lt_range).imp_of_mem ?_
    intro a b ha hb hlt
    rw [List.mem_range] at ha hb
    rw [UInt8.lt_iff_toNat_lt, UInt8.toNat_ofNat', UInt8.toNat_ofNat']
    omega
  have hmem : ∀ c, c ∈ (toksOf l).data.toList ↔ l.any (hasB c) = true := by
    intro c
    have e1 : c ∈ (toksOf l).data.toList ↔ c ∈ (srtB (toksCat l)).data.toList := ⟨fun hc => onceB_mem hc, fun hc => once_cover _ c hc⟩
    rw [e1, srtB_list, (List.mergeSort_perm _ _).mem_iff, toksCat_data, List.mem_flatMap, List.any_eq_true]
    unfold hasB
    constructor
    · rintro ⟨x, hx, hc⟩
      exact ⟨x, hx, List.any_eq_true.2 ⟨c, hc, by simp⟩⟩
    · rintro ⟨x, hx, hc⟩
      obtain ⟨y, hy, he⟩ := List.any_eq_true.1 hc
      rw [beq_iff_eq] at he
      exact ⟨x, hx, he ▸ hy⟩
  have hrange : ∀ c, l.any (hasB c) = true → ∃ j, j < 8 ∧ c = UInt8.ofNat (97 + j) := by
    intro c hc
    obtain ⟨x, hx, hh⟩ := List.any_eq_true.1 hc
    obtain ⟨y, hy, he⟩ := List.any_eq_true.1 hh
    rw [beq_iff_eq] at he
    subst he
    have ht := prodB_tok (validB_mem h x hx)
    obtain ⟨j, hj, rfl⟩ := mem_at hy
    have hjl : j < x.f0.data.toList.length := by rw [← ByteArray_size]; exact hj
    have hT : tokAt x.f0 j = true := by
      unfold tokB at ht
      rw [Bool.and_eq_true] at ht
      exact tokTo_ge ht.1 hj
    unfold tokAt at hT
    rw [Bool.and_eq_true, Bool.and_eq_true, decide_eq_true_eq, decide_eq_true_eq, bt_lt x.f0 hj, getD_lt 0 hjl] at hT
    have e : (x.f0.data.toList[j]).toNat = (x.f0[j]).toNat := by simp [ByteArray.getElem_eq_getElem_data]
    rw [e] at hT
    refine ⟨(x.f0[j]).toNat - 97, by omega, ?_⟩
    apply UInt8.toNat_inj.1
    rw [UInt8.toNat_ofNat']
    omega
  have hmem2 : ∀ c, c ∈ toksTo l 8 ↔ l.any (hasB c) = true := by
    intro c
    unfold toksTo
    rw [List.mem_filter, List.mem_map]
    constructor
    · exact fun hc => hc.2
    · intro hc
      obtain ⟨j, hj, e⟩ := hrange c hc
      exact ⟨⟨j, List.mem_range.2 hj, e.symm⟩, hc⟩
  refine List.Perm.eq_of_pairwise (le := fun a b => a < b) (fun a b _ _ h1 h2 => ?_) asc asc2 ((List.perm_ext_iff_of_nodup ?_ ?_).2 fun c => by rw [hmem, hmem2])
  · rw [UInt8.lt_iff_toNat_lt] at h1 h2
    omega
  · exact asc.imp fun {a b} hab e => by rw [e, UInt8.lt_iff_toNat_lt] at hab; omega
  · exact asc2.imp fun {a b} hab e => by rw [e, UInt8.lt_iff_toNat_lt] at hab; omega
theorem tokensR_ev {l : List S37} (hi : sumIn l = true) (h : validB l = true) : Ev (fun k => firnref09_Tokens.f k l) (toksOf l, 0) := by
  have h40 : l.length ≤ 40 := validB_len h
  have hv : firnref09_ValidSum.f l = some true := by unfold firnref09_ValidSum.f; rw [if_pos hi, h]
  refine Ev.congr (fun k => ?_) (tokens_l0 l (by omega) (sumIn_mem hi) (toksOf l) (toks_eq h) 8 0 ⟨#[]⟩ (by omega) (by omega) rfl)
  unfold firnref09_Tokens.f
  rw [hv, Option.bind_some, if_pos rfl]
  rfl
theorem tokensR_bad {l : List S37} (hi : sumIn l = true) (h : validB l = false) : Ev (fun k => firnref09_Tokens.f k l) (⟨#[]⟩, 92) := by
  have hv : firnref09_ValidSum.f l = some false := by unfold firnref09_ValidSum.f; rw [if_pos hi, h]
  refine Ev.congr (fun k => ?_) (Ev.now _)
  unfold firnref09_Tokens.f
  rw [hv, Option.bind_some, if_neg (by simp)]
/-- What is left of a sum, on both sides. -/
def leftOf (l : List S37) (t : ByteArray) : List S37 × Int := if validB l then (if isTokB t then (l.filter (fun x => !hasB (tokC t) x), 0) else ([], 2)) else ([], 92)
theorem spared_prog {l : List S37} (hi : sumIn l = true) (t : ByteArray) : prov_Spared.f l t = some (leftOf l t) := by
  unfold prov_Spared.f leftOf
  have hv : prov_ValidSum.f l = some (validB l) := by unfold prov_ValidSum.f; rw [if_pos hi]
  rw [hv, Option.bind_some]
  cases h : validB l with
  | false => rfl
  | true =>
    have h40 := validB_len h
    rw [if_pos rfl, if_pos rfl]
    unfold prov_isToken.f
    rw [Option.bind_some]
    cases ht : isTokB t with
    | false => rfl
    | true =>
      have h1 : t.size = 1 := by
        unfold isTokB at ht
        rw [Bool.and_eq_true, beq_iff_eq] at ht
        exact ht.1
      rw [if_pos rfl, if_pos rfl]
      unfold prov_spared.f
      rw [if_pos ⟨by omega, h1⟩, Option.bind_some]
theorem spared_ref {l : List S37} (hi : sumIn l = true) (t : ByteArray) : Ev (fun k => firnref09_Spared.f k l t) (leftOf l t) := by
  have hv : firnref09_ValidSum.f l = some (validB l) := by unfold firnref09_ValidSum.f; rw [if_pos hi]
  unfold leftOf
  cases h : validB l with
  | false =>
    refine Ev.congr (fun k => ?_) (Ev.now _)
    unfold firnref09_Spared.f
    rw [hv, h]
    rfl
  | true =>
    have h40 := validB_len h
    rw [if_pos rfl]
    cases ht : isTokB t with
    | false =>
      have hb := isToken_ev t
      rw [ht] at hb
      refine Ev.congr (fun k => ?_) (hb.bind (f := fun k b => if b = true then (if 0 < (t.size : Int) then ((firnref09_spared.f k l (bt t 0)).bind fun r => (some (r, (0 : Int)))) else none) else some (([] : List S37), 2)) (r := ([], 2)) (Ev.congr (fun k => by rw [if_neg (by simp)]) (Ev.now _)))
      unfold firnref09_Spared.f
      rw [hv, h]
      rfl
    | true =>
      have h1 : t.size = 1 := by
        unfold isTokB at ht
        rw [Bool.and_eq_true, beq_iff_eq] at ht
        exact ht.1
      have hb := isToken_ev t
      rw [ht] at hb
      obtain ⟨c, rfl, hc⟩ := one_byte h1
      have hbt : bt ⟨#[c]⟩ 0 = (c.toNat : Int) := by
        have := bt_lt ⟨#[c]⟩ (i := 0) (by rw [h1]; omega)
        rw [hc] at this
        exact this
      have htc : tokC ⟨#[c]⟩ = c := by unfold tokC; rw [hc]; rfl
      rw [if_pos rfl, htc]
      have hs := (spared_ev c l (by omega) (sumIn_mem hi)).bind (f := fun _ r => some (r, (0 : Int))) (Ev.now _)
      refine Ev.congr (fun k => ?_) (hb.bind (f := fun k b => if b = true then (if 0 < ((ByteArray.mk #[c]).size : Int) then ((firnref09_spared.f k l (bt ⟨#[c]⟩ 0)).bind fun r => (some (r, (0 : Int)))) else none) else some (([] : List S37), 2)) (Ev.congr (fun k => by rw [if_pos rfl, if_pos (by rw [h1]; omega), hbt]) hs))
      unfold firnref09_Spared.f
      rw [hv, h]
      rfl
theorem leftOf_len {l : List S37} (hi : sumIn l = true) (t : ByteArray) : (leftOf l t).1.length ≤ 140737488351232 := by
  have := sumIn_len hi
  unfold leftOf
  split
  · split
    · have h1 := List.length_filter_le (fun x => !hasB (tokC t) x) l
      show (l.filter fun x => !hasB (tokC t) x).length ≤ _
      omega
    · simp
  · simp
theorem j1_ev {l : List S37} (hi : sumIn l = true) (t : ByteArray) : Ev (fun k => firnlaw09_ProvWhys.j1 k l t false) true := by
  have hsp := spared_prog hi t
  have hsr := spared_ref hi t
  have hss := sameSums_ev (leftOf l t).1 (leftOf_len hi t)
  obtain ⟨a, ha, hb⟩ : ∃ a, prov_Tokens.f l = some a ∧ Ev (fun k => firnref09_Tokens.f k l) a := by
    cases hv : validB l with
    | true => exact ⟨(toksOf l, 0), by unfold prov_Tokens.f; rw [if_pos hi, if_pos hv], tokensR_ev hi hv⟩
    | false => exact ⟨(⟨#[]⟩, 92), by unfold prov_Tokens.f; rw [if_pos hi, if_neg (by rw [hv]; simp)], tokensR_bad hi hv⟩
  have last : Ev (fun k => (firnref09_SameSums.f k (leftOf l t).1 (leftOf l t).1).bind fun t174 => (if t174 = true then (if (leftOf l t).2 = (leftOf l t).2 then ((firnlaw09_Awake.f k).bind fun t175 => (some t175)) else (some false)) else (some false))) true :=
    hss.bind (Ev.congr (fun k => by rw [if_pos rfl, if_pos rfl]) (awake_ev.bind (f := fun _ b => some b) (Ev.now _)))
  have mid := hb.bind (f := fun k b => (firnref09_Spared.f k l t).bind fun q => (if a.1.toList = b.1.toList then (if a.2 = b.2 then ((firnref09_SameSums.f k (leftOf l t).1 q.1).bind fun t174 => (if t174 = true then (if (leftOf l t).2 = q.2 then ((firnlaw09_Awake.f k).bind fun t175 => (some t175)) else (some false)) else (some false))) else (some false)) else (some false)))
    (hsr.bind (f := fun k q => (if a.1.toList = a.1.toList then (if a.2 = a.2 then ((firnref09_SameSums.f k (leftOf l t).1 q.1).bind fun t174 => (if t174 = true then (if (leftOf l t).2 = q.2 then ((firnlaw09_Awake.f k).bind fun t175 => (some t175)) else (some false)) else (some false))) else (some false)) else (some false))) (Ev.congr (fun k => by rw [if_pos rfl, if_pos rfl]) last))
  refine Ev.step (fun k => ?_) mid
  simp only [firnlaw09_ProvWhys.j1]
  rw [if_neg (by simp), ha, hsp]
  rfl
theorem j0_ev {l : List S37} (hi : sumIn l = true) (t : ByteArray) (b : Bool) : Ev (fun k => firnlaw09_ProvWhys.j0 k l t b) true := by
  cases b with
  | true =>
    refine Ev.step (fun k => ?_) (awake_ev.bind (f := fun _ b => some b) (Ev.now _))
    simp only [firnlaw09_ProvWhys.j0]
    rw [if_pos trivial]
  | false =>
    obtain ⟨a, ha, hb, hl⟩ : ∃ a, prov_Why.f l = some a ∧ firnref09_Why.f l = some a ∧ a.1.length ≤ 140737488351232 := by
      cases hv : validB l with
      | true =>
        refine ⟨(whyOf l, 0), by unfold prov_Why.f; rw [if_pos hi, if_pos hv], by unfold firnref09_Why.f; rw [if_pos hi, if_pos hv, why_eq hv], ?_⟩
        have := (least_of hv).len
        show (whyOf l).length ≤ _
        omega
      | false => exact ⟨([], 92), by unfold prov_Why.f; rw [if_pos hi, if_neg (by rw [hv]; simp)], by unfold firnref09_Why.f; rw [if_pos hi, if_neg (by rw [hv]; simp)], by simp⟩
    refine Ev.step (fun k => ?_) ((sameTexts_ev a.1 hl).bind (f := fun k b => if b = true then firnlaw09_ProvWhys.j1 k l t (a.2 != a.2) else firnlaw09_ProvWhys.j1 k l t true) (Ev.congr (fun k => by rw [if_pos rfl, show (a.2 != a.2) = false by simp]) (j1_ev hi t)))
    simp only [firnlaw09_ProvWhys.j0]
    rw [if_neg (by simp), ha, hb]
    rfl
theorem provWhys_pure (l : List S37) (t : ByteArray) (hi : sumIn l = true) : ∃ k, firnlaw09_ProvWhys.f k l t = some true := by
  obtain ⟨b, hb⟩ := long_ev l (sumIn_len hi)
  refine Ev.rounds (g := fun k => firnlaw09_ProvWhys.f k l t) ?_
  refine Ev.congr (fun k => ?_) (hb.bind (f := fun k b => if b = true then firnlaw09_ProvWhys.j0 k l t true else firnlaw09_ProvWhys.j0 k l t (decide ((t.size : Int) > 100))) (r := true) ?_)
  · rfl
  · cases b with
    | true => exact Ev.congr (fun k => by rw [if_pos rfl]) (j0_ev hi t true)
    | false => exact Ev.congr (fun k => by rw [if_neg (by simp)]) (j0_ev hi t _)
end Go.Proofs.YtajeaefpapnkbaaGreatDoor.P
