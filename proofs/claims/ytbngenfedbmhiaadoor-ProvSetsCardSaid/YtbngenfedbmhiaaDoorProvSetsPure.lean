/- The plain law under ProvSets: what the printed function answers is true, for every sum. -/
import Derived.Test.YtbngenfedbmhiaaDoorSetsPlain
import Derived.Test.YtbngenfedbmhiaaDoorF3
namespace Go.Proofs.YtbngenfedbmhiaaDoor.P
open Go.RowKit Go.Proofs.YtbngenfedbmhiaaDoorW.PrintWords Go.Proofs.YtbngenfedbmhiaaDoorW.PrintLast Go.Proofs.YtbngenfedbmhiaaDoorW.PrintMore
theorem cb_less : ∀ a b : List UInt8, Lib.compareBytes a b < 0 → Op.bytesLess a b = true
  | [], [] => fun h => by simp [Lib.compareBytes] at h
  | [], _ :: _ => fun _ => rfl
  | _ :: _, [] => fun h => by simp [Lib.compareBytes] at h
  | a :: x, b :: y => fun h => by
    simp only [Lib.compareBytes] at h
    simp only [Op.bytesLess]
    by_cases h1 : a < b
    · simp [h1]
    · rw [if_neg h1] at h
      by_cases h2 : b < a
      · rw [if_pos h2] at h; omega
      · rw [if_neg h2] at h
        have h3 : a = b := by rw [UInt8.lt_iff_toNat_lt] at *; exact UInt8.toNat_inj.1 (by omega)
        simp [h3, cb_less x y h]
/-- What the least sets of a valid sum are. -/
structure Least (l : List S31) (ss : List ByteArray) : Prop where
  len : ss.length ≤ 40
  emp : (ss.length = 0) = (l.length = 0)
  ord : ∀ i, 0 < i → i < ss.length → (ss.getD (i - 1) ByteArray.empty).size ≤ (ss.getD i ByteArray.empty).size ∧ ((ss.getD i ByteArray.empty).size = (ss.getD (i - 1) ByteArray.empty).size → Op.bytesLess (ss.getD (i - 1) ByteArray.empty).toList (ss.getD i ByteArray.empty).toList = true)
  apart : ∀ i j, i < ss.length → j < ss.length → i ≠ j → subB (ss.getD i ByteArray.empty) (ss.getD j ByteArray.empty) = false
  src : ∀ i, i < ss.length → ∃ j, j < l.length ∧ subB (ss.getD i ByteArray.empty) (l.getD j z31).f0 = true ∧ subB (l.getD j z31).f0 (ss.getD i ByteArray.empty) = true
  cov : ∀ j, j < l.length → ∃ i, i < ss.length ∧ subB (ss.getD i ByteArray.empty) (l.getD j z31).f0 = true
  size : ∀ i, i < ss.length → (ss.getD i ByteArray.empty).size ≤ 140737488351232
  lsize : ∀ j, j < l.length → (l.getD j z31).f0.size ≤ 140737488351232
  llen : l.length ≤ 40
theorem least_of {l : List S31} (h : validB l = true) : Least l (whyOf l) := by
  have hl := validB_len h
  have hmem : ∀ a ∈ whyOf l, ∃ x ∈ l, a = onceB x.f0 := fun a ha => by
    rcases foldMin_mem _ _ _ ha with h1 | h1
    · exact absurd h1 List.not_mem_nil
    · have h2 := (srtS_perm _).mem_iff.1 h1
      unfold setsOf at h2
      rw [List.mem_map] at h2
      obtain ⟨x, hx, rfl⟩ := h2
      exact ⟨x, hx, rfl⟩
  have hlen : (whyOf l).length ≤ l.length := by
    have := foldMin_len (srtS (setsOf l)) []
    rw [(srtS_perm _).length_eq] at this
    unfold setsOf at this
    rw [List.length_map] at this
    simp at this
    exact this
  have hsrt : (whyOf l).Pairwise fun a b => leS a b = true := fold_sorted _ [] (by simpa using srtS_sorted (setsOf l))
  have hap : (whyOf l).Pairwise fun a b => subB a b = false := fold_apart _ [] List.Pairwise.nil
  have hcov : ∀ j, j < l.length → ∃ i, i < (whyOf l).length ∧ subB ((whyOf l).getD i ByteArray.empty) (l.getD j z31).f0 = true := fun j hj => by
    have h1 : onceB (l.getD j z31).f0 ∈ srtS (setsOf l) := by
      rw [(srtS_perm _).mem_iff]
      unfold setsOf
      rw [List.mem_map]
      exact ⟨_, getD_mem _ hj, rfl⟩
    have hx : ∃ b ∈ whyOf l, subB b (onceB (l.getD j z31).f0) = true := fold_cov _ [] _ h1
    obtain ⟨b, hb, hs⟩ := hx
    obtain ⟨i, hi, rfl⟩ := List.getElem_of_mem hb
    refine ⟨i, hi, ?_⟩
    rw [getD_lt _ hi]
    exact subB_trans hs ((subB_iff _ _).2 fun c hc => onceB_mem hc)
  have hle : ∀ i j, i < j → j < (whyOf l).length → leS ((whyOf l).getD i ByteArray.empty) ((whyOf l).getD j ByteArray.empty) = true ∧ subB ((whyOf l).getD i ByteArray.empty) ((whyOf l).getD j ByteArray.empty) = false := fun i j hij hj => by
    rw [getD_lt _ (by omega), getD_lt _ hj]
    exact ⟨List.pairwise_iff_getElem.1 hsrt i j (by omega) hj hij, List.pairwise_iff_getElem.1 hap i j (by omega) hj hij⟩
  have hnd : ∀ i, i < (whyOf l).length → ((whyOf l).getD i ByteArray.empty).data.toList.Nodup ∧ ((whyOf l).getD i ByteArray.empty).size ≤ 12 := fun i hi => by
    obtain ⟨x, hx, e⟩ := hmem _ (getD_mem ByteArray.empty hi)
    rw [e]
    have := prodB_tok (validB_mem h x hx)
    exact ⟨once_nodup this, Nat.le_trans (onceB_size _) (tokB_ascii this).2⟩
  have hsz : ∀ {a b : ByteArray}, leS a b = true → a.size ≤ b.size ∧ (b.size = a.size → cmpS a b ≤ 0) := fun {a b} hab => by
    unfold leS at hab
    rw [decide_eq_true_eq] at hab
    refine ⟨?_, fun _ => hab⟩
    unfold cmpS at hab
    split at hab <;> omega
  refine ⟨by omega, ?_, ?_, ?_, ?_, hcov, fun i hi => by have := (hnd i hi).2; omega, fun j hj => by have := (tokB_ascii (prodB_tok (validB_mem h _ (getD_mem z31 hj)))).2; omega, hl⟩
  · apply propext
    constructor
    · intro h0
      apply Classical.byContradiction
      intro hn
      obtain ⟨i, hi, _⟩ := hcov 0 (by omega)
      omega
    · intro h0; omega
  · intro i h0 hi
    obtain ⟨h1, h2⟩ := hle (i - 1) i (by omega) hi
    refine ⟨(hsz h1).1, fun he => ?_⟩
    have h3 := (hsz h1).2 he
    have hne : cmpS ((whyOf l).getD (i - 1) ByteArray.empty) ((whyOf l).getD i ByteArray.empty) ≠ 0 := fun h0 => by
      have := cmpS_zero h0
      rw [this, subB_self] at h2
      cases h2
    unfold cmpS at h3 hne
    rw [if_pos he.symm] at h3 hne
    rw [toList_data, toList_data]
    exact cb_less _ _ (by omega)
  · intro i j hi hj hne
    rcases Nat.lt_or_gt_of_ne hne with hlt | hgt
    · exact (hle i j hlt hj).2
    · obtain ⟨h1, h2⟩ := hle j i hgt hi
      cases hs : subB ((whyOf l).getD i ByteArray.empty) ((whyOf l).getD j ByteArray.empty) with
      | false => rfl
      | true =>
        have := nodup_sub_back (hnd i hi).1 ((subB_iff _ _).1 hs) (by rw [← ByteArray_size, ← ByteArray_size]; exact (hsz h1).1)
        rw [(subB_iff _ _).2 this] at h2
        cases h2
  · intro i hi
    obtain ⟨x, hx, e⟩ := hmem _ (getD_mem ByteArray.empty hi)
    obtain ⟨j, hj, rfl⟩ := List.getElem_of_mem hx
    refine ⟨j, hj, ?_⟩
    rw [e, getD_lt _ hj]
    exact ⟨(subB_iff _ _).2 fun c hc => onceB_mem hc, (subB_iff _ _).2 fun c hc => once_cover _ c hc⟩
theorem wrap_up {j n : Nat} (h : j < n) (hn : n ≤ 140737488351232) : wrap64 ((j : Int) + 1) = ((j + 1 : Nat) : Int) := by
  rw [wrap64_of (by omega) (by omega)]; omega
theorem part_l1 (a b : ByteArray) (ha : a.size ≤ 140737488351232) (hb : b.size ≤ 140737488351232) (i : Nat) (hi : i < a.size) (r : Bool)
    (h1 : inB b a[i] = true → Ev (fun k => firnref09_Part.l0 k a b (a.size : Int) ((i + 1 : Nat) : Int)) r) (h2 : inB b a[i] = false → r = false) (d : Nat) :
    ∀ q, q ≤ b.size → b.size - q = d → Ev (fun k => firnref09_Part.l1 k a b (i : Int) (inTo b q a[i]) (a.size : Int) (i : Int) (b.size : Int) (q : Int)) r := by
  have hail : i < a.data.toList.length := by rw [← ByteArray_size]; exact hi
  have hbi : bt a (i : Int) = (a[i].toNat : Int) := by rw [bt_lt a hi, getD_lt 0 hail]; simp [ByteArray.getElem_eq_getElem_data]
  induction d with
  | zero =>
    intro q hq hd
    obtain rfl : q = b.size := by omega
    rw [inTo_all]
    cases hin : inB b a[i] with
    | true =>
      refine Ev.step (fun k => ?_) (h1 hin)
      simp only [firnref09_Part.l1]
      rw [if_neg (by omega), if_pos trivial, wrap_up hi ha]
    | false =>
      rw [h2 hin]
      refine Ev.step (f := fun _ => some false) (fun k => ?_) (Ev.now _)
      simp only [firnref09_Part.l1]
      rw [if_neg (by omega), if_neg (by simp)]
  | succ d ih =>
    intro q hq hd
    have hlt : q < b.size := by omega
    have hbl : q < b.data.toList.length := by rw [← ByteArray_size]; exact hlt
    have hbq : bt b (q : Int) = (b[q].toNat : Int) := by rw [bt_lt b hlt, getD_lt 0 hbl]; simp [ByteArray.getElem_eq_getElem_data]
    have hs := inTo_succ b a[i] hlt
    cases hin : inTo b q a[i] with
    | true =>
      rw [hin, Bool.true_or] at hs
      refine Ev.step (fun k => ?_) (ih (q + 1) (by omega) (by omega))
      simp only [firnref09_Part.l1]
      rw [if_pos (by omega), if_pos trivial, wrap_up hlt hb, hs]
    | false =>
      rw [hin, Bool.false_or] at hs
      refine Ev.step (fun k => ?_) (ih (q + 1) (by omega) (by omega))
      simp only [firnref09_Part.l1]
      rw [if_pos (by omega), if_neg (by simp), if_pos (by omega), if_pos (by omega), if_pos (by omega), if_pos (by omega), wrap_up hlt hb, hs, hbi, hbq, eq_i32]
theorem part_l0 (a b : ByteArray) (ha : a.size ≤ 140737488351232) (hb : b.size ≤ 140737488351232) (d : Nat) :
    ∀ i, i ≤ a.size → a.size - i = d → Ev (fun k => firnref09_Part.l0 k a b (a.size : Int) (i : Int)) ((a.data.toList.drop i).all fun c => inB b c) := by
  induction d with
  | zero =>
    intro i hi hd
    obtain rfl : i = a.size := by omega
    have e : a.data.toList.drop a.size = [] := List.drop_of_length_le (by rw [← ByteArray_size]; exact Nat.le_refl _)
    rw [e]
    refine Ev.step (f := fun _ => some true) (fun k => ?_) (Ev.now _)
    simp only [firnref09_Part.l0]
    rw [if_neg (by omega)]
  | succ d ih =>
    intro i hi hd
    have hlt : i < a.size := by omega
    have hail : i < a.data.toList.length := by rw [← ByteArray_size]; exact hlt
    have e : a.data.toList.drop i = a[i] :: a.data.toList.drop (i + 1) := by
      rw [List.drop_eq_getElem_cons hail]
      simp [ByteArray.getElem_eq_getElem_data]
    rw [e, List.all_cons]
    refine Ev.step (fun k => ?_) (part_l1 a b ha hb i hlt _ (fun h => ?_) (fun h => ?_) b.size 0 (by omega) (by omega))
    · simp only [firnref09_Part.l0]
      rw [if_pos (by omega)]
      rfl
    · rw [h, Bool.true_and]; exact ih (i + 1) (by omega) (by omega)
    · rw [h, Bool.false_and]
theorem part_ev (a b : ByteArray) (ha : a.size ≤ 140737488351232) (hb : b.size ≤ 140737488351232) : Ev (fun k => firnref09_Part.f k a b) (subB a b) :=
  part_l0 a b ha hb a.size 0 (by omega) (by omega)
theorem awake_ev : Ev (fun k => firnlaw09_Awake.f k) true := Ev.of (fun k => firnlaw09_Awake.mono k) (k := 60) (by kernel_rfl)
section
variable {l : List S31} {ss : List ByteArray} (L : Least l ss)
include L
theorem sets_l4 (idx : Nat) (hidx : idx < l.length) (next : Ev (fun k => firnlaw09_ProvSets.l3 k ss l (l.length : Int) ((idx + 1 : Nat) : Int)) true) (d : Nat) :
    ∀ j, j ≤ ss.length → ss.length - j = d →
      Ev (fun k => firnlaw09_ProvSets.l4 k ss ((ss.take j).any fun a => subB a (l.getD idx z31).f0) l (l.length : Int) (idx : Int) ss (ss.length : Int) (j : Int) (l.getD idx z31).f0 (l.getD idx z31).f1) true := by
  have h40 := L.len
  have hl40 := L.llen
  induction d with
  | zero =>
    intro j hj hd
    obtain rfl : j = ss.length := by omega
    obtain ⟨i, hi, hs⟩ := L.cov idx hidx
    have hany : ((ss.take ss.length).any fun a => subB a (l.getD idx z31).f0) = true := by
      rw [List.take_length, List.any_eq_true]
      exact ⟨_, getD_mem _ hi, hs⟩
    rw [hany]
    refine Ev.step (fun k => ?_) next
    simp only [firnlaw09_ProvSets.l4]
    rw [if_neg (by omega), if_pos trivial, wrap_up hidx (by omega)]
  | succ d ih =>
    intro j hj hd
    have hlt : j < ss.length := by omega
    have e : (ss.take (j + 1)).any (fun a => subB a (l.getD idx z31).f0) = ((ss.take j).any (fun a => subB a (l.getD idx z31).f0) || subB (ss.getD j ByteArray.empty) (l.getD idx z31).f0) := by
      rw [List.take_succ_eq_append_getElem hlt, List.any_append, getD_lt _ hlt]
      simp
    cases hf : (ss.take j).any fun a => subB a (l.getD idx z31).f0 with
    | true =>
      rw [hf, Bool.true_or] at e
      refine Ev.step (fun k => ?_) (ih (j + 1) (by omega) (by omega))
      simp only [firnlaw09_ProvSets.l4]
      rw [if_pos (by omega), if_pos (by omega), if_pos (by omega), if_pos trivial, wrap_up hlt (by omega), e]
    | false =>
      rw [hf, Bool.false_or] at e
      refine Ev.step (fun k => ?_) (Ev.bind (part_ev (ss.getD j ByteArray.empty) (l.getD idx z31).f0 (L.size j hlt) (L.lsize idx hidx)) (f := fun k t => firnlaw09_ProvSets.l4 k ss t l (l.length : Int) (idx : Int) ss (ss.length : Int) ((j + 1 : Nat) : Int) (l.getD idx z31).f0 (l.getD idx z31).f1) (by rw [← e]; exact ih (j + 1) (by omega) (by omega)))
      simp only [firnlaw09_ProvSets.l4]
      rw [if_pos (by omega), if_pos (by omega), if_pos (by omega), if_neg (by simp), wrap_up hlt (by omega)]
      rfl
theorem sets_l3 (d : Nat) : ∀ idx, idx ≤ l.length → l.length - idx = d → Ev (fun k => firnlaw09_ProvSets.l3 k ss l (l.length : Int) (idx : Int)) true := by
  have hl40 := L.llen
  induction d with
  | zero =>
    intro idx h1 h2
    refine Ev.step (fun k => ?_) (Ev.bind awake_ev (Ev.now true))
    simp only [firnlaw09_ProvSets.l3]
    rw [if_neg (by omega)]
  | succ d ih =>
    intro idx h1 h2
    have hlt : idx < l.length := by omega
    refine Ev.step (fun k => ?_) (sets_l4 L idx hlt (ih (idx + 1) (by omega) (by omega)) ss.length 0 (by omega) (by omega))
    simp only [firnlaw09_ProvSets.l3]
    rw [if_pos (by omega), if_pos (by omega), if_pos (by omega)]
    rfl
theorem sets_l2 (i : Nat) (hi : i < ss.length) (next : Ev (fun k => firnlaw09_ProvSets.l0 k l ss ss (ss.length : Int) ((i + 1 : Nat) : Int)) true) (d : Nat) :
    ∀ j, j ≤ l.length → l.length - j = d →
      Ev (fun k => firnlaw09_ProvSets.l2 k l ss (ss.getD i ByteArray.empty) ((l.take j).any fun p => subB (ss.getD i ByteArray.empty) p.f0 && subB p.f0 (ss.getD i ByteArray.empty)) ss (ss.length : Int) (i : Int) l (l.length : Int) (j : Int)) true := by
  have h40 := L.len
  have hl40 := L.llen
  induction d with
  | zero =>
    intro j hj hd
    obtain rfl : j = l.length := by omega
    obtain ⟨q, hq, hs1, hs2⟩ := L.src i hi
    have hany : ((l.take l.length).any fun p => subB (ss.getD i ByteArray.empty) p.f0 && subB p.f0 (ss.getD i ByteArray.empty)) = true := by
      rw [List.take_length, List.any_eq_true]
      exact ⟨_, getD_mem _ hq, by rw [hs1, hs2]; rfl⟩
    rw [hany]
    refine Ev.step (fun k => ?_) next
    simp only [firnlaw09_ProvSets.l2]
    rw [if_neg (by omega), if_pos trivial, wrap_up hi (by omega)]
  | succ d ih =>
    intro j hj hd
    have hlt : j < l.length := by omega
    have e : (l.take (j + 1)).any (fun p => subB (ss.getD i ByteArray.empty) p.f0 && subB p.f0 (ss.getD i ByteArray.empty)) = ((l.take j).any (fun p => subB (ss.getD i ByteArray.empty) p.f0 && subB p.f0 (ss.getD i ByteArray.empty)) || (subB (ss.getD i ByteArray.empty) (l.getD j z31).f0 && subB (l.getD j z31).f0 (ss.getD i ByteArray.empty))) := by
      rw [List.take_succ_eq_append_getElem hlt, List.any_append, getD_lt _ hlt]
      simp
    have hp1 := part_ev (ss.getD i ByteArray.empty) (l.getD j z31).f0 (L.size i hi) (L.lsize j hlt)
    have hp2 := part_ev (l.getD j z31).f0 (ss.getD i ByteArray.empty) (L.lsize j hlt) (L.size i hi)
    have hnext := ih (j + 1) (by omega) (by omega)
    cases hf : (l.take j).any fun p => subB (ss.getD i ByteArray.empty) p.f0 && subB p.f0 (ss.getD i ByteArray.empty) with
    | true =>
      rw [hf, Bool.true_or] at e
      rw [e] at hnext
      refine Ev.step (fun k => ?_) hnext
      simp only [firnlaw09_ProvSets.l2]
      rw [if_pos (by omega), if_pos (by omega), if_pos (by omega), if_pos trivial, wrap_up hlt (by omega)]
    | false =>
      rw [hf, Bool.false_or] at e
      rw [e] at hnext
      cases h1 : subB (ss.getD i ByteArray.empty) (l.getD j z31).f0 with
      | true =>
        rw [h1, Bool.true_and] at hnext
        rw [h1] at hp1
        refine Ev.step (fun k => ?_) (Ev.bind hp1 (f := fun k t => if t = true then (firnref09_Part.f k (l.getD j z31).f0 (ss.getD i ByteArray.empty)).bind fun u => firnlaw09_ProvSets.l2 k l ss (ss.getD i ByteArray.empty) u ss (ss.length : Int) (i : Int) l (l.length : Int) ((j + 1 : Nat) : Int) else firnlaw09_ProvSets.l2 k l ss (ss.getD i ByteArray.empty) false ss (ss.length : Int) (i : Int) l (l.length : Int) ((j + 1 : Nat) : Int))
          (Ev.congr (fun k => if_pos rfl) (Ev.bind hp2 hnext)))
        simp only [firnlaw09_ProvSets.l2]
        rw [if_pos (by omega), if_pos (by omega), if_pos (by omega), if_neg (by simp), wrap_up hlt (by omega)]
        rfl
      | false =>
        rw [h1, Bool.false_and] at hnext
        rw [h1] at hp1
        refine Ev.step (fun k => ?_) (Ev.bind hp1 (f := fun k t => if t = true then (firnref09_Part.f k (l.getD j z31).f0 (ss.getD i ByteArray.empty)).bind fun u => firnlaw09_ProvSets.l2 k l ss (ss.getD i ByteArray.empty) u ss (ss.length : Int) (i : Int) l (l.length : Int) ((j + 1 : Nat) : Int) else firnlaw09_ProvSets.l2 k l ss (ss.getD i ByteArray.empty) false ss (ss.length : Int) (i : Int) l (l.length : Int) ((j + 1 : Nat) : Int))
          (Ev.congr (fun k => if_neg (by simp)) hnext))
        simp only [firnlaw09_ProvSets.l2]
        rw [if_pos (by omega), if_pos (by omega), if_pos (by omega), if_neg (by simp), wrap_up hlt (by omega)]
        rfl
theorem sets_l1 (i : Nat) (hi : i < ss.length) (next : Ev (fun k => firnlaw09_ProvSets.l0 k l ss ss (ss.length : Int) ((i + 1 : Nat) : Int)) true) (d : Nat) :
    ∀ j, j ≤ ss.length → ss.length - j = d → Ev (fun k => firnlaw09_ProvSets.l1 k l ss (i : Int) (ss.getD i ByteArray.empty) false ss (ss.length : Int) (i : Int) ss (ss.length : Int) (j : Int)) true := by
  have h40 := L.len
  have hl40 := L.llen
  induction d with
  | zero =>
    intro j hj hd
    refine Ev.step (fun k => ?_) (sets_l2 L i hi next l.length 0 (by omega) (by omega))
    simp only [firnlaw09_ProvSets.l1]
    rw [if_neg (by omega)]
    rfl
  | succ d ih =>
    intro j hj hd
    have hlt : j < ss.length := by omega
    by_cases hij : i = j
    · refine Ev.step (fun k => ?_) (ih (j + 1) (by omega) (by omega))
      simp only [firnlaw09_ProvSets.l1]
      rw [if_pos (by omega), if_pos (by omega), if_pos (by omega), if_pos (by omega), wrap_up hlt (by omega)]
    · have hp := part_ev (ss.getD i ByteArray.empty) (ss.getD j ByteArray.empty) (L.size i hi) (L.size j hlt)
      rw [L.apart i j hi hlt hij] at hp
      refine Ev.step (fun k => ?_) (Ev.bind hp (f := fun k t => if t = true then some false else firnlaw09_ProvSets.l1 k l ss (i : Int) (ss.getD i ByteArray.empty) false ss (ss.length : Int) (i : Int) ss (ss.length : Int) ((j + 1 : Nat) : Int)) (Ev.congr (fun k => if_neg (by simp)) (ih (j + 1) (by omega) (by omega))))
      simp only [firnlaw09_ProvSets.l1]
      rw [if_pos (by omega), if_pos (by omega), if_pos (by omega), if_neg (by omega), wrap_up hlt (by omega)]
      rfl
theorem sets_j2 (i : Nat) (hi : i < ss.length) (next : Ev (fun k => firnlaw09_ProvSets.l0 k l ss ss (ss.length : Int) ((i + 1 : Nat) : Int)) true) :
    Ev (fun k => firnlaw09_ProvSets.j2 k l ss (i : Int) (ss.getD i ByteArray.empty) ss (ss.length : Int) (i : Int) false) true := by
  refine Ev.step (fun k => ?_) (sets_l1 L i hi next ss.length 0 (by omega) (by omega))
  simp only [firnlaw09_ProvSets.j2]
  rw [if_neg (by simp)]
  rfl
theorem sets_l0 (d : Nat) : ∀ i, i ≤ ss.length → ss.length - i = d → Ev (fun k => firnlaw09_ProvSets.l0 k l ss ss (ss.length : Int) (i : Int)) true := by
  have h40 := L.len
  induction d with
  | zero =>
    intro i hi hd
    refine Ev.step (fun k => ?_) (sets_l3 L l.length 0 (by omega) (by omega))
    simp only [firnlaw09_ProvSets.l0]
    rw [if_neg (by omega)]
    rfl
  | succ d ih =>
    intro i hi hd
    have hlt : i < ss.length := by omega
    refine Ev.step (fun k => ?_) (sets_j2 L i hlt (ih (i + 1) (by omega) (by omega)))
    simp only [firnlaw09_ProvSets.l0]
    rw [if_pos (by omega), if_pos (by omega), if_pos (by omega)]
    by_cases h0 : 0 < i
    · have hw : wrap64 ((i : Int) - 1) = ((i - 1 : Nat) : Int) := by rw [wrap64_of (by omega) (by omega)]; omega
      obtain ⟨o1, o2⟩ := L.ord i h0 hlt
      have e1 : rdOf ByteArray.empty ss (i : Int) = ss.getD i ByteArray.empty := rfl
      have e2 : rdOf ByteArray.empty ss ((i - 1 : Nat) : Int) = ss.getD (i - 1) ByteArray.empty := rfl
      rw [if_pos (by omega), hw, if_pos (by omega), if_pos (by omega), e1, e2, if_neg (by omega)]
      by_cases hs : (ss.getD i ByteArray.empty).size = (ss.getD (i - 1) ByteArray.empty).size
      · rw [if_pos (by omega), o2 hs]
        rfl
      · rw [if_neg (by omega)]
    · rw [if_neg (by omega)]
      rfl
end
theorem provSets_pure (l : List S31) (h : sumIn l = true) : ∃ k, firnlaw09_ProvSets.f k l = some true := by
  cases hv : validB l with
  | true =>
    have L := least_of hv
    refine Ev.rounds (g := fun k => firnlaw09_ProvSets.f k l) ?_
    have hw : prov_Why.f l = some (whyOf l, 0) := by unfold prov_Why.f; rw [if_pos h, if_pos hv]
    have hr : firnref09_ValidSum.f l = some true := by unfold firnref09_ValidSum.f; rw [if_pos h, hv]
    have he : ((((whyOf l).length : Int) == 0) != ((l.length : Int) == 0)) = false := by
      have := L.emp
      by_cases h0 : l.length = 0
      · have h1 : (whyOf l).length = 0 := by rw [this]; exact h0
        rw [h0, h1]; rfl
      · have h1 : ¬ (whyOf l).length = 0 := by rw [this]; exact h0
        rw [beq_eq_false_iff_ne.2 (show ((whyOf l).length : Int) ≠ 0 by omega), beq_eq_false_iff_ne.2 (show (l.length : Int) ≠ 0 by omega)]; rfl
    have hj : Ev (fun k => firnlaw09_ProvSets.j0 k l (whyOf l) false) true := by
      refine Ev.step (fun k => ?_) (sets_l0 L (whyOf l).length 0 (by omega) (by omega))
      simp only [firnlaw09_ProvSets.j0]
      rw [if_neg (by simp)]
      rfl
    refine Ev.congr (fun k => ?_) hj
    unfold firnlaw09_ProvSets.f
    rw [hr, Option.bind_some, if_pos rfl, hw, Option.bind_some, if_pos rfl, he]
  | false =>
    have hr : firnref09_ValidSum.f l = some false := by unfold firnref09_ValidSum.f; rw [if_pos h, hv]
    refine Ev.rounds (g := fun k => firnlaw09_ProvSets.f k l) (Ev.congr (fun k => ?_) (Ev.bind awake_ev (Ev.now true)))
    unfold firnlaw09_ProvSets.f
    rw [hr, Option.bind_some, if_neg (by simp)]
end Go.Proofs.YtbngenfedbmhiaaDoor.P
