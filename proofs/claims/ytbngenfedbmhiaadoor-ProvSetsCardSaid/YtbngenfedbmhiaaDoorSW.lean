-- WRITTEN FOR THIS CLAIM BY A PROGRAM OF THIS SESSION (wip/tools), which turns the lines of the kit's print
import Derived.Test.YtbngenfedbmhiaaDoor0
import Derived.Test.YtbngenfedbmhiaaDoorSA
import Derived.Test.YtbngenfedbmhiaaDoorSC
import Derived.Test.YtbngenfedbmhiaaDoorSV
import Derived.Lib.Bytealg
import Derived.Lib.SlicesCompact
import Derived.Shelf.SlSortCmp.Insertion
namespace Go.Proofs.YtbngenfedbmhiaaDoor.P
open Go.RowKit Go.Proofs.YtbngenfedbmhiaaDoorW.PrintWords Go.Proofs.YtbngenfedbmhiaaDoorW.PrintLast Go.Proofs.YtbngenfedbmhiaaDoorW.PrintMore
attribute [local go_sem] max2_int min2_int max_two min_two max_three min_three max_four min_four   -- for this text's walks alone
set_option linter.unusedVariables false
set_option linter.unusedSimpArgs false

/-! ### shared W -/
-- IMPORTS Derived.Lib.Bytealg Derived.Lib.SlicesCompact Derived.Shelf.SlSortCmp.Insertion
/-! the order of sets (by length, then byte by byte), the least ones: plain -/
theorem cb_flip : ∀ a b : List UInt8, Lib.compareBytes b a = - Lib.compareBytes a b
  | [], [] => rfl
  | [], _ :: _ => rfl
  | _ :: _, [] => rfl
  | a :: xs, b :: ys => by
    simp only [Lib.compareBytes]
    have := cb_flip xs ys
    by_cases h1 : a < b
    · have h2 : ¬ b < a := by rw [UInt8.lt_iff_toNat_lt] at *; omega
      simp [h1, h2]
    · by_cases h2 : b < a
      · simp [h1, h2]
      · simp [h1, h2, this]
theorem cb_zero : ∀ a b : List UInt8, Lib.compareBytes a b = 0 → a = b
  | [], [] => fun _ => rfl
  | [], _ :: _ => fun h => by simp [Lib.compareBytes] at h
  | _ :: _, [] => fun h => by simp [Lib.compareBytes] at h
  | a :: xs, b :: ys => fun h => by
    simp only [Lib.compareBytes] at h
    split at h
    · omega
    · split at h
      · omega
      · rename_i h1 h2
        have e : a = b := by
          rw [UInt8.lt_iff_toNat_lt] at h1 h2
          exact UInt8.toNat_inj.1 (by omega)
        rw [e, cb_zero xs ys h]
theorem cb_self : ∀ a : List UInt8, Lib.compareBytes a a = 0
  | [] => rfl
  | a :: xs => by simp [Lib.compareBytes, cb_self xs, UInt8.lt_irrefl]
theorem cb_trans : ∀ a b c : List UInt8, Lib.compareBytes a b ≤ 0 → Lib.compareBytes b c ≤ 0 → Lib.compareBytes a c ≤ 0 ∧ (Lib.compareBytes a b < 0 ∨ Lib.compareBytes b c < 0 → Lib.compareBytes a c < 0)
  | [], b, [] => fun h1 h2 => ⟨by simp [Lib.compareBytes], by
      rintro (h | h)
      · cases b <;> simp [Lib.compareBytes] at h h2
      · cases b <;> simp [Lib.compareBytes] at h⟩
  | [], b, c :: zs => fun _ _ => by simp [Lib.compareBytes]
  | a :: xs, [], c => fun h1 _ => by simp [Lib.compareBytes] at h1
  | a :: xs, b :: ys, [] => fun _ h2 => by simp [Lib.compareBytes] at h2
  | a :: xs, b :: ys, c :: zs => fun h1 h2 => by
    have ih := cb_trans xs ys zs
    simp only [Lib.compareBytes, UInt8.lt_iff_toNat_lt] at *
    by_cases g1 : a.toNat < b.toNat
    · by_cases g2 : b.toNat < c.toNat
      · rw [if_pos (by omega)]; exact ⟨by omega, fun _ => by omega⟩
      · by_cases g3 : c.toNat < b.toNat
        · rw [if_neg g2, if_pos g3] at h2; omega
        · rw [if_pos (by omega)]; exact ⟨by omega, fun _ => by omega⟩
    · by_cases g1' : b.toNat < a.toNat
      · rw [if_neg g1, if_pos g1'] at h1; omega
      · rw [if_neg g1, if_neg g1'] at h1 ⊢
        by_cases g2 : b.toNat < c.toNat
        · rw [if_pos (show a.toNat < c.toNat by omega)]; exact ⟨by omega, fun _ => by omega⟩
        · by_cases g3 : c.toNat < b.toNat
          · rw [if_neg g2, if_pos g3] at h2; omega
          · rw [if_neg g2, if_neg g3] at h2 ⊢
            rw [if_neg (show ¬ a.toNat < c.toNat by omega), if_neg (show ¬ c.toNat < a.toNat by omega)]
            exact ih h1 h2
/-- How two sets are compared. -/
def cmpS (a b : ByteArray) : Int := if a.size = b.size then Lib.compareBytes a.data.toList b.data.toList else (a.size : Int) - b.size
theorem cmpS_flip (a b : ByteArray) : cmpS b a = - cmpS a b := by
  unfold cmpS
  by_cases h : a.size = b.size
  · rw [if_pos h, if_pos h.symm, cb_flip]
  · rw [if_neg h, if_neg (fun e => h e.symm)]; omega
theorem cmpS_zero {a b : ByteArray} (h : cmpS a b = 0) : a = b := by
  unfold cmpS at h
  split at h
  · exact ba_ext (cb_zero _ _ h)
  · omega
theorem cmpS_self (a : ByteArray) : cmpS a a = 0 := by unfold cmpS; rw [if_pos rfl, cb_self]
theorem cmpS_trans {a b c : ByteArray} (h1 : cmpS a b ≤ 0) (h2 : cmpS b c ≤ 0) : cmpS a c ≤ 0 ∧ (cmpS a b < 0 ∨ cmpS b c < 0 → cmpS a c < 0) := by
  unfold cmpS at *
  by_cases g1 : a.size = b.size
  · by_cases g2 : b.size = c.size
    · rw [if_pos g1] at h1 ⊢
      rw [if_pos g2] at h2 ⊢
      rw [if_pos (g1.trans g2)]
      exact cb_trans _ _ _ h1 h2
    · rw [if_neg g2] at h2
      rw [if_neg (by omega)]
      exact ⟨by omega, fun _ => by omega⟩
  · rw [if_neg g1] at h1
    by_cases g2 : b.size = c.size
    · rw [if_neg (by omega)]
      exact ⟨by omega, fun _ => by omega⟩
    · rw [if_neg g2] at h2
      rw [if_neg (by omega)]
      exact ⟨by omega, fun _ => by omega⟩
theorem swoS : Go.Sort.SWO (ltOf cmpS) where
  irrefl x := by unfold ltOf; rw [cmpS_self]; rfl
  trans x y z h1 h2 := by
    unfold ltOf at *
    simp only [decide_eq_true_eq] at *
    exact (cmpS_trans (by omega) (by omega)).2 (.inl h1)
  ntrans x y z h1 h2 := by
    unfold ltOf at *
    simp only [decide_eq_false_iff_not] at *
    have e1 := cmpS_flip x y
    have e2 := cmpS_flip y z
    have e3 := cmpS_flip x z
    have := (cmpS_trans (a := z) (b := y) (c := x) (by omega) (by omega)).1
    omega
def leS (a b : ByteArray) : Bool := decide (cmpS a b ≤ 0)
def srtS (l : List ByteArray) : List ByteArray := l.mergeSort leS
theorem leS_trans (a b c : ByteArray) (h1 : leS a b = true) (h2 : leS b c = true) : leS a c = true := by
  unfold leS at *
  simp only [decide_eq_true_eq] at *
  exact (cmpS_trans h1 h2).1
theorem leS_total (a b : ByteArray) : (leS a b || leS b a) = true := by
  unfold leS
  have := cmpS_flip a b
  simp only [Bool.or_eq_true, decide_eq_true_eq]
  omega
theorem srtS_perm (l : List ByteArray) : (srtS l).Perm l := List.mergeSort_perm l leS
theorem srtS_sorted (l : List ByteArray) : (srtS l).Pairwise fun a b => leS a b = true := List.pairwise_mergeSort leS_trans leS_total l
theorem srtS_eq {l m : List ByteArray} (hp : m.Perm l) (hs : m.Pairwise fun a b => leS a b = true) : m = srtS l :=
  List.Perm.eq_of_pairwise (fun a b _ _ h1 h2 => cmpS_zero (by
    unfold leS at h1 h2
    simp only [decide_eq_true_eq] at h1 h2
    have := cmpS_flip a b
    omega)) hs (srtS_sorted l) (hp.trans (srtS_perm l).symm)
/-- The bytes of a text, each run once. -/
def runsB (s : ByteArray) : List Int := Lib.compactUpTo (bytesOf s).toArray (bytesOf s).toArray.size
def onceB (s : ByteArray) : ByteArray := strOfNums (runsB s)
def partB (a b : ByteArray) : Bool := (cutR (cutL a b) b).toList.isEmpty || a.toList.isEmpty
def keepMin (out : List ByteArray) (a : ByteArray) : List ByteArray := if out.any (fun b => partB b a) then out else out ++ [a]
/-- What every set of a valid sum is. -/
def okS (s : ByteArray) : Prop := asciiB s = true ∧ s.size ≤ 140737488351232
theorem runsB_mem {s : ByteArray} {n : Int} (h : n ∈ runsB s) : n ∈ bytesOf s := by
  unfold runsB Lib.compactUpTo at h
  rw [List.mem_map] at h
  obtain ⟨j, hj, rfl⟩ := h
  have hj' : j < (bytesOf s).toArray.size := by
    have := (List.mem_filter.1 hj).1
    simpa using this
  rw [getElem!_pos _ j hj']
  simp
theorem runsB_len (s : ByteArray) : (runsB s).length ≤ s.size := by
  unfold runsB Lib.compactUpTo
  rw [List.length_map]
  refine Nat.le_trans (List.length_filter_le _ _) ?_
  simp [bytesOf_length]
theorem onceB_mem {s : ByteArray} {c : UInt8} (h : c ∈ (onceB s).data.toList) : c ∈ s.data.toList := by
  have h1 : c ∈ (runsB s).map fun n => UInt8.ofNat n.toNat := by
    have : (onceB s).data.toList = (runsB s).map fun n => UInt8.ofNat n.toNat := by unfold onceB strOfNums; simp
    rw [this] at h
    exact h
  rw [List.mem_map] at h1
  obtain ⟨n, hn, rfl⟩ := h1
  have h2 := runsB_mem hn
  unfold bytesOf at h2
  rw [List.mem_map] at h2
  obtain ⟨b, hb, rfl⟩ := h2
  rw [show UInt8.ofNat ((b.toNat : Int)).toNat = b by simp]
  exact hb
theorem onceB_size (s : ByteArray) : (onceB s).size ≤ s.size := by
  have : (onceB s).data.toList = (runsB s).map fun n => UInt8.ofNat n.toNat := by unfold onceB strOfNums; simp
  rw [ByteArray_size, this, List.length_map]
  exact runsB_len s
theorem onceB_ok {s : ByteArray} (h : asciiB s = true) (hz : s.size ≤ 140737488351232) : okS (onceB s) := by
  refine ⟨?_, Nat.le_trans (onceB_size s) hz⟩
  unfold asciiB at *
  rw [List.all_eq_true] at *
  exact fun x hx => h x (onceB_mem hx)
theorem tokB_ascii {s : ByteArray} (h : tokB s = true) : asciiB s = true ∧ s.size ≤ 12 := by
  unfold tokB at h
  rw [Bool.and_eq_true, decide_eq_true_eq] at h
  refine ⟨?_, h.2⟩
  unfold asciiB
  rw [List.all_eq_true]
  intro x hx
  obtain ⟨j, hj, rfl⟩ := List.getElem_of_mem hx
  have hj' : j < s.size := by rw [ByteArray_size]; exact hj
  have := tokTo_ge h.1 hj'
  unfold tokAt at this
  rw [bt_lt s hj', getD_lt 0 hj] at this
  simp only [Bool.and_eq_true, decide_eq_true_eq] at this
  rw [decide_eq_true_eq, UInt8.lt_iff_toNat_lt]
  have := this.2.1
  have : (128 : UInt8).toNat = 128 := rfl
  omega
theorem validB_len {l : List S31} (h : validB l = true) : l.length ≤ 40 := by
  unfold validB at h
  rw [Bool.and_eq_true, decide_eq_true_eq] at h
  exact h.2
theorem validB_prod {l : List S31} (h : validB l = true) {k : Nat} (hk : k < l.length) : prodB (l.getD k z31) = true := by
  unfold validB at h
  rw [Bool.and_eq_true] at h
  have := validTo_ge h.1 hk
  unfold stepB at this
  rw [Bool.and_eq_true] at this
  exact this.1
theorem validB_mem {l : List S31} (h : validB l = true) : ∀ x ∈ l, prodB x = true := by
  intro x hx
  obtain ⟨j, hj, rfl⟩ := List.getElem_of_mem hx
  rw [← getD_lt z31 hj]
  exact validB_prod h hj
theorem prodB_tok {x : S31} (h : prodB x = true) : tokB x.f0 = true := by
  unfold prodB at h
  rw [Bool.and_eq_true] at h
  exact h.1
def setsOf (l : List S31) : List ByteArray := l.map fun x => onceB x.f0
def whyOf (l : List S31) : List ByteArray := (srtS (setsOf l)).foldl keepMin []
theorem setsOf_ok {l : List S31} (h : validB l = true) : ∀ s ∈ setsOf l, okS s := by
  intro s hs
  unfold setsOf at hs
  rw [List.mem_map] at hs
  obtain ⟨x, hx, rfl⟩ := hs
  have := tokB_ascii (prodB_tok (validB_mem h x hx))
  exact onceB_ok this.1 (by omega)
theorem keepMin_mem {out : List ByteArray} {a x : ByteArray} (h : x ∈ keepMin out a) : x ∈ out ∨ x = a := by
  unfold keepMin at h
  split at h
  · exact .inl h
  · simpa using h
theorem keepMin_len (out : List ByteArray) (a : ByteArray) : (keepMin out a).length ≤ out.length + 1 := by
  unfold keepMin
  split
  · omega
  · simp
theorem foldMin_mem (l : List ByteArray) : ∀ (out : List ByteArray) (x : ByteArray), x ∈ l.foldl keepMin out → x ∈ out ∨ x ∈ l := by
  induction l with
  | nil => exact fun out x h => .inl h
  | cons a l ih =>
    intro out x h
    rcases ih _ _ h with h1 | h1
    · rcases keepMin_mem h1 with h2 | h2
      · exact .inl h2
      · exact .inr (by rw [h2]; exact List.mem_cons_self)
    · exact .inr (List.mem_cons_of_mem _ h1)
theorem foldMin_len (l : List ByteArray) : ∀ (out : List ByteArray), (l.foldl keepMin out).length ≤ out.length + l.length := by
  induction l with
  | nil => exact fun out => by simp
  | cons a l ih =>
    intro out
    have h1 := ih (keepMin out a)
    have h2 := keepMin_len out a
    simp only [List.foldl_cons, List.length_cons]
    omega
theorem foldMin_take (l : List ByteArray) {k : Nat} (hk : k < l.length) : (l.take (k + 1)).foldl keepMin [] = keepMin ((l.take k).foldl keepMin []) (l.getD k ByteArray.empty) := by
  rw [List.take_succ_eq_append_getElem hk, List.foldl_append, getD_lt _ hk]
  rfl

end Go.Proofs.YtbngenfedbmhiaaDoor.P
