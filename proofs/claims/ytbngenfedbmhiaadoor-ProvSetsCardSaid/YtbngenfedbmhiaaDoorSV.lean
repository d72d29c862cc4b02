-- WRITTEN FOR THIS CLAIM BY A PROGRAM OF THIS SESSION (wip/tools), which turns the lines of the kit's print
import Derived.Test.YtbngenfedbmhiaaDoor0
import Derived.Test.YtbngenfedbmhiaaDoorSA
namespace Go.Proofs.YtbngenfedbmhiaaDoor.P
open Go.RowKit Go.Proofs.YtbngenfedbmhiaaDoorW.PrintWords Go.Proofs.YtbngenfedbmhiaaDoorW.PrintLast Go.Proofs.YtbngenfedbmhiaaDoorW.PrintMore
attribute [local go_sem] max2_int min2_int max_two min_two max_three min_three max_four min_four   -- for this text's walks alone
set_option linter.unusedVariables false
set_option linter.unusedSimpArgs false

/-! ### shared V -/
/-! what a token list, a product and a sum are: plain -/
def tokAt (s : ByteArray) (j : Nat) : Bool := decide (97 ≤ bt s j) && (decide (bt s j < 105) && (j == 0 || decide (bt s ((j : Int) - 1) ≤ bt s j)))
def tokTo (s : ByteArray) (k : Nat) : Bool := (List.range k).all (tokAt s)
def tokB (s : ByteArray) : Bool := tokTo s s.size && decide (s.size ≤ 12)
def leqB (a b : ByteArray) : Bool := !(Op.bytesLess b.toList a.toList)
def prodB (x : S31) : Bool := tokB x.f0 && (decide (1 ≤ x.f1) && decide (x.f1 ≤ 100000))
def stepB (l : List S31) (j : Nat) : Bool := prodB (l.getD j z31) && (j == 0 || !leqB (l.getD j z31).f0 (l.getD (j - 1) z31).f0)
def validTo (l : List S31) (k : Nat) : Bool := (List.range k).all (stepB l)
def validB (l : List S31) : Bool := validTo l l.length && decide (l.length ≤ 40)
theorem tokTo_succ (s : ByteArray) (k : Nat) : tokTo s (k + 1) = (tokTo s k && tokAt s k) := by simp [tokTo, List.range_succ]
theorem tokTo_ge {s : ByteArray} {k n : Nat} (h : tokTo s n = true) (hk : k < n) : tokAt s k = true := by
  simp only [tokTo, List.all_eq_true, List.mem_range] at h
  exact h k hk
theorem tokB_false {s : ByteArray} {k : Nat} (hk : k < s.size) (h : tokAt s k = false) : tokB s = false := by
  cases hv : tokTo s s.size with
  | false => simp [tokB, hv]
  | true => have := tokTo_ge hv hk; rw [h] at this; cases this
theorem validTo_succ (l : List S31) (k : Nat) : validTo l (k + 1) = (validTo l k && stepB l k) := by simp [validTo, List.range_succ]
theorem validTo_ge {l : List S31} {k n : Nat} (h : validTo l n = true) (hk : k < n) : stepB l k = true := by
  simp only [validTo, List.all_eq_true, List.mem_range] at h
  exact h k hk
theorem validB_false {l : List S31} {k : Nat} (hk : k < l.length) (h : stepB l k = false) : validB l = false := by
  cases hv : validTo l l.length with
  | false => simp [validB, hv]
  | true => have := validTo_ge hv hk; rw [h] at this; cases this
theorem pl_false {l : List S31} {k : Nat} {x : S31} (hk : k < l.length) (hx : Hid (l.getD k z31 = x)) (h : prodB x = false) : Ending.returned (.bool false) = .returned (.bool (validB l)) :=
  ret_bool (validB_false hk (by unfold stepB; rw [hx.out, h]; rfl)).symm
theorem pl_false2 {l : List S31} {k : Nat} {x y : S31} (hk : k < l.length) (h0 : 0 < k) (hx : Hid (l.getD k z31 = x)) (hy : Hid (l.getD (k - 1) z31 = y)) (h : leqB x.f0 y.f0 = true) : Ending.returned (.bool false) = .returned (.bool (validB l)) :=
  ret_bool (validB_false hk (by
    unfold stepB; rw [hx.out, hy.out, h, show (k == 0) = false from beq_eq_false_iff_ne.2 (by omega)]
    simp)).symm
theorem pl_next {l : List S31} {k : Nat} (hv : Hid (validTo l k = true)) (h : stepB l k = true) : validTo l (k + 1) = true := by
  rw [validTo_succ, hv.out, h]; rfl
theorem stepB_zero {l : List S31} {k : Nat} {x : S31} (h0 : Hid (k = 0)) (hx : Hid (l.getD k z31 = x)) (h : prodB x = true) : stepB l k = true := by
  unfold stepB; rw [hx.out, h, h0.out]; rfl
theorem stepB_pos {l : List S31} {k : Nat} {x y : S31} (hx : Hid (l.getD k z31 = x)) (hy : Hid (l.getD (k - 1) z31 = y)) (h : prodB x = true) (hl : leqB x.f0 y.f0 = false) : stepB l k = true := by
  unfold stepB; rw [hx.out, hy.out, h, hl]; simp
theorem leqB_true {a b : ByteArray} (h : (!Op.bytesLess b.toList a.toList) = true) : leqB a b = true := h
theorem leqB_false {a b : ByteArray} (h : (!Op.bytesLess b.toList a.toList) = false) : leqB a b = false := h
theorem prodB_mk {x : S31} (h1 : tokB x.f0 = true) (h2 : ¬ x.f1 < 1) (h3 : ¬ 100000 < x.f1) : prodB x = true := by
  unfold prodB; rw [h1]; simp; omega
/-- What a sum as a list in memory may be, for a contract. -/
def sumIn (l : List S31) : Bool := decide (l.length ≤ 140737488351232) && l.all fun x => decide (x.f0.size ≤ 140737488351232)
theorem sumIn_len {l : List S31} (h : sumIn l = true) : l.length ≤ 140737488351232 := by simp [sumIn] at h; exact h.1
theorem sumIn_mem {l : List S31} (h : sumIn l = true) : ∀ x ∈ l, x.f0.size ≤ 140737488351232 := by simp [sumIn] at h; exact h.2

end Go.Proofs.YtbngenfedbmhiaaDoor.P
