-- WRITTEN FOR THIS CLAIM BY A PROGRAM OF THIS SESSION (wip/tools), which turns the lines of the kit's print
import Derived.Test.YtpiciiglncdbpaaGreatDoor0
import Derived.Test.YtpiciiglncdbpaaGreatDoorSA
namespace Go.Proofs.YtpiciiglncdbpaaGreatDoor.P
open Go.RowKit Go.Proofs.YtpiciiglncdbpaaGreatDoorW.PrintWords Go.Proofs.YtpiciiglncdbpaaGreatDoorW.PrintLast Go.Proofs.YtpiciiglncdbpaaGreatDoorW.PrintMore
attribute [local go_sem] max2_int min2_int max_two min_two max_three min_three max_four min_four   -- for this text's walks alone
set_option linter.unusedVariables false
set_option linter.unusedSimpArgs false

/-! ### shared F -/
/-! predicates as function values: what is asked of one -/
def PredB {α : Type} (P : Program) (g : Nat) (lb : Array Value) (enc : α → Value) (p : α → Bool) (xs : List α) (w : World) : Prop :=
  ∀ (W : World) (x : α), x ∈ xs → Below w.heap.size w W → Calls P g (#[enc x] ++ lb) W fun e w' => e = .returned (.bool (p x)) ∧ Below W.heap.size W w'
def idxB {α : Type} (p : α → Bool) (xs : List α) : Int := if xs.findIdx p < xs.length then (xs.findIdx p : Int) else -1
theorem idxB_at {α : Type} (p : α → Bool) (d : α) (xs : List α) {k : Nat} (hk : k < xs.length) (h : p (xs.getD k d) = true) (hl : ∀ j, j < k → p (xs.getD j d) = false) : idxB p xs = k := by
  have e : xs.findIdx p = k := by
    rw [List.findIdx_eq hk]
    refine ⟨by rw [← getD_lt d hk]; exact h, fun j hj => ?_⟩
    rw [← getD_lt d (by omega)]
    exact hl j hj
  unfold idxB
  rw [e, if_pos hk]
theorem idxB_none {α : Type} (p : α → Bool) (d : α) (xs : List α) (hl : ∀ j, j < xs.length → p (xs.getD j d) = false) : idxB p xs = -1 := by
  have e : ¬ xs.findIdx p < xs.length := by
    intro h
    have h1 := List.findIdx_getElem (w := h)
    have h2 := hl _ h
    rw [getD_lt d h] at h2
    rw [h2] at h1
    cases h1
  unfold idxB
  rw [if_neg e]
theorem idxB_any {α : Type} (p : α → Bool) (xs : List α) : decide (0 ≤ idxB p xs) = xs.any p := by
  unfold idxB
  rw [Bool.eq_iff_iff, List.any_eq_true, decide_eq_true_eq]
  constructor
  · intro h
    split at h
    · rename_i hlt
      exact ⟨_, List.getElem_mem hlt, List.findIdx_getElem (w := hlt)⟩
    · omega
  · rintro ⟨x, hx, hp⟩
    rw [if_pos (List.findIdx_lt_length_of_exists ⟨x, hx, hp⟩)]
    omega
theorem C_at_sc {α : Type} {enc : α → Value} {h1 : ∀ x, (enc x).oneCell' = true} {w : World} {A : Option Addr} {xs : List α} (h : Kd.C (Kd.scalar enc h1) w A xs.length xs) (z : α) (k : Nat) (hk : k < xs.length) : ∃ ad, A = some ad ∧ w.cell? (ad.add k) = some (enc (xs.getD k z)) := by
  obtain ⟨ad, c, e, _, hK, hc⟩ := Kd.C_get h z (k : Int) (by omega) (by omega)
  have hK' : c = [enc (xs.getD k z)] := hK
  subst hK'
  have h0 := hc 0 _ rfl
  rw [show ((k : Int).toNat * (Kd.scalar enc h1).sz + 0) = k from by show ((k : Int).toNat * 1 + 0) = k; simp] at h0
  exact ⟨ad, e, h0⟩
theorem KC_at_int {w : World} {A : Option Addr} {xs : List Int} (h : Kd.C (Kd.int .i64) w A xs.length xs) (k : Nat) (hk : k < xs.length) : ∃ ad, A = some ad ∧ w.cell? (ad.add k) = some (.int .i64 (xs.getD k 0)) := C_at_sc h 0 k hk
theorem KC_at_str {w : World} {A : Option Addr} {xs : List ByteArray} (h : Kd.C Kd.string w A xs.length xs) (k : Nat) (hk : k < xs.length) : ∃ ad, A = some ad ∧ w.cell? (ad.add k) = some (.string (xs.getD k ByteArray.empty)) := C_at_sc h ByteArray.empty k hk

end Go.Proofs.YtpiciiglncdbpaaGreatDoor.P
