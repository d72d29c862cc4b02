-- WRITTEN FOR THIS CLAIM BY A PROGRAM OF THIS SESSION (wip/tools), which turns the lines of the kit's print
import Derived.Test.YtpiciiglncdbpaaGreatDoor0
import Derived.Test.YtpiciiglncdbpaaGreatDoorSA
import Derived.Test.YtpiciiglncdbpaaGreatDoorSF
import Derived.Shelf.GgClosure.Gives
import Derived.Lib.QuietBelow
namespace Go.Proofs.YtpiciiglncdbpaaGreatDoor.P
open Go.RowKit Go.Proofs.YtpiciiglncdbpaaGreatDoorW.PrintWords Go.Proofs.YtpiciiglncdbpaaGreatDoorW.PrintLast Go.Proofs.YtpiciiglncdbpaaGreatDoorW.PrintMore
attribute [local go_sem] max2_int min2_int max_two min_two max_three min_three max_four min_four   -- for this text's walks alone
set_option linter.unusedVariables false
set_option linter.unusedSimpArgs false

/-! ### slices_ContainsFunc_int_int: function 29 -/
-- IMPORTS Derived.Shelf.GgClosure.Gives Derived.Lib.QuietBelow
set_option maxHeartbeats 1000000 in
theorem indexFunc_int_any (g : Nat) (lb : Array Value) (p : Int → Bool) (A : Option Addr) (c : Nat) (xs : List Int) (w : World) (hr : Kd.C (Kd.int .i64) w A xs.length xs) (hn : xs.length ≤ 140737488351232)
    (eg : ∀ args W, (callFunc g args).run Tryz.prog W = .ok (.enter g args) W) (hp : PredB Tryz.prog g lb (Value.int .i64) p xs w) :
    Calls Tryz.prog 41 #[.slice A xs.length c, .func (.func g) #[] lb] w fun e w' => e = .returned (.int .i64 (idxB p xs)) ∧ Below w.heap.size w w' := by
  have HP := Lib.hid hp; clear hp
  go_enter Tryz.func41, Tryz.ntmps41
  go_wp2
  go_loopw [8] (fun v wr => ∃ k : Nat, v = .int .i64 k ∧ k ≤ xs.length ∧ (∀ j, j < k → p (xs.getD j 0) = false) ∧ Below w.heap.size w wr) (fun v _ => xs.length - (intOf v).toNat)
  case atStart => exact ⟨0, rfl, by omega, fun j hj => by omega, Below.refl _ _⟩
  case round =>
    obtain ⟨k, rfl, hk, hv, hb⟩ := hrel
    have HV := Lib.hid hv; clear hv
    by_cases hlt : k < xs.length
    · obtain ⟨ad, e1, c0⟩ := KC_at_int hr k hlt
      subst e1
      have HM : Hid (xs.getD k 0 ∈ xs) := Lib.hid (getD_mem _ hlt)
      have c0' := cell_later hb c0
      have HC := Lib.hid (HP.out wr _ HM.out hb)
      have HI : Hid (p (xs.getD k 0) = true → idxB p xs = k) := fun h => idxB_at p _ xs hlt h HV.out
      have HN : Hid (p (xs.getD k 0) = false → ∀ j, j < k + 1 → p (xs.getD j 0) = false) := fun h j hj => by
        rcases Nat.lt_or_ge j k with h1 | h1
        · exact HV.out j h1
        · obtain rfl : j = k := by omega
          exact h
      clear c0 HV HP hr
      generalize xs.getD k 0 = x at c0' HC HI HN HM
      cases hpx : p x with
      | true =>
        rw [hpx] at HC
        have HX := Lib.hid hpx; clear hpx
        go_wp2_with (go_at_fn g; (refine HC.out.mono ?_); rintro e w1 ⟨rfl, hb1⟩)
        go_ret
        exact ⟨ret_int (HI.out HX.out).symm, hb.trans (hb1.mono hb.size)⟩
      | false =>
        rw [hpx] at HC
        have HX := Lib.hid hpx; clear hpx
        go_wp2_with (go_at_fn g; (refine HC.out.mono ?_); rintro e w1 ⟨rfl, hb1⟩)
        go_roundw
        case rel => exact ⟨k + 1, by go_num, by omega, HN.out HX.out, hb.trans (hb1.mono hb.size)⟩
        case measure => simp [intOf]; omega
    · obtain rfl : k = xs.length := by omega
      go_wp2
      go_ret
      exact ⟨ret_int (idxB_none p 0 xs HV.out).symm, hb⟩
theorem containsFunc_int_any (g : Nat) (lb : Array Value) (p : Int → Bool) (A : Option Addr) (c : Nat) (xs : List Int) (w : World) (hr : Kd.C (Kd.int .i64) w A xs.length xs) (hn : xs.length ≤ 140737488351232)
    (eg : ∀ args W, (callFunc g args).run Tryz.prog W = .ok (.enter g args) W) (hp : PredB Tryz.prog g lb (Value.int .i64) p xs w) :
    Calls Tryz.prog 29 #[.slice A xs.length c, .func (.func g) #[] lb] w fun e w' => e = .returned (.bool (xs.any p)) ∧ Below w.heap.size w w' := by
  have hcon := indexFunc_int_any g lb p A c xs w hr hn eg hp
  have hi := idxB_any p xs
  clear hp hr
  generalize idxB p xs = r at hcon hi
  have HI := Lib.hid hi; clear hi
  have HC := Lib.hid hcon; clear hcon
  go_enter Tryz.func29, Tryz.ntmps29
  go_wp2_with (go_at_call 41; (refine HC.out.mono ?_); rintro e w1 ⟨rfl, hb1⟩)
  go_ret
  exact ⟨ret_bool HI.out, hb1⟩

end Go.Proofs.YtpiciiglncdbpaaGreatDoor.P
