-- WRITTEN FOR THIS CLAIM BY A PROGRAM OF THIS SESSION (wip/tools), which turns the lines of the kit's print
import Derived.Test.YtbngenfedbmhiaaDoor0
import Derived.Test.YtbngenfedbmhiaaDoorSA
import Derived.Test.YtbngenfedbmhiaaDoorSF
import Derived.Shelf.GgClosure.Gives
import Derived.Lib.QuietBelow
namespace Go.Proofs.YtbngenfedbmhiaaDoor.P
open Go.RowKit Go.Proofs.YtbngenfedbmhiaaDoorW.PrintWords Go.Proofs.YtbngenfedbmhiaaDoorW.PrintLast Go.Proofs.YtbngenfedbmhiaaDoorW.PrintMore
attribute [local go_sem] max2_int min2_int max_two min_two max_three min_three max_four min_four   -- for this text's walks alone
set_option linter.unusedVariables false
set_option linter.unusedSimpArgs false

/-! ### slices_ContainsFunc_string_string: function 15 -/
-- IMPORTS Derived.Shelf.GgClosure.Gives Derived.Lib.QuietBelow
set_option maxHeartbeats 1000000 in
theorem indexFunc_str_any (g : Nat) (lb : Array Value) (p : ByteArray → Bool) (A : Option Addr) (c : Nat) (xs : List ByteArray) (w : World) (hr : Kd.C Kd.string w A xs.length xs) (hn : xs.length ≤ 140737488351232)
    (eg : ∀ args W, (callFunc g args).run Tryd.prog W = .ok (.enter g args) W) (hp : PredB Tryd.prog g lb Value.string p xs w) :
    Calls Tryd.prog 24 #[.slice A xs.length c, .func (.func g) #[] lb] w fun e w' => e = .returned (.int .i64 (idxB p xs)) ∧ Below w.heap.size w w' := by
  have HP := Lib.hid hp; clear hp
  go_enter Tryd.func24, Tryd.ntmps24
  go_wp2
  go_loopw [8] (fun v wr => ∃ k : Nat, v = .int .i64 k ∧ k ≤ xs.length ∧ (∀ j, j < k → p (xs.getD j ByteArray.empty) = false) ∧ Below w.heap.size w wr) (fun v _ => xs.length - (intOf v).toNat)
  case atStart => exact ⟨0, rfl, by omega, fun j hj => by omega, Below.refl _ _⟩
  case round =>
    obtain ⟨k, rfl, hk, hv, hb⟩ := hrel
    have HV := Lib.hid hv; clear hv
    by_cases hlt : k < xs.length
    · obtain ⟨ad, e1, c0⟩ := KC_at_str hr k hlt
      subst e1
      have HM : Hid (xs.getD k ByteArray.empty ∈ xs) := Lib.hid (getD_mem _ hlt)
      have c0' := cell_later hb c0
      have HC := Lib.hid (HP.out wr _ HM.out hb)
      have HI : Hid (p (xs.getD k ByteArray.empty) = true → idxB p xs = k) := fun h => idxB_at p _ xs hlt h HV.out
      have HN : Hid (p (xs.getD k ByteArray.empty) = false → ∀ j, j < k + 1 → p (xs.getD j ByteArray.empty) = false) := fun h j hj => by
        rcases Nat.lt_or_ge j k with h1 | h1
        · exact HV.out j h1
        · obtain rfl : j = k := by omega
          exact h
      clear c0 HV HP hr
      generalize xs.getD k ByteArray.empty = x at c0' HC HI HN HM
      cases hpx : p x with
      | true =>
        rw [hpx] at HC
        have HX := Lib.hid hpx; clear hpx
        go_wp2_with (go_at_fn g; (refine HC.out.mono ?_); rintro e w1 ⟨rfl, hb1⟩)
        go_ret
        exact ⟨ret_int (HI.out HX.out).symm, hb.trans (hb1.mono hb.size)⟩
      | false =>
        rw [hpx] at HC
        have HX := Lib.hid hpx; clear hpx
        go_wp2_with (go_at_fn g; (refine HC.out.mono ?_); rintro e w1 ⟨rfl, hb1⟩)
        go_roundw
        case rel => exact ⟨k + 1, by go_num, by omega, HN.out HX.out, hb.trans (hb1.mono hb.size)⟩
        case measure => simp [intOf]; omega
    · obtain rfl : k = xs.length := by omega
      go_wp2
      go_ret
      exact ⟨ret_int (idxB_none p ByteArray.empty xs HV.out).symm, hb⟩
theorem containsFunc_str_any (g : Nat) (lb : Array Value) (p : ByteArray → Bool) (A : Option Addr) (c : Nat) (xs : List ByteArray) (w : World) (hr : Kd.C Kd.string w A xs.length xs) (hn : xs.length ≤ 140737488351232)
    (eg : ∀ args W, (callFunc g args).run Tryd.prog W = .ok (.enter g args) W) (hp : PredB Tryd.prog g lb Value.string p xs w) :
    Calls Tryd.prog 15 #[.slice A xs.length c, .func (.func g) #[] lb] w fun e w' => e = .returned (.bool (xs.any p)) ∧ Below w.heap.size w w' := by
  have hcon := indexFunc_str_any g lb p A c xs w hr hn eg hp
  have hi := idxB_any p xs
  clear hp hr
  generalize idxB p xs = r at hcon hi
  have HI := Lib.hid hi; clear hi
  have HC := Lib.hid hcon; clear hcon
  go_enter Tryd.func15, Tryd.ntmps15
  go_wp2_with (go_at_call 24; (refine HC.out.mono ?_); rintro e w1 ⟨rfl, hb1⟩)
  go_ret
  exact ⟨ret_bool HI.out, hb1⟩

end Go.Proofs.YtbngenfedbmhiaaDoor.P
