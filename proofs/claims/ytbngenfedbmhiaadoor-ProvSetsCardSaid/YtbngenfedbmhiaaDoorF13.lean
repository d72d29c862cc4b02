-- WRITTEN FOR THIS CLAIM BY A PROGRAM OF THIS SESSION (wip/tools), which turns the lines of the kit's print
import Derived.Test.YtbngenfedbmhiaaDoor0
import Derived.Test.YtbngenfedbmhiaaDoorSA
import Derived.Test.YtbngenfedbmhiaaDoorSW
import Derived.Test.YtbngenfedbmhiaaDoorShelf
namespace Go.Proofs.YtbngenfedbmhiaaDoor.P
open Go.RowKit Go.Proofs.YtbngenfedbmhiaaDoorW.PrintWords Go.Proofs.YtbngenfedbmhiaaDoorW.PrintLast Go.Proofs.YtbngenfedbmhiaaDoorW.PrintMore
attribute [local go_sem] max2_int min2_int max_two min_two max_three min_three max_four min_four   -- for this text's walks alone
set_option linter.unusedVariables false
set_option linter.unusedSimpArgs false

/-! ### prov_Why_1: function 13 -/
-- IMPORTS Derived.Test.YtbngenfedbmhiaaDoorShelf
theorem cmp1_any (a b : ByteArray) (w : World) (ha : a.size ≤ 140737488351232) (hb : b.size ≤ 140737488351232) :
    Calls Tryd.prog 13 #[.string a, .string b] w fun e w' => e = .returned (.int .i64 (cmpS a b)) ∧ ∃ q, w' = w.drewN q := by
  have hcon := Tryd.strings_Compare a b w
  generalize hr : Lib.compareBytes a.data.toList b.data.toList = r at hcon
  have HC := Lib.hid hcon; clear hcon
  by_cases h : a.size = b.size
  · have HF : Hid (cmpS a b = r) := by show cmpS a b = r; unfold cmpS; rw [if_pos h, hr]
    have g0 : ((a.size : Int) != (b.size : Int)) = false := by rw [h]; simp
    have g1 : (a.size != b.size) = false := by rw [h]; simp
    clear hr h
    go_enter Tryd.func13, Tryd.ntmps13
    go_wp2_with (go_at_call 14; (refine HC.out.mono ?_); rintro e w' ⟨rfl, rfl⟩)
    go_ret
    exact ⟨ret_int HF.out.symm, 0, rfl⟩
  · have HF : Hid (cmpS a b = (a.size : Int) - b.size) := by show cmpS a b = _; unfold cmpS; rw [if_neg h]
    have g0 : ((a.size : Int) != (b.size : Int)) = true := by rw [bne_iff_ne]; omega
    have g1 : (a.size != b.size) = true := by rw [bne_iff_ne]; omega
    clear hr h
    go_enter Tryd.func13, Tryd.ntmps13
    go_wp2
    go_ret
    exact ⟨ret_int HF.out.symm, 0, rfl⟩

end Go.Proofs.YtbngenfedbmhiaaDoor.P
