-- WRITTEN FOR THIS CLAIM BY A PROGRAM OF THIS SESSION (wip/tools), which turns the lines of the kit's print
import Derived.Test.YtbngenfedbmhiaaDoor0
import Derived.Test.YtbngenfedbmhiaaDoorSA
import Derived.Test.YtbngenfedbmhiaaDoorSC
import Derived.Test.YtbngenfedbmhiaaDoorSW
import Derived.Test.YtbngenfedbmhiaaDoorF25
import Derived.Test.YtbngenfedbmhiaaDoorF26
import Derived.Test.YtbngenfedbmhiaaDoorF17
namespace Go.Proofs.YtbngenfedbmhiaaDoor.P
open Go.RowKit Go.Proofs.YtbngenfedbmhiaaDoorW.PrintWords Go.Proofs.YtbngenfedbmhiaaDoorW.PrintLast Go.Proofs.YtbngenfedbmhiaaDoorW.PrintMore
attribute [local go_sem] max2_int min2_int max_two min_two max_three min_three max_four min_four   -- for this text's walks alone
set_option linter.unusedVariables false
set_option linter.unusedSimpArgs false

/-! ### prov_Why_2: function 16 -/
theorem asciiB_sub {s t : ByteArray} (h : asciiB s = true) (hs : ∀ x ∈ t.data.toList, x ∈ s.data.toList) : asciiB t = true := by
  unfold asciiB at *
  rw [List.all_eq_true] at *
  exact fun x hx => h x (hs x hx)
theorem cutL_sub (s set : ByteArray) : (∀ x ∈ (cutL s set).data.toList, x ∈ s.data.toList) ∧ (cutL s set).size ≤ s.size := by
  unfold cutL
  rw [ByteArray_size, ByteArray_size, from_data]
  exact ⟨fun x hx => List.mem_of_mem_drop hx, by simp⟩
theorem part_f (a b : ByteArray) (ha : asciiB a = true) (hb : asciiB b = true) (hz : a.size ≤ 140737488351232) : prov_part.f a b = some (partB a b) := by
  obtain ⟨h1, h2⟩ := cutL_sub a b
  have e1 : prov_cutLeft.f a b = some (cutL a b) := by unfold prov_cutLeft.f; rw [ha, hb, decide_eq_true hz]; rfl
  have e2 : prov_cutRight.f (cutL a b) b = some (cutR (cutL a b) b) := by unfold prov_cutRight.f; rw [asciiB_sub ha h1, hb, decide_eq_true (Nat.le_trans h2 hz)]; rfl
  unfold prov_part.f partB
  rw [e1, Option.bind_some, e2, Option.bind_some]
  cases hc : (cutR (cutL a b) b).toList with
  | nil => simp
  | cons x y =>
    simp only [reduceCtorEq, if_false, List.isEmpty_cons, Bool.false_or, Option.some.injEq]
    cases a.toList <;> rfl
theorem part_any (a b : ByteArray) (w : World) (ha : asciiB a = true) (hb : asciiB b = true) (hz : a.size ≤ 140737488351232) :
    Calls Tryd.prog 17 #[.string a, .string b] w fun e w' => e = .returned (.bool (partB a b)) ∧ Below w.heap.size w w' :=
  prov_part.calls a b _ w (part_f a b ha hb hz)
theorem why2_any (b a : ByteArray) (q : Addr) (W : World) (hq : W.cell? q = some (.string a)) (ha : asciiB a = true) (hb : asciiB b = true) (hz : b.size ≤ 140737488351232) :
    Calls Tryd.prog 16 #[.string b, .pointer (some q)] W fun e w' => e = .returned (.bool (partB b a)) ∧ Below W.heap.size W w' := by
  have HC := Lib.hid (fun w => part_any b a w hb ha hz)
  clear ha hb
  generalize partB b a = r at HC
  go_enter Tryd.func16, Tryd.ntmps16
  go_wp2_with (go_at_call 17; (refine (HC.out _).mono ?_); rintro e w' ⟨rfl, hb1⟩)
  go_ret
  exact ⟨rfl, hb1⟩

end Go.Proofs.YtbngenfedbmhiaaDoor.P
