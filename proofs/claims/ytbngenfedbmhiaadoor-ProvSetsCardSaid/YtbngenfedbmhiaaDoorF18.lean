-- WRITTEN FOR THIS CLAIM BY A PROGRAM OF THIS SESSION (wip/tools), which turns the lines of the kit's print
import Derived.Test.YtbngenfedbmhiaaDoor0
import Derived.Test.YtbngenfedbmhiaaDoorSA
import Derived.Test.YtbngenfedbmhiaaDoorF29
import Derived.Test.YtbngenfedbmhiaaDoorF27
import Derived.Shelf.GgClosure.Gives
namespace Go.Proofs.YtbngenfedbmhiaaDoor.P
open Go.RowKit Go.Proofs.YtbngenfedbmhiaaDoorW.PrintWords Go.Proofs.YtbngenfedbmhiaaDoorW.PrintLast Go.Proofs.YtbngenfedbmhiaaDoorW.PrintMore
attribute [local go_sem] max2_int min2_int max_two min_two max_three min_three max_four min_four   -- for this text's walks alone
set_option linter.unusedVariables false
set_option linter.unusedSimpArgs false

/-! ### prov_within: function 18 -/
-- IMPORTS Derived.Shelf.GgClosure.Gives
def withinB (l : List Int) (m : Int) : Bool := decide (l.length = 8) && l.all fun n => decide (0 ≤ n) && decide (n ≤ m)
def prov_within.f (l0 : List Int) (a1 : Int) : Option Bool := if l0.length ≤ 140737488351232 then some (withinB l0 a1) else none
theorem between0_any (a b c : Int) (w : World) : Calls Tryd.prog 29 #[.int .i64 a, .int .i64 b, .int .i64 c] w fun e w' => e = .returned (.bool (decide (a ≤ b) && decide (b ≤ c))) ∧ Drawn0 w w' :=
  prov_between.calls a b c _ w (by unfold prov_between.f; split <;> simp [*])
theorem within1_any (n m : Int) (q : Addr) (W : World) (hq : W.cell? q = some (.int .i64 m)) :
    Calls Tryd.prog 28 #[.int .i64 n, .pointer (some q)] W fun e w' => e = .returned (.bool (!(decide (0 ≤ n) && decide (n ≤ m)))) ∧ Below W.heap.size W w' := by
  have hb := Lib.hid (between0_any 0 n m)
  generalize hz : (decide (0 ≤ n) && decide (n ≤ m)) = z at hb
  have HZ := Lib.hid hz; clear hz
  go_enter Tryd.func28, Tryd.ntmps28
  go_wp2_with (go_at_call 29; (refine (hb.out _).mono ?_); rintro e w1 ⟨rfl, ⟨m, rfl⟩⟩)
  go_ret
  exact ⟨rfl, pw_below_drewN (Below.refl _ _) _⟩
set_option maxHeartbeats 1000000 in
theorem within_any (A : Option Addr) (c : Nat) (l : List Int) (m : Int) (w : World) (hr : Kd.C (Kd.int .i64) w A l.length l) (hn : l.length ≤ 140737488351232) :
    Calls Tryd.prog 18 #[.slice A l.length c, .int .i64 m] w fun e w' => e = .returned (.bool (withinB l m)) ∧ Below w.heap.size w w' := by
  have hw1 : Below w.heap.size w (w.alloc (.cells #[.int .i64 m] 3)) := (Below.refl _ w).alloc (Nat.le_refl _) _
  have eg : ∀ args W, (callFunc 28 args).run Tryd.prog W = .ok (.enter 28 args) W := enters_of Tryd.func28 (by kernel_rfl) rfl
  have hcon := containsFunc_int_any 28 #[.pointer (some ⟨w.heap.size, 0, none⟩)] (fun n => !(decide (0 ≤ n) && decide (n ≤ m))) A c l (w.alloc (.cells #[.int .i64 m] 3)) (Kd.C_below hr hw1) hn eg
    (fun W x _ hb => within1_any x m _ W (by rw [hb.cell (by simp)]; go_simp))
  have e1 : (!(l.any fun n => !(decide (0 ≤ n) && decide (n ≤ m)))) = l.all fun n => decide (0 ≤ n) && decide (n ≤ m) := by
    rw [List.all_eq_not_any_not]
  clear eg hr
  generalize (l.any fun n => !(decide (0 ≤ n) && decide (n ≤ m))) = z at hcon e1
  have HE := Lib.hid e1; clear e1
  have HC := Lib.hid hcon; clear hcon
  by_cases h8 : l.length = 8
  · have g8 : ((l.length : Int) == 8) = true := beq_iff_eq.2 (by omega)
    have HF : Hid (withinB l m = !z) := by unfold withinB; rw [← HE.out, h8]; rfl
    have H8 := Lib.hid h8; clear h8
    go_enter Tryd.func18, Tryd.ntmps18
    go_wp2_with (go_at_call 27; (refine HC.out.mono ?_); rintro e w1 ⟨rfl, hb1⟩)
    go_ret
    exact ⟨ret_bool HF.out.symm, hw1.trans (hb1.mono hw1.size)⟩
  · have g8 : ((l.length : Int) == 8) = false := beq_eq_false_iff_ne.2 (by omega)
    have HF : Hid (withinB l m = false) := by unfold withinB; rw [decide_eq_false h8]; rfl
    have H8 := Lib.hid h8; clear h8
    go_enter Tryd.func18, Tryd.ntmps18
    go_wp2
    go_ret
    exact ⟨ret_bool HF.out.symm, hw1⟩
theorem prov_within.calls (A0 : Option Addr) (c0 : Nat) (l0 : List Int) (a1 : Int) (r : Bool) (w : World) (hr0 : Kd.C (Kd.int .i64) w A0 l0.length l0) (hc0 : l0.length ≤ c0) (h : prov_within.f l0 a1 = some r) :
    Calls Tryd.prog 18 #[.slice A0 l0.length c0, .int .i64 a1] w fun e w' => e = .returned (.bool r) ∧ Below w.heap.size w w' := by
  unfold prov_within.f at h
  split at h
  · obtain rfl := Option.some.inj h
    exact within_any A0 c0 l0 a1 w hr0 ‹_›
  · cases h

end Go.Proofs.YtbngenfedbmhiaaDoor.P
