-- WRITTEN FOR THIS CLAIM BY A PROGRAM OF THIS SESSION (wip/tools), which turns the lines of the kit's print
import Derived.Test.YtbngenfedbmhiaaDoor0
import Derived.Test.YtbngenfedbmhiaaDoorSA
import Derived.Test.YtbngenfedbmhiaaDoorSV
import Derived.Test.YtbngenfedbmhiaaDoorF20
import Derived.Lib.QuietBelow
namespace Go.Proofs.YtbngenfedbmhiaaDoor.P
open Go.RowKit Go.Proofs.YtbngenfedbmhiaaDoorW.PrintWords Go.Proofs.YtbngenfedbmhiaaDoorW.PrintLast Go.Proofs.YtbngenfedbmhiaaDoorW.PrintMore
attribute [local go_sem] max2_int min2_int max_two min_two max_three min_three max_four min_four   -- for this text's walks alone
set_option linter.unusedVariables false
set_option linter.unusedSimpArgs false

/-! ### prov_ValidSum: function 10 -/
-- IMPORTS Derived.Lib.QuietBelow
def prov_ValidSum.f (l0 : List S31) : Option Bool := if sumIn l0 then some (validB l0) else none
theorem isProd_any (x : S31) (w : World) (hs : x.f0.size ≤ 140737488351232) : Calls Tryd.prog 20 #[.agg #[.string x.f0, .int .i64 x.f1]] w fun e w' => e = .returned (.bool (prodB x)) ∧ Below w.heap.size w w' :=
  prov_isProduct.calls x.f0 x.f1 _ w (by unfold prov_isProduct.f; rw [if_pos hs])
open Go.Sort in
set_option maxHeartbeats 2000000 in
theorem provValid_any (A : Option Addr) (c : Nat) (l : List S31) (w : World) (hr : Kd.C k31 w A l.length l) (hm : l.length ≤ 140737488351232) (hs : ∀ x ∈ l, x.f0.size ≤ 140737488351232) :
    Calls Tryd.prog 10 #[.slice A l.length c] w fun e w' => e = .returned (.bool (validB l)) ∧ Below w.heap.size w w' := by
  go_enter Tryd.func10, Tryd.ntmps10
  go_wp2
  go_loopw [7] (fun v wr => ∃ k : Nat, v = .int .i64 k ∧ k ≤ l.length ∧ validTo l k = true ∧ Below w.heap.size w wr) (fun v _ => l.length - (intOf v).toNat)
  case atStart => exact ⟨0, rfl, by omega, rfl, Below.refl _ _⟩
  case round =>
    obtain ⟨k, rfl, hk, hv, hb⟩ := hrel
    have HV := Lib.hid hv; clear hv
    by_cases hlt : k < l.length
    · obtain ⟨ad, e1, c0, c1⟩ := at_T31 hr (k : Int) (by omega) (by omega)
      subst e1
      have hx : rd_T31 l (k : Int) = l.getD k z31 := rfl
      rw [hx] at c0 c1
      have hsx : (l.getD k z31).f0.size ≤ 140737488351232 := hs _ (getD_mem _ hlt)
      generalize hxx : l.getD k z31 = x at c0 c1 hsx
      have HX := Lib.hid hxx; clear hxx hx
      simp only [Int.toNat_natCast] at c0 c1
      replace c0 := cell_later hb c0
      replace c1 := cell_later hb c1
      have HT := Lib.hid (fun W => isProd_any x W hsx)
      have hb' := hb.alloc hb.size (.cells #[.string x.f0, .int .i64 x.f1] 31)
      have hz : wr.heap.size < (wr.alloc (.cells #[.string x.f0, .int .i64 x.f1] 31)).heap.size := by simp
      have hz' : w.heap.size ≤ (wr.alloc (.cells #[.string x.f0, .int .i64 x.f1] 31)).heap.size := by have := hb.size; simp; omega
      have q0 := fun d os => cell_regrown (w := (wr.alloc (.cells #[.string x.f0, .int .i64 x.f1] 31))) (a := ⟨wr.heap.size, 0, none⟩) (v := .string x.f0) (by go_simp) d os
      have q1 := fun d os => cell_regrown (w := (wr.alloc (.cells #[.string x.f0, .int .i64 x.f1] 31))) (a := ⟨wr.heap.size, 1, none⟩) (v := .int .i64 x.f1) (by go_simp) d os
      cases h1 : prodB x with
      | true =>
        rw [h1] at HT
        have HP := Lib.hid h1; clear h1
        by_cases hk0 : k = 0
        · have g4 : decide (0 < k) = false := decide_eq_false (by omega)
          have HK0 := Lib.hid hk0; clear hk0
          go_wp2
          refine wp_region_quiet_below (by kernel_rfl) (by kernel_rfl) ?_
          repeat (first | go_big_quiet_step ((go_at_call 20; exact Calls.regrown_of (HT.out _))) | quiet_step ((go_at_call 20; exact Calls.regrown_of (HT.out _))))
          refine wpQuiet_nil ?_
          intro _ hw'
          obtain ⟨pq, hw''⟩ := hw'
          subst hw''
          have hbq := hb'.trans ((below_regrown (wr.alloc (.cells #[.string x.f0, .int .i64 x.f1] 31)) pq.d pq.os).mono hz')
          generalize grow (redrawn (wr.alloc (.cells #[.string x.f0, .int .i64 x.f1] 31)) pq.d) pq.os = wq at hbq ⊢
          go_wp2
          go_roundw
          case rel => exact ⟨k + 1, by go_num, by omega, pl_next HV (stepB_zero HK0 HX HP.out), hbq⟩
          case measure => simp [intOf]; omega
        · have g4 : decide (0 < k) = true := decide_eq_true (by omega)
          obtain ⟨ad', e1, d0, d1⟩ := at_T31 hr ((k - 1 : Nat) : Int) (by omega) (by omega)
          obtain rfl : ad = ad' := by injection e1
          have hy : rd_T31 l ((k - 1 : Nat) : Int) = l.getD (k - 1) z31 := rfl
          rw [hy] at d0 d1
          generalize hyy : l.getD (k - 1) z31 = y at d0 d1
          have HY := Lib.hid hyy; clear hyy hy d1 e1
          simp only [Int.toNat_natCast] at d0
          have q2 := fun d os => cell_regrown (cell_later hb' d0) d os
          have i0 : (0 : Int) ≤ (k : Int) - 1 := by omega
          have i1 : (k : Int) - 1 < (l.length : Int) := by omega
          have i2 : ((k : Int) - 1).toNat = k - 1 := by omega
          have i4 : (1 : Int) ≤ (k : Int) := by omega
          have i5 : 1 ≤ k := by omega
          have i6 : 0 < k := by omega
          have i3 : IntKind.i64.wrap ((k : Int) - 1) = (k : Int) - 1 := IntWalk.i64_in _ (by omega)
          go_wp2
          refine wp_region_quiet_below (by kernel_rfl) (by kernel_rfl) ?_
          repeat (first | go_big_quiet_step ((go_at_call 20; exact Calls.regrown_of (HT.out _))) | quiet_step ((go_at_call 20; exact Calls.regrown_of (HT.out _))))
          refine wpQuiet_nil ?_
          intro _ hw'
          obtain ⟨pq, hw''⟩ := hw'
          subst hw''
          have hbq := hb'.trans ((below_regrown (wr.alloc (.cells #[.string x.f0, .int .i64 x.f1] 31)) pq.d pq.os).mono hz')
          generalize grow (redrawn (wr.alloc (.cells #[.string x.f0, .int .i64 x.f1] 31)) pq.d) pq.os = wq at hbq ⊢
          go_wp2
          · go_ret
            exact ⟨pl_false2 hlt i6 HX HY (leqB_true ‹_›), hbq⟩
          · go_roundw
            case rel => exact ⟨k + 1, by go_num, by omega, pl_next HV (stepB_pos HX HY HP.out (leqB_false ‹_›)), hbq⟩
            case measure => simp [intOf]; omega
      | false =>
        rw [h1] at HT
        have HP := Lib.hid h1; clear h1
        go_wp2
        refine wp_region_quiet_below (by kernel_rfl) (by kernel_rfl) ?_
        repeat (first | go_big_quiet_step ((go_at_call 20; exact Calls.regrown_of (HT.out _))) | quiet_step ((go_at_call 20; exact Calls.regrown_of (HT.out _))))
        refine wpQuiet_nil ?_
        intro _ hw'
        obtain ⟨pq, hw''⟩ := hw'
        subst hw''
        have hbq := hb'.trans ((below_regrown (wr.alloc (.cells #[.string x.f0, .int .i64 x.f1] 31)) pq.d pq.os).mono hz')
        generalize grow (redrawn (wr.alloc (.cells #[.string x.f0, .int .i64 x.f1] 31)) pq.d) pq.os = wq at hbq ⊢
        go_wp2
        go_ret
        exact ⟨pl_false hlt HX HP.out, hbq⟩
    · obtain rfl : k = l.length := by omega
      go_wp2
      go_ret
      refine ⟨ret_bool ?_, hb⟩
      unfold validB; rw [HV.out]; simp only [Bool.true_and, decide_eq_decide]; omega
theorem prov_ValidSum.calls (A0 : Option Addr) (c0 : Nat) (l0 : List S31) (r : Bool) (w : World) (hr0 : Kd.C k31 w A0 l0.length l0) (hc0 : l0.length ≤ c0) (h : prov_ValidSum.f l0 = some r) :
    Calls Tryd.prog 10 #[.slice A0 l0.length c0] w fun e w' => e = .returned (.bool r) ∧ Below w.heap.size w w' := by
  unfold prov_ValidSum.f at h
  split at h
  · obtain rfl := Option.some.inj h
    exact provValid_any A0 c0 l0 w hr0 (sumIn_len ‹_›) (sumIn_mem ‹_›)
  · cases h

end Go.Proofs.YtbngenfedbmhiaaDoor.P
