-- WRITTEN FOR THIS CLAIM BY A PROGRAM OF THIS SESSION (wip/tools), which turns the lines of the kit's print
import Derived.Test.YtbngenfedbmhiaaDoor0
import Derived.Test.YtbngenfedbmhiaaDoorSA
import Derived.Test.YtbngenfedbmhiaaDoorSV
import Derived.Test.YtbngenfedbmhiaaDoorF8
namespace Go.Proofs.YtbngenfedbmhiaaDoor.P
open Go.RowKit Go.Proofs.YtbngenfedbmhiaaDoorW.PrintWords Go.Proofs.YtbngenfedbmhiaaDoorW.PrintLast Go.Proofs.YtbngenfedbmhiaaDoorW.PrintMore
attribute [local go_sem] max2_int min2_int max_two min_two max_three min_three max_four min_four   -- for this text's walks alone
set_option linter.unusedVariables false
set_option linter.unusedSimpArgs false

/-! ### firnref09_ValidSum: function 4 -/
def firnref09_ValidSum.f (l0 : List S31) : Option Bool := if sumIn l0 then some (validB l0) else none
theorem isTokens_l0 (s : ByteArray) (hs : s.size ≤ 140737488351232) (d : Nat) : ∀ (k i : Nat), i ≤ s.size → s.size - i = d → d < k → tokTo s i = true → firnref09_isTokens.l0 k s (s.size : Int) (i : Int) = some (tokB s) := by
  induction d with
  | zero =>
    intro k i hi hd hk ht
    obtain ⟨k, rfl⟩ : ∃ m, k = m + 1 := ⟨k - 1, by omega⟩
    obtain rfl : i = s.size := by omega
    simp only [firnref09_isTokens.l0]
    rw [if_neg (by omega)]
    unfold tokB; rw [ht]; simp only [Bool.true_and, Option.some.injEq, decide_eq_decide]; omega
  | succ d ih =>
    intro k i hi hd hk ht
    obtain ⟨k, rfl⟩ : ∃ m, k = m + 1 := ⟨k - 1, by omega⟩
    have hlt : i < s.size := by omega
    have hw : wrap64 ((i : Int) + 1) = ((i + 1 : Nat) : Int) := by rw [wrap64_of (by omega) (by omega)]; omega
    simp only [firnref09_isTokens.l0]
    rw [if_pos (by omega), if_pos (by omega), if_pos (by omega), hw]
    have fin : tokAt s i = false → some false = some (tokB s) := fun h => by rw [tokB_false hlt h]
    by_cases c1 : bt s i < 97
    · rw [if_pos c1]; exact fin (by unfold tokAt; rw [decide_eq_false (by omega)]; rfl)
    · rw [if_neg c1]
      by_cases c2 : bt s i ≥ 105
      · rw [if_pos c2]; exact fin (by unfold tokAt; rw [decide_eq_false (p := bt s i < 105) (by omega)]; simp)
      · rw [if_neg c2]
        have e1 : decide (97 ≤ bt s (i : Int)) = true := decide_eq_true (by omega)
        have e2 : decide (bt s (i : Int) < 105) = true := decide_eq_true (by omega)
        by_cases c3 : (i : Int) > 0
        · have hw1 : wrap64 ((i : Int) - 1) = (i : Int) - 1 := wrap64_of (by omega) (by omega)
          rw [if_pos c3, hw1, if_pos (by omega), if_pos (by omega)]
          by_cases c4 : bt s i < bt s ((i : Int) - 1)
          · rw [if_pos c4]; exact fin (by
              unfold tokAt; rw [decide_eq_false (p := bt s ((i : Int) - 1) ≤ bt s i) (by omega), show (i == 0) = false from beq_eq_false_iff_ne.2 (by omega)]; simp)
          · rw [if_neg c4]
            exact ih k (i + 1) (by omega) (by omega) (by omega) (by
              rw [tokTo_succ, ht]; unfold tokAt; rw [e1, e2, decide_eq_true (p := bt s ((i : Int) - 1) ≤ bt s i) (by omega)]; simp)
        · rw [if_neg c3]
          exact ih k (i + 1) (by omega) (by omega) (by omega) (by
            rw [tokTo_succ, ht]; unfold tokAt; rw [e1, e2, show (i == 0) = true from beq_iff_eq.2 (by omega)]; rfl)
theorem isTok_any (s : ByteArray) (w : World) (hs : s.size ≤ 140737488351232) : Calls Tryd.prog 8 #[.string s] w fun e w' => e = .returned (.bool (tokB s)) ∧ ∃ n, w' = w.drewN n :=
  quiet0 (firnref09_isTokens.calls (s.size + 1) s (tokB s) w (isTokens_l0 s hs s.size (s.size + 1) 0 (by omega) (by omega) (by omega) rfl))

set_option maxHeartbeats 2000000 in
theorem refValid_any (A : Option Addr) (c : Nat) (l : List S31) (w : World) (hr : Kd.C k31 w A l.length l) (hm : l.length ≤ 140737488351232) (hs : ∀ x ∈ l, x.f0.size ≤ 140737488351232) :
    Calls Tryd.prog 4 #[.slice A l.length c] w fun e w' => e = .returned (.bool (validB l)) ∧ Below w.heap.size w w' := by
  go_enter Tryd.func4, Tryd.ntmps4
  go_wp2
  go_loopw [7] (fun v wr => ∃ k : Nat, v = .int .i64 k ∧ k ≤ l.length ∧ validTo l k = true ∧ Below w.heap.size w wr) (fun v _ => l.length - (intOf v).toNat)
  case atStart => exact ⟨0, rfl, by omega, rfl, Below.refl _ _⟩
  case round =>
    obtain ⟨k, rfl, hk, hv, hb⟩ := hrel
    have HV := Lib.hid hv; clear hv
    by_cases hlt : k < l.length
    · obtain ⟨ad, e1, c0, c1⟩ := at_T31 hr (k : Int) (by omega) (by omega)
      subst e1
      have hx : rd_T31 l (k : Int) = l.getD k z31 := rfl
      rw [hx] at c0 c1
      have hsx : (l.getD k z31).f0.size ≤ 140737488351232 := hs _ (getD_mem _ hlt)
      generalize hxx : l.getD k z31 = x at c0 c1 hsx
      have HX := Lib.hid hxx; clear hxx hx
      simp only [Int.toNat_natCast] at c0 c1
      replace c0 := cell_later hb c0
      replace c1 := cell_later hb c1
      have HT := Lib.hid (fun w' => isTok_any x.f0 w' hsx)
      have hb' := hb.alloc hb.size (.cells #[.string x.f0, .int .i64 x.f1] 31)
      by_cases h1 : tokB x.f0 = true
      · by_cases h2 : x.f1 < 1
        · go_wp2
          go_quiet ((go_at_call 8; exact Calls.quiet_of (h1 ▸ HT.out _)))
          go_wp2
          go_ret
          exact ⟨pl_false hlt HX (by simp [prodB]; omega), pw_below_drewN hb' _⟩
        · have g2 : decide (x.f1 < 1) = false := decide_eq_false h2
          by_cases h3 : 100000 < x.f1
          · go_wp2
            go_quiet ((go_at_call 8; exact Calls.quiet_of (h1 ▸ HT.out _)))
            go_wp2
            go_ret
            exact ⟨pl_false hlt HX (by simp [prodB]; omega), pw_below_drewN hb' _⟩
          · have g3 : decide (100000 < x.f1) = false := decide_eq_false h3
            have HP := Lib.hid (prodB_mk h1 h2 h3)
            by_cases hk0 : k = 0
            · have g4 : decide (0 < k) = false := decide_eq_false (by omega)
              have HK0 := Lib.hid hk0; clear hk0
              go_wp2
              go_quiet ((go_at_call 8; exact Calls.quiet_of (h1 ▸ HT.out _)))
              go_wp2
              go_roundw
              case rel => exact ⟨k + 1, by go_num, by omega, pl_next HV (stepB_zero HK0 HX HP.out), pw_below_drewN hb' _⟩
              case measure => simp [intOf]; omega
            · have g4 : decide (0 < k) = true := decide_eq_true (by omega)
              obtain ⟨ad', e1, d0, d1⟩ := at_T31 hr ((k - 1 : Nat) : Int) (by omega) (by omega)
              obtain rfl : ad = ad' := by injection e1
              have hy : rd_T31 l ((k - 1 : Nat) : Int) = l.getD (k - 1) z31 := rfl
              rw [hy] at d0 d1
              generalize hyy : l.getD (k - 1) z31 = y at d0 d1
              have HY := Lib.hid hyy; clear hyy hy d1 e1
              simp only [Int.toNat_natCast] at d0
              replace d0 := cell_later hb' d0
              have i0 : (0 : Int) ≤ (k : Int) - 1 := by omega
              have i1 : (k : Int) - 1 < (l.length : Int) := by omega
              have i2 : ((k : Int) - 1).toNat = k - 1 := by omega
              have i4 : (1 : Int) ≤ (k : Int) := by omega
              have i5 : 1 ≤ k := by omega
              have i6 : 0 < k := by omega
              have i3 : IntKind.i64.wrap ((k : Int) - 1) = (k : Int) - 1 := IntWalk.i64_in _ (by omega)
              go_wp2
              go_quiet ((go_at_call 8; exact Calls.quiet_of (h1 ▸ HT.out _)))
              go_wp2
              · go_ret
                exact ⟨pl_false2 hlt i6 HX HY (leqB_true ‹_›), pw_below_drewN hb' _⟩
              · go_roundw
                case rel => exact ⟨k + 1, by go_num, by omega, pl_next HV (stepB_pos HX HY HP.out (leqB_false ‹_›)), pw_below_drewN hb' _⟩
                case measure => simp [intOf]; omega
      · have h1f : tokB x.f0 = false := by simpa using h1
        go_wp2
        go_quiet ((go_at_call 8; exact Calls.quiet_of (h1f ▸ HT.out _)))
        go_wp2
        go_ret
        exact ⟨pl_false hlt HX (by simp [prodB, h1f]), pw_below_drewN hb' _⟩
    · obtain rfl : k = l.length := by omega
      go_wp2
      go_ret
      refine ⟨ret_bool ?_, hb⟩
      unfold validB; rw [HV.out]; simp only [Bool.true_and, decide_eq_decide]; omega
theorem firnref09_ValidSum.calls (A0 : Option Addr) (c0 : Nat) (l0 : List S31) (r : Bool) (w : World) (hr0 : Kd.C k31 w A0 l0.length l0) (hc0 : l0.length ≤ c0) (h : firnref09_ValidSum.f l0 = some r) :
    Calls Tryd.prog 4 #[.slice A0 l0.length c0] w fun e w' => e = .returned (.bool r) ∧ Below w.heap.size w w' := by
  unfold firnref09_ValidSum.f at h
  split at h
  · obtain rfl := Option.some.inj h
    exact refValid_any A0 c0 l0 w hr0 (sumIn_len ‹_›) (sumIn_mem ‹_›)
  · cases h

end Go.Proofs.YtbngenfedbmhiaaDoor.P
