-- WRITTEN FOR THIS CLAIM BY A PROGRAM OF THIS SESSION (wip/tools), which turns the lines of the kit's print
import Derived.Test.YtbngenfedbmhiaaDoor0
import Derived.Test.YtbngenfedbmhiaaDoorSA
import Derived.Test.YtbngenfedbmhiaaDoorSC
import Derived.Lib.OthersKept
namespace Go.Proofs.YtbngenfedbmhiaaDoor.P
open Go.RowKit Go.Proofs.YtbngenfedbmhiaaDoorW.PrintWords Go.Proofs.YtbngenfedbmhiaaDoorW.PrintLast Go.Proofs.YtbngenfedbmhiaaDoorW.PrintMore
attribute [local go_sem] max2_int min2_int max_two min_two max_three min_three max_four min_four   -- for this text's walks alone
set_option linter.unusedVariables false
set_option linter.unusedSimpArgs false

/-! ### prov_cutRight: function 25 -/
-- IMPORTS Derived.Lib.OthersKept
theorem decodeLast_any (t : ByteArray) (b : UInt8) (h0 : 0 < t.size) (hz : t.size ≤ 140737488351232) (hb : t[t.size - 1] = b) (ha : b.toNat < 128) (w : World) :
    Calls Tryd.prog 43 #[.string t] w fun e w' => e = .returned (.tuple #[.int .i32 b.toNat, .int .i64 1]) ∧ w = w' := by
  have g0 : ((t.size : Int) == 0) = false := beq_eq_false_iff_ne.2 (by omega)
  have i0 : (0 : Int) ≤ (t.size : Int) - 1 := by omega
  have i1 : (t.size : Int) - 1 < (t.size : Int) := by omega
  have i2 : ((t.size : Int) - 1).toNat = t.size - 1 := by omega
  have i3 : 1 ≤ t.size := by omega
  have i4 : IntKind.i64.wrap ((t.size : Int) - 1) = (t.size : Int) - 1 := IntWalk.i64_in _ (by omega)
  have i5 : t.size - 1 < t.size := by omega
  have g1 : decide ((b.toNat : Int) < 128) = true := decide_eq_true (by omega)
  have g2 : b.toNat < 128 := ha
  go_enter Tryd.func43, Tryd.ntmps43
  go_wp2
  go_ret2
  exact ⟨rfl, rfl⟩
theorem cutRx_succ (s set : ByteArray) {m : Nat} (h : m < s.size) : cutRx s set (m + 1) = if inB set s[m] then cutRx s set m else m + 1 := by
  rw [cutRx, dif_pos h]
set_option maxHeartbeats 2000000 in
theorem cutRight_any (s set : ByteArray) (w : World) (hs : asciiB s = true) (ht : asciiB set = true) (hz : s.size ≤ 140737488351232) :
    Calls Tryd.prog 25 #[.string s, .string set] w fun e w' => e = .returned (.string (cutR s set)) ∧ Below w.heap.size w w' := by
  have HS := Lib.hid hs; clear hs
  have HT := Lib.hid ht; clear ht
  go_enter Tryd.func25, Tryd.ntmps25
  go_wp2
  go_loopw [0] (fun v wr => ∃ t : ByteArray, v = .string t ∧ t.size ≤ s.size ∧ t = to_ s t.size ∧ Hid (cutRx s set s.size = cutRx s set t.size) ∧ Below w.heap.size w wr) (fun v _ => match v with | .string t => t.size | _ => 0)
  case atStart => exact ⟨s, rfl, by omega, (to_all s).symm, rfl, Below.refl _ w⟩
  case round =>
    obtain ⟨t, rfl, hk, htt, HX, hb⟩ := hrel
    have HTT := Lib.hid htt; clear htt
    by_cases h0 : 0 < t.size
    · have hm : t.size - 1 < s.size := by omega
      have hlast : t[t.size - 1] = s[t.size - 1] := by
        have := to_at s hk (j := t.size - 1) (by omega)
        rw [← this]
        congr 1
      generalize hbb : s[t.size - 1] = b at hlast
      have HB := Lib.hid hbb; clear hbb
      have hasc : b.toNat < 128 := by rw [← HB.out]; exact asciiB_at HS.out hm
      have HD := Lib.hid (decodeLast_any t b h0 (by omega) hlast hasc)
      clear hlast
      have HR : Hid (cutRx s set t.size = if inB set b then cutRx s set (t.size - 1) else t.size) := by
        show _ = _
        have := cutRx_succ s set hm
        rw [HB.out] at this
        rw [show t.size - 1 + 1 = t.size from by omega] at this
        exact this
      have g0 : decide (0 < t.size) = true := decide_eq_true h0
      go_wp2_with (go_at_call 43; (refine (HD.out _).mono ?_); rintro e w' ⟨rfl, rfl⟩)
      obtain ⟨wo, hwo⟩ : ∃ wo : World, wo = wr := ⟨_, rfl⟩
      rw [← hwo] at hb ⊢
      clear hwo
      go_loopw [7] (fun v wi => ∃ q : Nat, q ≤ set.size ∧ v = .bool (inTo set q b) ∧ wi.heap[wo.heap.size]? = some (.stringIter set q) ∧ Below wo.heap.size wo wi) (fun _ wi => set.size - wi.iterPos wo.heap.size)
      case atStart =>
        refine ⟨0, by omega, rfl, ?_, (Below.refl _ wo).alloc (Nat.le_refl _) _⟩
        simpa using World.iter_heap wo set 0
      case round =>
        obtain ⟨q, hq, rfl, hit3, hb3⟩ := hrel
        have hsz3 : wo.heap.size < wr.heap.size := (Array.getElem?_eq_some_iff.1 hit3).1
        by_cases hq2 : q < set.size
        · have hnx : ∀ ty, (Instr.next (.pointer (some ⟨wo.heap.size, 0, none⟩)) true ty).run Tryd.prog wr = _ := fun ty => Lib.run_next_ascii_at wr wo.heap.size set q ty hit3 hq2 (asciiB_at HT.out hq2)
          have hit4 := Lib.iterAt_heap wr wo.heap.size set q (q + 1) hit3
          have hb4 := Lib.below_iterAt hb3 (k := wo.heap.size) (by omega) set (q + 1)
          have hsc := inTo_succ set b hq2
          cases hin : inTo set q b with
          | true =>
            rw [hin] at hsc
            have HSC := Lib.hid hsc; clear hsc
            have HIN := Lib.hid hin; clear hin
            go_wp2
            go_roundw
            case rel => exact ⟨q + 1, by omega, by rw [HSC.out]; rfl, hit4, hb4⟩
            case measure => rw [iterPos_at hit4, iterPos_at hit3]; omega
          | false =>
            rw [hin] at hsc
            have HSC := Lib.hid hsc; clear hsc
            have HIN := Lib.hid hin; clear hin
            go_wp2
            go_roundw
            case rel => exact ⟨q + 1, by omega, by rw [HSC.out, eq_i32]; rfl, hit4, hb4⟩
            case measure => rw [iterPos_at hit4, iterPos_at hit3]; omega
        · obtain rfl : q = set.size := by omega
          have hnx : ∀ ty, (Instr.next (.pointer (some ⟨wo.heap.size, 0, none⟩)) true ty).run Tryd.prog wr = _ := fun ty => Lib.run_next_end_at wr wo.heap.size set set.size ty hit3 hq2
          have hb5 := hb.trans (hb3.mono hb.size)
          rw [inTo_all]
          cases hin : inB set b with
          | true =>
            have HR2 : Hid (cutRx s set s.size = cutRx s set (t.size - 1)) := by
              show _ = _
              rw [HX.out, HR.out, hin]; rfl
            clear hin
            have i0 : (0 : Int) ≤ (t.size : Int) - 1 := by omega
            have i1 : (t.size : Int) - 1 ≤ (t.size : Int) := by omega
            have i2 : ((t.size : Int) - 1).toNat = t.size - 1 := by omega
            have i3 : 1 ≤ t.size := by omega
            go_wp2
            go_roundw
            case rel =>
              have e1 : (t.extract 0 (t.size - 1)) = to_ s (t.size - 1) := by
                conv => lhs; rw [HTT.out]
                rw [to_size s hk]
                exact to_to s (by omega)
              have e2 : (t.extract 0 (t.size - 1)).size = t.size - 1 := by rw [e1, to_size s (by omega)]
              exact ⟨t.extract 0 (t.size - 1), rfl, by omega, by rw [e2]; exact e1, by rw [e2]; exact HR2, hb5⟩
            case measure =>
              have e2 : (t.extract 0 (t.size - 1)).size = t.size - 1 := by simp
              simp; omega
          | false =>
            have HIN : Hid (cutR s set = t) := by
              show cutR s set = t
              unfold cutR
              rw [HX.out, HR.out, hin]
              exact HTT.out.symm
            clear hin
            go_wp2
            go_ret
            exact ⟨ret_str HIN.out.symm, hb5⟩
    · have HIN : Hid (cutR s set = t) := by
        show cutR s set = t
        have h00 : t.size = 0 := by omega
        unfold cutR
        rw [HX.out, h00]
        conv => rhs; rw [HTT.out, h00]
        rfl
      have g0 : decide (0 < t.size) = false := decide_eq_false h0
      go_wp2
      go_ret
      exact ⟨ret_str HIN.out.symm, hb⟩
def prov_cutRight.f (a0 a1 : ByteArray) : Option ByteArray := if asciiB a0 && (asciiB a1 && decide (a0.size ≤ 140737488351232)) then some (cutR a0 a1) else none
theorem prov_cutRight.calls (a0 : ByteArray) (a1 : ByteArray) (r : ByteArray) (w : World) (h : prov_cutRight.f a0 a1 = some r) :
    Calls Tryd.prog 25 #[.string a0, .string a1] w fun e w' => e = .returned (.string r) ∧ Below w.heap.size w w' := by
  unfold prov_cutRight.f at h
  split at h
  · rename_i hc
    simp only [Bool.and_eq_true, decide_eq_true_eq] at hc
    obtain rfl := Option.some.inj h
    exact cutRight_any a0 a1 w hc.1 hc.2.1 hc.2.2
  · cases h

end Go.Proofs.YtbngenfedbmhiaaDoor.P
