-- WRITTEN FOR THIS CLAIM BY A PROGRAM OF THIS SESSION (wip/tools), which turns the lines of the kit's print
import Derived.Test.YtbngenfedbmhiaaDoor0
import Derived.Test.YtbngenfedbmhiaaDoorSA
import Derived.Test.YtbngenfedbmhiaaDoorSC
import Derived.Lib.OthersKept
namespace Go.Proofs.YtbngenfedbmhiaaDoor.P
open Go.RowKit Go.Proofs.YtbngenfedbmhiaaDoorW.PrintWords Go.Proofs.YtbngenfedbmhiaaDoorW.PrintLast Go.Proofs.YtbngenfedbmhiaaDoorW.PrintMore
attribute [local go_sem] max2_int min2_int max_two min_two max_three min_three max_four min_four   -- for this text's walks alone
set_option linter.unusedVariables false
set_option linter.unusedSimpArgs false

/-! ### prov_cutLeft: function 26 -/
-- IMPORTS Derived.Lib.OthersKept
set_option maxHeartbeats 2000000 in
theorem cutLeft_any (s set : ByteArray) (w : World) (hs : asciiB s = true) (ht : asciiB set = true) (hz : s.size ≤ 140737488351232) :
    Calls Tryd.prog 26 #[.string s, .string set] w fun e w' => e = .returned (.string (cutL s set)) ∧ Below w.heap.size w w' := by
  have HS := Lib.hid hs; clear hs
  have HT := Lib.hid ht; clear ht
  go_enter Tryd.func26, Tryd.ntmps26
  go_wp2
  go_loopw [] (fun wr => ∃ pos : Nat, pos ≤ s.size ∧ wr.heap[w.heap.size]? = some (.stringIter s pos) ∧ (∀ j (hj : j < s.size), j < pos → inB set s[j] = true) ∧ Below w.heap.size w wr) (fun wr => s.size - wr.iterPos w.heap.size)
  case atStart =>
    refine ⟨0, by omega, ?_, fun j _ h => by omega, (Below.refl _ w).alloc (Nat.le_refl _) _⟩
    simpa using World.iter_heap w s 0
  case round =>
    obtain ⟨pos, hpos, hit, hl, hb⟩ := hrel
    have HL := Lib.hid hl; clear hl
    have hsz : w.heap.size < wr.heap.size := (Array.getElem?_eq_some_iff.1 hit).1
    by_cases hp : pos < s.size
    · have hnx : ∀ ty, (Instr.next (.pointer (some ⟨w.heap.size, 0, none⟩)) true ty).run Tryd.prog wr = _ := fun ty => Lib.run_next_ascii_at wr w.heap.size s pos ty hit hp (asciiB_at HS.out hp)
      have hit2 := Lib.iterAt_heap wr w.heap.size s pos (pos + 1) hit
      have hb2 := Lib.below_iterAt hb (k := w.heap.size) (by omega) s (pos + 1)
      have hsz2 : w.heap.size < (wr.iterAt w.heap.size s (pos + 1)).heap.size := by rw [Lib.iterAt_size]; omega
      go_wp2
      obtain ⟨wo, hwo⟩ : ∃ wo : World, wo = wr.iterAt w.heap.size s (pos + 1) := ⟨_, rfl⟩
      rw [← hwo] at hit2 hb2 hsz2 ⊢
      clear hwo hnx
      go_loopw [7] (fun v wi => ∃ q : Nat, q ≤ set.size ∧ v = .bool (inTo set q s[pos]) ∧ wi.heap[wo.heap.size]? = some (.stringIter set q) ∧ Below wo.heap.size wo wi) (fun _ wi => set.size - wi.iterPos wo.heap.size)
      case atStart =>
        refine ⟨0, by omega, rfl, ?_, (Below.refl _ wo).alloc (Nat.le_refl _) _⟩
        simpa using World.iter_heap wo set 0
      case round =>
        obtain ⟨q, hq, rfl, hit3, hb3⟩ := hrel
        have hsz3 : wo.heap.size < wr.heap.size := (Array.getElem?_eq_some_iff.1 hit3).1
        by_cases hq2 : q < set.size
        · have hnx : ∀ ty, (Instr.next (.pointer (some ⟨wo.heap.size, 0, none⟩)) true ty).run Tryd.prog wr = _ := fun ty => Lib.run_next_ascii_at wr wo.heap.size set q ty hit3 hq2 (asciiB_at HT.out hq2)
          have hit4 := Lib.iterAt_heap wr wo.heap.size set q (q + 1) hit3
          have hb4 := Lib.below_iterAt hb3 (k := wo.heap.size) (by omega) set (q + 1)
          have hsc := inTo_succ set s[pos] hq2
          cases hin : inTo set q s[pos] with
          | true =>
            rw [hin] at hsc
            have HSC := Lib.hid hsc; clear hsc
            have HIN := Lib.hid hin; clear hin
            go_wp2
            go_roundw
            case rel => exact ⟨q + 1, by omega, by rw [HSC.out]; rfl, hit4, hb4⟩
            case measure => rw [iterPos_at hit4, iterPos_at hit3]; omega
          | false =>
            rw [hin] at hsc
            have HSC := Lib.hid hsc; clear hsc
            have HIN := Lib.hid hin; clear hin
            go_wp2
            go_roundw
            case rel => exact ⟨q + 1, by omega, by rw [HSC.out, eq_i32]; rfl, hit4, hb4⟩
            case measure => rw [iterPos_at hit4, iterPos_at hit3]; omega
        · obtain rfl : q = set.size := by omega
          have hnx : ∀ ty, (Instr.next (.pointer (some ⟨wo.heap.size, 0, none⟩)) true ty).run Tryd.prog wr = _ := fun ty => Lib.run_next_end_at wr wo.heap.size set set.size ty hit3 hq2
          have hb5 := hb2.trans (hb3.mono (by omega))
          have hit5 : wr.heap[w.heap.size]? = some (.stringIter s (pos + 1)) := (hb3.block _ hsz2).trans hit2
          rw [inTo_all]
          cases hin : inB set s[pos] with
          | true =>
            have HIN := Lib.hid hin; clear hin
            go_wp2
            go_roundw
            case rel =>
              refine ⟨pos + 1, by omega, hit5, fun j hj hlt => ?_, hb5⟩
              rcases Nat.lt_or_ge j pos with h1 | h1
              · exact HL.out j hj h1
              · obtain rfl : j = pos := by omega
                exact HIN.out
            case measure => rw [iterPos_at hit5, iterPos_at hit]; omega
          | false =>
            have HIN : Hid (cutL s set = s.extract pos s.size) := by
              show cutL s set = _
              unfold cutL
              rw [cutIx_at hp hin HL.out]
              rfl
            clear hin
            go_wp2
            go_ret
            exact ⟨ret_str HIN.out.symm, hb5⟩
    · obtain rfl : pos = s.size := by omega
      have hnx : ∀ ty, (Instr.next (.pointer (some ⟨w.heap.size, 0, none⟩)) true ty).run Tryd.prog wr = _ := fun ty => Lib.run_next_end_at wr w.heap.size s s.size ty hit hp
      have HIN := Lib.hid (cutL_none fun j hj => HL.out j hj hj)
      go_wp2
      go_ret
      exact ⟨ret_str HIN.out.symm, hb⟩
def prov_cutLeft.f (a0 a1 : ByteArray) : Option ByteArray := if asciiB a0 && (asciiB a1 && decide (a0.size ≤ 140737488351232)) then some (cutL a0 a1) else none
theorem prov_cutLeft.calls (a0 : ByteArray) (a1 : ByteArray) (r : ByteArray) (w : World) (h : prov_cutLeft.f a0 a1 = some r) :
    Calls Tryd.prog 26 #[.string a0, .string a1] w fun e w' => e = .returned (.string r) ∧ Below w.heap.size w w' := by
  unfold prov_cutLeft.f at h
  split at h
  · rename_i hc
    simp only [Bool.and_eq_true, decide_eq_true_eq] at hc
    obtain rfl := Option.some.inj h
    exact cutLeft_any a0 a1 w hc.1 hc.2.1 hc.2.2
  · cases h

end Go.Proofs.YtbngenfedbmhiaaDoor.P
