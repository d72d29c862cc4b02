import Derived.Test.YtajeaefpapnkbaaGreatDoor0
import Derived.Test.YtajeaefpapnkbaaGreatDoorMS
import Derived.Shelf.Strings.SlTrimAscii
import Derived.Test.YtajeaefpapnkbaaGreatDoorShelf
import Derived.Lib.QuietBelow
import Derived.Shelf.GgClosure.Gives
import Derived.Shelf.SlicesE.Compact
import Derived.Lib.ConvBytes
import Derived.Shelf.SlSortCmp.NoneTotal
import Derived.Lib.OthersKept
import Derived.Laws.AppendOwn
import Derived.OwnWalk
import Derived.Deep.RegionLaw
import Derived.ArgAppend
import Derived.Lib.SmallJoins
-- WRITTEN FOR THIS CLAIM BY A PROGRAM OF THIS SESSION (wip/tools), which turns the lines of the kit's print
namespace Go.Proofs.YtajeaefpapnkbaaGreatDoor.P
open Go.RowKit Go.Proofs.YtajeaefpapnkbaaGreatDoorW.PrintWords Go.Proofs.YtajeaefpapnkbaaGreatDoorW.PrintLast Go.Proofs.YtajeaefpapnkbaaGreatDoorW.PrintMore
attribute [local go_sem] max2_int min2_int max_two min_two max_three min_three max_four min_four   -- for this text's walks alone
set_option linter.unusedVariables false
set_option linter.unusedSimpArgs false

/-! ### firnlaw09_Long: function 4 -/
def firnlaw09_Long.l0 : Nat → List (S37) → List (S37) → Int → Int → Option (Bool)
  | 0, _, _, _, _ => none
  | k + 1, x0, x5, x6, x7 => if x7 < x6 then (if 0 ≤ x7 then (if x7 < (x5.length : Int) then (if (((rd_T37 x5 x7).f0).size : Int) > 100 then (some true) else (firnlaw09_Long.l0 k x0 x5 x6 (wrap64 (x7 + 1)))) else (none)) else (none)) else (some (decide ((x0.length : Int) > 100)))
def firnlaw09_Long.f (k : Nat) (l0 : List (S37)) : Option (Bool) := firnlaw09_Long.l0 k l0 l0 (l0.length : Int) 0
theorem firnlaw09_Long.mono_l : ∀ k, (∀ y0 y1 y2 y3, LeO (firnlaw09_Long.l0 k y0 y1 y2 y3) (firnlaw09_Long.l0 (k + 1) y0 y1 y2 y3))
  | 0 => fun _ _ _ _ r h => by simp [firnlaw09_Long.l0] at h
  | k + 1 => by
    have ih0 := firnlaw09_Long.mono_l k
    · intro y0 y1 y2 y3
      unfold firnlaw09_Long.l0
      repeat' first
      | (with_reducible exact ih0 _ _ _ _)
      | (with_reducible exact LeO.refl _)
      | (with_reducible exact LeO.none _)
      | (with_reducible refine LeO.ite ?_ ?_)
      | (with_reducible refine LeO.bind ?_ (fun _ => ?_))
      | exact ih0 _ _ _ _
      | exact LeO.none _
      | refine LeO.ite ?_ ?_
      | refine LeO.bind ?_ (fun _ => ?_)
theorem firnlaw09_Long.mono : ∀ a0 k, LeO (firnlaw09_Long.f k a0) (firnlaw09_Long.f (k + 1) a0) := by
  intro a0 k
  have ih0 := firnlaw09_Long.mono_l k
  unfold firnlaw09_Long.f
  repeat' first
      | (with_reducible exact ih0 _ _ _ _)
      | (with_reducible exact LeO.refl _)
      | (with_reducible exact LeO.none _)
      | (with_reducible refine LeO.ite ?_ ?_)
      | (with_reducible refine LeO.bind ?_ (fun _ => ?_))
      | exact ih0 _ _ _ _
      | exact LeO.none _
      | refine LeO.ite ?_ ?_
      | refine LeO.bind ?_ (fun _ => ?_)
set_option maxHeartbeats 8000000 in
set_option maxRecDepth 100000 in
theorem firnlaw09_Long.calls (k : Nat) (A0 : Option Addr) (c0 : Nat) (l0 : List (S37)) (r : Bool) (w : World) (hr0 : Kd.C k37 w A0 l0.length l0) (hc0 : l0.length ≤ c0) (h : firnlaw09_Long.f k l0 = some r) :
    Calls Tryz.prog 4 #[.slice A0 l0.length c0] w fun e w' => e = .returned (.bool r) ∧ Below w.heap.size w w' := by
  have hu37 := Tryz.underlying37
  have HR0 := Aside0.mk hr0
  have HC0 := Aside0.mk hc0
  clear hr0 hc0
  have HB := Aside0.mk (Below.refl w.heap.size w)
  have H : (firnlaw09_Long.l0 k l0 l0 (l0.length : Int) 0) = some r := h
  clear h
  have H' := Aside0.mk H
  clear H
  go_enter Tryz.func4, Tryz.ntmps4
  go_wp2
  go_loopg [7] k (fun kq v7 w' => ∃ (x7_1 : Int), v7 = .int .i64 x7_1 ∧ Aside0 (firnlaw09_Long.l0 kq l0 l0 (l0.length : Int) x7_1 = some r) ∧ Aside0 (kq ≤ k) ∧ Aside0 (Below w.heap.size w w'))
  case atStart => exact ⟨(0), (by first | rfl | (simp; done) | (simp [*]; done)), H', ⟨Nat.le_refl _⟩, ⟨by repeat (first | (with_reducible first | exact HB.out | apply below_alloc | apply pw_below_drewN | apply below_drew1) | exact HB.out)⟩⟩
  case round =>
    clear H'
    obtain ⟨x7_1, rfl, HA, HK1, HB⟩ := hrel
    cases gk with
    | zero => exact absurd HA.out (by simp [firnlaw09_Long.l0])
    | succ k1 =>
      have H := HA.out
      clear HA
      simp only [firnlaw09_Long.l0] at H
      by_cases c2 : x7_1 < (l0.length : Int)
      · rw [if_pos c2] at H
        have c2b0 : decide (x7_1 < (l0.length : Int)) = true := decide_eq_true c2
        clear c2
        by_cases c3 : 0 ≤ x7_1
        · rw [if_pos c3] at H
          have c3b0 : decide (0 ≤ x7_1) = true := decide_eq_true c3
          clear c3
          by_cases c4 : x7_1 < (l0.length : Int)
          · rw [if_pos c4] at H
            have c4b0 : decide (x7_1 < (l0.length : Int)) = true := decide_eq_true c4
            clear c4
            by_cases c5 : (((rd_T37 l0 x7_1).f0).size : Int) > 100
            · rw [if_pos c5] at H
              have c5b0 : decide (100 < (((rd_T37 l0 x7_1).f0).size : Int)) = true := decide_eq_true c5
              have c5b1 : decide (100 < ((rd_T37 l0 x7_1).f0).size) = true := decide_eq_true (by omega)
              clear c5
              obtain rfl := Option.some.inj H
              have p101 : 0 ≤ (x7_1 : Int) := of_decide_eq_true (by first | (with_reducible assumption) | assumption)
              have q101 : x7_1 < (l0.length : Int) := of_decide_eq_true (by first | (with_reducible assumption) | assumption)
              obtain ⟨ad101, e101, hx101_0, hx101_1⟩ := at_T37 HR0.out x7_1 p101 q101
              cases e101
              replace hx101_0 := (HB.out.cell (World.block_lt_of_cell? w _ hx101_0)).trans hx101_0
              replace hx101_1 := (HB.out.cell (World.block_lt_of_cell? w _ hx101_1)).trans hx101_1
              replace p101 := eq_true p101
              replace q101 := eq_true q101
              go_wp2_with (first | ((with_reducible refine gate_dst (N := 4) rfl ?_); refine box_event ?hg (N := 4) ?hd (cs := #[.string (⟨#[]⟩ : ByteArray), .int .i64 0]) (t := 37) ?hr ?_; (case hd => rfl); (case hg => rfl); (case hr => first | (go_simp; done) | (go_simp; rfl)); intro gb102 hg w6 hbox hb; have n0_ := Aside0.mk (below_step (by repeat (first | (with_reducible first | exact HB.out | apply below_alloc | apply pw_below_drewN | apply below_drew1) | exact HB.out)) hb); have n1_ := Aside0.mk (hbox); have n2_ := Aside0.mk ((by rw [hg]; exact (below_size (by repeat (first | (with_reducible first | exact HB.out | apply below_alloc | apply pw_below_drewN | apply below_drew1) | exact HB.out))) : w.heap.size ≤ gb102)); have n3_ := Aside0.mk ((by rw [hg]; exact (below_size (by repeat (first | (with_reducible first | exact HB.out | apply below_alloc | apply pw_below_drewN | apply below_drew1) | exact HB.out))) : w.heap.size ≤ gb102)); clear HB; have HB := n0_; have BK102 := n1_; have GW102 := n2_; have GE102 := n3_; clear n0_ n1_ n2_ n3_; clear hb hbox hg; have hcz7_0 : w6.cell? ⟨gb102, 0, none⟩ = some (.string (⟨#[]⟩ : ByteArray)) := (blk_cell BK102.out 0).trans rfl; have hcz7_1 : w6.cell? ⟨gb102, 1, none⟩ = some (.int .i64 0) := (blk_cell BK102.out 1).trans rfl; have hfz7_0 := blk_frozen BK102.out 0; have hfz7_1 := blk_frozen BK102.out 1))
              go_ret
              exact ⟨by first | rfl | (simp [errW_none, errW_some] <;> rfl) | (simp [*, errW_none, errW_some] <;> rfl), by repeat (first | (with_reducible first | exact HB.out | apply below_alloc | apply pw_below_drewN | apply below_drew1 | refine below_set ?_ GE102.out) | exact HB.out)⟩
            · rw [if_neg c5] at H
              have c5b0 : decide (100 < (((rd_T37 l0 x7_1).f0).size : Int)) = false := decide_eq_false c5
              have c5b1 : decide (100 < ((rd_T37 l0 x7_1).f0).size) = false := decide_eq_false (by omega)
              clear c5
              have H' := Aside0.mk H
              clear H
              have p101 : 0 ≤ (x7_1 : Int) := of_decide_eq_true (by first | (with_reducible assumption) | assumption)
              have q101 : x7_1 < (l0.length : Int) := of_decide_eq_true (by first | (with_reducible assumption) | assumption)
              obtain ⟨ad101, e101, hx101_0, hx101_1⟩ := at_T37 HR0.out x7_1 p101 q101
              cases e101
              replace hx101_0 := (HB.out.cell (World.block_lt_of_cell? w _ hx101_0)).trans hx101_0
              replace hx101_1 := (HB.out.cell (World.block_lt_of_cell? w _ hx101_1)).trans hx101_1
              replace p101 := eq_true p101
              replace q101 := eq_true q101
              go_wp2_with (first | ((with_reducible refine gate_dst (N := 4) rfl ?_); refine box_event ?hg (N := 4) ?hd (cs := #[.string (⟨#[]⟩ : ByteArray), .int .i64 0]) (t := 37) ?hr ?_; (case hd => rfl); (case hg => rfl); (case hr => first | (go_simp; done) | (go_simp; rfl)); intro gb102 hg w8 hbox hb; have n0_ := Aside0.mk (below_step (by repeat (first | (with_reducible first | exact HB.out | apply below_alloc | apply pw_below_drewN | apply below_drew1) | exact HB.out)) hb); have n1_ := Aside0.mk (hbox); have n2_ := Aside0.mk ((by rw [hg]; exact (below_size (by repeat (first | (with_reducible first | exact HB.out | apply below_alloc | apply pw_below_drewN | apply below_drew1) | exact HB.out))) : w.heap.size ≤ gb102)); have n3_ := Aside0.mk ((by rw [hg]; exact (below_size (by repeat (first | (with_reducible first | exact HB.out | apply below_alloc | apply pw_below_drewN | apply below_drew1) | exact HB.out))) : w.heap.size ≤ gb102)); clear HB; have HB := n0_; have BK102 := n1_; have GW102 := n2_; have GE102 := n3_; clear n0_ n1_ n2_ n3_; clear hb hbox hg; have hcz9_0 : w8.cell? ⟨gb102, 0, none⟩ = some (.string (⟨#[]⟩ : ByteArray)) := (blk_cell BK102.out 0).trans rfl; have hcz9_1 : w8.cell? ⟨gb102, 1, none⟩ = some (.int .i64 0) := (blk_cell BK102.out 1).trans rfl; have hfz9_0 := blk_frozen BK102.out 0; have hfz9_1 := blk_frozen BK102.out 1))
              go_roundg k1
              case measure => have := HK1.out; omega
              case rel => exact ⟨(wrap64 (x7_1 + 1)), (by first | rfl | (simp; done) | (simp [*]; done)), H', ⟨by have := HK1.out; omega⟩, ⟨by repeat (first | (with_reducible first | exact HB.out | apply below_alloc | apply pw_below_drewN | apply below_drew1 | refine below_set ?_ GE102.out) | exact HB.out)⟩⟩
          · rw [if_neg c4] at H
            exact absurd H (by simp)
        · rw [if_neg c3] at H
          exact absurd H (by simp)
      · rw [if_neg c2] at H
        have c2b0 : decide (x7_1 < (l0.length : Int)) = false := decide_eq_false c2
        clear c2
        obtain rfl := Option.some.inj H
        go_wp2
        go_ret
        exact ⟨by first | rfl | (simp [errW_none, errW_some] <;> rfl) | (simp [*, errW_none, errW_some] <;> rfl), by repeat (first | (with_reducible first | exact HB.out | apply below_alloc | apply pw_below_drewN | apply below_drew1) | exact HB.out)⟩

end Go.Proofs.YtajeaefpapnkbaaGreatDoor.P
-- WRITTEN FOR THIS CLAIM BY A PROGRAM OF THIS SESSION (wip/tools), which turns the lines of the kit's print
namespace Go.Proofs.YtajeaefpapnkbaaGreatDoor.P
open Go.RowKit Go.Proofs.YtajeaefpapnkbaaGreatDoorW.PrintWords Go.Proofs.YtajeaefpapnkbaaGreatDoorW.PrintLast Go.Proofs.YtajeaefpapnkbaaGreatDoorW.PrintMore
attribute [local go_sem] max2_int min2_int max_two min_two max_three min_three max_four min_four   -- for this text's walks alone
set_option linter.unusedVariables false
set_option linter.unusedSimpArgs false

/-! ### prov_between: function 48 -/
def prov_between.f (a0 : Int) (a1 : Int) (a2 : Int) : Option (Bool) := if a0 ≤ a1 then (some (decide (a1 ≤ a2))) else (some false)
set_option maxHeartbeats 8000000 in
set_option maxRecDepth 100000 in
theorem prov_between.calls (a0 : Int) (a1 : Int) (a2 : Int) (r : Bool) (w : World) (h : prov_between.f a0 a1 a2 = some r) :
    Calls Tryz.prog 48 #[.int .i64 a0, .int .i64 a1, .int .i64 a2] w fun e w' => e = .returned (.bool r) ∧ Drawn0 w w' := by
  have H : (if a0 ≤ a1 then (some (decide (a1 ≤ a2))) else (some false)) = some r := h
  clear h
  by_cases c4 : a0 ≤ a1
  · rw [if_pos c4] at H
    have c4b0 : decide (a0 ≤ a1) = true := decide_eq_true c4
    clear c4
    obtain rfl := Option.some.inj H
    go_enter Tryz.func48, Tryz.ntmps48
    go_wp2
    go_ret
    exact ⟨by first | rfl | (simp; done) | (simp [*]; done), by repeat (first | exact Drawn0.refl _ | apply Drawn0.step)⟩
  · rw [if_neg c4] at H
    have c4b0 : decide (a0 ≤ a1) = false := decide_eq_false c4
    clear c4
    obtain rfl := Option.some.inj H
    go_enter Tryz.func48, Tryz.ntmps48
    go_wp2
    go_ret
    exact ⟨by first | rfl | (simp; done) | (simp [*]; done), by repeat (first | exact Drawn0.refl _ | apply Drawn0.step)⟩

end Go.Proofs.YtajeaefpapnkbaaGreatDoor.P
-- WRITTEN FOR THIS CLAIM BY A PROGRAM OF THIS SESSION (wip/tools), which turns the lines of the kit's print
namespace Go.Proofs.YtajeaefpapnkbaaGreatDoor.P
open Go.RowKit Go.Proofs.YtajeaefpapnkbaaGreatDoorW.PrintWords Go.Proofs.YtajeaefpapnkbaaGreatDoorW.PrintLast Go.Proofs.YtajeaefpapnkbaaGreatDoorW.PrintMore
attribute [local go_sem] max2_int min2_int max_two min_two max_three min_three max_four min_four   -- for this text's walks alone
set_option linter.unusedVariables false
set_option linter.unusedSimpArgs false

/-! ### cmp_isNaN_byte: function 92 -/
def cmp_isNaN_byte.f (a0 : Int) : Option (Bool) := some (a0 != a0)
set_option maxHeartbeats 8000000 in
set_option maxRecDepth 100000 in
theorem cmp_isNaN_byte.calls (a0 : Int) (r : Bool) (w : World) (h : cmp_isNaN_byte.f a0 = some r) :
    Calls Tryz.prog 92 #[.int .u8 a0] w fun e w' => e = .returned (.bool r) ∧ Drawn0 w w' := by
  have H : (some (a0 != a0)) = some r := h
  clear h
  obtain rfl := Option.some.inj H
  go_enter Tryz.func92, Tryz.ntmps92
  go_wp2
  go_ret
  exact ⟨by first | rfl | (simp; done) | (simp [*]; done), by repeat (first | exact Drawn0.refl _ | apply Drawn0.step)⟩

end Go.Proofs.YtajeaefpapnkbaaGreatDoor.P
-- WRITTEN FOR THIS CLAIM BY A PROGRAM OF THIS SESSION (wip/tools), which turns the lines of the kit's print
namespace Go.Proofs.YtajeaefpapnkbaaGreatDoor.P
open Go.RowKit Go.Proofs.YtajeaefpapnkbaaGreatDoorW.PrintWords Go.Proofs.YtajeaefpapnkbaaGreatDoorW.PrintLast Go.Proofs.YtajeaefpapnkbaaGreatDoorW.PrintMore
attribute [local go_sem] max2_int min2_int max_two min_two max_three min_three max_four min_four   -- for this text's walks alone
set_option linter.unusedVariables false
set_option linter.unusedSimpArgs false

/-! ### cmp_Less_byte: function 69 -/
def cmp_Less_byte.f (a0 : Int) (a1 : Int) : Option (Bool) := (cmp_isNaN_byte.f a0).bind fun t103 => (if t103 = true then ((cmp_isNaN_byte.f a1).bind fun t104 => (if t104 = true then (some (decide (a0 < a1))) else (some true))) else (some (decide (a0 < a1))))
set_option maxHeartbeats 8000000 in
set_option maxRecDepth 100000 in
theorem cmp_Less_byte.calls (a0 : Int) (a1 : Int) (r : Bool) (w : World) (h : cmp_Less_byte.f a0 a1 = some r) :
    Calls Tryz.prog 69 #[.int .u8 a0, .int .u8 a1] w fun e w' => e = .returned (.bool r) ∧ Drawn0 w w' := by
  have H : ((cmp_isNaN_byte.f a0).bind fun t103 => (if t103 = true then ((cmp_isNaN_byte.f a1).bind fun t104 => (if t104 = true then (some (decide (a0 < a1))) else (some true))) else (some (decide (a0 < a1))))) = some r := h
  clear h
  replace H := Option.bind_eq_some_iff.mp H
  obtain ⟨t103, A30, H⟩ := H
  replace H : (if t103 = true then ((cmp_isNaN_byte.f a1).bind fun t104 => (if t104 = true then (some (decide (a0 < a1))) else (some true))) else (some (decide (a0 < a1)))) = some r := H
  have A3 := Aside0.mk A30
  clear A30
  by_cases c4 : t103 = true
  · subst c4
    have H1 : ((cmp_isNaN_byte.f a1).bind fun t104 => (if t104 = true then (some (decide (a0 < a1))) else (some true))) = some r := by rw [if_pos rfl] at H; exact H
    clear H
    have H := H1
    clear H1
    replace H := Option.bind_eq_some_iff.mp H
    obtain ⟨t104, A50, H⟩ := H
    replace H : (if t104 = true then (some (decide (a0 < a1))) else (some true)) = some r := H
    have A5 := Aside0.mk A50
    clear A50
    by_cases c6 : t104 = true
    · subst c6
      have H1 : (some (decide (a0 < a1))) = some r := by rw [if_pos rfl] at H; exact H
      clear H
      have H := H1
      clear H1
      obtain rfl := Option.some.inj H
      go_enter Tryz.func69, Tryz.ntmps69
      go_wp2_with (first | ((with_reducible refine gate_callee (f := 92) rfl ?_); refine goesL_ (some 6) rfl rfl Tryz.func92 (by kernel_rfl) rfl #[.int .u8 a0] rfl (by (try simp only [List.map_toArray, List.map_cons, List.map_nil]); first | done | rfl | (simp only [List.length_drop, List.length_take]; rfl)) ?_; (with_reducible refine (cmp_isNaN_byte.calls a0 true _ A3.out).mono ?_); rintro e w' ⟨rfl, ⟨nd, rfl⟩⟩; refine ⟨_, rfl, ?_⟩) | (go_at_call 92; (with_reducible refine (cmp_isNaN_byte.calls a1 true _ A5.out).mono ?_); rintro e w' ⟨rfl, ⟨nd, rfl⟩⟩))
      go_ret
      exact ⟨by first | rfl | (simp; done) | (simp [*]; done), by repeat (first | exact Drawn0.refl _ | apply Drawn0.step)⟩
    · replace c6 := Bool.eq_false_iff.mpr c6
      subst c6
      have H1 : (some true) = some r := by rw [if_neg (show ¬ (false = true) by decide)] at H; exact H
      clear H
      have H := H1
      clear H1
      obtain rfl := Option.some.inj H
      go_enter Tryz.func69, Tryz.ntmps69
      go_wp2_with (first | ((with_reducible refine gate_callee (f := 92) rfl ?_); refine goesL_ (some 6) rfl rfl Tryz.func92 (by kernel_rfl) rfl #[.int .u8 a0] rfl (by (try simp only [List.map_toArray, List.map_cons, List.map_nil]); first | done | rfl | (simp only [List.length_drop, List.length_take]; rfl)) ?_; (with_reducible refine (cmp_isNaN_byte.calls a0 true _ A3.out).mono ?_); rintro e w' ⟨rfl, ⟨nd, rfl⟩⟩; refine ⟨_, rfl, ?_⟩) | (go_at_call 92; (with_reducible refine (cmp_isNaN_byte.calls a1 false _ A5.out).mono ?_); rintro e w' ⟨rfl, ⟨nd, rfl⟩⟩))
      go_ret
      exact ⟨by first | rfl | (simp; done) | (simp [*]; done), by repeat (first | exact Drawn0.refl _ | apply Drawn0.step)⟩
  · replace c4 := Bool.eq_false_iff.mpr c4
    subst c4
    have H1 : (some (decide (a0 < a1))) = some r := by rw [if_neg (show ¬ (false = true) by decide)] at H; exact H
    clear H
    have H := H1
    clear H1
    obtain rfl := Option.some.inj H
    go_enter Tryz.func69, Tryz.ntmps69
    go_wp2_with (first | ((with_reducible refine gate_callee (f := 92) rfl ?_); refine goesL_ (some 6) rfl rfl Tryz.func92 (by kernel_rfl) rfl #[.int .u8 a0] rfl (by (try simp only [List.map_toArray, List.map_cons, List.map_nil]); first | done | rfl | (simp only [List.length_drop, List.length_take]; rfl)) ?_; (with_reducible refine (cmp_isNaN_byte.calls a0 false _ A3.out).mono ?_); rintro e w' ⟨rfl, ⟨nd, rfl⟩⟩; refine ⟨_, rfl, ?_⟩))
    go_ret
    exact ⟨by first | rfl | (simp; done) | (simp [*]; done), by repeat (first | exact Drawn0.refl _ | apply Drawn0.step)⟩

end Go.Proofs.YtajeaefpapnkbaaGreatDoor.P
-- WRITTEN FOR THIS CLAIM BY A PROGRAM OF THIS SESSION (wip/tools), which turns the lines of the kit's print
namespace Go.Proofs.YtajeaefpapnkbaaGreatDoor.P
open Go.RowKit Go.Proofs.YtajeaefpapnkbaaGreatDoorW.PrintWords Go.Proofs.YtajeaefpapnkbaaGreatDoorW.PrintLast Go.Proofs.YtajeaefpapnkbaaGreatDoorW.PrintMore
attribute [local go_sem] max2_int min2_int max_two min_two max_three min_three max_four min_four   -- for this text's walks alone
set_option linter.unusedVariables false
set_option linter.unusedSimpArgs false

/-! ### slices_IsSorted_byte_byte: function 50 -/
def slices_IsSorted_byte_byte.l0 : Nat → List Int → Int → Option (Bool)
  | 0, _, _ => none
  | k + 1, x0, x3 => if x3 > 0 then (if 0 ≤ x3 then (if x3 < (x0.length : Int) then (if 0 ≤ (wrap64 (x3 - 1)) then (if (wrap64 (x3 - 1)) < (x0.length : Int) then ((cmp_Less_byte.f (rd x0 x3) (rd x0 (wrap64 (x3 - 1)))).bind fun t107 => (if t107 = true then (some false) else (slices_IsSorted_byte_byte.l0 k x0 (wrap64 (x3 - 1))))) else (none)) else (none)) else (none)) else (none)) else (some true)
def slices_IsSorted_byte_byte.f (k : Nat) (l0 : List Int) : Option (Bool) := slices_IsSorted_byte_byte.l0 k l0 (wrap64 ((l0.length : Int) - 1))
theorem slices_IsSorted_byte_byte.mono_l : ∀ k, (∀ y0 y1, LeO (slices_IsSorted_byte_byte.l0 k y0 y1) (slices_IsSorted_byte_byte.l0 (k + 1) y0 y1))
  | 0 => fun _ _ r h => by simp [slices_IsSorted_byte_byte.l0] at h
  | k + 1 => by
    have ih0 := slices_IsSorted_byte_byte.mono_l k
    · intro y0 y1
      unfold slices_IsSorted_byte_byte.l0
      repeat' first
      | (with_reducible exact ih0 _ _)
      | (with_reducible exact LeO.refl _)
      | (with_reducible exact LeO.none _)
      | (with_reducible refine LeO.ite ?_ ?_)
      | (with_reducible refine LeO.bind ?_ (fun _ => ?_))
      | exact ih0 _ _
      | exact LeO.none _
      | refine LeO.ite ?_ ?_
      | refine LeO.bind ?_ (fun _ => ?_)
theorem slices_IsSorted_byte_byte.mono : ∀ a0 k, LeO (slices_IsSorted_byte_byte.f k a0) (slices_IsSorted_byte_byte.f (k + 1) a0) := by
  intro a0 k
  have ih0 := slices_IsSorted_byte_byte.mono_l k
  unfold slices_IsSorted_byte_byte.f
  repeat' first
      | (with_reducible exact ih0 _ _)
      | (with_reducible exact LeO.refl _)
      | (with_reducible exact LeO.none _)
      | (with_reducible refine LeO.ite ?_ ?_)
      | (with_reducible refine LeO.bind ?_ (fun _ => ?_))
      | exact ih0 _ _
      | exact LeO.none _
      | refine LeO.ite ?_ ?_
      | refine LeO.bind ?_ (fun _ => ?_)
set_option maxHeartbeats 8000000 in
set_option maxRecDepth 100000 in
theorem slices_IsSorted_byte_byte.calls (k : Nat) (A0 : Option Addr) (c0 : Nat) (l0 : List Int) (r : Bool) (w : World) (hr0 : Kd.C (Kd.int .u8) w A0 l0.length l0) (hc0 : l0.length ≤ c0) (h : slices_IsSorted_byte_byte.f k l0 = some r) :
    Calls Tryz.prog 50 #[.slice A0 l0.length c0] w fun e w' => e = .returned (.bool r) ∧ Drawn0 w w' := by
  have HR0 := Aside0.mk hr0
  have HC0 := Aside0.mk hc0
  clear hr0 hc0
  have H : (slices_IsSorted_byte_byte.l0 k l0 (wrap64 ((l0.length : Int) - 1))) = some r := h
  clear h
  have H' := Aside0.mk H
  clear H
  go_enter Tryz.func50, Tryz.ntmps50
  go_wp2
  repeat (go_quiet (fail); try go_wp2)
  go_loopg [3] k (fun kq v3 w' => ∃ (x3_1 : Int), v3 = .int .i64 x3_1 ∧ Aside0 (slices_IsSorted_byte_byte.l0 kq l0 x3_1 = some r) ∧ Aside0 (kq ≤ k) ∧ Drawn0 w w')
  case atStart => exact ⟨(wrap64 ((l0.length : Int) - 1)), (by first | rfl | (simp; done) | (simp [*]; done)), H', ⟨Nat.le_refl _⟩, by repeat (first | exact Drawn0.refl _ | apply Drawn0.step)⟩
  case round =>
    clear H'
    obtain ⟨x3_1, rfl, HA, HK1, ⟨m1, rfl⟩⟩ := hrel
    cases gk with
    | zero => exact absurd HA.out (by simp [slices_IsSorted_byte_byte.l0])
    | succ k1 =>
      have H := HA.out
      clear HA
      simp only [slices_IsSorted_byte_byte.l0] at H
      by_cases c2 : x3_1 > 0
      · rw [if_pos c2] at H
        have c2b0 : decide (0 < x3_1) = true := decide_eq_true c2
        clear c2
        by_cases c3 : 0 ≤ x3_1
        · rw [if_pos c3] at H
          have c3b0 : decide (0 ≤ x3_1) = true := decide_eq_true c3
          clear c3
          by_cases c4 : x3_1 < (l0.length : Int)
          · rw [if_pos c4] at H
            have c4b0 : decide (x3_1 < (l0.length : Int)) = true := decide_eq_true c4
            clear c4
            obtain ⟨ji5, hji5⟩ : ∃ j_ : Int, (wrap64 (x3_1 - 1)) = j_ := ⟨_, rfl⟩
            replace H : (if 0 ≤ (ji5) then (if (ji5) < (l0.length : Int) then ((cmp_Less_byte.f (rd l0 x3_1) (rd l0 (ji5))).bind fun t107 => (if t107 = true then (some false) else (slices_IsSorted_byte_byte.l0 k1 l0 ji5))) else (none)) else (none)) = some r := by first | (rw [hji5] at H; exact H) | (simp only [hji5] at H ⊢; exact H)
            have hji5w : (IntKind.i64.wrap (x3_1 - 1)) = ji5 := (i64_w _).trans hji5
            by_cases c6 : 0 ≤ (ji5)
            · rw [if_pos c6] at H
              have c6b0 : decide (0 ≤ (ji5)) = true := decide_eq_true c6
              clear c6
              by_cases c7 : (ji5) < (l0.length : Int)
              · rw [if_pos c7] at H
                have c7b0 : decide ((ji5) < (l0.length : Int)) = true := decide_eq_true c7
                clear c7
                replace H := Option.bind_eq_some_iff.mp H
                obtain ⟨t107, A80, H⟩ := H
                replace H : (if t107 = true then (some false) else (slices_IsSorted_byte_byte.l0 k1 l0 ji5)) = some r := H
                have A8 := Aside0.mk A80
                clear A80
                by_cases c9 : t107 = true
                · subst c9
                  have H1 : (some false) = some r := by rw [if_pos rfl] at H; exact H
                  clear H
                  have H := H1
                  clear H1
                  obtain rfl := Option.some.inj H
                  have p105 : 0 ≤ (x3_1 : Int) := of_decide_eq_true (by first | (with_reducible assumption) | assumption)
                  have q105 : x3_1 < (l0.length : Int) := of_decide_eq_true (by first | (with_reducible assumption) | assumption)
                  obtain ⟨ad105, e105, hx105_0⟩ := Kd.at_int HR0.out x3_1 p105 q105
                  cases e105
                  replace p105 := eq_true p105
                  replace q105 := eq_true q105
                  have p106 : 0 ≤ ((ji5) : Int) := of_decide_eq_true (by first | (with_reducible assumption) | assumption)
                  have q106 : (ji5) < (l0.length : Int) := of_decide_eq_true (by first | (with_reducible assumption) | assumption)
                  obtain ⟨ad106, e106, hx106_0⟩ := Kd.at_int HR0.out (ji5) p106 q106
                  obtain rfl : ad105 = ad106 := (by injection e106)
                  replace p106 := eq_true p106
                  replace q106 := eq_true q106
                  go_wp2_with (first | (go_at_call 69; (with_reducible refine (cmp_Less_byte.calls (rd l0 x3_1) (rd l0 (ji5)) true _ A8.out).mono ?_); rintro e w' ⟨rfl, ⟨nd, rfl⟩⟩; (try first | exact ⟨rfl, _, World.drewN_drewN _ _ _⟩ | exact ⟨rfl, _, Eq.trans (World.drewN_drewN _ _ _) (congrArg (World.drewN _) (Nat.add_assoc _ _ _))⟩)))
                  repeat (go_quiet (first | (go_at_call 69; (with_reducible refine (cmp_Less_byte.calls (rd l0 x3_1) (rd l0 (ji5)) true _ A8.out).mono ?_); rintro e w' ⟨rfl, ⟨nd, rfl⟩⟩; (try first | exact ⟨rfl, _, World.drewN_drewN _ _ _⟩ | exact ⟨rfl, _, Eq.trans (World.drewN_drewN _ _ _) (congrArg (World.drewN _) (Nat.add_assoc _ _ _))⟩))); try go_wp2_with (first | (go_at_call 69; (with_reducible refine (cmp_Less_byte.calls (rd l0 x3_1) (rd l0 (ji5)) true _ A8.out).mono ?_); rintro e w' ⟨rfl, ⟨nd, rfl⟩⟩; (try first | exact ⟨rfl, _, World.drewN_drewN _ _ _⟩ | exact ⟨rfl, _, Eq.trans (World.drewN_drewN _ _ _) (congrArg (World.drewN _) (Nat.add_assoc _ _ _))⟩))))
                  go_ret
                  exact ⟨by first | rfl | (simp; done) | (simp only [← hji5] <;> (first | rfl | simp)) | (simp [*]; done), by repeat (first | exact Drawn0.refl _ | apply Drawn0.step)⟩
                · replace c9 := Bool.eq_false_iff.mpr c9
                  subst c9
                  have H1 : (slices_IsSorted_byte_byte.l0 k1 l0 ji5) = some r := by rw [if_neg (show ¬ (false = true) by decide)] at H; exact H
                  clear H
                  have H := H1
                  clear H1
                  have H' := Aside0.mk H
                  clear H
                  have p105 : 0 ≤ (x3_1 : Int) := of_decide_eq_true (by first | (with_reducible assumption) | assumption)
                  have q105 : x3_1 < (l0.length : Int) := of_decide_eq_true (by first | (with_reducible assumption) | assumption)
                  obtain ⟨ad105, e105, hx105_0⟩ := Kd.at_int HR0.out x3_1 p105 q105
                  cases e105
                  replace p105 := eq_true p105
                  replace q105 := eq_true q105
                  have p106 : 0 ≤ ((ji5) : Int) := of_decide_eq_true (by first | (with_reducible assumption) | assumption)
                  have q106 : (ji5) < (l0.length : Int) := of_decide_eq_true (by first | (with_reducible assumption) | assumption)
                  obtain ⟨ad106, e106, hx106_0⟩ := Kd.at_int HR0.out (ji5) p106 q106
                  obtain rfl : ad105 = ad106 := (by injection e106)
                  replace p106 := eq_true p106
                  replace q106 := eq_true q106
                  go_wp2_with (first | (go_at_call 69; (with_reducible refine (cmp_Less_byte.calls (rd l0 x3_1) (rd l0 (ji5)) false _ A8.out).mono ?_); rintro e w' ⟨rfl, ⟨nd, rfl⟩⟩; (try first | exact ⟨rfl, _, World.drewN_drewN _ _ _⟩ | exact ⟨rfl, _, Eq.trans (World.drewN_drewN _ _ _) (congrArg (World.drewN _) (Nat.add_assoc _ _ _))⟩)))
                  repeat (go_quiet (first | (go_at_call 69; (with_reducible refine (cmp_Less_byte.calls (rd l0 x3_1) (rd l0 (ji5)) false _ A8.out).mono ?_); rintro e w' ⟨rfl, ⟨nd, rfl⟩⟩; (try first | exact ⟨rfl, _, World.drewN_drewN _ _ _⟩ | exact ⟨rfl, _, Eq.trans (World.drewN_drewN _ _ _) (congrArg (World.drewN _) (Nat.add_assoc _ _ _))⟩))); try go_wp2_with (first | (go_at_call 69; (with_reducible refine (cmp_Less_byte.calls (rd l0 x3_1) (rd l0 (ji5)) false _ A8.out).mono ?_); rintro e w' ⟨rfl, ⟨nd, rfl⟩⟩; (try first | exact ⟨rfl, _, World.drewN_drewN _ _ _⟩ | exact ⟨rfl, _, Eq.trans (World.drewN_drewN _ _ _) (congrArg (World.drewN _) (Nat.add_assoc _ _ _))⟩))))
                  go_roundg k1
                  case measure => have := HK1.out; omega
                  case rel => exact ⟨(ji5), (by first | rfl | (simp; done) | (simp only [← hji5] <;> (first | rfl | simp)) | (simp [*]; done)), H', ⟨by have := HK1.out; omega⟩, by repeat (first | exact Drawn0.refl _ | apply Drawn0.step)⟩
              · rw [if_neg c7] at H
                exact absurd H (by simp)
            · rw [if_neg c6] at H
              exact absurd H (by simp)
          · rw [if_neg c4] at H
            exact absurd H (by simp)
        · rw [if_neg c3] at H
          exact absurd H (by simp)
      · rw [if_neg c2] at H
        have c2b0 : decide (0 < x3_1) = false := decide_eq_false c2
        clear c2
        obtain rfl := Option.some.inj H
        go_wp2
        repeat (go_quiet (fail); try go_wp2)
        go_ret
        exact ⟨by first | rfl | (simp; done) | (simp [*]; done), by repeat (first | exact Drawn0.refl _ | apply Drawn0.step)⟩

end Go.Proofs.YtajeaefpapnkbaaGreatDoor.P
-- WRITTEN FOR THIS CLAIM BY A PROGRAM OF THIS SESSION (wip/tools), which turns the lines of the kit's print
namespace Go.Proofs.YtajeaefpapnkbaaGreatDoor.P
open Go.RowKit Go.Proofs.YtajeaefpapnkbaaGreatDoorW.PrintWords Go.Proofs.YtajeaefpapnkbaaGreatDoorW.PrintLast Go.Proofs.YtajeaefpapnkbaaGreatDoorW.PrintMore
attribute [local go_sem] max2_int min2_int max_two min_two max_three min_three max_four min_four   -- for this text's walks alone
set_option linter.unusedVariables false
set_option linter.unusedSimpArgs false

/-! ### prov_isProduct: function 33 -/
-- IMPORTS Derived.Shelf.Strings.SlTrimAscii Derived.Test.YtajeaefpapnkbaaGreatDoorShelf
/-- '[]byte(s)': new memory with the bytes. -/
theorem conv_any {P : Program} {src dst e : TypeId} {u : TypeDesc} (hs : P.underlying src = some u) (hd : P.underlying dst = some (.slice e)) (he : P.underlying e = some (.int .u8)) (W : World) (s : ByteArray) (hsz : s.size ≤ 9223372036854775807) :
    ∃ (c : Nat) (W1 : World), (convert src dst (.string s)).run P W = .ok (.slice (some ⟨W.heap.size, 0, none⟩) s.size c) W1 ∧ s.size ≤ c ∧ Below W.heap.size W W1 ∧ W1.heap.size = W.heap.size + 1 ∧ Kd.C (Kd.int .u8) W1 (some ⟨W.heap.size, 0, none⟩) (bytesOf s).length (bytesOf s) := by
  refine ⟨_, _, Lib.run_convert_string_bytes W src dst e s hs hd he, ?_, bytes_below (Below.refl _ _) (Nat.le_refl _) e s, Lib.bytesWorld_size _ _ _, ?_⟩
  · exact grownCap_ge _ _ _ _
  · rw [bytesOf_length]; exact Kd.C_of_reads (d := (0 : Int)) (h1 := fun _ => rfl) (bytes_reads W e s hsz)
def trimB (s : ByteArray) : ByteArray := ⟨(Lib.trimS s.data.toList [97, 98, 99, 100, 101, 102, 103, 104]).toArray⟩
def srtAt (s : ByteArray) (j : Nat) : Bool := j == 0 || decide (bt s ((j : Int) - 1) ≤ bt s j)
def sortedB (s : ByteArray) : Bool := (List.range s.size).all (srtAt s)
theorem cs_contains (b : UInt8) : ([97, 98, 99, 100, 101, 102, 103, 104] : List UInt8).contains b = (decide (97 ≤ b.toNat) && decide (b.toNat < 105)) := by
  rw [Bool.eq_iff_iff]
  simp [← UInt8.toNat_inj]
  omega
theorem dropWhile_nil {α : Type} (p : α → Bool) (l : List α) : l.dropWhile p = [] ↔ ∀ x ∈ l, p x = true := by
  induction l with
  | nil => simp
  | cons a l ih =>
    rw [List.dropWhile_cons]
    split
    · rw [ih]; simp [*]
    · simp [*]
theorem trim_nil (l cs : List UInt8) : (Lib.trimS l cs).isEmpty = l.all (cs.contains ·) := by
  rw [Bool.eq_iff_iff, List.isEmpty_iff, List.all_eq_true]
  unfold Lib.trimS Lib.trimLeftS Lib.trimRightS
  rw [dropWhile_nil]
  constructor
  · intro h x hx
    have hx' : x ∈ l.reverse := by simpa using hx
    rw [← List.takeWhile_append_dropWhile (p := (cs.contains ·)) (l := l.reverse), List.mem_append] at hx'
    rcases hx' with h1 | h1
    · have := List.all_takeWhile (p := (cs.contains ·)) (l := l.reverse)
      rw [List.all_eq_true] at this
      exact this x h1
    · exact h x (by simpa using h1)
  · intro h x hx
    have h1 : x ∈ l.reverse.dropWhile (cs.contains ·) := by simpa using hx
    exact h x (by have := (List.dropWhile_sublist (cs.contains ·) (l := l.reverse)).subset h1; simpa using this)
theorem trimB_empty (s : ByteArray) : (trimB s).toList.isEmpty = (List.range s.size).all fun j => decide (97 ≤ bt s (j : Nat)) && decide (bt s (j : Nat) < 105) := by
  have e0 : (trimB s).toList = Lib.trimS s.data.toList [97, 98, 99, 100, 101, 102, 103, 104] := by
    rw [show (trimB s).toList = (trimB s).data.toList from by simp [ByteArray.toList_eq]]
    rfl
  rw [e0, trim_nil, Bool.eq_iff_iff, List.all_eq_true, List.all_eq_true]
  constructor
  · intro h j hj
    have hj : j < s.size := by simpa using hj
    have hj' : j < s.data.toList.length := by rw [← ByteArray_size]; exact hj
    have := h _ (getD_mem 0 hj')
    rw [cs_contains] at this
    rw [bt_lt s hj]
    simp at this ⊢
    omega
  · intro h x hx
    obtain ⟨j, hj, rfl⟩ := List.getElem_of_mem hx
    have hj' : j < s.size := by rw [ByteArray_size]; exact hj
    have := h j (by simpa using hj')
    rw [bt_lt s hj', getD_lt 0 hj] at this
    rw [cs_contains]
    simp at this ⊢
    omega
theorem tokB_eq (s : ByteArray) : (decide (s.size ≤ 12) && ((trimB s).toList.isEmpty && sortedB s)) = tokB s := by
  rw [trimB_empty]
  unfold tokB sortedB tokTo
  rw [Bool.eq_iff_iff]
  simp only [Bool.and_eq_true, List.all_eq_true, List.mem_range, tokAt, srtAt]
  constructor
  · rintro ⟨h1, h2, h3⟩
    exact ⟨fun j hj => ⟨(h2 j hj).1, (h2 j hj).2, h3 j hj⟩, h1⟩
  · rintro ⟨h1, h2⟩
    exact ⟨h2, fun j hj => ⟨(h1 j hj).1, (h1 j hj).2.1⟩, fun j hj => (h1 j hj).2.2⟩
open Go.Shelf Go.Lib in
theorem trim_any (s : ByteArray) (w : World) (hs : s.size ≤ 140737488351232) :
    Calls Tryz.prog 49 #[.string s, .string ⟨#[97, 98, 99, 100, 101, 102, 103, 104]⟩] w fun e w' => e = .returned (.string (trimB s)) ∧ Below w.heap.size w w' :=
  Any.strings_Trim_laid Tryz.lays160 (by kernel_rfl) s ⟨#[97, 98, 99, 100, 101, 102, 103, 104]⟩ w (by omega) (by decide) (ascii_of_all (by decide))
theorem isSorted_l0 (s : ByteArray) (hs : s.size ≤ 140737488351232) (i : Nat) : ∀ k, i < s.size → i < k → (∀ j, i < j → j < s.size → srtAt s j = true) → slices_IsSorted_byte_byte.l0 k (bytesOf s) (i : Int) = some (sortedB s) := by
  induction i with
  | zero =>
    intro k hi hk h
    obtain ⟨k, rfl⟩ : ∃ m, k = m + 1 := ⟨k - 1, by omega⟩
    simp only [slices_IsSorted_byte_byte.l0]
    rw [if_neg (by omega)]
    congr 1; symm
    unfold sortedB
    rw [List.all_eq_true]
    intro j hj
    rcases Nat.eq_zero_or_pos j with rfl | h0
    · rfl
    · exact h j h0 (by simpa using hj)
  | succ i ih =>
    intro k hi hk h
    obtain ⟨k, rfl⟩ : ∃ m, k = m + 1 := ⟨k - 1, by omega⟩
    have hw : wrap64 (((i + 1 : Nat) : Int) - 1) = (i : Int) := by rw [wrap64_of (by omega) (by omega)]; omega
    have hl := bytesOf_length s
    simp only [slices_IsSorted_byte_byte.l0]
    rw [if_pos (by omega), if_pos (by omega), if_pos (by omega), hw, if_pos (by omega), if_pos (by omega), rd_bytesOf, rd_bytesOf]
    simp only [cmp_Less_byte.f, cmp_isNaN_byte.f, Option.bind_some, bne_self_eq_false, Bool.false_eq_true, if_false]
    by_cases c : bt s ((i + 1 : Nat) : Int) < bt s (i : Int)
    · rw [decide_eq_true c, if_pos rfl]
      congr 1; symm
      cases hb : sortedB s with
      | false => rfl
      | true =>
        unfold sortedB at hb
        rw [List.all_eq_true] at hb
        have := hb (i + 1) (by simpa using hi)
        unfold srtAt at this
        rw [show (((i + 1 : Nat) : Int) - 1) = (i : Int) from by omega] at this
        simp only [Bool.or_eq_true, beq_iff_eq, decide_eq_true_eq] at this
        omega
    · rw [decide_eq_false c, if_neg (by simp)]
      refine ih k (by omega) (by omega) fun j h1 h2 => ?_
      rcases Nat.lt_or_ge (i + 1) j with h3 | h3
      · exact h j h3 h2
      · obtain rfl : j = i + 1 := by omega
        unfold srtAt
        rw [show (((i + 1 : Nat) : Int) - 1) = (i : Int) from by omega]
        simp only [Bool.or_eq_true, beq_iff_eq, decide_eq_true_eq]
        omega
theorem isSorted_f (s : ByteArray) (hs : s.size ≤ 140737488351232) : slices_IsSorted_byte_byte.f (s.size + 1) (bytesOf s) = some (sortedB s) := by
  unfold slices_IsSorted_byte_byte.f
  rw [bytesOf_length]
  rcases Nat.eq_zero_or_pos s.size with h0 | h0
  · rw [h0]
    have hw : wrap64 (((0 : Nat) : Int) - 1) = -1 := by rw [wrap64_of (by omega) (by omega)]; omega
    rw [hw]
    simp only [slices_IsSorted_byte_byte.l0]
    rw [if_neg (by omega)]
    unfold sortedB; rw [h0]; rfl
  · have hw : wrap64 ((s.size : Int) - 1) = ((s.size - 1 : Nat) : Int) := by rw [wrap64_of (by omega) (by omega)]; omega
    rw [hw]
    exact isSorted_l0 s hs (s.size - 1) _ (by omega) (by omega) fun j h1 h2 => by omega
theorem sorted_any (A : Option Addr) (c : Nat) (s : ByteArray) (w : World) (hr : Kd.C (Kd.int .u8) w A (bytesOf s).length (bytesOf s)) (hs : s.size ≤ 140737488351232) (hc : s.size ≤ c) :
    Calls Tryz.prog 50 #[.slice A s.size c] w fun e w' => e = .returned (.bool (sortedB s)) ∧ Drawn0 w w' := by
  have h := slices_IsSorted_byte_byte.calls _ A c (bytesOf s) _ w hr (by rw [bytesOf_length]; exact hc) (isSorted_f s hs)
  rw [bytesOf_length] at h
  exact h
theorem between_any (a b c : Int) (w : World) : Calls Tryz.prog 48 #[.int .i64 a, .int .i64 b, .int .i64 c] w fun e w' => e = .returned (.bool (decide (a ≤ b) && decide (b ≤ c))) ∧ Drawn0 w w' :=
  prov_between.calls a b c _ w (by unfold prov_between.f; split <;> simp [*])
set_option maxHeartbeats 1000000 in
set_option maxRecDepth 100000 in
theorem isProduct_any (s : ByteArray) (n : Int) (w : World) (hs : s.size ≤ 140737488351232) :
    Calls Tryz.prog 33 #[.agg #[.string s, .int .i64 n]] w fun e w' => e = .returned (.bool (decide (s.size ≤ 12) && ((trimB s).toList.isEmpty && (sortedB s && (decide (1 ≤ n) && decide (n ≤ 100000)))))) ∧ Below w.heap.size w w' := by
  obtain ⟨c, W1, hrun, hc, hb0, hz, hC⟩ := conv_any (P := Tryz.prog) Tryz.underlying9 Tryz.underlying41 Tryz.underlying5 (w.alloc (.cells #[.string s, .int .i64 n] 37)) s (by omega)
  have hb : Below w.heap.size w W1 := ((Below.refl _ w).alloc (Nat.le_refl _) _).trans (hb0.mono (by simp))
  have k0 : W1.cell? ⟨w.heap.size, 0, none⟩ = some (.string s) := by rw [hb0.cell (by simp)]; go_simp
  have k1 : W1.cell? ⟨w.heap.size, 1, none⟩ = some (.int .i64 n) := by rw [hb0.cell (by simp)]; go_simp
  have HZ := Lib.hid hz; clear hz hb0
  rw [show (w.alloc (.cells #[.string s, .int .i64 n] 37)).heap.size = w.heap.size + 1 by simp] at hC hrun
  have HC := Lib.hid hC; clear hC
  have HT := Lib.hid (fun W => trim_any s W hs)
  by_cases h1 : s.size ≤ 12
  · have g1 : decide (s.size ≤ 12) = true := decide_eq_true h1
    have HN : Hid (∀ a b : Bool, (decide (s.size ≤ 12) && (a && b)) = (a && b)) := fun a b => by rw [g1]; rfl
    go_enter Tryz.func33, Tryz.ntmps33
    go_wp2_with fail
    ((with_reducible refine (HT.out _).mono ?_); rintro e w1 ⟨rfl, hb1⟩)
    cases h2 : (trimB s).toList.isEmpty with
    | true =>
      go_wp2_with fail
      ((with_reducible refine (sorted_any _ _ s _ (Kd.C_below HC.out hb1) hs hc).mono ?_); rintro e w2 ⟨rfl, ⟨m, rfl⟩⟩)
      have hb2 : Below w.heap.size w w1 := hb.trans (hb1.mono hb.size)
      have k2 : w1.cell? ⟨w.heap.size, 1, none⟩ = some (.int .i64 n) := by
        rw [hb1.cell (by have := HZ.out; simp at this ⊢; omega)]; exact k1
      cases h3 : sortedB s with
      | true =>
        go_wp2_with fail
        ((with_reducible refine (between_any _ _ _ _).mono ?_); rintro e w2 ⟨rfl, ⟨m1, rfl⟩⟩)
        go_wp2_with fail
        go_ret
        exact ⟨ret_bool (by first | rfl | (rw [HN.out, h2]; rfl) | (rw [HN.out, h2, h3]; rfl)), pw_below_drewN hb2 _⟩
      | false =>
        go_wp2_with fail
        go_ret
        exact ⟨ret_bool (by first | rfl | (rw [HN.out, h2]; rfl) | (rw [HN.out, h2, h3]; rfl)), pw_below_drewN hb2 _⟩
    | false =>
      go_wp2_with fail
      go_ret
      exact ⟨ret_bool (by first | rfl | (rw [HN.out, h2]; rfl) | (rw [HN.out, h2, h3]; rfl)), hb.trans (hb1.mono hb.size)⟩
  · have g1 : decide (s.size ≤ 12) = false := decide_eq_false h1
    have HN : Hid (∀ a : Bool, (decide (s.size ≤ 12) && a) = false) := fun a => by rw [g1]; rfl
    go_enter Tryz.func33, Tryz.ntmps33
    go_wp2_with fail
    go_ret
    exact ⟨ret_bool (by first | rfl | rw [HN.out]), hb⟩
def prov_isProduct.f (a0_0 : ByteArray) (a0_1 : Int) : Option Bool := if a0_0.size ≤ 140737488351232 then some (prodB ⟨a0_0, a0_1⟩) else none
theorem prov_isProduct.calls (a0_0 : ByteArray) (a0_1 : Int) (r : Bool) (w : World) (h : prov_isProduct.f a0_0 a0_1 = some r) :
    Calls Tryz.prog 33 #[.agg #[.string a0_0, .int .i64 a0_1]] w fun e w' => e = .returned (.bool r) ∧ Below w.heap.size w w' := by
  unfold prov_isProduct.f at h
  split at h
  · obtain rfl := Option.some.inj h
    have e0 : prodB (⟨a0_0, a0_1⟩ : S37) = (decide (a0_0.size ≤ 12) && ((trimB a0_0).toList.isEmpty && (sortedB a0_0 && (decide (1 ≤ a0_1) && decide (a0_1 ≤ 100000))))) := by
      unfold prodB
      rw [← tokB_eq]
      simp only [Bool.and_assoc]
    rw [e0]
    exact isProduct_any a0_0 a0_1 w ‹_›
  · cases h

end Go.Proofs.YtajeaefpapnkbaaGreatDoor.P
-- WRITTEN FOR THIS CLAIM BY A PROGRAM OF THIS SESSION (wip/tools), which turns the lines of the kit's print
namespace Go.Proofs.YtajeaefpapnkbaaGreatDoor.P
open Go.RowKit Go.Proofs.YtajeaefpapnkbaaGreatDoorW.PrintWords Go.Proofs.YtajeaefpapnkbaaGreatDoorW.PrintLast Go.Proofs.YtajeaefpapnkbaaGreatDoorW.PrintMore
attribute [local go_sem] max2_int min2_int max_two min_two max_three min_three max_four min_four   -- for this text's walks alone
set_option linter.unusedVariables false
set_option linter.unusedSimpArgs false

/-! ### prov_ValidSum: function 15 -/
-- IMPORTS Derived.Lib.QuietBelow
def prov_ValidSum.f (l0 : List S37) : Option Bool := if sumIn l0 then some (validB l0) else none
theorem isProd_any (x : S37) (w : World) (hs : x.f0.size ≤ 140737488351232) : Calls Tryz.prog 33 #[.agg #[.string x.f0, .int .i64 x.f1]] w fun e w' => e = .returned (.bool (prodB x)) ∧ Below w.heap.size w w' :=
  prov_isProduct.calls x.f0 x.f1 _ w (by unfold prov_isProduct.f; rw [if_pos hs])
open Go.Sort in
set_option maxHeartbeats 2000000 in
theorem provValid_any (A : Option Addr) (c : Nat) (l : List S37) (w : World) (hr : Kd.C k37 w A l.length l) (hm : l.length ≤ 140737488351232) (hs : ∀ x ∈ l, x.f0.size ≤ 140737488351232) :
    Calls Tryz.prog 15 #[.slice A l.length c] w fun e w' => e = .returned (.bool (validB l)) ∧ Below w.heap.size w w' := by
  go_enter Tryz.func15, Tryz.ntmps15
  go_wp2
  go_loopw [7] (fun v wr => ∃ k : Nat, v = .int .i64 k ∧ k ≤ l.length ∧ validTo l k = true ∧ Below w.heap.size w wr) (fun v _ => l.length - (intOf v).toNat)
  case atStart => exact ⟨0, rfl, by omega, rfl, Below.refl _ _⟩
  case round =>
    obtain ⟨k, rfl, hk, hv, hb⟩ := hrel
    have HV := Lib.hid hv; clear hv
    by_cases hlt : k < l.length
    · obtain ⟨ad, e1, c0, c1⟩ := at_T37 hr (k : Int) (by omega) (by omega)
      subst e1
      have hx : rd_T37 l (k : Int) = l.getD k z37 := rfl
      rw [hx] at c0 c1
      have hsx : (l.getD k z37).f0.size ≤ 140737488351232 := hs _ (getD_mem _ hlt)
      generalize hxx : l.getD k z37 = x at c0 c1 hsx
      have HX := Lib.hid hxx; clear hxx hx
      simp only [Int.toNat_natCast] at c0 c1
      replace c0 := cell_later hb c0
      replace c1 := cell_later hb c1
      have HT := Lib.hid (fun W => isProd_any x W hsx)
      have hb' := hb.alloc hb.size (.cells #[.string x.f0, .int .i64 x.f1] 37)
      have hz : wr.heap.size < (wr.alloc (.cells #[.string x.f0, .int .i64 x.f1] 37)).heap.size := by simp
      have hz' : w.heap.size ≤ (wr.alloc (.cells #[.string x.f0, .int .i64 x.f1] 37)).heap.size := by have := hb.size; simp; omega
      have q0 := fun d os => cell_regrown (w := (wr.alloc (.cells #[.string x.f0, .int .i64 x.f1] 37))) (a := ⟨wr.heap.size, 0, none⟩) (v := .string x.f0) (by go_simp) d os
      have q1 := fun d os => cell_regrown (w := (wr.alloc (.cells #[.string x.f0, .int .i64 x.f1] 37))) (a := ⟨wr.heap.size, 1, none⟩) (v := .int .i64 x.f1) (by go_simp) d os
      cases h1 : prodB x with
      | true =>
        rw [h1] at HT
        have HP := Lib.hid h1; clear h1
        by_cases hk0 : k = 0
        · have g4 : decide (0 < k) = false := decide_eq_false (by omega)
          have HK0 := Lib.hid hk0; clear hk0
          go_wp2
          refine wp_region_quiet_below (by kernel_rfl) (by kernel_rfl) ?_
          repeat (first | go_big_quiet_step ((go_at_call 33; exact Calls.regrown_of (HT.out _))) | quiet_step ((go_at_call 33; exact Calls.regrown_of (HT.out _))))
          refine wpQuiet_nil ?_
          intro _ hw'
          obtain ⟨pq, hw''⟩ := hw'
          subst hw''
          have hbq := hb'.trans ((below_regrown (wr.alloc (.cells #[.string x.f0, .int .i64 x.f1] 37)) pq.d pq.os).mono hz')
          generalize grow (redrawn (wr.alloc (.cells #[.string x.f0, .int .i64 x.f1] 37)) pq.d) pq.os = wq at hbq ⊢
          go_wp2
          go_roundw
          case rel => exact ⟨k + 1, by go_num, by omega, pl_next HV (stepB_zero HK0 HX HP.out), hbq⟩
          case measure => simp [intOf]; omega
        · have g4 : decide (0 < k) = true := decide_eq_true (by omega)
          obtain ⟨ad', e1, d0, d1⟩ := at_T37 hr ((k - 1 : Nat) : Int) (by omega) (by omega)
          obtain rfl : ad = ad' := by injection e1
          have hy : rd_T37 l ((k - 1 : Nat) : Int) = l.getD (k - 1) z37 := rfl
          rw [hy] at d0 d1
          generalize hyy : l.getD (k - 1) z37 = y at d0 d1
          have HY := Lib.hid hyy; clear hyy hy d1 e1
          simp only [Int.toNat_natCast] at d0
          have q2 := fun d os => cell_regrown (cell_later hb' d0) d os
          have i0 : (0 : Int) ≤ (k : Int) - 1 := by omega
          have i1 : (k : Int) - 1 < (l.length : Int) := by omega
          have i2 : ((k : Int) - 1).toNat = k - 1 := by omega
          have i4 : (1 : Int) ≤ (k : Int) := by omega
          have i5 : 1 ≤ k := by omega
          have i6 : 0 < k := by omega
          have i3 : IntKind.i64.wrap ((k : Int) - 1) = (k : Int) - 1 := IntWalk.i64_in _ (by omega)
          go_wp2
          refine wp_region_quiet_below (by kernel_rfl) (by kernel_rfl) ?_
          repeat (first | go_big_quiet_step ((go_at_call 33; exact Calls.regrown_of (HT.out _))) | quiet_step ((go_at_call 33; exact Calls.regrown_of (HT.out _))))
          refine wpQuiet_nil ?_
          intro _ hw'
          obtain ⟨pq, hw''⟩ := hw'
          subst hw''
          have hbq := hb'.trans ((below_regrown (wr.alloc (.cells #[.string x.f0, .int .i64 x.f1] 37)) pq.d pq.os).mono hz')
          generalize grow (redrawn (wr.alloc (.cells #[.string x.f0, .int .i64 x.f1] 37)) pq.d) pq.os = wq at hbq ⊢
          go_wp2
          · go_ret
            exact ⟨pl_false2 hlt i6 HX HY (leqB_true ‹_›), hbq⟩
          · go_roundw
            case rel => exact ⟨k + 1, by go_num, by omega, pl_next HV (stepB_pos HX HY HP.out (leqB_false ‹_›)), hbq⟩
            case measure => simp [intOf]; omega
      | false =>
        rw [h1] at HT
        have HP := Lib.hid h1; clear h1
        go_wp2
        refine wp_region_quiet_below (by kernel_rfl) (by kernel_rfl) ?_
        repeat (first | go_big_quiet_step ((go_at_call 33; exact Calls.regrown_of (HT.out _))) | quiet_step ((go_at_call 33; exact Calls.regrown_of (HT.out _))))
        refine wpQuiet_nil ?_
        intro _ hw'
        obtain ⟨pq, hw''⟩ := hw'
        subst hw''
        have hbq := hb'.trans ((below_regrown (wr.alloc (.cells #[.string x.f0, .int .i64 x.f1] 37)) pq.d pq.os).mono hz')
        generalize grow (redrawn (wr.alloc (.cells #[.string x.f0, .int .i64 x.f1] 37)) pq.d) pq.os = wq at hbq ⊢
        go_wp2
        go_ret
        exact ⟨pl_false hlt HX HP.out, hbq⟩
    · obtain rfl : k = l.length := by omega
      go_wp2
      go_ret
      refine ⟨ret_bool ?_, hb⟩
      unfold validB; rw [HV.out]; simp only [Bool.true_and, decide_eq_decide]; omega
theorem prov_ValidSum.calls (A0 : Option Addr) (c0 : Nat) (l0 : List S37) (r : Bool) (w : World) (hr0 : Kd.C k37 w A0 l0.length l0) (hc0 : l0.length ≤ c0) (h : prov_ValidSum.f l0 = some r) :
    Calls Tryz.prog 15 #[.slice A0 l0.length c0] w fun e w' => e = .returned (.bool r) ∧ Below w.heap.size w w' := by
  unfold prov_ValidSum.f at h
  split at h
  · obtain rfl := Option.some.inj h
    exact provValid_any A0 c0 l0 w hr0 (sumIn_len ‹_›) (sumIn_mem ‹_›)
  · cases h

end Go.Proofs.YtajeaefpapnkbaaGreatDoor.P
-- WRITTEN FOR THIS CLAIM BY A PROGRAM OF THIS SESSION (wip/tools), which turns the lines of the kit's print
namespace Go.Proofs.YtajeaefpapnkbaaGreatDoor.P
open Go.RowKit Go.Proofs.YtajeaefpapnkbaaGreatDoorW.PrintWords Go.Proofs.YtajeaefpapnkbaaGreatDoorW.PrintLast Go.Proofs.YtajeaefpapnkbaaGreatDoorW.PrintMore
attribute [local go_sem] max2_int min2_int max_two min_two max_three min_three max_four min_four   -- for this text's walks alone
set_option linter.unusedVariables false
set_option linter.unusedSimpArgs false

/-! ### slices_ContainsFunc_int_int: function 46 -/
-- IMPORTS Derived.Shelf.GgClosure.Gives Derived.Lib.QuietBelow
set_option maxHeartbeats 1000000 in
theorem indexFunc_int_any (g : Nat) (lb : Array Value) (p : Int → Bool) (A : Option Addr) (c : Nat) (xs : List Int) (w : World) (hr : Kd.C (Kd.int .i64) w A xs.length xs) (hn : xs.length ≤ 140737488351232)
    (eg : ∀ args W, (callFunc g args).run Tryz.prog W = .ok (.enter g args) W) (hp : PredB Tryz.prog g lb (Value.int .i64) p xs w) :
    Calls Tryz.prog 74 #[.slice A xs.length c, .func (.func g) #[] lb] w fun e w' => e = .returned (.int .i64 (idxB p xs)) ∧ Below w.heap.size w w' := by
  have HP := Lib.hid hp; clear hp
  go_enter Tryz.func74, Tryz.ntmps74
  go_wp2
  go_loopw [8] (fun v wr => ∃ k : Nat, v = .int .i64 k ∧ k ≤ xs.length ∧ (∀ j, j < k → p (xs.getD j 0) = false) ∧ Below w.heap.size w wr) (fun v _ => xs.length - (intOf v).toNat)
  case atStart => exact ⟨0, rfl, by omega, fun j hj => by omega, Below.refl _ _⟩
  case round =>
    obtain ⟨k, rfl, hk, hv, hb⟩ := hrel
    have HV := Lib.hid hv; clear hv
    by_cases hlt : k < xs.length
    · obtain ⟨ad, e1, c0⟩ := KC_at_int hr k hlt
      subst e1
      have HM : Hid (xs.getD k 0 ∈ xs) := Lib.hid (getD_mem _ hlt)
      have c0' := cell_later hb c0
      have HC := Lib.hid (HP.out wr _ HM.out hb)
      have HI : Hid (p (xs.getD k 0) = true → idxB p xs = k) := fun h => idxB_at p _ xs hlt h HV.out
      have HN : Hid (p (xs.getD k 0) = false → ∀ j, j < k + 1 → p (xs.getD j 0) = false) := fun h j hj => by
        rcases Nat.lt_or_ge j k with h1 | h1
        · exact HV.out j h1
        · obtain rfl : j = k := by omega
          exact h
      clear c0 HV HP hr
      generalize xs.getD k 0 = x at c0' HC HI HN HM
      cases hpx : p x with
      | true =>
        rw [hpx] at HC
        have HX := Lib.hid hpx; clear hpx
        go_wp2_with (go_at_fn g; (refine HC.out.mono ?_); rintro e w1 ⟨rfl, hb1⟩)
        go_ret
        exact ⟨ret_int (HI.out HX.out).symm, hb.trans (hb1.mono hb.size)⟩
      | false =>
        rw [hpx] at HC
        have HX := Lib.hid hpx; clear hpx
        go_wp2_with (go_at_fn g; (refine HC.out.mono ?_); rintro e w1 ⟨rfl, hb1⟩)
        go_roundw
        case rel => exact ⟨k + 1, by go_num, by omega, HN.out HX.out, hb.trans (hb1.mono hb.size)⟩
        case measure => simp [intOf]; omega
    · obtain rfl : k = xs.length := by omega
      go_wp2
      go_ret
      exact ⟨ret_int (idxB_none p 0 xs HV.out).symm, hb⟩
theorem containsFunc_int_any (g : Nat) (lb : Array Value) (p : Int → Bool) (A : Option Addr) (c : Nat) (xs : List Int) (w : World) (hr : Kd.C (Kd.int .i64) w A xs.length xs) (hn : xs.length ≤ 140737488351232)
    (eg : ∀ args W, (callFunc g args).run Tryz.prog W = .ok (.enter g args) W) (hp : PredB Tryz.prog g lb (Value.int .i64) p xs w) :
    Calls Tryz.prog 46 #[.slice A xs.length c, .func (.func g) #[] lb] w fun e w' => e = .returned (.bool (xs.any p)) ∧ Below w.heap.size w w' := by
  have hcon := indexFunc_int_any g lb p A c xs w hr hn eg hp
  have hi := idxB_any p xs
  clear hp hr
  generalize idxB p xs = r at hcon hi
  have HI := Lib.hid hi; clear hi
  have HC := Lib.hid hcon; clear hcon
  go_enter Tryz.func46, Tryz.ntmps46
  go_wp2_with (go_at_call 74; (refine HC.out.mono ?_); rintro e w1 ⟨rfl, hb1⟩)
  go_ret
  exact ⟨ret_bool HI.out, hb1⟩

end Go.Proofs.YtajeaefpapnkbaaGreatDoor.P
-- WRITTEN FOR THIS CLAIM BY A PROGRAM OF THIS SESSION (wip/tools), which turns the lines of the kit's print
namespace Go.Proofs.YtajeaefpapnkbaaGreatDoor.P
open Go.RowKit Go.Proofs.YtajeaefpapnkbaaGreatDoorW.PrintWords Go.Proofs.YtajeaefpapnkbaaGreatDoorW.PrintLast Go.Proofs.YtajeaefpapnkbaaGreatDoorW.PrintMore
attribute [local go_sem] max2_int min2_int max_two min_two max_three min_three max_four min_four   -- for this text's walks alone
set_option linter.unusedVariables false
set_option linter.unusedSimpArgs false

/-! ### prov_within: function 31 -/
-- IMPORTS Derived.Shelf.GgClosure.Gives
def withinB (l : List Int) (m : Int) : Bool := decide (l.length = 8) && l.all fun n => decide (0 ≤ n) && decide (n ≤ m)
def prov_within.f (l0 : List Int) (a1 : Int) : Option Bool := if l0.length ≤ 140737488351232 then some (withinB l0 a1) else none
theorem between0_any (a b c : Int) (w : World) : Calls Tryz.prog 48 #[.int .i64 a, .int .i64 b, .int .i64 c] w fun e w' => e = .returned (.bool (decide (a ≤ b) && decide (b ≤ c))) ∧ Drawn0 w w' :=
  prov_between.calls a b c _ w (by unfold prov_between.f; split <;> simp [*])
theorem within1_any (n m : Int) (q : Addr) (W : World) (hq : W.cell? q = some (.int .i64 m)) :
    Calls Tryz.prog 47 #[.int .i64 n, .pointer (some q)] W fun e w' => e = .returned (.bool (!(decide (0 ≤ n) && decide (n ≤ m)))) ∧ Below W.heap.size W w' := by
  have hb := Lib.hid (between0_any 0 n m)
  generalize hz : (decide (0 ≤ n) && decide (n ≤ m)) = z at hb
  have HZ := Lib.hid hz; clear hz
  go_enter Tryz.func47, Tryz.ntmps47
  go_wp2_with (go_at_call 48; (refine (hb.out _).mono ?_); rintro e w1 ⟨rfl, ⟨m, rfl⟩⟩)
  go_ret
  exact ⟨rfl, pw_below_drewN (Below.refl _ _) _⟩
set_option maxHeartbeats 1000000 in
theorem within_any (A : Option Addr) (c : Nat) (l : List Int) (m : Int) (w : World) (hr : Kd.C (Kd.int .i64) w A l.length l) (hn : l.length ≤ 140737488351232) :
    Calls Tryz.prog 31 #[.slice A l.length c, .int .i64 m] w fun e w' => e = .returned (.bool (withinB l m)) ∧ Below w.heap.size w w' := by
  have hw1 : Below w.heap.size w (w.alloc (.cells #[.int .i64 m] 3)) := (Below.refl _ w).alloc (Nat.le_refl _) _
  have eg : ∀ args W, (callFunc 47 args).run Tryz.prog W = .ok (.enter 47 args) W := enters_of Tryz.func47 (by kernel_rfl) rfl
  have hcon := containsFunc_int_any 47 #[.pointer (some ⟨w.heap.size, 0, none⟩)] (fun n => !(decide (0 ≤ n) && decide (n ≤ m))) A c l (w.alloc (.cells #[.int .i64 m] 3)) (Kd.C_below hr hw1) hn eg
    (fun W x _ hb => within1_any x m _ W (by rw [hb.cell (by simp)]; go_simp))
  have e1 : (!(l.any fun n => !(decide (0 ≤ n) && decide (n ≤ m)))) = l.all fun n => decide (0 ≤ n) && decide (n ≤ m) := by
    rw [List.all_eq_not_any_not]
  clear eg hr
  generalize (l.any fun n => !(decide (0 ≤ n) && decide (n ≤ m))) = z at hcon e1
  have HE := Lib.hid e1; clear e1
  have HC := Lib.hid hcon; clear hcon
  by_cases h8 : l.length = 8
  · have g8 : ((l.length : Int) == 8) = true := beq_iff_eq.2 (by omega)
    have HF : Hid (withinB l m = !z) := by unfold withinB; rw [← HE.out, h8]; rfl
    have H8 := Lib.hid h8; clear h8
    go_enter Tryz.func31, Tryz.ntmps31
    go_wp2_with (go_at_call 46; (refine HC.out.mono ?_); rintro e w1 ⟨rfl, hb1⟩)
    go_ret
    exact ⟨ret_bool HF.out.symm, hw1.trans (hb1.mono hw1.size)⟩
  · have g8 : ((l.length : Int) == 8) = false := beq_eq_false_iff_ne.2 (by omega)
    have HF : Hid (withinB l m = false) := by unfold withinB; rw [decide_eq_false h8]; rfl
    have H8 := Lib.hid h8; clear h8
    go_enter Tryz.func31, Tryz.ntmps31
    go_wp2
    go_ret
    exact ⟨ret_bool HF.out.symm, hw1⟩
theorem prov_within.calls (A0 : Option Addr) (c0 : Nat) (l0 : List Int) (a1 : Int) (r : Bool) (w : World) (hr0 : Kd.C (Kd.int .i64) w A0 l0.length l0) (hc0 : l0.length ≤ c0) (h : prov_within.f l0 a1 = some r) :
    Calls Tryz.prog 31 #[.slice A0 l0.length c0, .int .i64 a1] w fun e w' => e = .returned (.bool r) ∧ Below w.heap.size w w' := by
  unfold prov_within.f at h
  split at h
  · obtain rfl := Option.some.inj h
    exact within_any A0 c0 l0 a1 w hr0 ‹_›
  · cases h

end Go.Proofs.YtajeaefpapnkbaaGreatDoor.P
-- WRITTEN FOR THIS CLAIM BY A PROGRAM OF THIS SESSION (wip/tools), which turns the lines of the kit's print
namespace Go.Proofs.YtajeaefpapnkbaaGreatDoor.P
open Go.RowKit Go.Proofs.YtajeaefpapnkbaaGreatDoorW.PrintWords Go.Proofs.YtajeaefpapnkbaaGreatDoorW.PrintLast Go.Proofs.YtajeaefpapnkbaaGreatDoorW.PrintMore
attribute [local go_sem] max2_int min2_int max_two min_two max_three min_three max_four min_four   -- for this text's walks alone
set_option linter.unusedVariables false
set_option linter.unusedSimpArgs false

/-! ### prov_value: function 32 -/
mutual
def prov_value.l0 : Nat → List Int → Int → List (S37) → Int → Int → Option (Int)
  | 0, _, _, _, _, _ => none
  | k + 1, x1, x5, x10, x11, x12 => if x12 < x11 then (if 0 ≤ x12 then (if x12 < (x10.length : Int) then (prov_value.l1 k x1 x5 ((rd_T37 x10 x12).f1) x10 x11 x12 (((rd_T37 x10 x12).f0).size : Int) 0 ((rd_T37 x10 x12).f0) ((rd_T37 x10 x12).f1)) else (none)) else (none)) else (some x5)
def prov_value.l1 : Nat → List Int → Int → Int → List (S37) → Int → Int → Int → Int → ByteArray → Int → Option (Int)
  | 0, _, _, _, _, _, _, _, _, _, _ => none
  | k + 1, x1, x5, x8, x10, x11, x12, x20, x21, x110000, x110001 => if x21 < x20 then (if 0 ≤ x21 then (if x21 < (x110000.size : Int) then (if 0 ≤ (((bt x110000 x21) - 97) % 256) then (if (((bt x110000 x21) - 97) % 256) < (x1.length : Int) then (prov_value.l1 k x1 x5 (wrap64 (x8 * (rd x1 (((bt x110000 x21) - 97) % 256)))) x10 x11 x12 x20 (wrap64 (x21 + 1)) x110000 x110001) else (none)) else (none)) else (none)) else (none)) else (prov_value.l0 k x1 (wrap64 (x5 + x8)) x10 x11 (wrap64 (x12 + 1)))
end
def prov_value.f (k : Nat) (l0 : List (S37)) (l1 : List Int) : Option (Int) := prov_value.l0 k l1 0 l0 (l0.length : Int) 0
theorem prov_value.mono_l : ∀ k, (∀ y0 y1 y2 y3 y4, LeO (prov_value.l0 k y0 y1 y2 y3 y4) (prov_value.l0 (k + 1) y0 y1 y2 y3 y4)) ∧ (∀ y0 y1 y2 y3 y4 y5 y6 y7 y8 y9, LeO (prov_value.l1 k y0 y1 y2 y3 y4 y5 y6 y7 y8 y9) (prov_value.l1 (k + 1) y0 y1 y2 y3 y4 y5 y6 y7 y8 y9))
  | 0 => ⟨fun _ _ _ _ _ r h => by simp [prov_value.l0] at h, fun _ _ _ _ _ _ _ _ _ _ r h => by simp [prov_value.l1] at h⟩
  | k + 1 => by
    obtain ⟨ih0, ih1⟩ := prov_value.mono_l k
    refine ⟨?_, ?_⟩
    · intro y0 y1 y2 y3 y4
      unfold prov_value.l0
      repeat' first
      | (with_reducible exact ih0 _ _ _ _ _)
      | (with_reducible exact ih1 _ _ _ _ _ _ _ _ _ _)
      | (with_reducible exact LeO.refl _)
      | (with_reducible exact LeO.none _)
      | (with_reducible refine LeO.ite ?_ ?_)
      | (with_reducible refine LeO.bind ?_ (fun _ => ?_))
      | exact ih0 _ _ _ _ _
      | exact ih1 _ _ _ _ _ _ _ _ _ _
      | exact LeO.none _
      | refine LeO.ite ?_ ?_
      | refine LeO.bind ?_ (fun _ => ?_)
    · intro y0 y1 y2 y3 y4 y5 y6 y7 y8 y9
      unfold prov_value.l1
      repeat' first
      | (with_reducible exact ih0 _ _ _ _ _)
      | (with_reducible exact ih1 _ _ _ _ _ _ _ _ _ _)
      | (with_reducible exact LeO.refl _)
      | (with_reducible exact LeO.none _)
      | (with_reducible refine LeO.ite ?_ ?_)
      | (with_reducible refine LeO.bind ?_ (fun _ => ?_))
      | exact ih0 _ _ _ _ _
      | exact ih1 _ _ _ _ _ _ _ _ _ _
      | exact LeO.none _
      | refine LeO.ite ?_ ?_
      | refine LeO.bind ?_ (fun _ => ?_)
theorem prov_value.mono : ∀ a0 a1 k, LeO (prov_value.f k a0 a1) (prov_value.f (k + 1) a0 a1) := by
  intro a0 a1 k
  obtain ⟨ih0, ih1⟩ := prov_value.mono_l k
  unfold prov_value.f
  repeat' first
      | (with_reducible exact ih0 _ _ _ _ _)
      | (with_reducible exact ih1 _ _ _ _ _ _ _ _ _ _)
      | (with_reducible exact LeO.refl _)
      | (with_reducible exact LeO.none _)
      | (with_reducible refine LeO.ite ?_ ?_)
      | (with_reducible refine LeO.bind ?_ (fun _ => ?_))
      | exact ih0 _ _ _ _ _
      | exact ih1 _ _ _ _ _ _ _ _ _ _
      | exact LeO.none _
      | refine LeO.ite ?_ ?_
      | refine LeO.bind ?_ (fun _ => ?_)
set_option maxHeartbeats 8000000 in
set_option maxRecDepth 100000 in
theorem prov_value.calls (k : Nat) (A0 : Option Addr) (c0 : Nat) (l0 : List (S37)) (A1 : Option Addr) (c1 : Nat) (l1 : List Int) (r : Int) (w : World) (hr0 : Kd.C k37 w A0 l0.length l0) (hc0 : l0.length ≤ c0) (hr1 : Kd.C (Kd.int .i64) w A1 l1.length l1) (hc1 : l1.length ≤ c1) (h : prov_value.f k l0 l1 = some r) :
    Calls Tryz.prog 32 #[.slice A0 l0.length c0, .slice A1 l1.length c1] w fun e w' => e = .returned (.int .i64 r) ∧ Below w.heap.size w w' := by
  have hu37 := Tryz.underlying37
  have HR0 := Aside0.mk hr0
  have HC0 := Aside0.mk hc0
  clear hr0 hc0
  have HR1 := Aside0.mk hr1
  have HC1 := Aside0.mk hc1
  clear hr1 hc1
  have HB := Aside0.mk (Below.refl w.heap.size w)
  have H : (prov_value.l0 k l1 0 l0 (l0.length : Int) 0) = some r := h
  clear h
  have H' := Aside0.mk H
  clear H
  go_enter Tryz.func32, Tryz.ntmps32
  go_wp2
  go_loopg [5, 12] k (fun kq v5 v12 w' => ∃ (x5_1 : Int) (x12_1 : Int), v5 = .int .i64 x5_1 ∧ v12 = .int .i64 x12_1 ∧ Aside0 (prov_value.l0 kq l1 x5_1 l0 (l0.length : Int) x12_1 = some r) ∧ Aside0 (kq ≤ k) ∧ Aside0 (Below w.heap.size w w'))
  case atStart => exact ⟨(0), (0), (by first | rfl | (simp; done) | (simp [*]; done)), (by first | rfl | (simp; done) | (simp [*]; done)), H', ⟨Nat.le_refl _⟩, ⟨by repeat (first | (with_reducible first | exact HB.out | apply below_alloc | apply pw_below_drewN | apply below_drew1) | exact HB.out)⟩⟩
  case round =>
    clear H'
    try clear c1
    try clear p2
    obtain ⟨x5_1, x12_1, rfl, rfl, HA, HK1, HB⟩ := hrel
    cases gk with
    | zero => exact absurd HA.out (by simp [prov_value.l0])
    | succ k1 =>
      have H := HA.out
      clear HA
      simp only [prov_value.l0] at H
      by_cases c3 : x12_1 < (l0.length : Int)
      · rw [if_pos c3] at H
        have c3b0 : decide (x12_1 < (l0.length : Int)) = true := decide_eq_true c3
        clear c3
        by_cases c4 : 0 ≤ x12_1
        · rw [if_pos c4] at H
          have c4b0 : decide (0 ≤ x12_1) = true := decide_eq_true c4
          clear c4
          by_cases c5 : x12_1 < (l0.length : Int)
          · rw [if_pos c5] at H
            have c5b0 : decide (x12_1 < (l0.length : Int)) = true := decide_eq_true c5
            clear c5
            have H' := Aside0.mk H
            clear H
            have p108 : 0 ≤ (x12_1 : Int) := of_decide_eq_true (by first | (with_reducible assumption) | assumption)
            have q108 : x12_1 < (l0.length : Int) := of_decide_eq_true (by first | (with_reducible assumption) | assumption)
            obtain ⟨ad108, e108, hx108_0, hx108_1⟩ := at_T37 HR0.out x12_1 p108 q108
            cases e108
            replace hx108_0 := (HB.out.cell (World.block_lt_of_cell? w _ hx108_0)).trans hx108_0
            replace hx108_1 := (HB.out.cell (World.block_lt_of_cell? w _ hx108_1)).trans hx108_1
            replace p108 := eq_true p108
            replace q108 := eq_true q108
            go_wp2_with (first | ((with_reducible refine gate_dst (N := 7) rfl ?_); refine box_event ?hg (N := 7) ?hd (cs := #[.string (⟨#[]⟩ : ByteArray), .int .i64 0]) (t := 37) ?hr ?_; (case hd => rfl); (case hg => rfl); (case hr => first | (go_simp; done) | (go_simp; rfl)); intro gb109 hg w6 hbox hb; have n0_ := Aside0.mk (below_step (by repeat (first | (with_reducible first | exact HB.out | apply below_alloc | apply pw_below_drewN | apply below_drew1) | exact HB.out)) hb); have n1_ := Aside0.mk (hbox); have n2_ := Aside0.mk ((by rw [hg]; exact (below_size (by repeat (first | (with_reducible first | exact HB.out | apply below_alloc | apply pw_below_drewN | apply below_drew1) | exact HB.out))) : w.heap.size ≤ gb109)); have n3_ := Aside0.mk ((by rw [hg]; exact (below_size (by repeat (first | (with_reducible first | exact HB.out | apply below_alloc | apply pw_below_drewN | apply below_drew1) | exact HB.out))) : w.heap.size ≤ gb109)); clear HB; have HB := n0_; have BK109 := n1_; have GW109 := n2_; have GE109 := n3_; clear n0_ n1_ n2_ n3_; clear hb hbox hg; have hcz7_0 : w6.cell? ⟨gb109, 0, none⟩ = some (.string (⟨#[]⟩ : ByteArray)) := (blk_cell BK109.out 0).trans rfl; have hcz7_1 : w6.cell? ⟨gb109, 1, none⟩ = some (.int .i64 0) := (blk_cell BK109.out 1).trans rfl; have hfz7_0 := blk_frozen BK109.out 0; have hfz7_1 := blk_frozen BK109.out 1))
            go_loopg [8, 21] k1 (fun kq v8 v21 w' => ∃ (x8_2 : Int) (x21_2 : Int), v8 = .int .i64 x8_2 ∧ v21 = .int .i64 x21_2 ∧ Aside0 (prov_value.l1 kq l1 x5_1 x8_2 l0 (l0.length : Int) x12_1 (((rd_T37 l0 x12_1).f0).size : Int) x21_2 ((rd_T37 l0 x12_1).f0) ((rd_T37 l0 x12_1).f1) = some r) ∧ Aside0 (kq ≤ k1) ∧ Aside0 (w'.heap[gb109]? = some (.cells #[.string ((rd_T37 l0 x12_1).f0), .int .i64 ((rd_T37 l0 x12_1).f1)] 37 (0, 0))) ∧ Aside0 (Below w.heap.size w w'))
            case atStart => exact ⟨((rd_T37 l0 x12_1).f1), (0), (by first | rfl | (simp; done) | (simp [*]; done)), (by first | rfl | (simp; done) | (simp [*]; done)), H', ⟨Nat.le_refl _⟩, ⟨by (with_reducible repeat (first | refine blk_drewN ?_ _ | refine blk_drew ?_ | refine blk_alloc ?_ _)); refine blk_put (cs := #[.string ((rd_T37 l0 x12_1).f0), .int .i64 0]) ?_ 1 _ rfl; (with_reducible repeat (first | refine blk_drewN ?_ _ | refine blk_drew ?_ | refine blk_alloc ?_ _)); refine blk_put (cs := #[.string (⟨#[]⟩ : ByteArray), .int .i64 0]) ?_ 0 _ rfl; (with_reducible repeat (first | refine blk_drewN ?_ _ | refine blk_drew ?_ | refine blk_alloc ?_ _)); exact BK109.out⟩, ⟨by repeat (first | (with_reducible first | exact HB.out | apply below_alloc | apply pw_below_drewN | apply below_drew1 | refine below_set ?_ GE109.out) | exact HB.out)⟩⟩
            case round =>
              clear H'
              try clear c1
              try clear p1
              try clear q1
              try clear hx1
              try clear p2
              try clear c3
              try clear c3b0
              try clear c4
              try clear c4b0
              try clear c5
              try clear c5b0
              try clear hcz7_0
              try clear hcz7_1
              try clear hfz7_0
              try clear hfz7_1
              try clear hx108_0
              try clear hx108_1
              try clear p108
              try clear p2
              try clear q108
              obtain ⟨x8_2, x21_2, rfl, rfl, HA, HK2, BK109, HB⟩ := hrel
              cases gk with
              | zero => exact absurd HA.out (by simp [prov_value.l1])
              | succ k2 =>
                have H := HA.out
                clear HA
                simp only [prov_value.l1] at H
                by_cases c8 : x21_2 < (((rd_T37 l0 x12_1).f0).size : Int)
                · rw [if_pos c8] at H
                  have c8b0 : decide (x21_2 < (((rd_T37 l0 x12_1).f0).size : Int)) = true := decide_eq_true c8
                  clear c8
                  by_cases c9 : 0 ≤ x21_2
                  · rw [if_pos c9] at H
                    have c9b0 : decide (0 ≤ x21_2) = true := decide_eq_true c9
                    clear c9
                    by_cases c10 : x21_2 < (((rd_T37 l0 x12_1).f0).size : Int)
                    · rw [if_pos c10] at H
                      have c10b0 : decide (x21_2 < (((rd_T37 l0 x12_1).f0).size : Int)) = true := decide_eq_true c10
                      clear c10
                      obtain ⟨ji12, hji12⟩ : ∃ j_ : Int, (((bt ((rd_T37 l0 x12_1).f0) x21_2) - 97) % 256) = j_ := ⟨_, rfl⟩
                      replace H : (if 0 ≤ (ji12) then (if (ji12) < (l1.length : Int) then (prov_value.l1 k2 l1 x5_1 (wrap64 (x8_2 * (rd l1 (ji12)))) l0 (l0.length : Int) x12_1 (((rd_T37 l0 x12_1).f0).size : Int) (wrap64 (x21_2 + 1)) ((rd_T37 l0 x12_1).f0) ((rd_T37 l0 x12_1).f1)) else (none)) else (none)) = some r := by first | (rw [hji12] at H; exact H) | (simp only [hji12] at H ⊢; exact H)
                      by_cases c13 : 0 ≤ (ji12)
                      · rw [if_pos c13] at H
                        have c13b0 : decide (0 ≤ (ji12)) = true := decide_eq_true c13
                        clear c13
                        by_cases c14 : (ji12) < (l1.length : Int)
                        · rw [if_pos c14] at H
                          have c14b0 : decide ((ji12) < (l1.length : Int)) = true := decide_eq_true c14
                          clear c14
                          have H' := Aside0.mk H
                          clear H
                          have hcz15_0 : wr.cell? ⟨gb109, 0, none⟩ = some (.string ((rd_T37 l0 x12_1).f0)) := (blk_cell BK109.out 0).trans rfl
                          have hcz15_1 : wr.cell? ⟨gb109, 1, none⟩ = some (.int .i64 ((rd_T37 l0 x12_1).f1)) := (blk_cell BK109.out 1).trans rfl
                          have hfz15_0 := blk_frozen BK109.out 0
                          have hfz15_1 := blk_frozen BK109.out 1
                          have p11 : 0 ≤ (x21_2 : Int) := of_decide_eq_true (by first | (with_reducible assumption) | assumption)
                          have q11 : x21_2 < (((rd_T37 l0 x12_1).f0).size : Int) := of_decide_eq_true (by first | (with_reducible assumption) | assumption)
                          have hx11 := bt_at ((rd_T37 l0 x12_1).f0) x21_2
                          replace p11 := eq_true p11
                          replace q11 := eq_true q11
                          have p110 : 0 ≤ ((ji12) : Int) := of_decide_eq_true (by first | (with_reducible assumption) | assumption)
                          have q110 : (ji12) < (l1.length : Int) := of_decide_eq_true (by first | (with_reducible assumption) | assumption)
                          obtain ⟨ad110, e110, hx110_0⟩ := Kd.at_int HR1.out (ji12) p110 q110
                          cases e110
                          replace hx110_0 := (HB.out.cell (World.block_lt_of_cell? w _ hx110_0)).trans hx110_0
                          replace p110 := eq_true p110
                          replace q110 := eq_true q110
                          go_wp2
                          go_roundg k2
                          case measure => have := HK1.out; have := HK2.out; omega
                          case rel => exact ⟨(wrap64 (x8_2 * (rd l1 (ji12)))), (wrap64 (x21_2 + 1)), (by first | rfl | (simp; done) | (simp only [← hji12] <;> (first | rfl | simp)) | (simp [*]; done)), (by first | rfl | (simp; done) | (simp [*]; done)), H', ⟨by have := HK1.out; have := HK2.out; omega⟩, ⟨by (with_reducible repeat (first | refine blk_drewN ?_ _ | refine blk_drew ?_ | refine blk_alloc ?_ _)); exact BK109.out⟩, ⟨by repeat (first | (with_reducible first | exact HB.out | apply below_alloc | apply pw_below_drewN | apply below_drew1 | refine below_set ?_ GE109.out) | exact HB.out)⟩⟩
                        · rw [if_neg c14] at H
                          exact absurd H (by simp)
                      · rw [if_neg c13] at H
                        exact absurd H (by simp)
                    · rw [if_neg c10] at H
                      exact absurd H (by simp)
                  · rw [if_neg c9] at H
                    exact absurd H (by simp)
                · rw [if_neg c8] at H
                  have c8b0 : decide (x21_2 < (((rd_T37 l0 x12_1).f0).size : Int)) = false := decide_eq_false c8
                  clear c8
                  have H' := Aside0.mk H
                  clear H
                  go_wp2
                  go_roundg k2
                  case measure => have := HK1.out; have := HK2.out; omega
                  case rel => exact ⟨(wrap64 (x5_1 + x8_2)), (wrap64 (x12_1 + 1)), (by first | rfl | (simp; done) | (simp [*]; done)), (by first | rfl | (simp; done) | (simp [*]; done)), H', ⟨by have := HK1.out; have := HK2.out; omega⟩, ⟨by repeat (first | (with_reducible first | exact HB.out | apply below_alloc | apply pw_below_drewN | apply below_drew1 | refine below_set ?_ GE109.out) | exact HB.out)⟩⟩
          · rw [if_neg c5] at H
            exact absurd H (by simp)
        · rw [if_neg c4] at H
          exact absurd H (by simp)
      · rw [if_neg c3] at H
        have c3b0 : decide (x12_1 < (l0.length : Int)) = false := decide_eq_false c3
        clear c3
        obtain rfl := Option.some.inj H
        go_wp2
        go_ret
        exact ⟨by first | rfl | (simp [errW_none, errW_some] <;> rfl) | (simp [*, errW_none, errW_some] <;> rfl), by repeat (first | (with_reducible first | exact HB.out | apply below_alloc | apply pw_below_drewN | apply below_drew1) | exact HB.out)⟩

end Go.Proofs.YtajeaefpapnkbaaGreatDoor.P
-- WRITTEN FOR THIS CLAIM BY A PROGRAM OF THIS SESSION (wip/tools), which turns the lines of the kit's print
namespace Go.Proofs.YtajeaefpapnkbaaGreatDoor.P
open Go.RowKit Go.Proofs.YtajeaefpapnkbaaGreatDoorW.PrintWords Go.Proofs.YtajeaefpapnkbaaGreatDoorW.PrintLast Go.Proofs.YtajeaefpapnkbaaGreatDoorW.PrintMore
attribute [local go_sem] max2_int min2_int max_two min_two max_three min_three max_four min_four   -- for this text's walks alone
set_option linter.unusedVariables false
set_option linter.unusedSimpArgs false

/-! ### prov_Value: function 14 -/
def prov_Value.f (k : Nat) (l0 : List (S37)) (l1 : List Int) : Option (Int × Int) := (prov_ValidSum.f l0).bind fun t111 => (if t111 = true then ((prov_within.f l1 10).bind fun t112 => (if t112 = true then ((prov_value.f k l0 l1).bind fun t113 => (some (t113, 0))) else (some (0, 2)))) else (some (0, 92)))
theorem prov_Value.mono : ∀ a0 a1 k, LeO (prov_Value.f k a0 a1) (prov_Value.f (k + 1) a0 a1) := by
  intro a0 a1 k
  unfold prov_Value.f
  repeat' first
      | (with_reducible exact prov_value.mono _ _ _)
      | (with_reducible exact LeO.refl _)
      | (with_reducible exact LeO.none _)
      | (with_reducible refine LeO.ite ?_ ?_)
      | (with_reducible refine LeO.bind ?_ (fun _ => ?_))
      | exact prov_value.mono _ _ _
      | exact LeO.none _
      | refine LeO.ite ?_ ?_
      | refine LeO.bind ?_ (fun _ => ?_)
set_option maxHeartbeats 8000000 in
set_option maxRecDepth 100000 in
theorem prov_Value.calls (k : Nat) (A0 : Option Addr) (c0 : Nat) (l0 : List (S37)) (A1 : Option Addr) (c1 : Nat) (l1 : List Int) (r1 : Int) (r2 : Int) (w : World) (hr0 : Kd.C k37 w A0 l0.length l0) (hc0 : l0.length ≤ c0) (hr1 : Kd.C (Kd.int .i64) w A1 l1.length l1) (hc1 : l1.length ≤ c1) (h : prov_Value.f k l0 l1 = some (r1, r2)) :
    Calls Tryz.prog 14 #[.slice A0 l0.length c0, .slice A1 l1.length c1] w fun e w' => e = .returned (.tuple #[.int .i64 r1, .int .i64 r2]) ∧ Below w.heap.size w w' := by
  have HR0 := Aside0.mk hr0
  have HC0 := Aside0.mk hc0
  clear hr0 hc0
  have HR1 := Aside0.mk hr1
  have HC1 := Aside0.mk hc1
  clear hr1 hc1
  have HB := Aside0.mk (Below.refl w.heap.size w)
  have H : ((prov_ValidSum.f l0).bind fun t111 => (if t111 = true then ((prov_within.f l1 10).bind fun t112 => (if t112 = true then ((prov_value.f k l0 l1).bind fun t113 => (some (t113, 0))) else (some (0, 2)))) else (some (0, 92)))) = some (r1, r2) := h
  clear h
  replace H := Option.bind_eq_some_iff.mp H
  obtain ⟨t111, A30, H⟩ := H
  replace H : (if t111 = true then ((prov_within.f l1 10).bind fun t112 => (if t112 = true then ((prov_value.f k l0 l1).bind fun t113 => (some (t113, 0))) else (some (0, 2)))) else (some (0, 92))) = some (r1, r2) := H
  have A3 := Aside0.mk A30
  clear A30
  by_cases c4 : t111 = true
  · subst c4
    have H1 : ((prov_within.f l1 10).bind fun t112 => (if t112 = true then ((prov_value.f k l0 l1).bind fun t113 => (some (t113, 0))) else (some (0, 2)))) = some (r1, r2) := by rw [if_pos rfl] at H; exact H
    clear H
    have H := H1
    clear H1
    replace H := Option.bind_eq_some_iff.mp H
    obtain ⟨t112, A50, H⟩ := H
    replace H : (if t112 = true then ((prov_value.f k l0 l1).bind fun t113 => (some (t113, 0))) else (some (0, 2))) = some (r1, r2) := H
    have A5 := Aside0.mk A50
    clear A50
    by_cases c6 : t112 = true
    · subst c6
      have H1 : ((prov_value.f k l0 l1).bind fun t113 => (some (t113, 0))) = some (r1, r2) := by rw [if_pos rfl] at H; exact H
      clear H
      have H := H1
      clear H1
      replace H := Option.bind_eq_some_iff.mp H
      obtain ⟨t113, A70, H⟩ := H
      replace H : (some (t113, 0)) = some (r1, r2) := H
      have A7 := Aside0.mk A70
      clear A70
      simp only [Option.some.injEq, Prod.mk.injEq] at H
      obtain ⟨rfl, rfl⟩ := H
      go_enter Tryz.func14, Tryz.ntmps14
      go_wp2_with (first | ((with_reducible refine gate_callee (f := 15) rfl ?_); refine goesL_ (some 8) rfl rfl Tryz.func15 (by kernel_rfl) rfl #[.slice A0 l0.length c0] rfl (by (try simp only [List.map_toArray, List.map_cons, List.map_nil]); first | done | rfl | (simp only [List.length_drop, List.length_take]; rfl)) ?_; (with_reducible refine (prov_ValidSum.calls _ _ l0 true _ ?side1 ?side2 A3.out).mono ?_); (case side1 => repeat (first | exact HR0.out | (with_reducible refine Kd.C_alloc ?_ _) | (with_reducible refine Kd.C_drewN ?_ _) | (with_reducible refine Kd.C_drew ?_))); (case side2 => exact HC0.out); rintro e w8 ⟨rfl, hb⟩; refine ⟨_, rfl, ?_⟩; have n0_ := Aside0.mk (below_step (by repeat (first | (with_reducible first | exact HB.out | apply below_alloc | apply pw_below_drewN | apply below_drew1) | exact HB.out)) hb); clear HB; have HB := n0_; clear n0_; (try clear hb); (try clear hb2); (try clear hk); (try clear hi)) | ((with_reducible refine gate_callee (f := 31) rfl ?_); refine goesL_ (some 12) rfl rfl Tryz.func31 (by kernel_rfl) rfl #[.slice A1 l1.length c1, .int .i64 10] rfl (by (try simp only [List.map_toArray, List.map_cons, List.map_nil]); first | done | rfl | (simp only [List.length_drop, List.length_take]; rfl)) ?_; (with_reducible refine (prov_within.calls _ _ l1 10 true _ ?side1 ?side2 A5.out).mono ?_); (case side1 => repeat (first | exact (Kd.C_below HR1.out HB.out) | (with_reducible refine Kd.C_alloc ?_ _) | (with_reducible refine Kd.C_drewN ?_ _) | (with_reducible refine Kd.C_drew ?_))); (case side2 => exact HC1.out); rintro e w9 ⟨rfl, hb⟩; refine ⟨_, rfl, ?_⟩; have n0_ := Aside0.mk (below_step (by repeat (first | (with_reducible first | exact HB.out | apply below_alloc | apply pw_below_drewN | apply below_drew1) | exact HB.out)) hb); clear HB; have HB := n0_; clear n0_; (try clear hb); (try clear hb2); (try clear hk); (try clear hi)) | ((with_reducible refine gate_callee (f := 32) rfl ?_); refine goesL_ (some 16) rfl rfl Tryz.func32 (by kernel_rfl) rfl #[.slice A0 l0.length c0, .slice A1 l1.length c1] rfl (by (try simp only [List.map_toArray, List.map_cons, List.map_nil]); first | done | rfl | (simp only [List.length_drop, List.length_take]; rfl)) ?_; (with_reducible refine (prov_value.calls k _ _ l0 _ _ l1 t113 _ ?side1 ?side2 ?side3 ?side4 A7.out).mono ?_); (case side1 => repeat (first | exact (Kd.C_below HR0.out HB.out) | (with_reducible refine Kd.C_alloc ?_ _) | (with_reducible refine Kd.C_drewN ?_ _) | (with_reducible refine Kd.C_drew ?_))); (case side2 => exact HC0.out); (case side3 => repeat (first | exact (Kd.C_below HR1.out HB.out) | (with_reducible refine Kd.C_alloc ?_ _) | (with_reducible refine Kd.C_drewN ?_ _) | (with_reducible refine Kd.C_drew ?_))); (case side4 => exact HC1.out); rintro e w10 ⟨rfl, hb⟩; refine ⟨_, rfl, ?_⟩; have n0_ := Aside0.mk (below_step (by repeat (first | (with_reducible first | exact HB.out | apply below_alloc | apply pw_below_drewN | apply below_drew1) | exact HB.out)) hb); clear HB; have HB := n0_; clear n0_; (try clear hb); (try clear hb2); (try clear hk); (try clear hi)))
      go_ret2
      exact ⟨by first | rfl | (simp [errW_none, errW_some] <;> rfl) | (simp [*, errW_none, errW_some] <;> rfl), by repeat (first | (with_reducible first | exact HB.out | apply below_alloc | apply pw_below_drewN | apply below_drew1) | exact HB.out)⟩
    · replace c6 := Bool.eq_false_iff.mpr c6
      subst c6
      have H1 : (some (0, 2)) = some (r1, r2) := by rw [if_neg (show ¬ (false = true) by decide)] at H; exact H
      clear H
      have H := H1
      clear H1
      simp only [Option.some.injEq, Prod.mk.injEq] at H
      obtain ⟨rfl, rfl⟩ := H
      go_enter Tryz.func14, Tryz.ntmps14
      go_wp2_with (first | ((with_reducible refine gate_callee (f := 15) rfl ?_); refine goesL_ (some 8) rfl rfl Tryz.func15 (by kernel_rfl) rfl #[.slice A0 l0.length c0] rfl (by (try simp only [List.map_toArray, List.map_cons, List.map_nil]); first | done | rfl | (simp only [List.length_drop, List.length_take]; rfl)) ?_; (with_reducible refine (prov_ValidSum.calls _ _ l0 true _ ?side1 ?side2 A3.out).mono ?_); (case side1 => repeat (first | exact HR0.out | (with_reducible refine Kd.C_alloc ?_ _) | (with_reducible refine Kd.C_drewN ?_ _) | (with_reducible refine Kd.C_drew ?_))); (case side2 => exact HC0.out); rintro e w11 ⟨rfl, hb⟩; refine ⟨_, rfl, ?_⟩; have n0_ := Aside0.mk (below_step (by repeat (first | (with_reducible first | exact HB.out | apply below_alloc | apply pw_below_drewN | apply below_drew1) | exact HB.out)) hb); clear HB; have HB := n0_; clear n0_; (try clear hb); (try clear hb2); (try clear hk); (try clear hi)) | ((with_reducible refine gate_callee (f := 31) rfl ?_); refine goesL_ (some 12) rfl rfl Tryz.func31 (by kernel_rfl) rfl #[.slice A1 l1.length c1, .int .i64 10] rfl (by (try simp only [List.map_toArray, List.map_cons, List.map_nil]); first | done | rfl | (simp only [List.length_drop, List.length_take]; rfl)) ?_; (with_reducible refine (prov_within.calls _ _ l1 10 false _ ?side1 ?side2 A5.out).mono ?_); (case side1 => repeat (first | exact (Kd.C_below HR1.out HB.out) | (with_reducible refine Kd.C_alloc ?_ _) | (with_reducible refine Kd.C_drewN ?_ _) | (with_reducible refine Kd.C_drew ?_))); (case side2 => exact HC1.out); rintro e w12 ⟨rfl, hb⟩; refine ⟨_, rfl, ?_⟩; have n0_ := Aside0.mk (below_step (by repeat (first | (with_reducible first | exact HB.out | apply below_alloc | apply pw_below_drewN | apply below_drew1) | exact HB.out)) hb); clear HB; have HB := n0_; clear n0_; (try clear hb); (try clear hb2); (try clear hk); (try clear hi)))
      go_ret2
      exact ⟨by first | rfl | (simp [errW_none, errW_some] <;> rfl) | (simp [*, errW_none, errW_some] <;> rfl), by repeat (first | (with_reducible first | exact HB.out | apply below_alloc | apply pw_below_drewN | apply below_drew1) | exact HB.out)⟩
  · replace c4 := Bool.eq_false_iff.mpr c4
    subst c4
    have H1 : (some (0, 92)) = some (r1, r2) := by rw [if_neg (show ¬ (false = true) by decide)] at H; exact H
    clear H
    have H := H1
    clear H1
    simp only [Option.some.injEq, Prod.mk.injEq] at H
    obtain ⟨rfl, rfl⟩ := H
    go_enter Tryz.func14, Tryz.ntmps14
    go_wp2_with (first | ((with_reducible refine gate_callee (f := 15) rfl ?_); refine goesL_ (some 8) rfl rfl Tryz.func15 (by kernel_rfl) rfl #[.slice A0 l0.length c0] rfl (by (try simp only [List.map_toArray, List.map_cons, List.map_nil]); first | done | rfl | (simp only [List.length_drop, List.length_take]; rfl)) ?_; (with_reducible refine (prov_ValidSum.calls _ _ l0 false _ ?side1 ?side2 A3.out).mono ?_); (case side1 => repeat (first | exact HR0.out | (with_reducible refine Kd.C_alloc ?_ _) | (with_reducible refine Kd.C_drewN ?_ _) | (with_reducible refine Kd.C_drew ?_))); (case side2 => exact HC0.out); rintro e w13 ⟨rfl, hb⟩; refine ⟨_, rfl, ?_⟩; have n0_ := Aside0.mk (below_step (by repeat (first | (with_reducible first | exact HB.out | apply below_alloc | apply pw_below_drewN | apply below_drew1) | exact HB.out)) hb); clear HB; have HB := n0_; clear n0_; (try clear hb); (try clear hb2); (try clear hk); (try clear hi)))
    go_ret2
    exact ⟨by first | rfl | (simp [errW_none, errW_some] <;> rfl) | (simp [*, errW_none, errW_some] <;> rfl), by repeat (first | (with_reducible first | exact HB.out | apply below_alloc | apply pw_below_drewN | apply below_drew1) | exact HB.out)⟩

end Go.Proofs.YtajeaefpapnkbaaGreatDoor.P
-- WRITTEN FOR THIS CLAIM BY A PROGRAM OF THIS SESSION (wip/tools), which turns the lines of the kit's print
namespace Go.Proofs.YtajeaefpapnkbaaGreatDoor.P
open Go.RowKit Go.Proofs.YtajeaefpapnkbaaGreatDoorW.PrintWords Go.Proofs.YtajeaefpapnkbaaGreatDoorW.PrintLast Go.Proofs.YtajeaefpapnkbaaGreatDoorW.PrintMore
attribute [local go_sem] max2_int min2_int max_two min_two max_three min_three max_four min_four   -- for this text's walks alone
set_option linter.unusedVariables false
set_option linter.unusedSimpArgs false

/-! ### firnlaw09_Awake: function 5 -/
def firnlaw09_Awake.f (k : Nat)  : Option (Bool) := (prov_Value.f k (([(⟨(⟨#[97]⟩ : ByteArray), 2⟩ : S37), (⟨(⟨#[97, 98]⟩ : ByteArray), 1⟩ : S37), (⟨(⟨#[98, 99]⟩ : ByteArray), 1⟩ : S37)] : List (S37))) (([1, 1, 1, 1, 1, 1, 1, 1] : List Int))).bind fun bt120 => (if bt120.2 = 0 then (some (bt120.1 == 4)) else (some false))
theorem firnlaw09_Awake.mono : ∀ k, LeO (firnlaw09_Awake.f k ) (firnlaw09_Awake.f (k + 1) ) := by
  intro  k
  unfold firnlaw09_Awake.f
  repeat' first
      | (with_reducible exact prov_Value.mono _ _ _)
      | (with_reducible exact LeO.refl _)
      | (with_reducible exact LeO.none _)
      | (with_reducible refine LeO.ite ?_ ?_)
      | (with_reducible refine LeO.bind ?_ (fun _ => ?_))
      | exact prov_Value.mono _ _ _
      | exact LeO.none _
      | refine LeO.ite ?_ ?_
      | refine LeO.bind ?_ (fun _ => ?_)
set_option maxHeartbeats 8000000 in
set_option maxRecDepth 100000 in
theorem firnlaw09_Awake.calls (k : Nat)  (r : Bool) (w : World) (h : firnlaw09_Awake.f k  = some r) :
    Calls Tryz.prog 5 #[] w fun e w' => e = .returned (.bool r) ∧ Below w.heap.size w w' := by
  have hu37 := Tryz.underlying37
  have HB := Aside0.mk (Below.refl w.heap.size w)
  have H : ((prov_Value.f k (([(⟨(⟨#[97]⟩ : ByteArray), 2⟩ : S37), (⟨(⟨#[97, 98]⟩ : ByteArray), 1⟩ : S37), (⟨(⟨#[98, 99]⟩ : ByteArray), 1⟩ : S37)] : List (S37))) (([1, 1, 1, 1, 1, 1, 1, 1] : List Int))).bind fun bt120 => (if bt120.2 = 0 then (some (bt120.1 == 4)) else (some false))) = some r := h
  clear h
  obtain ⟨y114, hy114⟩ : ∃ y_ : List (S37), y_ = (([(⟨(⟨#[97]⟩ : ByteArray), 2⟩ : S37), (⟨(⟨#[97, 98]⟩ : ByteArray), 1⟩ : S37), (⟨(⟨#[98, 99]⟩ : ByteArray), 1⟩ : S37)] : List (S37))) := ⟨_, rfl⟩
  replace H : ((prov_Value.f k y114 (([1, 1, 1, 1, 1, 1, 1, 1] : List Int))).bind fun bt120 => (if bt120.2 = 0 then (some (bt120.1 == 4)) else (some false))) = some r := by first | (rw [hy114]; with_reducible exact H) | (have H2_ := (Option.bind_some _ _).symm.trans H; rw [hy114]; with_reducible exact H2_) | (have H2_ := (Option.bind_some _ _).symm.trans H; with_reducible exact H2_) | with_reducible exact H | (rw [hy114]; exact H) | exact H
  have Ny114 := Aside0.mk hy114
  clear hy114
  obtain ⟨y117, hy117⟩ : ∃ y_ : List Int, y_ = (([1, 1, 1, 1, 1, 1, 1, 1] : List Int)) := ⟨_, rfl⟩
  replace H : ((prov_Value.f k y114 y117).bind fun bt120 => (if bt120.2 = 0 then (some (bt120.1 == 4)) else (some false))) = some r := by first | (rw [hy117]; with_reducible exact H) | (have H2_ := (Option.bind_some _ _).symm.trans H; rw [hy117]; with_reducible exact H2_) | (have H2_ := (Option.bind_some _ _).symm.trans H; with_reducible exact H2_) | with_reducible exact H | (rw [hy117]; exact H) | exact H
  have Ny117 := Aside0.mk hy117
  clear hy117
  replace H := Option.bind_eq_some_iff.mp H
  obtain ⟨⟨t120, t121⟩, A10, H⟩ := H
  replace H : (if t121 = 0 then (some (t120 == 4)) else (some false)) = some r := H
  have A1 := Aside0.mk A10
  clear A10
  by_cases c2 : t121 = 0
  · rw [if_pos c2] at H
    have c2b0 : (t121 == 0) = true := beq_iff_eq.mpr c2
    have c2b1 : (t121 != 0) = false := bne_eq_false_iff_eq.mpr c2
    clear c2
    obtain rfl := Option.some.inj H
    go_enter Tryz.func5, Tryz.ntmps5
    go_wp2_with (first | ((with_reducible refine gate_dst (N := 7) rfl ?_); refine Kd.R_lit k37 _ 37 ?hg (N := 7) ?hd (xs := ([(⟨(⟨#[97]⟩ : ByteArray), 2⟩ : S37), (⟨(⟨#[97, 98]⟩ : ByteArray), 1⟩ : S37), (⟨(⟨#[98, 99]⟩ : ByteArray), 1⟩ : S37)] : List (S37))) (inner := [.string (⟨#[97]⟩ : ByteArray), .int .i64 2, .string (⟨#[97, 98]⟩ : ByteArray), .int .i64 1, .string (⟨#[98, 99]⟩ : ByteArray), .int .i64 1]) (ok := fun _ => True) (okp := fun _ => True) ?hr ?hp (fun _ hk => hk) trivial (Below.refl _ _) (Nat.le_refl _) (by simp) ?_; (case hd => rfl); (case hg => rfl); (case hr => first | (go_simp; done) | (go_simp; rfl)); (case hp => exact (Reps.c2 (show Kd.M k37 _ _ _ (⟨(⟨#[97]⟩ : ByteArray), 2⟩ : S37) [.string (⟨#[97]⟩ : ByteArray), .int .i64 2] from (k37_mkM _ _ _ (⟨(⟨#[97]⟩ : ByteArray), 2⟩ : S37) )) (Reps.c2 (show Kd.M k37 _ _ _ (⟨(⟨#[97, 98]⟩ : ByteArray), 1⟩ : S37) [.string (⟨#[97, 98]⟩ : ByteArray), .int .i64 1] from (k37_mkM _ _ _ (⟨(⟨#[97, 98]⟩ : ByteArray), 1⟩ : S37) )) (Reps.c2 (show Kd.M k37 _ _ _ (⟨(⟨#[98, 99]⟩ : ByteArray), 1⟩ : S37) [.string (⟨#[98, 99]⟩ : ByteArray), .int .i64 1] from (k37_mkM _ _ _ (⟨(⟨#[98, 99]⟩ : ByteArray), 1⟩ : S37) )) (Reps.none _ _))))); intro v115 w3 ho4 hb hg_ hnew_; clear hg_ hnew_; (first | rw [← Ny114.out] at ho4 | (simp only [Int.reduceToNat] at ho4; rw [← Ny114.out] at ho4)); have n0_ := Aside0.mk (Kd.R_lower ho4 (below_size (by repeat (first | (with_reducible first | exact HB.out | apply below_alloc | apply pw_below_drewN | apply below_drew1) | exact HB.out)))); have n1_ := Aside0.mk (below_step (by repeat (first | (with_reducible first | exact HB.out | apply below_alloc | apply pw_below_drewN | apply below_drew1) | exact HB.out)) hb); clear HB; have HO116 := n0_; have HB := n1_; clear n0_ n1_; clear hb ho4) | ((with_reducible refine gate_dst (N := 8) rfl ?_); refine Kd.R_lit (Kd.int .i64) _ 3 ?hg (N := 8) ?hd (xs := ([1, 1, 1, 1, 1, 1, 1, 1] : List Int)) (inner := [.int .i64 1, .int .i64 1, .int .i64 1, .int .i64 1, .int .i64 1, .int .i64 1, .int .i64 1, .int .i64 1]) (ok := fun _ => True) (okp := fun _ => True) ?hr ?hp (fun _ hk => hk) trivial (Below.refl _ _) (Nat.le_refl _) (by simp) ?_; (case hd => rfl); (case hg => rfl); (case hr => first | (go_simp; done) | (go_simp; rfl)); (case hp => exact (Reps.one (show Kd.M (Kd.int .i64) _ _ _ 1 [.int .i64 1] from rfl) (Reps.one (show Kd.M (Kd.int .i64) _ _ _ 1 [.int .i64 1] from rfl) (Reps.one (show Kd.M (Kd.int .i64) _ _ _ 1 [.int .i64 1] from rfl) (Reps.one (show Kd.M (Kd.int .i64) _ _ _ 1 [.int .i64 1] from rfl) (Reps.one (show Kd.M (Kd.int .i64) _ _ _ 1 [.int .i64 1] from rfl) (Reps.one (show Kd.M (Kd.int .i64) _ _ _ 1 [.int .i64 1] from rfl) (Reps.one (show Kd.M (Kd.int .i64) _ _ _ 1 [.int .i64 1] from rfl) (Reps.one (show Kd.M (Kd.int .i64) _ _ _ 1 [.int .i64 1] from rfl) (Reps.none _ _)))))))))); intro v118 w5 ho6 hb hg_ hnew_; clear hg_ hnew_; (first | rw [← Ny117.out] at ho6 | (simp only [Int.reduceToNat] at ho6; rw [← Ny117.out] at ho6)); have n0_ := Aside0.mk (Kd.R_below (by (with_reducible repeat (first | apply Kd.R_alloc | apply Kd.R_drewN | apply Kd.R_drew)); exact HO116.out) hb); have n1_ := Aside0.mk (Kd.R_lower ho6 (below_size (by repeat (first | (with_reducible first | exact HB.out | apply below_alloc | apply pw_below_drewN | apply below_drew1) | exact HB.out)))); have n2_ := Aside0.mk (below_step (by repeat (first | (with_reducible first | exact HB.out | apply below_alloc | apply pw_below_drewN | apply below_drew1) | exact HB.out)) hb); clear HO116; clear HB; have HO116 := n0_; have HO119 := n1_; have HB := n2_; clear n0_ n1_ n2_; clear hb ho6; obtain ⟨Ao7, co7, eo7⟩ := Kd.R_slice HO116.out; subst eo7; obtain ⟨Ao8, co8, eo8⟩ := Kd.R_slice HO119.out; subst eo8) | ((with_reducible refine gate_callee (f := 14) rfl ?_); refine goesL_ (some 9) rfl rfl Tryz.func14 (by kernel_rfl) rfl #[.slice Ao7 y114.length co7, .slice Ao8 y117.length co8] rfl (by (try simp only [List.map_toArray, List.map_cons, List.map_nil]); first | done | rfl | (simp only [List.length_drop, List.length_take]; rfl)) ?_; (with_reducible refine (prov_Value.calls k _ _ y114 _ _ y117 t120 t121 _ ?side1 ?side2 ?side3 ?side4 A1.out).mono ?_); (case side1 => repeat (first | exact (Kd.R_reads' HO116.out).2.2 | (with_reducible refine Kd.C_alloc ?_ _) | (with_reducible refine Kd.C_drewN ?_ _) | (with_reducible refine Kd.C_drew ?_))); (case side2 => exact (Kd.R_reads' HO116.out).2.1); (case side3 => repeat (first | exact (Kd.R_reads' HO119.out).2.2 | (with_reducible refine Kd.C_alloc ?_ _) | (with_reducible refine Kd.C_drewN ?_ _) | (with_reducible refine Kd.C_drew ?_))); (case side4 => exact (Kd.R_reads' HO119.out).2.1); rintro e w9 ⟨rfl, hb⟩; refine ⟨_, rfl, ?_⟩; have n0_ := Aside0.mk (Kd.R_below (by (with_reducible repeat (first | apply Kd.R_alloc | apply Kd.R_drewN | apply Kd.R_drew)); exact HO116.out) hb); have n1_ := Aside0.mk (Kd.R_below (by (with_reducible repeat (first | apply Kd.R_alloc | apply Kd.R_drewN | apply Kd.R_drew)); exact HO119.out) hb); have n2_ := Aside0.mk (below_step (by repeat (first | (with_reducible first | exact HB.out | apply below_alloc | apply pw_below_drewN | apply below_drew1) | exact HB.out)) hb); clear HO116; clear HO119; clear HB; have HO116 := n0_; have HO119 := n1_; have HB := n2_; clear n0_ n1_ n2_; (try clear hb); (try clear hb2); (try clear hk); (try clear hi)))
    go_ret
    exact ⟨by first | rfl | (simp [errW_none, errW_some] <;> rfl) | (simp [*, errW_none, errW_some] <;> rfl), by repeat (first | (with_reducible first | exact HB.out | apply below_alloc | apply pw_below_drewN | apply below_drew1) | exact HB.out)⟩
  · rw [if_neg c2] at H
    have c2b0 : (t121 == 0) = false := beq_eq_false_iff_ne.mpr c2
    have c2b1 : (t121 != 0) = true := bne_iff_ne.mpr c2
    obtain rfl := Option.some.inj H
    go_enter Tryz.func5, Tryz.ntmps5
    go_wp2_with (first | ((with_reducible refine gate_dst (N := 7) rfl ?_); refine Kd.R_lit k37 _ 37 ?hg (N := 7) ?hd (xs := ([(⟨(⟨#[97]⟩ : ByteArray), 2⟩ : S37), (⟨(⟨#[97, 98]⟩ : ByteArray), 1⟩ : S37), (⟨(⟨#[98, 99]⟩ : ByteArray), 1⟩ : S37)] : List (S37))) (inner := [.string (⟨#[97]⟩ : ByteArray), .int .i64 2, .string (⟨#[97, 98]⟩ : ByteArray), .int .i64 1, .string (⟨#[98, 99]⟩ : ByteArray), .int .i64 1]) (ok := fun _ => True) (okp := fun _ => True) ?hr ?hp (fun _ hk => hk) trivial (Below.refl _ _) (Nat.le_refl _) (by simp) ?_; (case hd => rfl); (case hg => rfl); (case hr => first | (go_simp; done) | (go_simp; rfl)); (case hp => exact (Reps.c2 (show Kd.M k37 _ _ _ (⟨(⟨#[97]⟩ : ByteArray), 2⟩ : S37) [.string (⟨#[97]⟩ : ByteArray), .int .i64 2] from (k37_mkM _ _ _ (⟨(⟨#[97]⟩ : ByteArray), 2⟩ : S37) )) (Reps.c2 (show Kd.M k37 _ _ _ (⟨(⟨#[97, 98]⟩ : ByteArray), 1⟩ : S37) [.string (⟨#[97, 98]⟩ : ByteArray), .int .i64 1] from (k37_mkM _ _ _ (⟨(⟨#[97, 98]⟩ : ByteArray), 1⟩ : S37) )) (Reps.c2 (show Kd.M k37 _ _ _ (⟨(⟨#[98, 99]⟩ : ByteArray), 1⟩ : S37) [.string (⟨#[98, 99]⟩ : ByteArray), .int .i64 1] from (k37_mkM _ _ _ (⟨(⟨#[98, 99]⟩ : ByteArray), 1⟩ : S37) )) (Reps.none _ _))))); intro v115 w10 ho11 hb hg_ hnew_; clear hg_ hnew_; (first | rw [← Ny114.out] at ho11 | (simp only [Int.reduceToNat] at ho11; rw [← Ny114.out] at ho11)); have n0_ := Aside0.mk (Kd.R_lower ho11 (below_size (by repeat (first | (with_reducible first | exact HB.out | apply below_alloc | apply pw_below_drewN | apply below_drew1) | exact HB.out)))); have n1_ := Aside0.mk (below_step (by repeat (first | (with_reducible first | exact HB.out | apply below_alloc | apply pw_below_drewN | apply below_drew1) | exact HB.out)) hb); clear HB; have HO116 := n0_; have HB := n1_; clear n0_ n1_; clear hb ho11) | ((with_reducible refine gate_dst (N := 8) rfl ?_); refine Kd.R_lit (Kd.int .i64) _ 3 ?hg (N := 8) ?hd (xs := ([1, 1, 1, 1, 1, 1, 1, 1] : List Int)) (inner := [.int .i64 1, .int .i64 1, .int .i64 1, .int .i64 1, .int .i64 1, .int .i64 1, .int .i64 1, .int .i64 1]) (ok := fun _ => True) (okp := fun _ => True) ?hr ?hp (fun _ hk => hk) trivial (Below.refl _ _) (Nat.le_refl _) (by simp) ?_; (case hd => rfl); (case hg => rfl); (case hr => first | (go_simp; done) | (go_simp; rfl)); (case hp => exact (Reps.one (show Kd.M (Kd.int .i64) _ _ _ 1 [.int .i64 1] from rfl) (Reps.one (show Kd.M (Kd.int .i64) _ _ _ 1 [.int .i64 1] from rfl) (Reps.one (show Kd.M (Kd.int .i64) _ _ _ 1 [.int .i64 1] from rfl) (Reps.one (show Kd.M (Kd.int .i64) _ _ _ 1 [.int .i64 1] from rfl) (Reps.one (show Kd.M (Kd.int .i64) _ _ _ 1 [.int .i64 1] from rfl) (Reps.one (show Kd.M (Kd.int .i64) _ _ _ 1 [.int .i64 1] from rfl) (Reps.one (show Kd.M (Kd.int .i64) _ _ _ 1 [.int .i64 1] from rfl) (Reps.one (show Kd.M (Kd.int .i64) _ _ _ 1 [.int .i64 1] from rfl) (Reps.none _ _)))))))))); intro v118 w12 ho13 hb hg_ hnew_; clear hg_ hnew_; (first | rw [← Ny117.out] at ho13 | (simp only [Int.reduceToNat] at ho13; rw [← Ny117.out] at ho13)); have n0_ := Aside0.mk (Kd.R_below (by (with_reducible repeat (first | apply Kd.R_alloc | apply Kd.R_drewN | apply Kd.R_drew)); exact HO116.out) hb); have n1_ := Aside0.mk (Kd.R_lower ho13 (below_size (by repeat (first | (with_reducible first | exact HB.out | apply below_alloc | apply pw_below_drewN | apply below_drew1) | exact HB.out)))); have n2_ := Aside0.mk (below_step (by repeat (first | (with_reducible first | exact HB.out | apply below_alloc | apply pw_below_drewN | apply below_drew1) | exact HB.out)) hb); clear HO116; clear HB; have HO116 := n0_; have HO119 := n1_; have HB := n2_; clear n0_ n1_ n2_; clear hb ho13; obtain ⟨Ao14, co14, eo14⟩ := Kd.R_slice HO116.out; subst eo14; obtain ⟨Ao15, co15, eo15⟩ := Kd.R_slice HO119.out; subst eo15) | ((with_reducible refine gate_callee (f := 14) rfl ?_); refine goesL_ (some 9) rfl rfl Tryz.func14 (by kernel_rfl) rfl #[.slice Ao14 y114.length co14, .slice Ao15 y117.length co15] rfl (by (try simp only [List.map_toArray, List.map_cons, List.map_nil]); first | done | rfl | (simp only [List.length_drop, List.length_take]; rfl)) ?_; (with_reducible refine (prov_Value.calls k _ _ y114 _ _ y117 t120 t121 _ ?side1 ?side2 ?side3 ?side4 A1.out).mono ?_); (case side1 => repeat (first | exact (Kd.R_reads' HO116.out).2.2 | (with_reducible refine Kd.C_alloc ?_ _) | (with_reducible refine Kd.C_drewN ?_ _) | (with_reducible refine Kd.C_drew ?_))); (case side2 => exact (Kd.R_reads' HO116.out).2.1); (case side3 => repeat (first | exact (Kd.R_reads' HO119.out).2.2 | (with_reducible refine Kd.C_alloc ?_ _) | (with_reducible refine Kd.C_drewN ?_ _) | (with_reducible refine Kd.C_drew ?_))); (case side4 => exact (Kd.R_reads' HO119.out).2.1); rintro e w16 ⟨rfl, hb⟩; refine ⟨_, rfl, ?_⟩; have n0_ := Aside0.mk (Kd.R_below (by (with_reducible repeat (first | apply Kd.R_alloc | apply Kd.R_drewN | apply Kd.R_drew)); exact HO116.out) hb); have n1_ := Aside0.mk (Kd.R_below (by (with_reducible repeat (first | apply Kd.R_alloc | apply Kd.R_drewN | apply Kd.R_drew)); exact HO119.out) hb); have n2_ := Aside0.mk (below_step (by repeat (first | (with_reducible first | exact HB.out | apply below_alloc | apply pw_below_drewN | apply below_drew1) | exact HB.out)) hb); clear HO116; clear HO119; clear HB; have HO116 := n0_; have HO119 := n1_; have HB := n2_; clear n0_ n1_ n2_; (try clear hb); (try clear hb2); (try clear hk); (try clear hi)))
    go_ret
    exact ⟨by first | rfl | (simp [errW_none, errW_some] <;> rfl) | (simp [*, errW_none, errW_some] <;> rfl), by repeat (first | (with_reducible first | exact HB.out | apply below_alloc | apply pw_below_drewN | apply below_drew1) | exact HB.out)⟩

end Go.Proofs.YtajeaefpapnkbaaGreatDoor.P
-- WRITTEN FOR THIS CLAIM BY A PROGRAM OF THIS SESSION (wip/tools), which turns the lines of the kit's print
namespace Go.Proofs.YtajeaefpapnkbaaGreatDoor.P
open Go.RowKit Go.Proofs.YtajeaefpapnkbaaGreatDoorW.PrintWords Go.Proofs.YtajeaefpapnkbaaGreatDoorW.PrintLast Go.Proofs.YtajeaefpapnkbaaGreatDoorW.PrintMore
attribute [local go_sem] max2_int min2_int max_two min_two max_three min_three max_four min_four   -- for this text's walks alone
set_option linter.unusedVariables false
set_option linter.unusedSimpArgs false

/-! ### slices_Compact_byte_byte: function 16 -/
-- IMPORTS Derived.Test.YtajeaefpapnkbaaGreatDoorShelf Derived.Shelf.SlicesE.Compact Derived.Lib.ConvBytes
open Go.Shelf Go.Sort Go.Lib
theorem compactB_any (blk cap : Nat) (d : Array Int) (w : World) (hH : Holds (Value.int .u8) w blk 0 d) (hs : d.size ≤ 140737488351232) (hc : d.size ≤ cap) :
    Calls Tryz.prog 16 #[.slice (some ⟨blk, 0, none⟩) d.size cap] w fun e w' => e = .returned (.slice (some ⟨blk, 0, none⟩) (compactUpTo d d.size).length cap) ∧
      ∃ q, w' = putRow (Value.int .u8) (Sort.ahead w q) blk 0 (compactUpTo d d.size ++ List.replicate (d.size - (compactUpTo d d.size).length) 0).toArray :=
  AnyE.slices_Compact Tryz.compactB (Value.int .u8) (fun _ => rfl) (EqlAt.intD _ _ .u8) (NeqAt.intD _ _ .u8) 0 (fun _ => by kernel_rfl) blk 0 cap d w hH (by omega) hc
theorem compact_len (d : Array Int) : (compactUpTo d d.size).length ≤ d.size := by
  unfold compactUpTo
  rw [List.length_map]
  refine Nat.le_trans (List.length_filter_le _ _) ?_
  simp
/-- '[]byte(s)', its row known whole enough: the bytes, none of them frozen. -/
theorem conv_holds {P : Program} {src dst e : TypeId} {u : TypeDesc} (hs : P.underlying src = some u) (hd : P.underlying dst = some (.slice e)) (he : P.underlying e = some (.int .u8)) (W : World) (s : ByteArray) :
    ∃ (c : Nat) (W1 : World), (convert src dst (.string s)).run P W = .ok (.slice (some ⟨W.heap.size, 0, none⟩) s.size c) W1 ∧ s.size ≤ c ∧ Below W.heap.size W W1 ∧ W1.heap.size = W.heap.size + 1 ∧ Holds (Value.int .u8) W1 W.heap.size 0 (bytesOf s).toArray := by
  refine ⟨_, _, Lib.run_convert_string_bytes W src dst e s hs hd he, grownCap_ge _ _ _ _, bytes_below (Below.refl _ _) (Nat.le_refl _) e s, Lib.bytesWorld_size _ _ _, ?_⟩
  intro j hj
  have hj' : j < s.size := by simpa [bytesOf_length] using hj
  have hjl : j < s.data.toList.length := by rw [← ByteArray_size]; exact hj'
  have hb : (bytesOf s).toArray[j]! = ((s.data.toList.getD j 0).toNat : Int) := by
    rw [getElem!_pos _ j hj]
    simp only [bytesOf, List.getElem_toArray, List.getElem_map]
    rw [getD_lt 0 hjl]
  rw [Nat.zero_add, hb]
  refine ⟨Lib.bytesWorld_cell W e s j hj', ?_⟩
  unfold World.frozen?
  rw [Lib.bytesWorld_at_new]
  have : j < (Lib.bytesCells W e s).size := by
    unfold Lib.bytesCells
    simp
    have : s.data.size = s.size := rfl
    omega
  simp
  omega
set_option maxHeartbeats 1000000 in
/-- Behind slices.Compact: what stands in the row, and 'string(..)' of it. -/
theorem compact_once (blk cap : Nat) (s : ByteArray) (w : World) (hH : Holds (Value.int .u8) w blk 0 (bytesOf s).toArray) (hs : s.size ≤ 140737488351232) (hc : s.size ≤ cap) :
    Calls Tryz.prog 16 #[.slice (some ⟨blk, 0, none⟩) s.size cap] w fun e w' => ∃ n : Nat, e = .returned (.slice (some ⟨blk, 0, none⟩) n cap) ∧ Below blk w w' ∧ w'.heap.size = w.heap.size ∧
      ∀ W, Below w'.heap.size w' W → (convert 41 9 (.slice (some ⟨blk, 0, none⟩) n cap)).run Tryz.prog W = .ok (.string (onceB s)) W := by
  have hl : (bytesOf s).toArray.size = s.size := by simp [bytesOf_length]
  have h := compactB_any blk cap (bytesOf s).toArray w hH (by omega) (by omega)
  rw [hl] at h
  refine h.mono ?_
  rintro e w' ⟨rfl, q, rfl⟩
  have hlen := compact_len (bytesOf s).toArray
  rw [hl] at hlen
  refine ⟨_, rfl, ?_, by simp, ?_⟩
  · exact ⟨rfl, rfl, rfl, by simp, fun k hk => by
      unfold putRow mapBlock
      simp only [Array.getElem?_modify]
      rw [if_neg (by omega)]
      rfl⟩
  · intro W hW
    have hd : (compactUpTo (bytesOf s).toArray s.size ++ List.replicate (s.size - (compactUpTo (bytesOf s).toArray s.size).length) 0).toArray.size = (bytesOf s).toArray.size := by
      simp [bytesOf_length]
      omega
    have hx : runsB s = compactUpTo (bytesOf s).toArray s.size := by unfold runsB; rw [hl]
    rw [← hx] at hd hlen hW ⊢
    have hblk : (runsB s).length ≠ 0 → blk < w.heap.size := fun h0 => by
      have := (hH 0 (by rw [hl]; omega)).1
      exact World.block_lt_of_cell? w _ this
    have hC : (Kd.int .u8).C W (some ⟨blk, 0, none⟩) (runsB s).length (runsB s) := by
      refine Kd.C_of_reads (d := (0 : Int)) (h1 := fun _ => rfl) ⟨rfl, by omega, fun h0 => ⟨_, rfl, fun j hj => ?_⟩⟩
      have hb := hblk (by omega)
      have h1 : (⟨blk, 0, none⟩ : Addr).add j = ⟨blk, 0 + j, none⟩   := by simp [Addr.add]; exact fun h => h.symm
      rw [h1, hW.cell (by simp; exact hb), cell?_putRow (Value.int .u8) (Sort.ahead w q) blk 0 (bytesOf s).toArray _ (fun i hi => hH i hi) hd j (by rw [hd, hl]; omega)]
      congr 2
      rw [getElem!_pos _ j (by rw [hd, hl]; omega)]
      simp only [List.getElem_toArray]
      rw [List.getElem_append_left hj, getD_lt 0 hj]
    exact Kd.C_string Tryz.underlying41 Tryz.underlying5 Tryz.underlying9 hC

end Go.Proofs.YtajeaefpapnkbaaGreatDoor.P
-- WRITTEN FOR THIS CLAIM BY A PROGRAM OF THIS SESSION (wip/tools), which turns the lines of the kit's print
namespace Go.Proofs.YtajeaefpapnkbaaGreatDoor.P
open Go.RowKit Go.Proofs.YtajeaefpapnkbaaGreatDoorW.PrintWords Go.Proofs.YtajeaefpapnkbaaGreatDoorW.PrintLast Go.Proofs.YtajeaefpapnkbaaGreatDoorW.PrintMore
attribute [local go_sem] max2_int min2_int max_two min_two max_three min_three max_four min_four   -- for this text's walks alone
set_option linter.unusedVariables false
set_option linter.unusedSimpArgs false

/-! ### prov_Why_1: function 18 -/
-- IMPORTS Derived.Test.YtajeaefpapnkbaaGreatDoorShelf
theorem cmp1_any (a b : ByteArray) (w : World) (ha : a.size ≤ 140737488351232) (hb : b.size ≤ 140737488351232) :
    Calls Tryz.prog 18 #[.string a, .string b] w fun e w' => e = .returned (.int .i64 (cmpS a b)) ∧ ∃ q, w' = w.drewN q := by
  have hcon := Tryz.strings_Compare a b w
  generalize hr : Lib.compareBytes a.data.toList b.data.toList = r at hcon
  have HC := Lib.hid hcon; clear hcon
  by_cases h : a.size = b.size
  · have HF : Hid (cmpS a b = r) := by show cmpS a b = r; unfold cmpS; rw [if_pos h, hr]
    have g0 : ((a.size : Int) != (b.size : Int)) = false := by rw [h]; simp
    have g1 : (a.size != b.size) = false := by rw [h]; simp
    clear hr h
    go_enter Tryz.func18, Tryz.ntmps18
    go_wp2_with (go_at_call 19; (refine HC.out.mono ?_); rintro e w' ⟨rfl, rfl⟩)
    go_ret
    exact ⟨ret_int HF.out.symm, 0, rfl⟩
  · have HF : Hid (cmpS a b = (a.size : Int) - b.size) := by show cmpS a b = _; unfold cmpS; rw [if_neg h]
    have g0 : ((a.size : Int) != (b.size : Int)) = true := by rw [bne_iff_ne]; omega
    have g1 : (a.size != b.size) = true := by rw [bne_iff_ne]; omega
    clear hr h
    go_enter Tryz.func18, Tryz.ntmps18
    go_wp2
    go_ret
    exact ⟨ret_int HF.out.symm, 0, rfl⟩

end Go.Proofs.YtajeaefpapnkbaaGreatDoor.P
-- WRITTEN FOR THIS CLAIM BY A PROGRAM OF THIS SESSION (wip/tools), which turns the lines of the kit's print
namespace Go.Proofs.YtajeaefpapnkbaaGreatDoor.P
open Go.RowKit Go.Proofs.YtajeaefpapnkbaaGreatDoorW.PrintWords Go.Proofs.YtajeaefpapnkbaaGreatDoorW.PrintLast Go.Proofs.YtajeaefpapnkbaaGreatDoorW.PrintMore
attribute [local go_sem] max2_int min2_int max_two min_two max_three min_three max_four min_four   -- for this text's walks alone
set_option linter.unusedVariables false
set_option linter.unusedSimpArgs false

/-! ### slices_SortFunc_string_string: function 17 -/
-- IMPORTS Derived.Test.YtajeaefpapnkbaaGreatDoorShelf Derived.Shelf.SlSortCmp.NoneTotal
open Go.Shelf Go.Sort Go.Lib
/-- A text that a slice may hold. -/
abbrev SmS : Type := { s : ByteArray // s.size ≤ 140737488351232 }
instance : Inhabited SmS := ⟨⟨ByteArray.empty, by decide⟩⟩
def encS (x : SmS) : Value := .string x.1
def cfS (x y : SmS) : Int := cmpS x.1 y.1
theorem swoSm : Go.Sort.SWO (ltOf cfS) where
  irrefl x := swoS.irrefl x.1
  trans x y z := swoS.trans x.1 y.1 z.1
  ntrans x y z := swoS.ntrans x.1 y.1 z.1
theorem sort_map (d : List SmS) : (d.mergeSort fun x y => !(ltOf cfS) y x).map (·.1) = srtS (d.map (·.1)) := by
  unfold srtS
  rw [List.map_mergeSort]
  intro a _ b _
  unfold ltOf cfS leS
  have := cmpS_flip a.1 b.1
  rw [Bool.eq_iff_iff]
  simp
  omega
theorem toSm (l : List ByteArray) (h : ∀ x ∈ l, x.size ≤ 140737488351232) : ∃ d : List SmS, d.map (·.1) = l := by
  induction l with
  | nil => exact ⟨[], rfl⟩
  | cons a l ih =>
    obtain ⟨d, hd⟩ := ih fun x hx => h x (List.mem_cons_of_mem _ hx)
    exact ⟨⟨a, h a List.mem_cons_self⟩ :: d, by rw [List.map_cons, hd]⟩
set_option maxHeartbeats 1000000 in
theorem sortS_any (g : Nat) (n cap : Nat) (l : List ByteArray) (w : World) (base : Nat) (hl : l.length = n) (hown : w.ownsRow base 9 1 (.slice (some ⟨g, 0, none⟩) n cap) n (pw_strs l)) (h0 : 0 < n) (hs : ∀ x ∈ l, x.size ≤ 140737488351232) (hn : n ≤ 140737488351232) :
    Calls Tryz.prog 17 #[.slice (some ⟨g, 0, none⟩) n cap, .func (.func 18) #[] #[]] w fun e w' =>
      e = .returned (.tuple #[]) ∧ Below g w w' ∧ Kd.C Kd.string w' (some ⟨g, 0, none⟩) n (srtS l) := by
  obtain ⟨d, hd⟩ := toSm l hs
  have hdl : d.length = n := by rw [← hl, ← hd, List.length_map]
  have hx : ∀ j (hj : j < n), (pw_strs l)[j]? = some (encS (d.getD j default)) := fun j hj => by
    unfold pw_strs
    rw [← hd, List.map_map, List.getElem?_map, List.getElem?_eq_getElem (by omega), getD_lt _ (by omega)]
    rfl
  have hb : g < w.heap.size := by
    have := hown.cellAt 0 (by omega)
    rw [hx 0 h0] at this
    exact World.block_lt_of_cell? w _ this
  have hH : Holds encS w g 0 d.toArray := fun j hj => by
    have hj' : j < n := by simpa [hdl] using hj
    rw [Nat.zero_add]
    refine ⟨?_, hown.frozenAt j⟩
    rw [hown.cellAt j (by omega), hx j hj', getElem!_pos _ j hj]
    rw [getD_lt _ (by omega)]
    rfl
  have eg : ∀ args W, (callFunc 18 args).run Tryz.prog W = .ok (.enter 18 args) W := enters_of Tryz.func18 (by kernel_rfl) rfl
  have hcmp : CmpReads Tryz.prog 18 #[] encS cfS g 0 d.toArray.size w := fun m os dk _ x y => cmp1_any x.1 y.1 _ x.2 y.2
  have hcon := Any.slices_SortFunc_total Tryz.sortFuncS encS (fun _ => rfl) cfS swoSm 18 #[] g 0 cap d.toArray w eg hcmp.lays hH hb (by simp; omega) (fun x y h1 h2 => by
    apply Subtype.ext
    unfold ltOf cfS at h1 h2
    simp only [decide_eq_false_iff_not] at h1 h2
    have := cmpS_flip x.1 y.1
    exact cmpS_zero (by omega))
  rw [show d.toArray.size = n from by simp [hdl]] at hcon
  refine Calls.mono hcon ?_
  rintro e w' ⟨rfl, m, os, rfl⟩
  have hsz : ((d.toArray.toList.mergeSort fun x y => !(ltOf cfS) y x).toArray).size = d.toArray.size := by simp
  refine ⟨rfl, ?_, ?_⟩
  · refine ⟨rfl, rfl, rfl, ?_, fun k hk => ?_⟩
    · unfold sortWorld grow
      simp
    · unfold sortWorld
      rw [heap_grow_old _ os (by simp [Sort.ahead]; omega)]
      unfold putRow mapBlock
      simp only [Array.getElem?_modify]
      rw [if_neg (by omega)]
      rfl
  · have hlen : (srtS l).length = n := by rw [(srtS_perm l).length_eq, hl]
    have hK : Kd.C Kd.string (sortWorld encS w g 0 m (d.toArray.toList.mergeSort fun x y => !(ltOf cfS) y x).toArray os) (some ⟨g, 0, none⟩) (srtS l).length (srtS l) := by
      refine Kd.C_of_reads (d := ByteArray.empty) (h1 := fun _ => rfl) ⟨rfl, by omega, fun h0 => ⟨_, rfl, fun j hj => ?_⟩⟩
      have h1 : (⟨g, 0, none⟩ : Addr).add j = ⟨g, 0 + j, none⟩ := by simp [Addr.add]; exact fun h => h.symm
      have hjs : j < ((d.toArray.toList.mergeSort fun x y => !(ltOf cfS) y x).toArray).size := by rw [hsz]; simp [hdl]; omega
      unfold sortWorld
      rw [h1, cell?_grow _ _ _ (by simp [Sort.ahead]; exact hb), cell?_putRow encS (Sort.ahead w m) g 0 d.toArray _ (fun i hi => hH i hi) hsz j hjs]
      congr 1
      rw [getElem!_pos _ j hjs]
      unfold encS
      congr 1
      have e1 := sort_map d
      rw [hd] at e1
      rw [← e1, getD_lt _ (by simpa using hjs)]
      simp
    rw [hlen] at hK
    exact hK
/-- .. of whatever row of the call's own, empty ones too. -/
theorem sortSets_any (v : Value) (n : Nat) (l : List ByteArray) (w : World) (base : Nat) (hl : l.length = n) (hown : w.ownsRow base 9 1 v n (pw_strs l)) (hs : ∀ x ∈ l, x.size ≤ 140737488351232) (hn : n ≤ 140737488351232) :
    ∃ A c, v = .slice A n c ∧ n ≤ c ∧ Calls Tryz.prog 17 #[v, .func (.func 18) #[] #[]] w fun e w' =>
      e = .returned (.tuple #[]) ∧ Below base w w' ∧ Kd.C Kd.string w' A n (srtS l) := by
  have hR : Kd.R Kd.string 9 w base (fun _ => True) v l := Kd.R_of_own (enc := Value.string) (h1 := fun _ => rfl) (by rw [hl]; exact hown) (fun _ _ => trivial)
  obtain ⟨A, c, hv, hc, _⟩ := Kd.R_reads hR
  rw [hl] at hv hc
  refine ⟨A, c, hv, hc, ?_⟩
  rcases Nat.eq_zero_or_pos n with h0 | h0
  · subst h0
    obtain rfl : l = [] := List.eq_nil_of_length_eq_zero hl
    rw [hv]
    refine Calls.mono (AnyF.slices_SortFunc_none Tryz.sortFunc0 A c (.func (.func 18) #[] #[]) w) ?_
    rintro e w' ⟨rfl, rfl⟩
    refine ⟨rfl, Below.refl _ _, ?_⟩
    rw [show srtS [] = [] from by unfold srtS; simp]
    exact Kd.C_of_reads (d := ByteArray.empty) (h1 := fun _ => rfl) ⟨rfl, by omega, fun h => by omega⟩
  · obtain ⟨g, cap, hv2, hg, _⟩ := hown.form h0
    rw [hv2] at hv
    injection hv with e1 e2 e3
    subst e1 e3
    rw [hv2]
    rw [hv2] at hown
    refine Calls.mono (sortS_any g n cap l w base hl hown h0 hs hn) ?_
    rintro e w' ⟨rfl, hb, hC⟩
    exact ⟨rfl, hb.mono (own_base hown g rfl), hC⟩

end Go.Proofs.YtajeaefpapnkbaaGreatDoor.P
-- WRITTEN FOR THIS CLAIM BY A PROGRAM OF THIS SESSION (wip/tools), which turns the lines of the kit's print
namespace Go.Proofs.YtajeaefpapnkbaaGreatDoor.P
open Go.RowKit Go.Proofs.YtajeaefpapnkbaaGreatDoorW.PrintWords Go.Proofs.YtajeaefpapnkbaaGreatDoorW.PrintLast Go.Proofs.YtajeaefpapnkbaaGreatDoorW.PrintMore
attribute [local go_sem] max2_int min2_int max_two min_two max_three min_three max_four min_four   -- for this text's walks alone
set_option linter.unusedVariables false
set_option linter.unusedSimpArgs false

/-! ### slices_ContainsFunc_string_string: function 20 -/
-- IMPORTS Derived.Shelf.GgClosure.Gives Derived.Lib.QuietBelow
set_option maxHeartbeats 1000000 in
theorem indexFunc_str_any (g : Nat) (lb : Array Value) (p : ByteArray → Bool) (A : Option Addr) (c : Nat) (xs : List ByteArray) (w : World) (hr : Kd.C Kd.string w A xs.length xs) (hn : xs.length ≤ 140737488351232)
    (eg : ∀ args W, (callFunc g args).run Tryz.prog W = .ok (.enter g args) W) (hp : PredB Tryz.prog g lb Value.string p xs w) :
    Calls Tryz.prog 37 #[.slice A xs.length c, .func (.func g) #[] lb] w fun e w' => e = .returned (.int .i64 (idxB p xs)) ∧ Below w.heap.size w w' := by
  have HP := Lib.hid hp; clear hp
  go_enter Tryz.func37, Tryz.ntmps37
  go_wp2
  go_loopw [8] (fun v wr => ∃ k : Nat, v = .int .i64 k ∧ k ≤ xs.length ∧ (∀ j, j < k → p (xs.getD j ByteArray.empty) = false) ∧ Below w.heap.size w wr) (fun v _ => xs.length - (intOf v).toNat)
  case atStart => exact ⟨0, rfl, by omega, fun j hj => by omega, Below.refl _ _⟩
  case round =>
    obtain ⟨k, rfl, hk, hv, hb⟩ := hrel
    have HV := Lib.hid hv; clear hv
    by_cases hlt : k < xs.length
    · obtain ⟨ad, e1, c0⟩ := KC_at_str hr k hlt
      subst e1
      have HM : Hid (xs.getD k ByteArray.empty ∈ xs) := Lib.hid (getD_mem _ hlt)
      have c0' := cell_later hb c0
      have HC := Lib.hid (HP.out wr _ HM.out hb)
      have HI : Hid (p (xs.getD k ByteArray.empty) = true → idxB p xs = k) := fun h => idxB_at p _ xs hlt h HV.out
      have HN : Hid (p (xs.getD k ByteArray.empty) = false → ∀ j, j < k + 1 → p (xs.getD j ByteArray.empty) = false) := fun h j hj => by
        rcases Nat.lt_or_ge j k with h1 | h1
        · exact HV.out j h1
        · obtain rfl : j = k := by omega
          exact h
      clear c0 HV HP hr
      generalize xs.getD k ByteArray.empty = x at c0' HC HI HN HM
      cases hpx : p x with
      | true =>
        rw [hpx] at HC
        have HX := Lib.hid hpx; clear hpx
        go_wp2_with (go_at_fn g; (refine HC.out.mono ?_); rintro e w1 ⟨rfl, hb1⟩)
        go_ret
        exact ⟨ret_int (HI.out HX.out).symm, hb.trans (hb1.mono hb.size)⟩
      | false =>
        rw [hpx] at HC
        have HX := Lib.hid hpx; clear hpx
        go_wp2_with (go_at_fn g; (refine HC.out.mono ?_); rintro e w1 ⟨rfl, hb1⟩)
        go_roundw
        case rel => exact ⟨k + 1, by go_num, by omega, HN.out HX.out, hb.trans (hb1.mono hb.size)⟩
        case measure => simp [intOf]; omega
    · obtain rfl : k = xs.length := by omega
      go_wp2
      go_ret
      exact ⟨ret_int (idxB_none p ByteArray.empty xs HV.out).symm, hb⟩
theorem containsFunc_str_any (g : Nat) (lb : Array Value) (p : ByteArray → Bool) (A : Option Addr) (c : Nat) (xs : List ByteArray) (w : World) (hr : Kd.C Kd.string w A xs.length xs) (hn : xs.length ≤ 140737488351232)
    (eg : ∀ args W, (callFunc g args).run Tryz.prog W = .ok (.enter g args) W) (hp : PredB Tryz.prog g lb Value.string p xs w) :
    Calls Tryz.prog 20 #[.slice A xs.length c, .func (.func g) #[] lb] w fun e w' => e = .returned (.bool (xs.any p)) ∧ Below w.heap.size w w' := by
  have hcon := indexFunc_str_any g lb p A c xs w hr hn eg hp
  have hi := idxB_any p xs
  clear hp hr
  generalize idxB p xs = r at hcon hi
  have HI := Lib.hid hi; clear hi
  have HC := Lib.hid hcon; clear hcon
  go_enter Tryz.func20, Tryz.ntmps20
  go_wp2_with (go_at_call 37; (refine HC.out.mono ?_); rintro e w1 ⟨rfl, hb1⟩)
  go_ret
  exact ⟨ret_bool HI.out, hb1⟩

end Go.Proofs.YtajeaefpapnkbaaGreatDoor.P
-- WRITTEN FOR THIS CLAIM BY A PROGRAM OF THIS SESSION (wip/tools), which turns the lines of the kit's print
namespace Go.Proofs.YtajeaefpapnkbaaGreatDoor.P
open Go.RowKit Go.Proofs.YtajeaefpapnkbaaGreatDoorW.PrintWords Go.Proofs.YtajeaefpapnkbaaGreatDoorW.PrintLast Go.Proofs.YtajeaefpapnkbaaGreatDoorW.PrintMore
attribute [local go_sem] max2_int min2_int max_two min_two max_three min_three max_four min_four   -- for this text's walks alone
set_option linter.unusedVariables false
set_option linter.unusedSimpArgs false

/-! ### prov_cutRight: function 38 -/
-- IMPORTS Derived.Lib.OthersKept
theorem decodeLast_any (t : ByteArray) (b : UInt8) (h0 : 0 < t.size) (hz : t.size ≤ 140737488351232) (hb : t[t.size - 1] = b) (ha : b.toNat < 128) (w : World) :
    Calls Tryz.prog 62 #[.string t] w fun e w' => e = .returned (.tuple #[.int .i32 b.toNat, .int .i64 1]) ∧ w = w' := by
  have g0 : ((t.size : Int) == 0) = false := beq_eq_false_iff_ne.2 (by omega)
  have i0 : (0 : Int) ≤ (t.size : Int) - 1 := by omega
  have i1 : (t.size : Int) - 1 < (t.size : Int) := by omega
  have i2 : ((t.size : Int) - 1).toNat = t.size - 1 := by omega
  have i3 : 1 ≤ t.size := by omega
  have i4 : IntKind.i64.wrap ((t.size : Int) - 1) = (t.size : Int) - 1 := IntWalk.i64_in _ (by omega)
  have i5 : t.size - 1 < t.size := by omega
  have g1 : decide ((b.toNat : Int) < 128) = true := decide_eq_true (by omega)
  have g2 : b.toNat < 128 := ha
  go_enter Tryz.func62, Tryz.ntmps62
  go_wp2
  go_ret2
  exact ⟨rfl, rfl⟩
theorem cutRx_succ (s set : ByteArray) {m : Nat} (h : m < s.size) : cutRx s set (m + 1) = if inB set s[m] then cutRx s set m else m + 1 := by
  rw [cutRx, dif_pos h]
set_option maxHeartbeats 2000000 in
theorem cutRight_any (s set : ByteArray) (w : World) (hs : asciiB s = true) (ht : asciiB set = true) (hz : s.size ≤ 140737488351232) :
    Calls Tryz.prog 38 #[.string s, .string set] w fun e w' => e = .returned (.string (cutR s set)) ∧ Below w.heap.size w w' := by
  have HS := Lib.hid hs; clear hs
  have HT := Lib.hid ht; clear ht
  go_enter Tryz.func38, Tryz.ntmps38
  go_wp2
  go_loopw [0] (fun v wr => ∃ t : ByteArray, v = .string t ∧ t.size ≤ s.size ∧ t = to_ s t.size ∧ Hid (cutRx s set s.size = cutRx s set t.size) ∧ Below w.heap.size w wr) (fun v _ => match v with | .string t => t.size | _ => 0)
  case atStart => exact ⟨s, rfl, by omega, (to_all s).symm, rfl, Below.refl _ w⟩
  case round =>
    obtain ⟨t, rfl, hk, htt, HX, hb⟩ := hrel
    have HTT := Lib.hid htt; clear htt
    by_cases h0 : 0 < t.size
    · have hm : t.size - 1 < s.size := by omega
      have hlast : t[t.size - 1] = s[t.size - 1] := by
        have := to_at s hk (j := t.size - 1) (by omega)
        rw [← this]
        congr 1
      generalize hbb : s[t.size - 1] = b at hlast
      have HB := Lib.hid hbb; clear hbb
      have hasc : b.toNat < 128 := by rw [← HB.out]; exact asciiB_at HS.out hm
      have HD := Lib.hid (decodeLast_any t b h0 (by omega) hlast hasc)
      clear hlast
      have HR : Hid (cutRx s set t.size = if inB set b then cutRx s set (t.size - 1) else t.size) := by
        show _ = _
        have := cutRx_succ s set hm
        rw [HB.out] at this
        rw [show t.size - 1 + 1 = t.size from by omega] at this
        exact this
      have g0 : decide (0 < t.size) = true := decide_eq_true h0
      go_wp2_with (go_at_call 62; (refine (HD.out _).mono ?_); rintro e w' ⟨rfl, rfl⟩)
      obtain ⟨wo, hwo⟩ : ∃ wo : World, wo = wr := ⟨_, rfl⟩
      rw [← hwo] at hb ⊢
      clear hwo
      go_loopw [7] (fun v wi => ∃ q : Nat, q ≤ set.size ∧ v = .bool (inTo set q b) ∧ wi.heap[wo.heap.size]? = some (.stringIter set q) ∧ Below wo.heap.size wo wi) (fun _ wi => set.size - wi.iterPos wo.heap.size)
      case atStart =>
        refine ⟨0, by omega, rfl, ?_, (Below.refl _ wo).alloc (Nat.le_refl _) _⟩
        simpa using World.iter_heap wo set 0
      case round =>
        obtain ⟨q, hq, rfl, hit3, hb3⟩ := hrel
        have hsz3 : wo.heap.size < wr.heap.size := (Array.getElem?_eq_some_iff.1 hit3).1
        by_cases hq2 : q < set.size
        · have hnx : ∀ ty, (Instr.next (.pointer (some ⟨wo.heap.size, 0, none⟩)) true ty).run Tryz.prog wr = _ := fun ty => Lib.run_next_ascii_at wr wo.heap.size set q ty hit3 hq2 (asciiB_at HT.out hq2)
          have hit4 := Lib.iterAt_heap wr wo.heap.size set q (q + 1) hit3
          have hb4 := Lib.below_iterAt hb3 (k := wo.heap.size) (by omega) set (q + 1)
          have hsc := inTo_succ set b hq2
          cases hin : inTo set q b with
          | true =>
            rw [hin] at hsc
            have HSC := Lib.hid hsc; clear hsc
            have HIN := Lib.hid hin; clear hin
            go_wp2
            go_roundw
            case rel => exact ⟨q + 1, by omega, by rw [HSC.out]; rfl, hit4, hb4⟩
            case measure => rw [iterPos_at hit4, iterPos_at hit3]; omega
          | false =>
            rw [hin] at hsc
            have HSC := Lib.hid hsc; clear hsc
            have HIN := Lib.hid hin; clear hin
            go_wp2
            go_roundw
            case rel => exact ⟨q + 1, by omega, by rw [HSC.out, eq_i32]; rfl, hit4, hb4⟩
            case measure => rw [iterPos_at hit4, iterPos_at hit3]; omega
        · obtain rfl : q = set.size := by omega
          have hnx : ∀ ty, (Instr.next (.pointer (some ⟨wo.heap.size, 0, none⟩)) true ty).run Tryz.prog wr = _ := fun ty => Lib.run_next_end_at wr wo.heap.size set set.size ty hit3 hq2
          have hb5 := hb.trans (hb3.mono hb.size)
          rw [inTo_all]
          cases hin : inB set b with
          | true =>
            have HR2 : Hid (cutRx s set s.size = cutRx s set (t.size - 1)) := by
              show _ = _
              rw [HX.out, HR.out, hin]; rfl
            clear hin
            have i0 : (0 : Int) ≤ (t.size : Int) - 1 := by omega
            have i1 : (t.size : Int) - 1 ≤ (t.size : Int) := by omega
            have i2 : ((t.size : Int) - 1).toNat = t.size - 1 := by omega
            have i3 : 1 ≤ t.size := by omega
            go_wp2
            go_roundw
            case rel =>
              have e1 : (t.extract 0 (t.size - 1)) = to_ s (t.size - 1) := by
                conv => lhs; rw [HTT.out]
                rw [to_size s hk]
                exact to_to s (by omega)
              have e2 : (t.extract 0 (t.size - 1)).size = t.size - 1 := by rw [e1, to_size s (by omega)]
              exact ⟨t.extract 0 (t.size - 1), rfl, by omega, by rw [e2]; exact e1, by rw [e2]; exact HR2, hb5⟩
            case measure =>
              have e2 : (t.extract 0 (t.size - 1)).size = t.size - 1 := by simp
              simp; omega
          | false =>
            have HIN : Hid (cutR s set = t) := by
              show cutR s set = t
              unfold cutR
              rw [HX.out, HR.out, hin]
              exact HTT.out.symm
            clear hin
            go_wp2
            go_ret
            exact ⟨ret_str HIN.out.symm, hb5⟩
    · have HIN : Hid (cutR s set = t) := by
        show cutR s set = t
        have h00 : t.size = 0 := by omega
        unfold cutR
        rw [HX.out, h00]
        conv => rhs; rw [HTT.out, h00]
        rfl
      have g0 : decide (0 < t.size) = false := decide_eq_false h0
      go_wp2
      go_ret
      exact ⟨ret_str HIN.out.symm, hb⟩
def prov_cutRight.f (a0 a1 : ByteArray) : Option ByteArray := if asciiB a0 && (asciiB a1 && decide (a0.size ≤ 140737488351232)) then some (cutR a0 a1) else none
theorem prov_cutRight.calls (a0 : ByteArray) (a1 : ByteArray) (r : ByteArray) (w : World) (h : prov_cutRight.f a0 a1 = some r) :
    Calls Tryz.prog 38 #[.string a0, .string a1] w fun e w' => e = .returned (.string r) ∧ Below w.heap.size w w' := by
  unfold prov_cutRight.f at h
  split at h
  · rename_i hc
    simp only [Bool.and_eq_true, decide_eq_true_eq] at hc
    obtain rfl := Option.some.inj h
    exact cutRight_any a0 a1 w hc.1 hc.2.1 hc.2.2
  · cases h

end Go.Proofs.YtajeaefpapnkbaaGreatDoor.P
-- WRITTEN FOR THIS CLAIM BY A PROGRAM OF THIS SESSION (wip/tools), which turns the lines of the kit's print
namespace Go.Proofs.YtajeaefpapnkbaaGreatDoor.P
open Go.RowKit Go.Proofs.YtajeaefpapnkbaaGreatDoorW.PrintWords Go.Proofs.YtajeaefpapnkbaaGreatDoorW.PrintLast Go.Proofs.YtajeaefpapnkbaaGreatDoorW.PrintMore
attribute [local go_sem] max2_int min2_int max_two min_two max_three min_three max_four min_four   -- for this text's walks alone
set_option linter.unusedVariables false
set_option linter.unusedSimpArgs false

/-! ### prov_cutLeft: function 39 -/
-- IMPORTS Derived.Lib.OthersKept
set_option maxHeartbeats 2000000 in
theorem cutLeft_any (s set : ByteArray) (w : World) (hs : asciiB s = true) (ht : asciiB set = true) (hz : s.size ≤ 140737488351232) :
    Calls Tryz.prog 39 #[.string s, .string set] w fun e w' => e = .returned (.string (cutL s set)) ∧ Below w.heap.size w w' := by
  have HS := Lib.hid hs; clear hs
  have HT := Lib.hid ht; clear ht
  go_enter Tryz.func39, Tryz.ntmps39
  go_wp2
  go_loopw [] (fun wr => ∃ pos : Nat, pos ≤ s.size ∧ wr.heap[w.heap.size]? = some (.stringIter s pos) ∧ (∀ j (hj : j < s.size), j < pos → inB set s[j] = true) ∧ Below w.heap.size w wr) (fun wr => s.size - wr.iterPos w.heap.size)
  case atStart =>
    refine ⟨0, by omega, ?_, fun j _ h => by omega, (Below.refl _ w).alloc (Nat.le_refl _) _⟩
    simpa using World.iter_heap w s 0
  case round =>
    obtain ⟨pos, hpos, hit, hl, hb⟩ := hrel
    have HL := Lib.hid hl; clear hl
    have hsz : w.heap.size < wr.heap.size := (Array.getElem?_eq_some_iff.1 hit).1
    by_cases hp : pos < s.size
    · have hnx : ∀ ty, (Instr.next (.pointer (some ⟨w.heap.size, 0, none⟩)) true ty).run Tryz.prog wr = _ := fun ty => Lib.run_next_ascii_at wr w.heap.size s pos ty hit hp (asciiB_at HS.out hp)
      have hit2 := Lib.iterAt_heap wr w.heap.size s pos (pos + 1) hit
      have hb2 := Lib.below_iterAt hb (k := w.heap.size) (by omega) s (pos + 1)
      have hsz2 : w.heap.size < (wr.iterAt w.heap.size s (pos + 1)).heap.size := by rw [Lib.iterAt_size]; omega
      go_wp2
      obtain ⟨wo, hwo⟩ : ∃ wo : World, wo = wr.iterAt w.heap.size s (pos + 1) := ⟨_, rfl⟩
      rw [← hwo] at hit2 hb2 hsz2 ⊢
      clear hwo hnx
      go_loopw [7] (fun v wi => ∃ q : Nat, q ≤ set.size ∧ v = .bool (inTo set q s[pos]) ∧ wi.heap[wo.heap.size]? = some (.stringIter set q) ∧ Below wo.heap.size wo wi) (fun _ wi => set.size - wi.iterPos wo.heap.size)
      case atStart =>
        refine ⟨0, by omega, rfl, ?_, (Below.refl _ wo).alloc (Nat.le_refl _) _⟩
        simpa using World.iter_heap wo set 0
      case round =>
        obtain ⟨q, hq, rfl, hit3, hb3⟩ := hrel
        have hsz3 : wo.heap.size < wr.heap.size := (Array.getElem?_eq_some_iff.1 hit3).1
        by_cases hq2 : q < set.size
        · have hnx : ∀ ty, (Instr.next (.pointer (some ⟨wo.heap.size, 0, none⟩)) true ty).run Tryz.prog wr = _ := fun ty => Lib.run_next_ascii_at wr wo.heap.size set q ty hit3 hq2 (asciiB_at HT.out hq2)
          have hit4 := Lib.iterAt_heap wr wo.heap.size set q (q + 1) hit3
          have hb4 := Lib.below_iterAt hb3 (k := wo.heap.size) (by omega) set (q + 1)
          have hsc := inTo_succ set s[pos] hq2
          cases hin : inTo set q s[pos] with
          | true =>
            rw [hin] at hsc
            have HSC := Lib.hid hsc; clear hsc
            have HIN := Lib.hid hin; clear hin
            go_wp2
            go_roundw
            case rel => exact ⟨q + 1, by omega, by rw [HSC.out]; rfl, hit4, hb4⟩
            case measure => rw [iterPos_at hit4, iterPos_at hit3]; omega
          | false =>
            rw [hin] at hsc
            have HSC := Lib.hid hsc; clear hsc
            have HIN := Lib.hid hin; clear hin
            go_wp2
            go_roundw
            case rel => exact ⟨q + 1, by omega, by rw [HSC.out, eq_i32]; rfl, hit4, hb4⟩
            case measure => rw [iterPos_at hit4, iterPos_at hit3]; omega
        · obtain rfl : q = set.size := by omega
          have hnx : ∀ ty, (Instr.next (.pointer (some ⟨wo.heap.size, 0, none⟩)) true ty).run Tryz.prog wr = _ := fun ty => Lib.run_next_end_at wr wo.heap.size set set.size ty hit3 hq2
          have hb5 := hb2.trans (hb3.mono (by omega))
          have hit5 : wr.heap[w.heap.size]? = some (.stringIter s (pos + 1)) := (hb3.block _ hsz2).trans hit2
          rw [inTo_all]
          cases hin : inB set s[pos] with
          | true =>
            have HIN := Lib.hid hin; clear hin
            go_wp2
            go_roundw
            case rel =>
              refine ⟨pos + 1, by omega, hit5, fun j hj hlt => ?_, hb5⟩
              rcases Nat.lt_or_ge j pos with h1 | h1
              · exact HL.out j hj h1
              · obtain rfl : j = pos := by omega
                exact HIN.out
            case measure => rw [iterPos_at hit5, iterPos_at hit]; omega
          | false =>
            have HIN : Hid (cutL s set = s.extract pos s.size) := by
              show cutL s set = _
              unfold cutL
              rw [cutIx_at hp hin HL.out]
              rfl
            clear hin
            go_wp2
            go_ret
            exact ⟨ret_str HIN.out.symm, hb5⟩
    · obtain rfl : pos = s.size := by omega
      have hnx : ∀ ty, (Instr.next (.pointer (some ⟨w.heap.size, 0, none⟩)) true ty).run Tryz.prog wr = _ := fun ty => Lib.run_next_end_at wr w.heap.size s s.size ty hit hp
      have HIN := Lib.hid (cutL_none fun j hj => HL.out j hj hj)
      go_wp2
      go_ret
      exact ⟨ret_str HIN.out.symm, hb⟩
def prov_cutLeft.f (a0 a1 : ByteArray) : Option ByteArray := if asciiB a0 && (asciiB a1 && decide (a0.size ≤ 140737488351232)) then some (cutL a0 a1) else none
theorem prov_cutLeft.calls (a0 : ByteArray) (a1 : ByteArray) (r : ByteArray) (w : World) (h : prov_cutLeft.f a0 a1 = some r) :
    Calls Tryz.prog 39 #[.string a0, .string a1] w fun e w' => e = .returned (.string r) ∧ Below w.heap.size w w' := by
  unfold prov_cutLeft.f at h
  split at h
  · rename_i hc
    simp only [Bool.and_eq_true, decide_eq_true_eq] at hc
    obtain rfl := Option.some.inj h
    exact cutLeft_any a0 a1 w hc.1 hc.2.1 hc.2.2
  · cases h

end Go.Proofs.YtajeaefpapnkbaaGreatDoor.P
-- WRITTEN FOR THIS CLAIM BY A PROGRAM OF THIS SESSION (wip/tools), which turns the lines of the kit's print
namespace Go.Proofs.YtajeaefpapnkbaaGreatDoor.P
open Go.RowKit Go.Proofs.YtajeaefpapnkbaaGreatDoorW.PrintWords Go.Proofs.YtajeaefpapnkbaaGreatDoorW.PrintLast Go.Proofs.YtajeaefpapnkbaaGreatDoorW.PrintMore
attribute [local go_sem] max2_int min2_int max_two min_two max_three min_three max_four min_four   -- for this text's walks alone
set_option linter.unusedVariables false
set_option linter.unusedSimpArgs false

/-! ### prov_part: function 22 -/
def prov_part.f (a0 : ByteArray) (a1 : ByteArray) : Option (Bool) := (prov_cutLeft.f a0 a1).bind fun t122 => ((prov_cutRight.f t122 a1).bind fun t123 => (if t123.toList = ([] : List UInt8) then (some true) else (some (a0.toList == ([] : List UInt8)))))
set_option maxHeartbeats 8000000 in
set_option maxRecDepth 100000 in
theorem prov_part.calls (a0 : ByteArray) (a1 : ByteArray) (r : Bool) (w : World) (h : prov_part.f a0 a1 = some r) :
    Calls Tryz.prog 22 #[.string a0, .string a1] w fun e w' => e = .returned (.bool r) ∧ Below w.heap.size w w' := by
  have HB := Aside0.mk (Below.refl w.heap.size w)
  have H : ((prov_cutLeft.f a0 a1).bind fun t122 => ((prov_cutRight.f t122 a1).bind fun t123 => (if t123.toList = ([] : List UInt8) then (some true) else (some (a0.toList == ([] : List UInt8)))))) = some r := h
  clear h
  replace H := Option.bind_eq_some_iff.mp H
  obtain ⟨t122, A30, H⟩ := H
  replace H : ((prov_cutRight.f t122 a1).bind fun t123 => (if t123.toList = ([] : List UInt8) then (some true) else (some (a0.toList == ([] : List UInt8))))) = some r := H
  have A3 := Aside0.mk A30
  clear A30
  replace H := Option.bind_eq_some_iff.mp H
  obtain ⟨t123, A40, H⟩ := H
  replace H : (if t123.toList = ([] : List UInt8) then (some true) else (some (a0.toList == ([] : List UInt8)))) = some r := H
  have A4 := Aside0.mk A40
  clear A40
  by_cases c5 : t123.toList = ([] : List UInt8)
  · rw [if_pos c5] at H
    have c5b0 : (t123.toList == ([] : List UInt8)) = true := beq_iff_eq.mpr c5
    have c5b1 : (t123.toList != ([] : List UInt8)) = false := bne_eq_false_iff_eq.mpr c5
    clear c5
    obtain rfl := Option.some.inj H
    go_enter Tryz.func22, Tryz.ntmps22
    go_wp2_with (first | ((with_reducible refine gate_callee (f := 39) rfl ?_); refine goesL_ (some 7) rfl rfl Tryz.func39 (by kernel_rfl) rfl #[.string a0, .string a1] rfl (by (try simp only [List.map_toArray, List.map_cons, List.map_nil]); first | done | rfl | (simp only [List.length_drop, List.length_take]; rfl)) ?_; (with_reducible refine (prov_cutLeft.calls a0 a1 t122 _ A3.out).mono ?_); rintro e w6 ⟨rfl, hb⟩; refine ⟨_, rfl, ?_⟩; have n0_ := Aside0.mk (below_step (by repeat (first | (with_reducible first | exact HB.out | apply below_alloc | apply pw_below_drewN | apply below_drew1) | exact HB.out)) hb); clear HB; have HB := n0_; clear n0_; (try clear hb); (try clear hb2); (try clear hk); (try clear hi)) | ((with_reducible refine gate_callee (f := 38) rfl ?_); refine goesL_ (some 9) rfl rfl Tryz.func38 (by kernel_rfl) rfl #[.string t122, .string a1] rfl (by (try simp only [List.map_toArray, List.map_cons, List.map_nil]); first | done | rfl | (simp only [List.length_drop, List.length_take]; rfl)) ?_; (with_reducible refine (prov_cutRight.calls t122 a1 t123 _ A4.out).mono ?_); rintro e w7 ⟨rfl, hb⟩; refine ⟨_, rfl, ?_⟩; have n0_ := Aside0.mk (below_step (by repeat (first | (with_reducible first | exact HB.out | apply below_alloc | apply pw_below_drewN | apply below_drew1) | exact HB.out)) hb); clear HB; have HB := n0_; clear n0_; (try clear hb); (try clear hb2); (try clear hk); (try clear hi)))
    go_ret
    exact ⟨by first | rfl | (simp [errW_none, errW_some] <;> rfl) | (simp [*, errW_none, errW_some] <;> rfl), by repeat (first | (with_reducible first | exact HB.out | apply below_alloc | apply pw_below_drewN | apply below_drew1) | exact HB.out)⟩
  · rw [if_neg c5] at H
    have c5b0 : (t123.toList == ([] : List UInt8)) = false := beq_eq_false_iff_ne.mpr c5
    have c5b1 : (t123.toList != ([] : List UInt8)) = true := bne_iff_ne.mpr c5
    obtain rfl := Option.some.inj H
    go_enter Tryz.func22, Tryz.ntmps22
    go_wp2_with (first | ((with_reducible refine gate_callee (f := 39) rfl ?_); refine goesL_ (some 7) rfl rfl Tryz.func39 (by kernel_rfl) rfl #[.string a0, .string a1] rfl (by (try simp only [List.map_toArray, List.map_cons, List.map_nil]); first | done | rfl | (simp only [List.length_drop, List.length_take]; rfl)) ?_; (with_reducible refine (prov_cutLeft.calls a0 a1 t122 _ A3.out).mono ?_); rintro e w8 ⟨rfl, hb⟩; refine ⟨_, rfl, ?_⟩; have n0_ := Aside0.mk (below_step (by repeat (first | (with_reducible first | exact HB.out | apply below_alloc | apply pw_below_drewN | apply below_drew1) | exact HB.out)) hb); clear HB; have HB := n0_; clear n0_; (try clear hb); (try clear hb2); (try clear hk); (try clear hi)) | ((with_reducible refine gate_callee (f := 38) rfl ?_); refine goesL_ (some 9) rfl rfl Tryz.func38 (by kernel_rfl) rfl #[.string t122, .string a1] rfl (by (try simp only [List.map_toArray, List.map_cons, List.map_nil]); first | done | rfl | (simp only [List.length_drop, List.length_take]; rfl)) ?_; (with_reducible refine (prov_cutRight.calls t122 a1 t123 _ A4.out).mono ?_); rintro e w9 ⟨rfl, hb⟩; refine ⟨_, rfl, ?_⟩; have n0_ := Aside0.mk (below_step (by repeat (first | (with_reducible first | exact HB.out | apply below_alloc | apply pw_below_drewN | apply below_drew1) | exact HB.out)) hb); clear HB; have HB := n0_; clear n0_; (try clear hb); (try clear hb2); (try clear hk); (try clear hi)))
    go_ret
    exact ⟨by first | rfl | (simp [errW_none, errW_some] <;> rfl) | (simp [*, errW_none, errW_some] <;> rfl), by repeat (first | (with_reducible first | exact HB.out | apply below_alloc | apply pw_below_drewN | apply below_drew1) | exact HB.out)⟩

/-- THE ONE PURE STATEMENT of prov_part: yours. -/
def prov_part.Pure : Prop := ∀ (a0 : ByteArray) (a1 : ByteArray), a0.size ≤ 140737488351232 → a1.size ≤ 140737488351232 → prov_part.f a0 a1 = some true
theorem prov_part.walk (P : prov_part.Pure) (a0 : ByteArray) (a1 : ByteArray) (w : World) (w0 : a0.size ≤ 140737488351232) (w1 : a1.size ≤ 140737488351232) :
    Calls Tryz.prog 22 #[.string a0, .string a1] w fun e w' => e = .returned (.bool true) ∧ Below w.heap.size w w' := by
  have h := P a0 a1 w0 w1
  refine (prov_part.calls a0 a1 true w h).mono ?_
  rintro e w' ⟨rfl, hd⟩
  exact ⟨rfl, hd⟩

end Go.Proofs.YtajeaefpapnkbaaGreatDoor.P
-- WRITTEN FOR THIS CLAIM BY A PROGRAM OF THIS SESSION (wip/tools), which turns the lines of the kit's print
namespace Go.Proofs.YtajeaefpapnkbaaGreatDoor.P
open Go.RowKit Go.Proofs.YtajeaefpapnkbaaGreatDoorW.PrintWords Go.Proofs.YtajeaefpapnkbaaGreatDoorW.PrintLast Go.Proofs.YtajeaefpapnkbaaGreatDoorW.PrintMore
attribute [local go_sem] max2_int min2_int max_two min_two max_three min_three max_four min_four   -- for this text's walks alone
set_option linter.unusedVariables false
set_option linter.unusedSimpArgs false

/-! ### prov_Why_2: function 21 -/
theorem asciiB_sub {s t : ByteArray} (h : asciiB s = true) (hs : ∀ x ∈ t.data.toList, x ∈ s.data.toList) : asciiB t = true := by
  unfold asciiB at *
  rw [List.all_eq_true] at *
  exact fun x hx => h x (hs x hx)
theorem cutL_sub (s set : ByteArray) : (∀ x ∈ (cutL s set).data.toList, x ∈ s.data.toList) ∧ (cutL s set).size ≤ s.size := by
  unfold cutL
  rw [ByteArray_size, ByteArray_size, from_data]
  exact ⟨fun x hx => List.mem_of_mem_drop hx, by simp⟩
theorem part_f (a b : ByteArray) (ha : asciiB a = true) (hb : asciiB b = true) (hz : a.size ≤ 140737488351232) : prov_part.f a b = some (partB a b) := by
  obtain ⟨h1, h2⟩ := cutL_sub a b
  have e1 : prov_cutLeft.f a b = some (cutL a b) := by unfold prov_cutLeft.f; rw [ha, hb, decide_eq_true hz]; rfl
  have e2 : prov_cutRight.f (cutL a b) b = some (cutR (cutL a b) b) := by unfold prov_cutRight.f; rw [asciiB_sub ha h1, hb, decide_eq_true (Nat.le_trans h2 hz)]; rfl
  unfold prov_part.f partB
  rw [e1, Option.bind_some, e2, Option.bind_some]
  cases hc : (cutR (cutL a b) b).toList with
  | nil => simp
  | cons x y =>
    simp only [reduceCtorEq, if_false, List.isEmpty_cons, Bool.false_or, Option.some.injEq]
    cases a.toList <;> rfl
theorem part_any (a b : ByteArray) (w : World) (ha : asciiB a = true) (hb : asciiB b = true) (hz : a.size ≤ 140737488351232) :
    Calls Tryz.prog 22 #[.string a, .string b] w fun e w' => e = .returned (.bool (partB a b)) ∧ Below w.heap.size w w' :=
  prov_part.calls a b _ w (part_f a b ha hb hz)
theorem why2_any (b a : ByteArray) (q : Addr) (W : World) (hq : W.cell? q = some (.string a)) (ha : asciiB a = true) (hb : asciiB b = true) (hz : b.size ≤ 140737488351232) :
    Calls Tryz.prog 21 #[.string b, .pointer (some q)] W fun e w' => e = .returned (.bool (partB b a)) ∧ Below W.heap.size W w' := by
  have HC := Lib.hid (fun w => part_any b a w hb ha hz)
  clear ha hb
  generalize partB b a = r at HC
  go_enter Tryz.func21, Tryz.ntmps21
  go_wp2_with (go_at_call 22; (refine (HC.out _).mono ?_); rintro e w' ⟨rfl, hb1⟩)
  go_ret
  exact ⟨rfl, hb1⟩

end Go.Proofs.YtajeaefpapnkbaaGreatDoor.P
-- WRITTEN FOR THIS CLAIM BY A PROGRAM OF THIS SESSION (wip/tools), which turns the lines of the kit's print
namespace Go.Proofs.YtajeaefpapnkbaaGreatDoor.P
open Go.RowKit Go.Proofs.YtajeaefpapnkbaaGreatDoorW.PrintWords Go.Proofs.YtajeaefpapnkbaaGreatDoorW.PrintLast Go.Proofs.YtajeaefpapnkbaaGreatDoorW.PrintMore
attribute [local go_sem] max2_int min2_int max_two min_two max_three min_three max_four min_four   -- for this text's walks alone
set_option linter.unusedVariables false
set_option linter.unusedSimpArgs false

/-! ### prov_Why: function 6 -/
-- IMPORTS Derived.Laws.AppendOwn Derived.OwnWalk
open Go.Sort Go.Lib
theorem infoStr : (Tryz.prog.info? 9).map (fun i => (i.zero, i.size, i.bytes)) = some (some (.string ⟨#[]⟩), 1, 16) := by kernel_rfl
theorem validSum_any (A : Option Addr) (c : Nat) (l : List S37) (w : World) (hr : Kd.C k37 w A l.length l) (hc : l.length ≤ c) (h : sumIn l = true) :
    Calls Tryz.prog 15 #[.slice A l.length c] w fun e w' => e = .returned (.bool (validB l)) ∧ Below w.heap.size w w' :=
  prov_ValidSum.calls A c l _ w hr hc (by unfold prov_ValidSum.f; rw [if_pos h])
theorem setsOf_take (l : List S37) {k : Nat} (hk : k < l.length) : (setsOf l).take (k + 1) = (setsOf l).take k ++ [onceB (l.getD k z37).f0] := by
  unfold setsOf
  rw [List.take_succ_eq_append_getElem (by rw [List.length_map]; exact hk), List.getElem_map, getD_lt _ hk]
set_option maxHeartbeats 4000000 in
set_option maxRecDepth 100000 in
theorem why_any (A : Option Addr) (c : Nat) (l : List S37) (w : World) (hr : Kd.C k37 w A l.length l) (hc : l.length ≤ c) (hi : sumIn l = true) (hv : validB l = true) :
    Calls Tryz.prog 6 #[.slice A l.length c] w fun e w' => ∃ v0_ : Value, e = .returned (.tuple #[v0_, .int .i64 0]) ∧ Kd.R Kd.string 9 w' w.heap.size (fun _ => True) v0_ (whyOf l) ∧ Below w.heap.size w w' := by
  obtain ⟨i0, hi0, hj0, hj1, hj2⟩ := info_parts infoStr
  have hm := sumIn_len hi
  have hs := Lib.hid (sumIn_mem hi)
  have hval := validSum_any A c l w hr hc hi
  rw [hv] at hval
  have HVal := Lib.hid hval
  clear hval hi
  have h40 : l.length ≤ 40 := by unfold validB at hv; rw [Bool.and_eq_true, decide_eq_true_eq] at hv; exact hv.2
  have HV := Lib.hid hv; clear hv
  go_enter Tryz.func6, Tryz.ntmps6
  go_wp2_with (go_at_call 15; (refine HVal.out.mono ?_); rintro e w1 ⟨rfl, hb1⟩)
  go_loopw [4, 15] (fun v4 v15 wr => ∃ k : Nat, v15 = .int .i64 k ∧ k ≤ l.length ∧ wr.ownsRow w.heap.size 9 1 v4 k (pw_strs ((setsOf l).take k)) ∧ Below w.heap.size w wr) (fun _ v _ => l.length - (intOf v).toNat)
  case atStart => exact ⟨0, rfl, by omega, own_nil _ _ _ _, hb1⟩
  case round =>
    obtain ⟨k, rfl, hk, hown, hb⟩ := hrel
    by_cases hlt : k < l.length
    · obtain ⟨ad, e1, c0, c1⟩ := at_T37 hr (k : Int) (by omega) (by omega)
      subst e1
      have hx : rd_T37 l (k : Int) = l.getD k z37 := rfl
      rw [hx] at c0 c1
      have hsx := hs.out _ (getD_mem z37 hlt)
      have HTK := Lib.hid (setsOf_take l hlt)
      generalize l.getD k z37 = x at c0 c1 hsx HTK
      clear hx
      simp only [Int.toNat_natCast] at c0 c1
      replace c0 := cell_later hb c0
      replace c1 := cell_later hb c1
      obtain ⟨cc, W1, hrun, hcc, hB1, hZ1, hH1⟩ := conv_holds (P := Tryz.prog) Tryz.underlying9 Tryz.underlying41 Tryz.underlying5 (wr.alloc (.cells #[.string x.f0, .int .i64 x.f1] 37)) x.f0
      have hsz : (wr.alloc (.cells #[.string x.f0, .int .i64 x.f1] 37)).heap.size = wr.heap.size + 1 := by simp
      rw [hsz] at hrun hB1 hZ1 hH1
      have HC := Lib.hid (compact_once (wr.heap.size + 1) cc x.f0 W1 hH1 hsx hcc)
      clear hH1
      have HZ1 := Lib.hid hZ1; clear hZ1
      have HB1 := Lib.hid hB1; clear hB1
      clear hsz
      go_wp2_with (go_at_call 16; (refine HC.out.mono ?_); rintro e w2 ⟨n2, rfl, hb2, hz2, hconv0⟩)
      have hconv := hconv0 w2 (Below.refl _ _)
      clear hconv0
      have hchain : Below wr.heap.size wr w2 := ((Below.refl _ wr).alloc (Nat.le_refl _) _).trans ((HB1.out.mono (by omega)).trans (hb2.mono (by omega)))
      have hown2 := own_move hown (fun j hj => hchain.block j (own_lt hown j hj))
      have hb3 : Below w.heap.size w w2 := hb.trans (hchain.mono hb.size)
      have HZ2 := Lib.hid hz2; clear hz2
      clear hb2 hchain
      generalize onceB x.f0 = y at hconv HTK
      go_wp2_with fail
      rw [hconv]
      clear hconv
      go_wp2_with (at_builtin; refine wpList_append_own _ rfl _ _ 25 rfl w.heap.size 9 i0 (.string ⟨#[]⟩) 1 16 Tryz.underlying25 hi0 hj0 hj1 hj2 rfl (by decide) _ _ _ rfl (hown2.alloc _) ⟨w2.heap.size, 0, none⟩ 1 1 [.string y] rfl rfl ?c1 ?c2 ?c3 ?c4 ?c5 ?_)
      case c1 => exact cell_one_new _ _ _
      case c2 => intro u hu; rw [List.mem_singleton.1 hu]; rfl
      case c3 => unfold maxLen; omega
      case c4 => omega
      case c5 => simp; have := hb3.size; omega
      intro v1 w3 hown3 hgrow _
      have hb4 : Below w.heap.size w w3 := (hb3.alloc hb3.size _).grown hgrow (by have := hb3.size; simp; omega) (fun j hj => own_base hown2 j hj)
      have hown4 : w3.ownsRow w.heap.size 9 1 v1 (k + 1) (pw_strs ((setsOf l).take (k + 1))) := by
        rw [HTK.out]
        unfold pw_strs at *
        rw [List.map_append]
        exact hown3
      clear hown3 hgrow
      go_wp2
      go_roundw
      case rel => exact ⟨k + 1, by go_num, by omega, hown4, hb4⟩
      case measure => simp [intOf]; omega
    · obtain rfl : k = l.length := by omega
      have hset : (setsOf l).take l.length = setsOf l := List.take_of_length_le (by unfold setsOf; rw [List.length_map]; exact Nat.le_refl _)
      rw [hset] at hown
      clear hset
      have hsl : (setsOf l).length = l.length := by unfold setsOf; rw [List.length_map]
      have hok := setsOf_ok HV.out
      obtain ⟨A4, c4, rfl, hc4, HSort⟩ := sortSets_any u4 l.length (setsOf l) wr w.heap.size hsl hown (fun x hx => (hok x hx).2) (by omega)
      have HSo := Lib.hid HSort; clear HSort
      have hlen : (srtS (setsOf l)).length = l.length := by rw [(srtS_perm _).length_eq, hsl]
      have HW : Hid (whyOf l = (srtS (setsOf l)).foldl keepMin []) := rfl
      have hok2 : ∀ s ∈ srtS (setsOf l), okS s := fun s hs => hok s ((srtS_perm _).mem_iff.1 hs)
      have HOK := Lib.hid hok2
      generalize srtS (setsOf l) = ss at HSo hlen HW HOK
      have HLen := Lib.hid hlen
      clear hok hok2 hown hsl hlen
      go_wp2_with (go_at_call 17; (refine HSo.out.mono ?_); rintro e wa ⟨rfl, hba, hCa⟩)
      have hbA : Below w.heap.size w wa := hb.trans hba
      rw [← HLen.out] at hCa
      go_loopw [7, 32] (fun v7 v32 wq => ∃ k : Nat, v32 = .int .i64 k ∧ k ≤ l.length ∧ wq.ownsRow wa.heap.size 9 1 v7 ((ss.take k).foldl keepMin []).length (pw_strs ((ss.take k).foldl keepMin [])) ∧ Below wa.heap.size wa wq) (fun _ v _ => l.length - (intOf v).toNat)
      case atStart => exact ⟨0, rfl, by omega, own_nil _ _ _ _, Below.refl _ _⟩
      case round =>
        obtain ⟨k, rfl, hk2, hown, hbq⟩ := hrel
        by_cases hlt2 : k < l.length
        · have hks : k < ss.length := by rw [HLen.out]; exact hlt2
          obtain ⟨ad, e1, c0⟩ := KC_at_str hCa k hks
          subst e1
          have HA := Lib.hid (HOK.out _ (getD_mem ByteArray.empty hks))
          have HTK := Lib.hid (foldMin_take ss hks)
          have HOut : Hid ((∀ x ∈ (ss.take k).foldl keepMin [], okS x) ∧ ((ss.take k).foldl keepMin []).length ≤ k) := by
            refine ⟨fun x hx => ?_, ?_⟩
            · rcases foldMin_mem _ _ _ hx with h | h
              · simp at h
              · exact HOK.out x (List.mem_of_mem_take h)
            · have := foldMin_len (ss.take k) []
              rw [List.length_take] at this
              simp at this
              omega
          generalize ss.getD k ByteArray.empty = a at c0 HA HTK
          generalize (ss.take k).foldl keepMin [] = out at hown HTK HOut
          clear hks
          replace c0 := cell_later hbq c0
          have hb' := hbq.alloc hbq.size (.cells #[.string a] 9)
          have hownA := hown.alloc (.cells #[.string a] 9)
          obtain ⟨A7, c7, hv7, hc7, hC7⟩ := Kd.R_reads (Kd.R_of_own (enc := Value.string) (h1 := fun _ => rfl) (ok := fun _ => True) hownA (fun _ _ => trivial))
          subst hv7
          have eg : ∀ args W, (callFunc 21 args).run Tryz.prog W = .ok (.enter 21 args) W := enters_of Tryz.func21 (by kernel_rfl) rfl
          have hcon := containsFunc_str_any 21 #[.pointer (some ⟨wr.heap.size, 0, none⟩)] (fun b => partB b a) A7 c7 out (wr.alloc (.cells #[.string a] 9)) hC7 (by have := HOut.out.2; omega) eg
            (fun W x hx hbW => why2_any x a _ W (by rw [hbW.cell (by simp)]; go_simp) HA.out.1 (HOut.out.1 x hx).1 (HOut.out.1 x hx).2)
          have HK : Hid (∀ z, (out.any fun b => partB b a) = z → keepMin out a = if z then out else out ++ [a]) := fun z hz => by unfold keepMin; rw [hz]
          clear eg hC7
          generalize hzz : (out.any fun b => partB b a) = z at hcon
          have HZ := Lib.hid (HK.out z hzz)
          have HC := Lib.hid hcon
          clear hcon hzz HK
          have hol := HOut.out.2
          cases z with
          | true =>
            have HE : Hid ((ss.take (k + 1)).foldl keepMin [] = out) := by show _ = _; rw [HTK.out, HZ.out]; rfl
            clear HZ HTK
            go_wp2_with (go_at_call 20; (refine HC.out.mono ?_); rintro e wb ⟨rfl, hbb⟩)
            go_roundw
            case rel => exact ⟨k + 1, by go_num, by omega, by rw [HE.out]; exact own_move hownA (fun j hj => hbb.block j (own_lt hownA j hj)), hb'.trans (hbb.mono hb'.size)⟩
            case measure => simp [intOf]; omega
          | false =>
            have HE : Hid ((ss.take (k + 1)).foldl keepMin [] = out ++ [a]) := by show _ = _; rw [HTK.out, HZ.out]; rfl
            clear HZ HTK
            go_wp2_with fail
            ((with_reducible refine HC.out.mono ?_); rintro e wb ⟨rfl, hbb⟩)
            have cb : wb.cell? ⟨wr.heap.size, 0, none⟩ = some (.string a) := by rw [hbb.cell (by simp)]; go_simp
            have hownB := own_move hownA (fun j hj => hbb.block j (own_lt hownA j hj))
            have hbB := hb'.trans (hbb.mono hb'.size)
            clear hbb
            go_wp2_with (at_builtin; refine wpList_append_own _ rfl _ _ 25 rfl wa.heap.size 9 i0 (.string ⟨#[]⟩) 1 16 Tryz.underlying25 hi0 hj0 hj1 hj2 rfl (by decide) _ _ _ rfl (hownB.alloc _) ⟨wb.heap.size, 0, none⟩ 1 1 [.string a] rfl rfl ?c1 ?c2 ?c3 ?c4 ?c5 ?_)
            case c1 => exact cell_one_new _ _ _
            case c2 => intro u hu; rw [List.mem_singleton.1 hu]; rfl
            case c3 => unfold maxLen; omega
            case c4 => omega
            case c5 => simp; have := hbB.size; omega
            intro v1 w3 hown3 hgrow _
            have hb4 : Below wa.heap.size wa w3 := (hbB.alloc hbB.size _).grown hgrow (by have := hbB.size; simp; omega) (fun j hj => own_base hownB j hj)
            have hown4 : w3.ownsRow wa.heap.size 9 1 v1 ((ss.take (k + 1)).foldl keepMin []).length (pw_strs ((ss.take (k + 1)).foldl keepMin [])) := by
              rw [HE.out, List.length_append]
              unfold pw_strs at *
              rw [List.map_append]
              exact hown3
            clear hown3 hgrow
            go_wp2
            go_roundw
            case rel => exact ⟨k + 1, by go_num, by omega, hown4, hb4⟩
            case measure => simp [intOf]; omega
        · obtain rfl : k = l.length := by omega
          have e2 : ss.take l.length = ss := List.take_of_length_le (by rw [HLen.out]; exact Nat.le_refl _)
          rw [e2, ← HW.out] at hown
          clear e2
          have hRR := Kd.R_of_own (enc := Value.string) (h1 := fun _ => rfl) (ok := fun _ => True) hown (fun _ _ => trivial)
          have HR := Lib.hid (Kd.R_lower hRR hbA.size)
          clear hRR hown
          go_wp2
          go_ret2
          exact ⟨_, rfl, HR.out, hbA.trans (hbq.mono hbA.size)⟩
set_option maxHeartbeats 400000 in
theorem why_bad (A : Option Addr) (c : Nat) (l : List S37) (w : World) (hr : Kd.C k37 w A l.length l) (hc : l.length ≤ c) (hi : sumIn l = true) (hv : validB l = false) :
    Calls Tryz.prog 6 #[.slice A l.length c] w fun e w' => e = .returned (.tuple #[.slice none 0 0, .int .i64 92]) ∧ Below w.heap.size w w' := by
  have hval := validSum_any A c l w hr hc hi
  rw [hv] at hval
  have HVal := Lib.hid hval
  clear hval hi hv
  go_enter Tryz.func6, Tryz.ntmps6
  go_wp2_with (go_at_call 15; (refine HVal.out.mono ?_); rintro e w1 ⟨rfl, hb1⟩)
  go_ret2
  exact ⟨rfl, hb1⟩
def prov_Why.f (l0 : List S37) : Option (List ByteArray × Int) := if sumIn l0 then (if validB l0 then some (whyOf l0, 0) else some ([], 92)) else none
theorem prov_Why.calls (A0 : Option Addr) (c0 : Nat) (l0 : List S37) (r1 : List ByteArray) (r2 : Int) (w : World) (hr0 : Kd.C k37 w A0 l0.length l0) (hc0 : l0.length ≤ c0) (h : prov_Why.f l0 = some (r1, r2)) :
    Calls Tryz.prog 6 #[.slice A0 l0.length c0] w fun e w' => ∃ v0_ : Value, e = .returned (.tuple #[v0_, .int .i64 r2]) ∧ Kd.R Kd.string 9 w' w.heap.size (fun _ => True) v0_ r1 ∧ Below w.heap.size w w' := by
  unfold prov_Why.f at h
  split at h
  · rename_i hi
    split at h
    · rename_i hv
      have h := Option.some.inj h
      rw [Prod.mk.injEq] at h
      obtain ⟨rfl, rfl⟩ := h
      exact why_any A0 c0 l0 w hr0 hc0 hi hv
    · rename_i hv
      have h := Option.some.inj h
      rw [Prod.mk.injEq] at h
      obtain ⟨rfl, rfl⟩ := h
      refine (why_bad A0 c0 l0 w hr0 hc0 hi (by simpa using hv)).mono ?_
      rintro e w' ⟨rfl, hb⟩
      exact ⟨_, rfl, Kd.R_nil _ _ _ _ _, hb⟩
  · cases h

end Go.Proofs.YtajeaefpapnkbaaGreatDoor.P
-- WRITTEN FOR THIS CLAIM BY A PROGRAM OF THIS SESSION (wip/tools), which turns the lines of the kit's print
namespace Go.Proofs.YtajeaefpapnkbaaGreatDoor.P
open Go.RowKit Go.Proofs.YtajeaefpapnkbaaGreatDoorW.PrintWords Go.Proofs.YtajeaefpapnkbaaGreatDoorW.PrintLast Go.Proofs.YtajeaefpapnkbaaGreatDoorW.PrintMore
attribute [local go_sem] max2_int min2_int max_two min_two max_three min_three max_four min_four   -- for this text's walks alone
set_option linter.unusedVariables false
set_option linter.unusedSimpArgs false

/-! ### firnref09_isTokens: function 40 -/
def firnref09_isTokens.l0 : Nat → ByteArray → Int → Int → Option (Bool)
  | 0, _, _, _ => none
  | k + 1, x0, x5, x6 => if x6 < x5 then (if 0 ≤ x6 then (if x6 < (x0.size : Int) then (if (bt x0 x6) < 97 then (some false) else (if (bt x0 x6) ≥ 105 then (some false) else (if x6 > 0 then (if 0 ≤ (wrap64 (x6 - 1)) then (if (wrap64 (x6 - 1)) < (x0.size : Int) then (if (bt x0 x6) < (bt x0 (wrap64 (x6 - 1))) then (some false) else (firnref09_isTokens.l0 k x0 x5 (wrap64 (x6 + 1)))) else (none)) else (none)) else (firnref09_isTokens.l0 k x0 x5 (wrap64 (x6 + 1)))))) else (none)) else (none)) else (some (decide ((x0.size : Int) ≤ 12)))
def firnref09_isTokens.f (k : Nat) (a0 : ByteArray) : Option (Bool) := firnref09_isTokens.l0 k a0 (a0.size : Int) 0
theorem firnref09_isTokens.mono_l : ∀ k, (∀ y0 y1 y2, LeO (firnref09_isTokens.l0 k y0 y1 y2) (firnref09_isTokens.l0 (k + 1) y0 y1 y2))
  | 0 => fun _ _ _ r h => by simp [firnref09_isTokens.l0] at h
  | k + 1 => by
    have ih0 := firnref09_isTokens.mono_l k
    · intro y0 y1 y2
      unfold firnref09_isTokens.l0
      repeat' first
      | (with_reducible exact ih0 _ _ _)
      | (with_reducible exact LeO.refl _)
      | (with_reducible exact LeO.none _)
      | (with_reducible refine LeO.ite ?_ ?_)
      | (with_reducible refine LeO.bind ?_ (fun _ => ?_))
      | exact ih0 _ _ _
      | exact LeO.none _
      | refine LeO.ite ?_ ?_
      | refine LeO.bind ?_ (fun _ => ?_)
theorem firnref09_isTokens.mono : ∀ a0 k, LeO (firnref09_isTokens.f k a0) (firnref09_isTokens.f (k + 1) a0) := by
  intro a0 k
  have ih0 := firnref09_isTokens.mono_l k
  unfold firnref09_isTokens.f
  repeat' first
      | (with_reducible exact ih0 _ _ _)
      | (with_reducible exact LeO.refl _)
      | (with_reducible exact LeO.none _)
      | (with_reducible refine LeO.ite ?_ ?_)
      | (with_reducible refine LeO.bind ?_ (fun _ => ?_))
      | exact ih0 _ _ _
      | exact LeO.none _
      | refine LeO.ite ?_ ?_
      | refine LeO.bind ?_ (fun _ => ?_)
set_option maxHeartbeats 8000000 in
set_option maxRecDepth 100000 in
theorem firnref09_isTokens.calls (k : Nat) (a0 : ByteArray) (r : Bool) (w : World) (h : firnref09_isTokens.f k a0 = some r) :
    Calls Tryz.prog 40 #[.string a0] w fun e w' => e = .returned (.bool r) ∧ Drawn0 w w' := by
  have H : (firnref09_isTokens.l0 k a0 (a0.size : Int) 0) = some r := h
  clear h
  have H' := Aside0.mk H
  clear H
  go_enter Tryz.func40, Tryz.ntmps40
  go_wp2
  repeat (go_quiet (fail); try go_wp2)
  go_loopg [6] k (fun kq v6 w' => ∃ (x6_1 : Int), v6 = .int .i64 x6_1 ∧ Aside0 (firnref09_isTokens.l0 kq a0 (a0.size : Int) x6_1 = some r) ∧ Aside0 (kq ≤ k) ∧ Drawn0 w w')
  case atStart => exact ⟨(0), (by first | rfl | (simp; done) | (simp [*]; done)), H', ⟨Nat.le_refl _⟩, by repeat (first | exact Drawn0.refl _ | apply Drawn0.step)⟩
  case round =>
    clear H'
    obtain ⟨x6_1, rfl, HA, HK1, ⟨m1, rfl⟩⟩ := hrel
    cases gk with
    | zero => exact absurd HA.out (by simp [firnref09_isTokens.l0])
    | succ k1 =>
      have H := HA.out
      clear HA
      simp only [firnref09_isTokens.l0] at H
      by_cases c2 : x6_1 < (a0.size : Int)
      · rw [if_pos c2] at H
        have c2b0 : decide (x6_1 < (a0.size : Int)) = true := decide_eq_true c2
        clear c2
        by_cases c3 : 0 ≤ x6_1
        · rw [if_pos c3] at H
          have c3b0 : decide (0 ≤ x6_1) = true := decide_eq_true c3
          clear c3
          by_cases c4 : x6_1 < (a0.size : Int)
          · rw [if_pos c4] at H
            have c4b0 : decide (x6_1 < (a0.size : Int)) = true := decide_eq_true c4
            clear c4
            by_cases c6 : (bt a0 x6_1) < 97
            · rw [if_pos c6] at H
              have c6b0 : decide ((bt a0 x6_1) < 97) = true := decide_eq_true c6
              clear c6
              obtain rfl := Option.some.inj H
              have p5 : 0 ≤ (x6_1 : Int) := of_decide_eq_true (by first | (with_reducible assumption) | assumption)
              have q5 : x6_1 < (a0.size : Int) := of_decide_eq_true (by first | (with_reducible assumption) | assumption)
              have hx5 := bt_at a0 x6_1
              replace p5 := eq_true p5
              replace q5 := eq_true q5
              go_wp2
              repeat (go_quiet (fail); try go_wp2)
              go_ret
              exact ⟨by first | rfl | (simp; done) | (simp [*]; done), by repeat (first | exact Drawn0.refl _ | apply Drawn0.step)⟩
            · rw [if_neg c6] at H
              have c6b0 : decide ((bt a0 x6_1) < 97) = false := decide_eq_false c6
              clear c6
              by_cases c8 : (bt a0 x6_1) ≥ 105
              · rw [if_pos c8] at H
                have c8b0 : decide (105 ≤ (bt a0 x6_1)) = true := decide_eq_true c8
                clear c8
                obtain rfl := Option.some.inj H
                have p5 : 0 ≤ (x6_1 : Int) := of_decide_eq_true (by first | (with_reducible assumption) | assumption)
                have q5 : x6_1 < (a0.size : Int) := of_decide_eq_true (by first | (with_reducible assumption) | assumption)
                have hx5 := bt_at a0 x6_1
                replace p5 := eq_true p5
                replace q5 := eq_true q5
                have p7 : 0 ≤ (x6_1 : Int) := of_decide_eq_true (by first | (with_reducible assumption) | assumption)
                have q7 : x6_1 < (a0.size : Int) := of_decide_eq_true (by first | (with_reducible assumption) | assumption)
                have hx7 := bt_at a0 x6_1
                replace p7 := eq_true p7
                replace q7 := eq_true q7
                go_wp2
                repeat (go_quiet (fail); try go_wp2)
                go_ret
                exact ⟨by first | rfl | (simp; done) | (simp [*]; done), by repeat (first | exact Drawn0.refl _ | apply Drawn0.step)⟩
              · rw [if_neg c8] at H
                have c8b0 : decide (105 ≤ (bt a0 x6_1)) = false := decide_eq_false c8
                clear c8
                by_cases c9 : x6_1 > 0
                · rw [if_pos c9] at H
                  have c9b0 : decide (0 < x6_1) = true := decide_eq_true c9
                  clear c9
                  obtain ⟨ji11, hji11⟩ : ∃ j_ : Int, (wrap64 (x6_1 - 1)) = j_ := ⟨_, rfl⟩
                  replace H : (if 0 ≤ (ji11) then (if (ji11) < (a0.size : Int) then (if (bt a0 x6_1) < (bt a0 (ji11)) then (some false) else (firnref09_isTokens.l0 k1 a0 (a0.size : Int) (wrap64 (x6_1 + 1)))) else (none)) else (none)) = some r := by first | (rw [hji11] at H; exact H) | (simp only [hji11] at H ⊢; exact H)
                  have hji11w : (IntKind.i64.wrap (x6_1 - 1)) = ji11 := (i64_w _).trans hji11
                  by_cases c12 : 0 ≤ (ji11)
                  · rw [if_pos c12] at H
                    have c12b0 : decide (0 ≤ (ji11)) = true := decide_eq_true c12
                    clear c12
                    by_cases c13 : (ji11) < (a0.size : Int)
                    · rw [if_pos c13] at H
                      have c13b0 : decide ((ji11) < (a0.size : Int)) = true := decide_eq_true c13
                      clear c13
                      by_cases c15 : (bt a0 x6_1) < (bt a0 (ji11))
                      · rw [if_pos c15] at H
                        have c15b0 : decide ((bt a0 x6_1) < (bt a0 (ji11))) = true := decide_eq_true c15
                        clear c15
                        obtain rfl := Option.some.inj H
                        have p5 : 0 ≤ (x6_1 : Int) := of_decide_eq_true (by first | (with_reducible assumption) | assumption)
                        have q5 : x6_1 < (a0.size : Int) := of_decide_eq_true (by first | (with_reducible assumption) | assumption)
                        have hx5 := bt_at a0 x6_1
                        replace p5 := eq_true p5
                        replace q5 := eq_true q5
                        have p7 : 0 ≤ (x6_1 : Int) := of_decide_eq_true (by first | (with_reducible assumption) | assumption)
                        have q7 : x6_1 < (a0.size : Int) := of_decide_eq_true (by first | (with_reducible assumption) | assumption)
                        have hx7 := bt_at a0 x6_1
                        replace p7 := eq_true p7
                        replace q7 := eq_true q7
                        have p10 : 0 ≤ (x6_1 : Int) := of_decide_eq_true (by first | (with_reducible assumption) | assumption)
                        have q10 : x6_1 < (a0.size : Int) := of_decide_eq_true (by first | (with_reducible assumption) | assumption)
                        have hx10 := bt_at a0 x6_1
                        replace p10 := eq_true p10
                        replace q10 := eq_true q10
                        have p14 : 0 ≤ ((ji11) : Int) := of_decide_eq_true (by first | (with_reducible assumption) | assumption)
                        have q14 : (ji11) < (a0.size : Int) := of_decide_eq_true (by first | (with_reducible assumption) | assumption)
                        have hx14 := bt_at a0 (ji11)
                        replace p14 := eq_true p14
                        replace q14 := eq_true q14
                        go_wp2
                        repeat (go_quiet (fail); try go_wp2)
                        go_ret
                        exact ⟨by first | rfl | (simp; done) | (simp only [← hji11] <;> (first | rfl | simp)) | (simp [*]; done), by repeat (first | exact Drawn0.refl _ | apply Drawn0.step)⟩
                      · rw [if_neg c15] at H
                        have c15b0 : decide ((bt a0 x6_1) < (bt a0 (ji11))) = false := decide_eq_false c15
                        clear c15
                        have H' := Aside0.mk H
                        clear H
                        have p5 : 0 ≤ (x6_1 : Int) := of_decide_eq_true (by first | (with_reducible assumption) | assumption)
                        have q5 : x6_1 < (a0.size : Int) := of_decide_eq_true (by first | (with_reducible assumption) | assumption)
                        have hx5 := bt_at a0 x6_1
                        replace p5 := eq_true p5
                        replace q5 := eq_true q5
                        have p7 : 0 ≤ (x6_1 : Int) := of_decide_eq_true (by first | (with_reducible assumption) | assumption)
                        have q7 : x6_1 < (a0.size : Int) := of_decide_eq_true (by first | (with_reducible assumption) | assumption)
                        have hx7 := bt_at a0 x6_1
                        replace p7 := eq_true p7
                        replace q7 := eq_true q7
                        have p10 : 0 ≤ (x6_1 : Int) := of_decide_eq_true (by first | (with_reducible assumption) | assumption)
                        have q10 : x6_1 < (a0.size : Int) := of_decide_eq_true (by first | (with_reducible assumption) | assumption)
                        have hx10 := bt_at a0 x6_1
                        replace p10 := eq_true p10
                        replace q10 := eq_true q10
                        have p14 : 0 ≤ ((ji11) : Int) := of_decide_eq_true (by first | (with_reducible assumption) | assumption)
                        have q14 : (ji11) < (a0.size : Int) := of_decide_eq_true (by first | (with_reducible assumption) | assumption)
                        have hx14 := bt_at a0 (ji11)
                        replace p14 := eq_true p14
                        replace q14 := eq_true q14
                        go_wp2
                        repeat (go_quiet (fail); try go_wp2)
                        go_roundg k1
                        case measure => have := HK1.out; omega
                        case rel => exact ⟨(wrap64 (x6_1 + 1)), (by first | rfl | (simp; done) | (simp [*]; done)), H', ⟨by have := HK1.out; omega⟩, by repeat (first | exact Drawn0.refl _ | apply Drawn0.step)⟩
                    · rw [if_neg c13] at H
                      exact absurd H (by simp)
                  · rw [if_neg c12] at H
                    exact absurd H (by simp)
                · rw [if_neg c9] at H
                  have c9b0 : decide (0 < x6_1) = false := decide_eq_false c9
                  clear c9
                  have H' := Aside0.mk H
                  clear H
                  have p5 : 0 ≤ (x6_1 : Int) := of_decide_eq_true (by first | (with_reducible assumption) | assumption)
                  have q5 : x6_1 < (a0.size : Int) := of_decide_eq_true (by first | (with_reducible assumption) | assumption)
                  have hx5 := bt_at a0 x6_1
                  replace p5 := eq_true p5
                  replace q5 := eq_true q5
                  have p7 : 0 ≤ (x6_1 : Int) := of_decide_eq_true (by first | (with_reducible assumption) | assumption)
                  have q7 : x6_1 < (a0.size : Int) := of_decide_eq_true (by first | (with_reducible assumption) | assumption)
                  have hx7 := bt_at a0 x6_1
                  replace p7 := eq_true p7
                  replace q7 := eq_true q7
                  go_wp2
                  repeat (go_quiet (fail); try go_wp2)
                  go_roundg k1
                  case measure => have := HK1.out; omega
                  case rel => exact ⟨(wrap64 (x6_1 + 1)), (by first | rfl | (simp; done) | (simp [*]; done)), H', ⟨by have := HK1.out; omega⟩, by repeat (first | exact Drawn0.refl _ | apply Drawn0.step)⟩
          · rw [if_neg c4] at H
            exact absurd H (by simp)
        · rw [if_neg c3] at H
          exact absurd H (by simp)
      · rw [if_neg c2] at H
        have c2b0 : decide (x6_1 < (a0.size : Int)) = false := decide_eq_false c2
        clear c2
        obtain rfl := Option.some.inj H
        go_wp2
        repeat (go_quiet (fail); try go_wp2)
        go_ret
        exact ⟨by first | rfl | (simp; done) | (simp [*]; done), by repeat (first | exact Drawn0.refl _ | apply Drawn0.step)⟩

end Go.Proofs.YtajeaefpapnkbaaGreatDoor.P
-- WRITTEN FOR THIS CLAIM BY A PROGRAM OF THIS SESSION (wip/tools), which turns the lines of the kit's print
namespace Go.Proofs.YtajeaefpapnkbaaGreatDoor.P
open Go.RowKit Go.Proofs.YtajeaefpapnkbaaGreatDoorW.PrintWords Go.Proofs.YtajeaefpapnkbaaGreatDoorW.PrintLast Go.Proofs.YtajeaefpapnkbaaGreatDoorW.PrintMore
attribute [local go_sem] max2_int min2_int max_two min_two max_three min_three max_four min_four   -- for this text's walks alone
set_option linter.unusedVariables false
set_option linter.unusedSimpArgs false

/-! ### firnref09_ValidSum: function 23 -/
def firnref09_ValidSum.f (l0 : List S37) : Option Bool := if sumIn l0 then some (validB l0) else none
theorem isTokens_l0 (s : ByteArray) (hs : s.size ≤ 140737488351232) (d : Nat) : ∀ (k i : Nat), i ≤ s.size → s.size - i = d → d < k → tokTo s i = true → firnref09_isTokens.l0 k s (s.size : Int) (i : Int) = some (tokB s) := by
  induction d with
  | zero =>
    intro k i hi hd hk ht
    obtain ⟨k, rfl⟩ : ∃ m, k = m + 1 := ⟨k - 1, by omega⟩
    obtain rfl : i = s.size := by omega
    simp only [firnref09_isTokens.l0]
    rw [if_neg (by omega)]
    unfold tokB; rw [ht]; simp only [Bool.true_and, Option.some.injEq, decide_eq_decide]; omega
  | succ d ih =>
    intro k i hi hd hk ht
    obtain ⟨k, rfl⟩ : ∃ m, k = m + 1 := ⟨k - 1, by omega⟩
    have hlt : i < s.size := by omega
    have hw : wrap64 ((i : Int) + 1) = ((i + 1 : Nat) : Int) := by rw [wrap64_of (by omega) (by omega)]; omega
    simp only [firnref09_isTokens.l0]
    rw [if_pos (by omega), if_pos (by omega), if_pos (by omega), hw]
    have fin : tokAt s i = false → some false = some (tokB s) := fun h => by rw [tokB_false hlt h]
    by_cases c1 : bt s i < 97
    · rw [if_pos c1]; exact fin (by unfold tokAt; rw [decide_eq_false (by omega)]; rfl)
    · rw [if_neg c1]
      by_cases c2 : bt s i ≥ 105
      · rw [if_pos c2]; exact fin (by unfold tokAt; rw [decide_eq_false (p := bt s i < 105) (by omega)]; simp)
      · rw [if_neg c2]
        have e1 : decide (97 ≤ bt s (i : Int)) = true := decide_eq_true (by omega)
        have e2 : decide (bt s (i : Int) < 105) = true := decide_eq_true (by omega)
        by_cases c3 : (i : Int) > 0
        · have hw1 : wrap64 ((i : Int) - 1) = (i : Int) - 1 := wrap64_of (by omega) (by omega)
          rw [if_pos c3, hw1, if_pos (by omega), if_pos (by omega)]
          by_cases c4 : bt s i < bt s ((i : Int) - 1)
          · rw [if_pos c4]; exact fin (by
              unfold tokAt; rw [decide_eq_false (p := bt s ((i : Int) - 1) ≤ bt s i) (by omega), show (i == 0) = false from beq_eq_false_iff_ne.2 (by omega)]; simp)
          · rw [if_neg c4]
            exact ih k (i + 1) (by omega) (by omega) (by omega) (by
              rw [tokTo_succ, ht]; unfold tokAt; rw [e1, e2, decide_eq_true (p := bt s ((i : Int) - 1) ≤ bt s i) (by omega)]; simp)
        · rw [if_neg c3]
          exact ih k (i + 1) (by omega) (by omega) (by omega) (by
            rw [tokTo_succ, ht]; unfold tokAt; rw [e1, e2, show (i == 0) = true from beq_iff_eq.2 (by omega)]; rfl)
theorem isTok_any (s : ByteArray) (w : World) (hs : s.size ≤ 140737488351232) : Calls Tryz.prog 40 #[.string s] w fun e w' => e = .returned (.bool (tokB s)) ∧ ∃ n, w' = w.drewN n :=
  quiet0 (firnref09_isTokens.calls (s.size + 1) s (tokB s) w (isTokens_l0 s hs s.size (s.size + 1) 0 (by omega) (by omega) (by omega) rfl))

set_option maxHeartbeats 2000000 in
theorem refValid_any (A : Option Addr) (c : Nat) (l : List S37) (w : World) (hr : Kd.C k37 w A l.length l) (hm : l.length ≤ 140737488351232) (hs : ∀ x ∈ l, x.f0.size ≤ 140737488351232) :
    Calls Tryz.prog 23 #[.slice A l.length c] w fun e w' => e = .returned (.bool (validB l)) ∧ Below w.heap.size w w' := by
  go_enter Tryz.func23, Tryz.ntmps23
  go_wp2
  go_loopw [7] (fun v wr => ∃ k : Nat, v = .int .i64 k ∧ k ≤ l.length ∧ validTo l k = true ∧ Below w.heap.size w wr) (fun v _ => l.length - (intOf v).toNat)
  case atStart => exact ⟨0, rfl, by omega, rfl, Below.refl _ _⟩
  case round =>
    obtain ⟨k, rfl, hk, hv, hb⟩ := hrel
    have HV := Lib.hid hv; clear hv
    by_cases hlt : k < l.length
    · obtain ⟨ad, e1, c0, c1⟩ := at_T37 hr (k : Int) (by omega) (by omega)
      subst e1
      have hx : rd_T37 l (k : Int) = l.getD k z37 := rfl
      rw [hx] at c0 c1
      have hsx : (l.getD k z37).f0.size ≤ 140737488351232 := hs _ (getD_mem _ hlt)
      generalize hxx : l.getD k z37 = x at c0 c1 hsx
      have HX := Lib.hid hxx; clear hxx hx
      simp only [Int.toNat_natCast] at c0 c1
      replace c0 := cell_later hb c0
      replace c1 := cell_later hb c1
      have HT := Lib.hid (fun w' => isTok_any x.f0 w' hsx)
      have hb' := hb.alloc hb.size (.cells #[.string x.f0, .int .i64 x.f1] 37)
      by_cases h1 : tokB x.f0 = true
      · by_cases h2 : x.f1 < 1
        · go_wp2
          go_quiet ((go_at_call 40; exact Calls.quiet_of (h1 ▸ HT.out _)))
          go_wp2
          go_ret
          exact ⟨pl_false hlt HX (by simp [prodB]; omega), pw_below_drewN hb' _⟩
        · have g2 : decide (x.f1 < 1) = false := decide_eq_false h2
          by_cases h3 : 100000 < x.f1
          · go_wp2
            go_quiet ((go_at_call 40; exact Calls.quiet_of (h1 ▸ HT.out _)))
            go_wp2
            go_ret
            exact ⟨pl_false hlt HX (by simp [prodB]; omega), pw_below_drewN hb' _⟩
          · have g3 : decide (100000 < x.f1) = false := decide_eq_false h3
            have HP := Lib.hid (prodB_mk h1 h2 h3)
            by_cases hk0 : k = 0
            · have g4 : decide (0 < k) = false := decide_eq_false (by omega)
              have HK0 := Lib.hid hk0; clear hk0
              go_wp2
              go_quiet ((go_at_call 40; exact Calls.quiet_of (h1 ▸ HT.out _)))
              go_wp2
              go_roundw
              case rel => exact ⟨k + 1, by go_num, by omega, pl_next HV (stepB_zero HK0 HX HP.out), pw_below_drewN hb' _⟩
              case measure => simp [intOf]; omega
            · have g4 : decide (0 < k) = true := decide_eq_true (by omega)
              obtain ⟨ad', e1, d0, d1⟩ := at_T37 hr ((k - 1 : Nat) : Int) (by omega) (by omega)
              obtain rfl : ad = ad' := by injection e1
              have hy : rd_T37 l ((k - 1 : Nat) : Int) = l.getD (k - 1) z37 := rfl
              rw [hy] at d0 d1
              generalize hyy : l.getD (k - 1) z37 = y at d0 d1
              have HY := Lib.hid hyy; clear hyy hy d1 e1
              simp only [Int.toNat_natCast] at d0
              replace d0 := cell_later hb' d0
              have i0 : (0 : Int) ≤ (k : Int) - 1 := by omega
              have i1 : (k : Int) - 1 < (l.length : Int) := by omega
              have i2 : ((k : Int) - 1).toNat = k - 1 := by omega
              have i4 : (1 : Int) ≤ (k : Int) := by omega
              have i5 : 1 ≤ k := by omega
              have i6 : 0 < k := by omega
              have i3 : IntKind.i64.wrap ((k : Int) - 1) = (k : Int) - 1 := IntWalk.i64_in _ (by omega)
              go_wp2
              go_quiet ((go_at_call 40; exact Calls.quiet_of (h1 ▸ HT.out _)))
              go_wp2
              · go_ret
                exact ⟨pl_false2 hlt i6 HX HY (leqB_true ‹_›), pw_below_drewN hb' _⟩
              · go_roundw
                case rel => exact ⟨k + 1, by go_num, by omega, pl_next HV (stepB_pos HX HY HP.out (leqB_false ‹_›)), pw_below_drewN hb' _⟩
                case measure => simp [intOf]; omega
      · have h1f : tokB x.f0 = false := by simpa using h1
        go_wp2
        go_quiet ((go_at_call 40; exact Calls.quiet_of (h1f ▸ HT.out _)))
        go_wp2
        go_ret
        exact ⟨pl_false hlt HX (by simp [prodB, h1f]), pw_below_drewN hb' _⟩
    · obtain rfl : k = l.length := by omega
      go_wp2
      go_ret
      refine ⟨ret_bool ?_, hb⟩
      unfold validB; rw [HV.out]; simp only [Bool.true_and, decide_eq_decide]; omega
theorem firnref09_ValidSum.calls (A0 : Option Addr) (c0 : Nat) (l0 : List S37) (r : Bool) (w : World) (hr0 : Kd.C k37 w A0 l0.length l0) (hc0 : l0.length ≤ c0) (h : firnref09_ValidSum.f l0 = some r) :
    Calls Tryz.prog 23 #[.slice A0 l0.length c0] w fun e w' => e = .returned (.bool r) ∧ Below w.heap.size w w' := by
  unfold firnref09_ValidSum.f at h
  split at h
  · obtain rfl := Option.some.inj h
    exact refValid_any A0 c0 l0 w hr0 (sumIn_len ‹_›) (sumIn_mem ‹_›)
  · cases h

end Go.Proofs.YtajeaefpapnkbaaGreatDoor.P
-- WRITTEN FOR THIS CLAIM BY A PROGRAM OF THIS SESSION (wip/tools), which turns the lines of the kit's print
namespace Go.Proofs.YtajeaefpapnkbaaGreatDoor.P
open Go.RowKit Go.Proofs.YtajeaefpapnkbaaGreatDoorW.PrintWords Go.Proofs.YtajeaefpapnkbaaGreatDoorW.PrintLast Go.Proofs.YtajeaefpapnkbaaGreatDoorW.PrintMore
attribute [local go_sem] max2_int min2_int max_two min_two max_three min_three max_four min_four   -- for this text's walks alone
set_option linter.unusedVariables false
set_option linter.unusedSimpArgs false

/-! ### firnref09_once: function 24 -/
def firnref09_once.l0 : Nat → ByteArray → ByteArray → Int → Int → Option (ByteArray)
  | 0, _, _, _, _ => none
  | k + 1, x0, x3, x6, x7 => if x7 < x6 then (if x7 = 0 then (if 0 ≤ x7 then (if x7 ≤ (wrap64 (x7 + 1)) then (if (wrap64 (x7 + 1)) ≤ (x0.size : Int) then (if x3.size + (x0.extract (x7 : Int).toNat ((wrap64 (x7 + 1)) : Int).toNat).size ≤ 9223372036854775807 then (firnref09_once.l0 k x0 (x3 ++ (x0.extract (x7 : Int).toNat ((wrap64 (x7 + 1)) : Int).toNat)) x6 (wrap64 (x7 + 1))) else (none)) else (none)) else (none)) else (none)) else (if 0 ≤ x7 then (if x7 < (x0.size : Int) then (if 0 ≤ (wrap64 (x7 - 1)) then (if (wrap64 (x7 - 1)) < (x0.size : Int) then (if (bt x0 x7) = (bt x0 (wrap64 (x7 - 1))) then (firnref09_once.l0 k x0 x3 x6 (wrap64 (x7 + 1))) else (if x7 ≤ (wrap64 (x7 + 1)) then (if (wrap64 (x7 + 1)) ≤ (x0.size : Int) then (if x3.size + (x0.extract (x7 : Int).toNat ((wrap64 (x7 + 1)) : Int).toNat).size ≤ 9223372036854775807 then (firnref09_once.l0 k x0 (x3 ++ (x0.extract (x7 : Int).toNat ((wrap64 (x7 + 1)) : Int).toNat)) x6 (wrap64 (x7 + 1))) else (none)) else (none)) else (none))) else (none)) else (none)) else (none)) else (none))) else (some x3)
def firnref09_once.f (k : Nat) (a0 : ByteArray) : Option (ByteArray) := firnref09_once.l0 k a0 (⟨#[]⟩ : ByteArray) (a0.size : Int) 0
theorem firnref09_once.mono_l : ∀ k, (∀ y0 y1 y2 y3, LeO (firnref09_once.l0 k y0 y1 y2 y3) (firnref09_once.l0 (k + 1) y0 y1 y2 y3))
  | 0 => fun _ _ _ _ r h => by simp [firnref09_once.l0] at h
  | k + 1 => by
    have ih0 := firnref09_once.mono_l k
    · intro y0 y1 y2 y3
      unfold firnref09_once.l0
      repeat' first
      | (with_reducible exact ih0 _ _ _ _)
      | (with_reducible exact LeO.refl _)
      | (with_reducible exact LeO.none _)
      | (with_reducible refine LeO.ite ?_ ?_)
      | (with_reducible refine LeO.bind ?_ (fun _ => ?_))
      | exact ih0 _ _ _ _
      | exact LeO.none _
      | refine LeO.ite ?_ ?_
      | refine LeO.bind ?_ (fun _ => ?_)
theorem firnref09_once.mono : ∀ a0 k, LeO (firnref09_once.f k a0) (firnref09_once.f (k + 1) a0) := by
  intro a0 k
  have ih0 := firnref09_once.mono_l k
  unfold firnref09_once.f
  repeat' first
      | (with_reducible exact ih0 _ _ _ _)
      | (with_reducible exact LeO.refl _)
      | (with_reducible exact LeO.none _)
      | (with_reducible refine LeO.ite ?_ ?_)
      | (with_reducible refine LeO.bind ?_ (fun _ => ?_))
      | exact ih0 _ _ _ _
      | exact LeO.none _
      | refine LeO.ite ?_ ?_
      | refine LeO.bind ?_ (fun _ => ?_)
set_option maxHeartbeats 8000000 in
set_option maxRecDepth 100000 in
theorem firnref09_once.calls (k : Nat) (a0 : ByteArray) (r : ByteArray) (w : World) (h : firnref09_once.f k a0 = some r) :
    Calls Tryz.prog 24 #[.string a0] w fun e w' => e = .returned (.string r) ∧ Drawn0 w w' := by
  have H : (firnref09_once.l0 k a0 (⟨#[]⟩ : ByteArray) (a0.size : Int) 0) = some r := h
  clear h
  have H' := Aside0.mk H
  clear H
  go_enter Tryz.func24, Tryz.ntmps24
  go_wp2
  repeat (go_quiet (fail); try go_wp2)
  go_loopg [3, 7] k (fun kq v3 v7 w' => ∃ (x3_1 : ByteArray) (x7_1 : Int), v3 = .string x3_1 ∧ v7 = .int .i64 x7_1 ∧ Aside0 (firnref09_once.l0 kq a0 x3_1 (a0.size : Int) x7_1 = some r) ∧ Aside0 (kq ≤ k) ∧ Drawn0 w w')
  case atStart => exact ⟨((⟨#[]⟩ : ByteArray)), (0), (by first | rfl | (simp; done) | (simp [*]; done)), (by first | rfl | (simp; done) | (simp [*]; done)), H', ⟨Nat.le_refl _⟩, by repeat (first | exact Drawn0.refl _ | apply Drawn0.step)⟩
  case round =>
    clear H'
    obtain ⟨x3_1, x7_1, rfl, rfl, HA, HK1, ⟨m1, rfl⟩⟩ := hrel
    cases gk with
    | zero => exact absurd HA.out (by simp [firnref09_once.l0])
    | succ k1 =>
      have H := HA.out
      clear HA
      simp only [firnref09_once.l0] at H
      by_cases c2 : x7_1 < (a0.size : Int)
      · rw [if_pos c2] at H
        have c2b0 : decide (x7_1 < (a0.size : Int)) = true := decide_eq_true c2
        clear c2
        by_cases c3 : x7_1 = 0
        · rw [if_pos c3] at H
          have c3b0 : (x7_1 == 0) = true := beq_iff_eq.mpr c3
          have c3b1 : (x7_1 != 0) = false := bne_eq_false_iff_eq.mpr c3
          clear c3
          by_cases c4 : 0 ≤ x7_1
          · rw [if_pos c4] at H
            have c4b0 := eq_true c4
            have c4b1 : decide (0 ≤ x7_1) = true := decide_eq_true c4
            clear c4
            by_cases c5 : x7_1 ≤ (wrap64 (x7_1 + 1))
            · rw [if_pos c5] at H
              have c5b0 := eq_true c5
              have c5b1 : decide (x7_1 ≤ (wrap64 (x7_1 + 1))) = true := decide_eq_true c5
              by_cases c6 : (wrap64 (x7_1 + 1)) ≤ (a0.size : Int)
              · rw [if_pos c6] at H
                have c6b0 := eq_true c6
                have c6b1 : decide ((wrap64 (x7_1 + 1)) ≤ (a0.size : Int)) = true := decide_eq_true c6
                by_cases c7 : x3_1.size + (a0.extract (x7_1 : Int).toNat ((wrap64 (x7_1 + 1)) : Int).toNat).size ≤ 9223372036854775807
                · rw [if_pos c7] at H
                  have c7b0 := eq_true c7
                  have c7b1 : decide (x3_1.size + (a0.extract (x7_1 : Int).toNat ((wrap64 (x7_1 + 1)) : Int).toNat).size ≤ 9223372036854775807) = true := decide_eq_true c7
                  try have c7b2 : (9223372036854775807 < x3_1.size + (a0.extract (x7_1 : Int).toNat ((wrap64 (x7_1 + 1)) : Int).toNat).size) = False := eq_false (Nat.not_lt.2 c7)
                  have H' := Aside0.mk H
                  clear H
                  go_wp2
                  repeat (go_quiet (fail); try go_wp2)
                  go_roundg k1
                  case measure => have := HK1.out; omega
                  case rel => exact ⟨(x3_1 ++ (a0.extract (x7_1 : Int).toNat ((wrap64 (x7_1 + 1)) : Int).toNat)), (wrap64 (x7_1 + 1)), (by first | rfl | (simp; done) | (simp [*]; done)), (by first | rfl | (simp; done) | (simp [*]; done)), H', ⟨by have := HK1.out; omega⟩, by repeat (first | exact Drawn0.refl _ | apply Drawn0.step)⟩
                · rw [if_neg c7] at H
                  exact absurd H (by simp)
              · rw [if_neg c6] at H
                exact absurd H (by simp)
            · rw [if_neg c5] at H
              exact absurd H (by simp)
          · rw [if_neg c4] at H
            exact absurd H (by simp)
        · rw [if_neg c3] at H
          have c3b0 : (x7_1 == 0) = false := beq_eq_false_iff_ne.mpr c3
          have c3b1 : (x7_1 != 0) = true := bne_iff_ne.mpr c3
          by_cases c8 : 0 ≤ x7_1
          · rw [if_pos c8] at H
            have c8b0 : decide (0 ≤ x7_1) = true := decide_eq_true c8
            clear c8
            by_cases c9 : x7_1 < (a0.size : Int)
            · rw [if_pos c9] at H
              have c9b0 : decide (x7_1 < (a0.size : Int)) = true := decide_eq_true c9
              clear c9
              obtain ⟨ji11, hji11⟩ : ∃ j_ : Int, (wrap64 (x7_1 - 1)) = j_ := ⟨_, rfl⟩
              replace H : (if 0 ≤ (ji11) then (if (ji11) < (a0.size : Int) then (if (bt a0 x7_1) = (bt a0 (ji11)) then (firnref09_once.l0 k1 a0 x3_1 (a0.size : Int) (wrap64 (x7_1 + 1))) else (if x7_1 ≤ (wrap64 (x7_1 + 1)) then (if (wrap64 (x7_1 + 1)) ≤ (a0.size : Int) then (if x3_1.size + (a0.extract (x7_1 : Int).toNat ((wrap64 (x7_1 + 1)) : Int).toNat).size ≤ 9223372036854775807 then (firnref09_once.l0 k1 a0 (x3_1 ++ (a0.extract (x7_1 : Int).toNat ((wrap64 (x7_1 + 1)) : Int).toNat)) (a0.size : Int) (wrap64 (x7_1 + 1))) else (none)) else (none)) else (none))) else (none)) else (none)) = some r := by first | (rw [hji11] at H; exact H) | (simp only [hji11] at H ⊢; exact H)
              have hji11w : (IntKind.i64.wrap (x7_1 - 1)) = ji11 := (i64_w _).trans hji11
              by_cases c12 : 0 ≤ (ji11)
              · rw [if_pos c12] at H
                have c12b0 : decide (0 ≤ (ji11)) = true := decide_eq_true c12
                clear c12
                by_cases c13 : (ji11) < (a0.size : Int)
                · rw [if_pos c13] at H
                  have c13b0 : decide ((ji11) < (a0.size : Int)) = true := decide_eq_true c13
                  clear c13
                  by_cases c15 : (bt a0 x7_1) = (bt a0 (ji11))
                  · rw [if_pos c15] at H
                    have c15b0 : ((bt a0 x7_1) == (bt a0 (ji11))) = true := beq_iff_eq.mpr c15
                    have c15b1 : ((bt a0 x7_1) != (bt a0 (ji11))) = false := bne_eq_false_iff_eq.mpr c15
                    clear c15
                    have H' := Aside0.mk H
                    clear H
                    have p10 : 0 ≤ (x7_1 : Int) := of_decide_eq_true (by first | (with_reducible assumption) | assumption)
                    have q10 : x7_1 < (a0.size : Int) := of_decide_eq_true (by first | (with_reducible assumption) | assumption)
                    have hx10 := bt_at a0 x7_1
                    replace p10 := eq_true p10
                    replace q10 := eq_true q10
                    have p14 : 0 ≤ ((ji11) : Int) := of_decide_eq_true (by first | (with_reducible assumption) | assumption)
                    have q14 : (ji11) < (a0.size : Int) := of_decide_eq_true (by first | (with_reducible assumption) | assumption)
                    have hx14 := bt_at a0 (ji11)
                    replace p14 := eq_true p14
                    replace q14 := eq_true q14
                    go_wp2
                    repeat (go_quiet (fail); try go_wp2)
                    go_roundg k1
                    case measure => have := HK1.out; omega
                    case rel => exact ⟨(x3_1), (wrap64 (x7_1 + 1)), (by first | rfl | (simp; done) | (simp [*]; done)), (by first | rfl | (simp; done) | (simp [*]; done)), H', ⟨by have := HK1.out; omega⟩, by repeat (first | exact Drawn0.refl _ | apply Drawn0.step)⟩
                  · rw [if_neg c15] at H
                    have c15b0 : ((bt a0 x7_1) == (bt a0 (ji11))) = false := beq_eq_false_iff_ne.mpr c15
                    have c15b1 : ((bt a0 x7_1) != (bt a0 (ji11))) = true := bne_iff_ne.mpr c15
                    have c16b0 := eq_true (of_decide_eq_true (by first | (with_reducible assumption) | assumption) : 0 ≤ x7_1)
                    by_cases c17 : x7_1 ≤ (wrap64 (x7_1 + 1))
                    · rw [if_pos c17] at H
                      have c17b0 := eq_true c17
                      have c17b1 : decide (x7_1 ≤ (wrap64 (x7_1 + 1))) = true := decide_eq_true c17
                      by_cases c18 : (wrap64 (x7_1 + 1)) ≤ (a0.size : Int)
                      · rw [if_pos c18] at H
                        have c18b0 := eq_true c18
                        have c18b1 : decide ((wrap64 (x7_1 + 1)) ≤ (a0.size : Int)) = true := decide_eq_true c18
                        by_cases c19 : x3_1.size + (a0.extract (x7_1 : Int).toNat ((wrap64 (x7_1 + 1)) : Int).toNat).size ≤ 9223372036854775807
                        · rw [if_pos c19] at H
                          have c19b0 := eq_true c19
                          have c19b1 : decide (x3_1.size + (a0.extract (x7_1 : Int).toNat ((wrap64 (x7_1 + 1)) : Int).toNat).size ≤ 9223372036854775807) = true := decide_eq_true c19
                          try have c19b2 : (9223372036854775807 < x3_1.size + (a0.extract (x7_1 : Int).toNat ((wrap64 (x7_1 + 1)) : Int).toNat).size) = False := eq_false (Nat.not_lt.2 c19)
                          have H' := Aside0.mk H
                          clear H
                          have p10 : 0 ≤ (x7_1 : Int) := of_decide_eq_true (by first | (with_reducible assumption) | assumption)
                          have q10 : x7_1 < (a0.size : Int) := of_decide_eq_true (by first | (with_reducible assumption) | assumption)
                          have hx10 := bt_at a0 x7_1
                          replace p10 := eq_true p10
                          replace q10 := eq_true q10
                          have p14 : 0 ≤ ((ji11) : Int) := of_decide_eq_true (by first | (with_reducible assumption) | assumption)
                          have q14 : (ji11) < (a0.size : Int) := of_decide_eq_true (by first | (with_reducible assumption) | assumption)
                          have hx14 := bt_at a0 (ji11)
                          replace p14 := eq_true p14
                          replace q14 := eq_true q14
                          go_wp2
                          repeat (go_quiet (fail); try go_wp2)
                          go_roundg k1
                          case measure => have := HK1.out; omega
                          case rel => exact ⟨(x3_1 ++ (a0.extract (x7_1 : Int).toNat ((wrap64 (x7_1 + 1)) : Int).toNat)), (wrap64 (x7_1 + 1)), (by first | rfl | (simp; done) | (simp [*]; done)), (by first | rfl | (simp; done) | (simp [*]; done)), H', ⟨by have := HK1.out; omega⟩, by repeat (first | exact Drawn0.refl _ | apply Drawn0.step)⟩
                        · rw [if_neg c19] at H
                          exact absurd H (by simp)
                      · rw [if_neg c18] at H
                        exact absurd H (by simp)
                    · rw [if_neg c17] at H
                      exact absurd H (by simp)
                · rw [if_neg c13] at H
                  exact absurd H (by simp)
              · rw [if_neg c12] at H
                exact absurd H (by simp)
            · rw [if_neg c9] at H
              exact absurd H (by simp)
          · rw [if_neg c8] at H
            exact absurd H (by simp)
      · rw [if_neg c2] at H
        have c2b0 : decide (x7_1 < (a0.size : Int)) = false := decide_eq_false c2
        clear c2
        obtain rfl := Option.some.inj H
        go_wp2
        repeat (go_quiet (fail); try go_wp2)
        go_ret
        exact ⟨by first | rfl | (simp; done) | (simp [*]; done), by repeat (first | exact Drawn0.refl _ | apply Drawn0.step)⟩

end Go.Proofs.YtajeaefpapnkbaaGreatDoor.P
-- WRITTEN FOR THIS CLAIM BY A PROGRAM OF THIS SESSION (wip/tools), which turns the lines of the kit's print
namespace Go.Proofs.YtajeaefpapnkbaaGreatDoor.P
open Go.RowKit Go.Proofs.YtajeaefpapnkbaaGreatDoorW.PrintWords Go.Proofs.YtajeaefpapnkbaaGreatDoorW.PrintLast Go.Proofs.YtajeaefpapnkbaaGreatDoorW.PrintMore
attribute [local go_sem] max2_int min2_int max_two min_two max_three min_three max_four min_four   -- for this text's walks alone
set_option linter.unusedVariables false
set_option linter.unusedSimpArgs false

/-! ### firnref09_Part: function 25 -/
mutual
def firnref09_Part.l0 : Nat → ByteArray → ByteArray → Int → Int → Option (Bool)
  | 0, _, _, _, _ => none
  | k + 1, x0, x1, x9, x10 => if x10 < x9 then (firnref09_Part.l1 k x0 x1 x10 false x9 x10 (x1.size : Int) 0) else (some true)
def firnref09_Part.l1 : Nat → ByteArray → ByteArray → Int → Bool → Int → Int → Int → Int → Option (Bool)
  | 0, _, _, _, _, _, _, _, _ => none
  | k + 1, x0, x1, x5, x6, x9, x10, x14, x15 => if x15 < x14 then (if x6 = true then (firnref09_Part.l1 k x0 x1 x5 true x9 x10 x14 (wrap64 (x15 + 1))) else (if 0 ≤ x5 then (if x5 < (x0.size : Int) then (if 0 ≤ x15 then (if x15 < (x1.size : Int) then (firnref09_Part.l1 k x0 x1 x5 ((bt x0 x5) == (bt x1 x15)) x9 x10 x14 (wrap64 (x15 + 1))) else (none)) else (none)) else (none)) else (none))) else (if x6 = true then (firnref09_Part.l0 k x0 x1 x9 (wrap64 (x10 + 1))) else (some false))
end
def firnref09_Part.f (k : Nat) (a0 : ByteArray) (a1 : ByteArray) : Option (Bool) := firnref09_Part.l0 k a0 a1 (a0.size : Int) 0
theorem firnref09_Part.mono_l : ∀ k, (∀ y0 y1 y2 y3, LeO (firnref09_Part.l0 k y0 y1 y2 y3) (firnref09_Part.l0 (k + 1) y0 y1 y2 y3)) ∧ (∀ y0 y1 y2 y3 y4 y5 y6 y7, LeO (firnref09_Part.l1 k y0 y1 y2 y3 y4 y5 y6 y7) (firnref09_Part.l1 (k + 1) y0 y1 y2 y3 y4 y5 y6 y7))
  | 0 => ⟨fun _ _ _ _ r h => by simp [firnref09_Part.l0] at h, fun _ _ _ _ _ _ _ _ r h => by simp [firnref09_Part.l1] at h⟩
  | k + 1 => by
    obtain ⟨ih0, ih1⟩ := firnref09_Part.mono_l k
    refine ⟨?_, ?_⟩
    · intro y0 y1 y2 y3
      unfold firnref09_Part.l0
      repeat' first
      | (with_reducible exact ih0 _ _ _ _)
      | (with_reducible exact ih1 _ _ _ _ _ _ _ _)
      | (with_reducible exact LeO.refl _)
      | (with_reducible exact LeO.none _)
      | (with_reducible refine LeO.ite ?_ ?_)
      | (with_reducible refine LeO.bind ?_ (fun _ => ?_))
      | exact ih0 _ _ _ _
      | exact ih1 _ _ _ _ _ _ _ _
      | exact LeO.none _
      | refine LeO.ite ?_ ?_
      | refine LeO.bind ?_ (fun _ => ?_)
    · intro y0 y1 y2 y3 y4 y5 y6 y7
      unfold firnref09_Part.l1
      repeat' first
      | (with_reducible exact ih0 _ _ _ _)
      | (with_reducible exact ih1 _ _ _ _ _ _ _ _)
      | (with_reducible exact LeO.refl _)
      | (with_reducible exact LeO.none _)
      | (with_reducible refine LeO.ite ?_ ?_)
      | (with_reducible refine LeO.bind ?_ (fun _ => ?_))
      | exact ih0 _ _ _ _
      | exact ih1 _ _ _ _ _ _ _ _
      | exact LeO.none _
      | refine LeO.ite ?_ ?_
      | refine LeO.bind ?_ (fun _ => ?_)
theorem firnref09_Part.mono : ∀ a0 a1 k, LeO (firnref09_Part.f k a0 a1) (firnref09_Part.f (k + 1) a0 a1) := by
  intro a0 a1 k
  obtain ⟨ih0, ih1⟩ := firnref09_Part.mono_l k
  unfold firnref09_Part.f
  repeat' first
      | (with_reducible exact ih0 _ _ _ _)
      | (with_reducible exact ih1 _ _ _ _ _ _ _ _)
      | (with_reducible exact LeO.refl _)
      | (with_reducible exact LeO.none _)
      | (with_reducible refine LeO.ite ?_ ?_)
      | (with_reducible refine LeO.bind ?_ (fun _ => ?_))
      | exact ih0 _ _ _ _
      | exact ih1 _ _ _ _ _ _ _ _
      | exact LeO.none _
      | refine LeO.ite ?_ ?_
      | refine LeO.bind ?_ (fun _ => ?_)
set_option maxHeartbeats 8000000 in
set_option maxRecDepth 100000 in
theorem firnref09_Part.calls (k : Nat) (a0 : ByteArray) (a1 : ByteArray) (r : Bool) (w : World) (h : firnref09_Part.f k a0 a1 = some r) :
    Calls Tryz.prog 25 #[.string a0, .string a1] w fun e w' => e = .returned (.bool r) ∧ Drawn0 w w' := by
  have H : (firnref09_Part.l0 k a0 a1 (a0.size : Int) 0) = some r := h
  clear h
  have H' := Aside0.mk H
  clear H
  go_enter Tryz.func25, Tryz.ntmps25
  go_wp2
  repeat (go_quiet (fail); try go_wp2)
  go_loopg [10] k (fun kq v10 w' => ∃ (x10_1 : Int), v10 = .int .i64 x10_1 ∧ Aside0 (firnref09_Part.l0 kq a0 a1 (a0.size : Int) x10_1 = some r) ∧ Aside0 (kq ≤ k) ∧ Drawn0 w w')
  case atStart => exact ⟨(0), (by first | rfl | (simp; done) | (simp [*]; done)), H', ⟨Nat.le_refl _⟩, by repeat (first | exact Drawn0.refl _ | apply Drawn0.step)⟩
  case round =>
    clear H'
    try clear c2
    try clear p2
    obtain ⟨x10_1, rfl, HA, HK1, ⟨m1, rfl⟩⟩ := hrel
    cases gk with
    | zero => exact absurd HA.out (by simp [firnref09_Part.l0])
    | succ k1 =>
      have H := HA.out
      clear HA
      simp only [firnref09_Part.l0] at H
      by_cases c3 : x10_1 < (a0.size : Int)
      · rw [if_pos c3] at H
        have c3b0 : decide (x10_1 < (a0.size : Int)) = true := decide_eq_true c3
        clear c3
        have H' := Aside0.mk H
        clear H
        go_wp2
        repeat (go_quiet (fail); try go_wp2)
        go_loopg [6, 15] k1 (fun kq v6 v15 w' => ∃ (x6_2 : Bool) (x15_2 : Int), v6 = .bool x6_2 ∧ v15 = .int .i64 x15_2 ∧ Aside0 (firnref09_Part.l1 kq a0 a1 x10_1 x6_2 (a0.size : Int) x10_1 (a1.size : Int) x15_2 = some r) ∧ Aside0 (kq ≤ k1) ∧ Drawn0 w w')
        case atStart => exact ⟨(false), (0), (by first | rfl | (simp; done) | (simp [*]; done)), (by first | rfl | (simp; done) | (simp [*]; done)), H', ⟨Nat.le_refl _⟩, by repeat (first | exact Drawn0.refl _ | apply Drawn0.step)⟩
        case round =>
          clear H'
          try clear c2
          try clear p2
          try clear c3
          try clear c3b0
          try clear p2
          obtain ⟨x6_2, x15_2, rfl, rfl, HA, HK2, ⟨m2, rfl⟩⟩ := hrel
          cases gk with
          | zero => exact absurd HA.out (by simp [firnref09_Part.l1])
          | succ k2 =>
            have H := HA.out
            clear HA
            simp only [firnref09_Part.l1] at H
            by_cases c4 : x15_2 < (a1.size : Int)
            · rw [if_pos c4] at H
              have c4b0 : decide (x15_2 < (a1.size : Int)) = true := decide_eq_true c4
              clear c4
              by_cases c5 : x6_2 = true
              · subst c5
                have H1 : (firnref09_Part.l1 k2 a0 a1 x10_1 true (a0.size : Int) x10_1 (a1.size : Int) (wrap64 (x15_2 + 1))) = some r := by rw [if_pos rfl] at H; exact H
                clear H
                have H := H1
                clear H1
                have H' := Aside0.mk H
                clear H
                go_wp2
                repeat (go_quiet (fail); try go_wp2)
                go_roundg k2
                case measure => have := HK1.out; have := HK2.out; omega
                case rel => exact ⟨(true), (wrap64 (x15_2 + 1)), (by first | rfl | (simp; done) | (simp [*]; done)), (by first | rfl | (simp; done) | (simp [*]; done)), H', ⟨by have := HK1.out; have := HK2.out; omega⟩, by repeat (first | exact Drawn0.refl _ | apply Drawn0.step)⟩
              · replace c5 := Bool.eq_false_iff.mpr c5
                subst c5
                have H1 : (if 0 ≤ x10_1 then (if x10_1 < (a0.size : Int) then (if 0 ≤ x15_2 then (if x15_2 < (a1.size : Int) then (firnref09_Part.l1 k2 a0 a1 x10_1 ((bt a0 x10_1) == (bt a1 x15_2)) (a0.size : Int) x10_1 (a1.size : Int) (wrap64 (x15_2 + 1))) else (none)) else (none)) else (none)) else (none)) = some r := by rw [if_neg (show ¬ (false = true) by decide)] at H; exact H
                clear H
                have H := H1
                clear H1
                by_cases c6 : 0 ≤ x10_1
                · rw [if_pos c6] at H
                  have c6b0 : decide (0 ≤ x10_1) = true := decide_eq_true c6
                  clear c6
                  by_cases c7 : x10_1 < (a0.size : Int)
                  · rw [if_pos c7] at H
                    have c7b0 : decide (x10_1 < (a0.size : Int)) = true := decide_eq_true c7
                    clear c7
                    by_cases c9 : 0 ≤ x15_2
                    · rw [if_pos c9] at H
                      have c9b0 : decide (0 ≤ x15_2) = true := decide_eq_true c9
                      clear c9
                      by_cases c10 : x15_2 < (a1.size : Int)
                      · rw [if_pos c10] at H
                        have c10b0 : decide (x15_2 < (a1.size : Int)) = true := decide_eq_true c10
                        clear c10
                        have H' := Aside0.mk H
                        clear H
                        have p8 : 0 ≤ (x10_1 : Int) := of_decide_eq_true (by first | (with_reducible assumption) | assumption)
                        have q8 : x10_1 < (a0.size : Int) := of_decide_eq_true (by first | (with_reducible assumption) | assumption)
                        have hx8 := bt_at a0 x10_1
                        replace p8 := eq_true p8
                        replace q8 := eq_true q8
                        have p11 : 0 ≤ (x15_2 : Int) := of_decide_eq_true (by first | (with_reducible assumption) | assumption)
                        have q11 : x15_2 < (a1.size : Int) := of_decide_eq_true (by first | (with_reducible assumption) | assumption)
                        have hx11 := bt_at a1 x15_2
                        replace p11 := eq_true p11
                        replace q11 := eq_true q11
                        go_wp2
                        repeat (go_quiet (fail); try go_wp2)
                        go_roundg k2
                        case measure => have := HK1.out; have := HK2.out; omega
                        case rel => exact ⟨(((bt a0 x10_1) == (bt a1 x15_2))), (wrap64 (x15_2 + 1)), (by first | rfl | (simp; done) | (simp [*]; done)), (by first | rfl | (simp; done) | (simp [*]; done)), H', ⟨by have := HK1.out; have := HK2.out; omega⟩, by repeat (first | exact Drawn0.refl _ | apply Drawn0.step)⟩
                      · rw [if_neg c10] at H
                        exact absurd H (by simp)
                    · rw [if_neg c9] at H
                      exact absurd H (by simp)
                  · rw [if_neg c7] at H
                    exact absurd H (by simp)
                · rw [if_neg c6] at H
                  exact absurd H (by simp)
            · rw [if_neg c4] at H
              have c4b0 : decide (x15_2 < (a1.size : Int)) = false := decide_eq_false c4
              clear c4
              by_cases c12 : x6_2 = true
              · subst c12
                have H1 : (firnref09_Part.l0 k2 a0 a1 (a0.size : Int) (wrap64 (x10_1 + 1))) = some r := by rw [if_pos rfl] at H; exact H
                clear H
                have H := H1
                clear H1
                have H' := Aside0.mk H
                clear H
                go_wp2
                repeat (go_quiet (fail); try go_wp2)
                go_roundg k2
                case measure => have := HK1.out; have := HK2.out; omega
                case rel => exact ⟨(wrap64 (x10_1 + 1)), (by first | rfl | (simp; done) | (simp [*]; done)), H', ⟨by have := HK1.out; have := HK2.out; omega⟩, by repeat (first | exact Drawn0.refl _ | apply Drawn0.step)⟩
              · replace c12 := Bool.eq_false_iff.mpr c12
                subst c12
                have H1 : (some false) = some r := by rw [if_neg (show ¬ (false = true) by decide)] at H; exact H
                clear H
                have H := H1
                clear H1
                obtain rfl := Option.some.inj H
                go_wp2
                repeat (go_quiet (fail); try go_wp2)
                go_ret
                exact ⟨by first | rfl | (simp; done) | (simp [*]; done), by repeat (first | exact Drawn0.refl _ | apply Drawn0.step)⟩
      · rw [if_neg c3] at H
        have c3b0 : decide (x10_1 < (a0.size : Int)) = false := decide_eq_false c3
        clear c3
        obtain rfl := Option.some.inj H
        go_wp2
        repeat (go_quiet (fail); try go_wp2)
        go_ret
        exact ⟨by first | rfl | (simp; done) | (simp [*]; done), by repeat (first | exact Drawn0.refl _ | apply Drawn0.step)⟩

end Go.Proofs.YtajeaefpapnkbaaGreatDoor.P
-- WRITTEN FOR THIS CLAIM BY A PROGRAM OF THIS SESSION (wip/tools), which turns the lines of the kit's print
namespace Go.Proofs.YtajeaefpapnkbaaGreatDoor.P
open Go.RowKit Go.Proofs.YtajeaefpapnkbaaGreatDoorW.PrintWords Go.Proofs.YtajeaefpapnkbaaGreatDoorW.PrintLast Go.Proofs.YtajeaefpapnkbaaGreatDoorW.PrintMore
attribute [local go_sem] max2_int min2_int max_two min_two max_three min_three max_four min_four   -- for this text's walks alone
set_option linter.unusedVariables false
set_option linter.unusedSimpArgs false

/-! ### firnref09_Why: function 7 -/
-- IMPORTS Derived.Test.YtajeaefpapnkbaaGreatDoorSetsPlain Derived.Laws.AppendOwn Derived.OwnWalk Derived.Deep.RegionLaw Derived.ArgAppend Derived.Lib.SmallJoins
open Go.Lib
def insAt (ss : List ByteArray) (y : ByteArray) : Nat := ss.findIdx fun x => !Op.bytesLess x.toList y.toList
def insS (ss : List ByteArray) (y : ByteArray) : List ByteArray := ss.take (insAt ss y) ++ ([y] ++ ss.drop (insAt ss y))
def leastB (out same : List ByteArray) (size : Nat) (y : ByteArray) : Bool := (decide (y.size = size) && out.all fun t => !subB t y) && same.all fun t => !decide (t = y)
def stepR (out : List ByteArray) (size : Nat) (same : List ByteArray) (y : ByteArray) : List ByteArray := if leastB out same size y then insS same y else same
def sizeR (l : List S37) (out : List ByteArray) (size : Nat) : List ByteArray := (setsOf l).foldl (stepR out size) []
def whyR (l : List S37) (n : Nat) : List ByteArray := (List.range n).foldl (fun out size => out ++ sizeR l out size) []
theorem whyR_succ (l : List S37) (n : Nat) : whyR l (n + 1) = whyR l n ++ sizeR l (whyR l n) n := by
  unfold whyR
  rw [List.range_succ, List.foldl_append]
  rfl
theorem insAt_le (ss : List ByteArray) (y : ByteArray) : insAt ss y ≤ ss.length := List.findIdx_le_length
theorem insAt_of (ss : List ByteArray) (y : ByteArray) {k : Nat} (hk : k ≤ ss.length) (hl : ∀ j, j < k → Op.bytesLess (ss.getD j ByteArray.empty).toList y.toList = true) (hs : k < ss.length → Op.bytesLess (ss.getD k ByteArray.empty).toList y.toList = false) : insAt ss y = k := by
  unfold insAt
  rcases Nat.lt_or_ge k ss.length with h | h
  · rw [List.findIdx_eq h]
    refine ⟨by have := hs h; rw [getD_lt _ h] at this; rw [this]; rfl, fun j hj => ?_⟩
    have := hl j hj
    rw [getD_lt _ (by omega)] at this
    rw [this]; rfl
  · obtain rfl : k = ss.length := by omega
    rw [List.findIdx_eq_length]
    intro x hx
    obtain ⟨j, hj, rfl⟩ := List.getElem_of_mem hx
    have := hl j hj
    rw [getD_lt _ hj] at this
    rw [this]; rfl
theorem stepR_len (out : List ByteArray) (size : Nat) (same : List ByteArray) (y : ByteArray) : (stepR out size same y).length ≤ same.length + 1 := by
  unfold stepR insS
  have := insAt_le same y
  split
  · simp; omega
  · omega
theorem foldR_len (out : List ByteArray) (size : Nat) : ∀ (L same : List ByteArray), (L.foldl (stepR out size) same).length ≤ same.length + L.length
  | [], _ => Nat.le_refl _
  | y :: L, same => by
    have h1 := foldR_len out size L (stepR out size same y)
    have h2 := stepR_len out size same y
    rw [List.foldl_cons, List.length_cons]
    omega
theorem foldR_take (out : List ByteArray) (size : Nat) (L : List ByteArray) {k : Nat} (hk : k < L.length) : (L.take (k + 1)).foldl (stepR out size) [] = stepR out size ((L.take k).foldl (stepR out size) []) (L.getD k ByteArray.empty) := by
  rw [List.take_succ_eq_append_getElem hk, List.foldl_append, getD_lt _ hk]
  rfl
theorem insS_mem {ss : List ByteArray} {y x : ByteArray} : x ∈ insS ss y ↔ x = y ∨ x ∈ ss := by
  unfold insS
  rw [List.mem_append, List.mem_append, List.mem_singleton]
  constructor
  · rintro (h | h | h)
    · exact .inr (List.mem_of_mem_take h)
    · exact .inl h
    · exact .inr (List.mem_of_mem_drop h)
  · rintro (rfl | h)
    · exact .inr (.inl rfl)
    · rw [← List.take_append_drop (insAt ss y) ss, List.mem_append] at h
      exact h.elim .inl fun h => .inr (.inr h)
theorem foldR_mem (out : List ByteArray) (size : Nat) : ∀ (L same : List ByteArray) {x : ByteArray}, x ∈ L.foldl (stepR out size) same → x ∈ same ∨ x ∈ L
  | [], _, _, h => .inl h
  | y :: L, same, x, h => by
    rcases foldR_mem out size L _ h with h | h
    · unfold stepR at h
      split at h
      · rcases insS_mem.1 h with rfl | h
        · exact .inr List.mem_cons_self
        · exact .inl h
      · exact .inl h
    · exact .inr (List.mem_cons_of_mem _ h)
theorem whyR_len (l : List S37) : ∀ n, (whyR l n).length ≤ n * l.length
  | 0 => Nat.zero_le _
  | n + 1 => by
    rw [whyR_succ, List.length_append]
    have h1 := whyR_len l n
    have h2 : (sizeR l (whyR l n) n).length ≤ 0 + (setsOf l).length := foldR_len _ _ _ _
    have h3 : (setsOf l).length = l.length := by unfold setsOf; rw [List.length_map]
    rw [Nat.succ_mul]
    omega
theorem whyR_mem (l : List S37) : ∀ n {x : ByteArray}, x ∈ whyR l n → x ∈ setsOf l
  | 0, _, h => absurd h List.not_mem_nil
  | n + 1, x, h => by
    rw [whyR_succ, List.mem_append] at h
    rcases h with h | h
    · exact whyR_mem l n h
    · rcases foldR_mem _ _ _ _ h with h | h
      · exact absurd h List.not_mem_nil
      · exact h
/-! ### the callees' values -/
theorem wrap_up {j n : Nat} (h : j < n) (hn : n ≤ 140737488351232) : wrap64 ((j : Int) + 1) = ((j + 1 : Nat) : Int) := by
  rw [wrap64_of (by omega) (by omega)]; omega
theorem wrap_dn {j : Nat} (h0 : 0 < j) (hn : j ≤ 140737488351232) : wrap64 ((j : Int) - 1) = ((j - 1 : Nat) : Int) := by
  rw [wrap64_of (by omega) (by omega)]; omega
theorem part_l1 (a b : ByteArray) (ha : a.size ≤ 140737488351232) (hb : b.size ≤ 140737488351232) (i : Nat) (hi : i < a.size) (r : Bool)
    (h1 : inB b a[i] = true → Ev (fun k => firnref09_Part.l0 k a b (a.size : Int) ((i + 1 : Nat) : Int)) r) (h2 : inB b a[i] = false → r = false) (d : Nat) :
    ∀ q, q ≤ b.size → b.size - q = d → Ev (fun k => firnref09_Part.l1 k a b (i : Int) (inTo b q a[i]) (a.size : Int) (i : Int) (b.size : Int) (q : Int)) r := by
  have hail : i < a.data.toList.length := by rw [← ByteArray_size]; exact hi
  have hbi : bt a (i : Int) = (a[i].toNat : Int) := by rw [bt_lt a hi, getD_lt 0 hail]; simp [ByteArray.getElem_eq_getElem_data]
  induction d with
  | zero =>
    intro q hq hd
    obtain rfl : q = b.size := by omega
    rw [inTo_all]
    cases hin : inB b a[i] with
    | true =>
      refine Ev.step (fun k => ?_) (h1 hin)
      simp only [firnref09_Part.l1]
      rw [if_neg (by omega), if_pos trivial, wrap_up hi ha]
    | false =>
      rw [h2 hin]
      refine Ev.step (f := fun _ => some false) (fun k => ?_) (Ev.now _)
      simp only [firnref09_Part.l1]
      rw [if_neg (by omega), if_neg (by simp)]
  | succ d ih =>
    intro q hq hd
    have hlt : q < b.size := by omega
    have hbl : q < b.data.toList.length := by rw [← ByteArray_size]; exact hlt
    have hbq : bt b (q : Int) = (b[q].toNat : Int) := by rw [bt_lt b hlt, getD_lt 0 hbl]; simp [ByteArray.getElem_eq_getElem_data]
    have hs := inTo_succ b a[i] hlt
    cases hin : inTo b q a[i] with
    | true =>
      rw [hin, Bool.true_or] at hs
      refine Ev.step (fun k => ?_) (ih (q + 1) (by omega) (by omega))
      simp only [firnref09_Part.l1]
      rw [if_pos (by omega), if_pos trivial, wrap_up hlt hb, hs]
    | false =>
      rw [hin, Bool.false_or] at hs
      refine Ev.step (fun k => ?_) (ih (q + 1) (by omega) (by omega))
      simp only [firnref09_Part.l1]
      rw [if_pos (by omega), if_neg (by simp), if_pos (by omega), if_pos (by omega), if_pos (by omega), if_pos (by omega), wrap_up hlt hb, hs, hbi, hbq, eq_i32]
theorem part_l0 (a b : ByteArray) (ha : a.size ≤ 140737488351232) (hb : b.size ≤ 140737488351232) (d : Nat) :
    ∀ i, i ≤ a.size → a.size - i = d → Ev (fun k => firnref09_Part.l0 k a b (a.size : Int) (i : Int)) ((a.data.toList.drop i).all fun c => inB b c) := by
  induction d with
  | zero =>
    intro i hi hd
    obtain rfl : i = a.size := by omega
    have e : a.data.toList.drop a.size = [] := List.drop_of_length_le (by rw [← ByteArray_size]; exact Nat.le_refl _)
    rw [e]
    refine Ev.step (f := fun _ => some true) (fun k => ?_) (Ev.now _)
    simp only [firnref09_Part.l0]
    rw [if_neg (by omega)]
  | succ d ih =>
    intro i hi hd
    have hlt : i < a.size := by omega
    have hail : i < a.data.toList.length := by rw [← ByteArray_size]; exact hlt
    have e : a.data.toList.drop i = a[i] :: a.data.toList.drop (i + 1) := by
      rw [List.drop_eq_getElem_cons hail]
      simp [ByteArray.getElem_eq_getElem_data]
    rw [e, List.all_cons]
    refine Ev.step (fun k => ?_) (part_l1 a b ha hb i hlt _ (fun h => ?_) (fun h => ?_) b.size 0 (by omega) (by omega))
    · simp only [firnref09_Part.l0]
      rw [if_pos (by omega)]
      rfl
    · rw [h, Bool.true_and]; exact ih (i + 1) (by omega) (by omega)
    · rw [h, Bool.false_and]
theorem part_ev (a b : ByteArray) (ha : a.size ≤ 140737488351232) (hb : b.size ≤ 140737488351232) : Ev (fun k => firnref09_Part.f k a b) (subB a b) :=
  part_l0 a b ha hb a.size 0 (by omega) (by omega)
/-- The bytes up to the i-th that differ from the one before them. -/
def keptAt (s : ByteArray) (j : Nat) : Bool := j == 0 || !(bt s (j : Int) == bt s ((j : Int) - 1))
def onceTo (s : ByteArray) (i : Nat) : List UInt8 := ((List.range i).filter (keptAt s)).map fun j => s.data.toList.getD j 0
theorem onceTo_succ (s : ByteArray) (i : Nat) : onceTo s (i + 1) = onceTo s i ++ (if keptAt s i then [s.data.toList.getD i 0] else []) := by
  unfold onceTo
  rw [List.range_succ, List.filter_append, List.map_append, List.filter_cons]
  cases keptAt s i <;> simp
theorem onceTo_len (s : ByteArray) : ∀ i, (onceTo s i).length ≤ i := fun i => by
  unfold onceTo
  rw [List.length_map]
  exact Nat.le_trans (List.length_filter_le _ _) (by simp)
theorem onceB_to (s : ByteArray) : (onceB s).data.toList = onceTo s s.size := by
  rw [once_list]
  unfold runsB Lib.compactUpTo onceTo
  rw [runs_size, List.map_map]
  have h1 : ∀ j ∈ List.range s.size, Lib.keeps (bytesOf s).toArray j = keptAt s j := by
    intro j hj
    rw [List.mem_range] at hj
    unfold keptAt Lib.keeps
    rcases Nat.eq_zero_or_pos j with rfl | h0
    · simp
    · rw [runs_at s hj, runs_at s (show j - 1 < s.size by omega), show ((j - 1 : Nat) : Int) = (j : Int) - 1 by omega, Bool.eq_iff_iff]
      simp
  rw [List.filter_congr h1]
  apply List.map_congr_left
  intro j hj
  have hj2 : j < s.size := by
    have := (List.mem_filter.1 hj).1
    simpa using this
  show UInt8.ofNat ((bytesOf s).toArray[j]!).toNat = _
  rw [runs_at s hj2, bt_lt s hj2]
  simp
theorem once_l0 (s : ByteArray) (hs : s.size ≤ 140737488351232) (d : Nat) : ∀ (i : Nat) (o : ByteArray), i ≤ s.size → s.size - i = d → o.data.toList = onceTo s i → Ev (fun k => firnref09_once.l0 k s o (s.size : Int) (i : Int)) (onceB s) := by
  induction d with
  | zero =>
    intro i o hi hd ho
    obtain rfl : i = s.size := by omega
    rw [show onceB s = o from ba_ext (by rw [onceB_to, ho])]
    refine Ev.step (f := fun _ => some o) (fun k => ?_) (Ev.now _)
    simp only [firnref09_once.l0]
    rw [if_neg (by omega)]
  | succ d ih =>
    intro i o hi hd ho
    have hlt : i < s.size := by omega
    have hw := wrap_up hlt hs
    have hol : o.size ≤ i := by rw [ByteArray_size, ho]; exact onceTo_len s i
    have hex : (s.extract ((i : Int)).toNat (((i + 1 : Nat) : Int)).toNat).data.toList = [s.data.toList.getD i 0] := by
      rw [ByteArray.data_extract]
      have hl : i < s.data.toList.length := by rw [← ByteArray_size]; exact hlt
      simp only [Int.toNat_natCast, Array.toList_extract, List.extract_eq_take_drop]
      rw [show i + 1 - i = 1 by omega, List.drop_eq_getElem_cons hl, getD_lt _ hl]
      rfl
    have hexs : (s.extract ((i : Int)).toNat (((i + 1 : Nat) : Int)).toNat).size = 1 := by rw [ByteArray_size, hex]; rfl
    have happ : ∀ b : ByteArray, (o ++ b).data.toList = o.data.toList ++ b.data.toList := fun b => by rw [ByteArray.data_append]; simp
    have keep : keptAt s i = true → Ev (fun k => firnref09_once.l0 k s (o ++ s.extract ((i : Int)).toNat (((i + 1 : Nat) : Int)).toNat) (s.size : Int) ((i + 1 : Nat) : Int)) (onceB s) := fun hk => by
      refine ih (i + 1) _ (by omega) (by omega) ?_
      rw [happ, hex, onceTo_succ, hk, ho]
      rfl
    rcases Nat.eq_zero_or_pos i with h0 | h0
    · refine Ev.step (fun k => ?_) (keep (by unfold keptAt; rw [h0]; rfl))
      simp only [firnref09_once.l0]
      rw [if_pos (by omega), if_pos (by omega), hw, if_pos (by omega), if_pos (by omega), if_pos (by omega), if_pos (by rw [hexs]; omega)]
    · have hwd := wrap_dn h0 (show i ≤ 140737488351232 by omega)
      have hcast : ((i - 1 : Nat) : Int) = (i : Int) - 1 := by omega
      by_cases hb : bt s (i : Int) = bt s ((i : Int) - 1)
      · have hk : keptAt s i = false := by
          unfold keptAt
          rw [beq_eq_false_iff_ne.2 (show i ≠ 0 by omega), hb]
          simp
        refine Ev.step (fun k => ?_) (ih (i + 1) o (by omega) (by omega) (by rw [onceTo_succ, hk, ho]; simp))
        simp only [firnref09_once.l0]
        rw [if_pos (by omega), if_neg (by omega), if_pos (by omega), if_pos (by omega), hwd, if_pos (by omega), if_pos (by omega), if_pos (by rw [hcast]; exact hb), hw]
      · have hk : keptAt s i = true := by
          unfold keptAt
          rw [beq_eq_false_iff_ne.2 hb]
          simp
        refine Ev.step (fun k => ?_) (keep hk)
        simp only [firnref09_once.l0]
        rw [if_pos (by omega), if_neg (by omega), if_pos (by omega), if_pos (by omega), hwd, if_pos (by omega), if_pos (by omega), if_neg (by rw [hcast]; exact hb), hw, if_pos (by omega), if_pos (by omega), if_pos (by rw [hexs]; omega)]
theorem once_ev (s : ByteArray) (hs : s.size ≤ 140737488351232) : Ev (fun k => firnref09_once.f k s) (onceB s) :=
  once_l0 s hs s.size 0 ⟨#[]⟩ (by omega) (by omega) rfl
theorem once_any (s : ByteArray) (hs : s.size ≤ 140737488351232) (w : World) : Calls Tryz.prog 24 #[.string s] w fun e w' => e = .returned (.string (onceB s)) ∧ Below w.heap.size w w' := by
  obtain ⟨k, hk⟩ := Ev.rounds (once_ev s hs)
  exact (firnref09_once.calls k s _ w hk).mono fun _ _ ⟨h1, h2⟩ => ⟨h1, drawn_below h2 _⟩
theorem partR_any (a b : ByteArray) (ha : a.size ≤ 140737488351232) (hb : b.size ≤ 140737488351232) (w : World) : Calls Tryz.prog 25 #[.string a, .string b] w fun e w' => e = .returned (.bool (subB a b)) ∧ Below w.heap.size w w' := by
  obtain ⟨k, hk⟩ := Ev.rounds (part_ev a b ha hb)
  exact (firnref09_Part.calls k a b _ w hk).mono fun _ _ ⟨h1, h2⟩ => ⟨h1, drawn_below h2 _⟩
set_option maxRecDepth 100000 in
theorem cut3 (A : Option Addr) (n c m : Nat) (hm : m ≤ n) (hc : n ≤ c) (hA : (Value.slice A n c = .slice none 0 0 ∧ n = 0) ∨ ∃ g cap, Value.slice A n c = .slice (some ⟨g, 0, none⟩) n cap) :
    ∀ W : World, (Instr.slice 25 (.slice A n c) none (some (.int .i64 (m : Int))) (some (.int .i64 (m : Int)))).run Tryz.prog W = .ok (.slice A m m) W := by
  obtain ⟨i0, hi0, _, hj1, _⟩ := info_parts infoStr
  have hsz : ∀ w, (Go.sizeOf 9).run Tryz.prog w = .ok 1 w := fun w => by simp [Go.sizeOf, typeInfo, hi0, hj1]
  intro W
  rcases hA with ⟨h, _⟩ | ⟨g, cap, h⟩
  · injection h with h1 h2 h3
    subst h1 h2 h3
    obtain rfl : m = 0 := by omega
    simp [Instr.slice, Instr.sliceBounds, Instr.sliceBound, asIntOf, run_underlying Tryz.underlying25, hsz]
  · injection h with h1 h2 h3
    subst h1
    have h4 : (m : Int) ≤ (c : Int) := by omega
    have h5 : (m : Int) ≤ (n : Int) := by omega
    simp [Instr.slice, Instr.sliceBounds, Instr.sliceBound, asIntOf, run_underlying Tryz.underlying25, hsz, hm, hc, h4, h5, Addr.add_lit]
    intro h
    omega
theorem none_of {A : Option Addr} {n c m : Nat} (hA : (Value.slice A n c = .slice none 0 0 ∧ n = 0) ∨ ∃ g cap, Value.slice A n c = .slice (some ⟨g, 0, none⟩) n cap) (hm : m ≤ n) : A = none → m = 0 ∧ m = 0 := by
  intro h
  rcases hA with ⟨_, h0⟩ | ⟨g, cap, h1⟩
  · omega
  · injection h1 with h1
    rw [h] at h1
    cases h1
theorem reads_cells {W : World} {A : Option Addr} {n : Nat} {xs : List ByteArray} (h : ReadsOf Value.string ByteArray.empty W A n xs) : ∀ b, A = some b → ∀ (j : Nat) (u : Value), (pw_strs xs)[j]? = some u → W.cell? (b.add j) = some u := by
  intro b hb j u hj
  unfold pw_strs at hj
  rw [List.getElem?_map] at hj
  obtain ⟨x, hx, rfl⟩ := Option.map_eq_some_iff.1 hj
  have hl : j < xs.length := (List.getElem?_eq_some_iff.1 hx).1
  obtain ⟨ad, e, hc⟩ := h.2.2 (by have := h.1; omega)
  rw [hb] at e
  injection e with e
  rw [e, hc j (by have := h.1; omega), List.getD_eq_getElem?_getD, hx]
  rfl
/-- append where there is no room, as one step of a region that draws. -/
theorem step_append_grows {P : Program} {ops : Array Oper} {o : Oper} {a : Act} {w : World} {K : Act → World → Prop} {Q : Exit → Act → World → Prop} {E : Prop}
    (hg : o.guard = none) (s x : Operand) (t : TypeId) (hop : o.op = Op.call { callee := Callee.builtin Builtin.append, args := #[s, x], argTypes := #[t, t] })
    (e : TypeId) (i : TypeInfo) (z : Value) (size bytes : Nat) (h1 : P.underlying t = some (.slice e)) (h2 : P.info? e = some i) (h3 : i.zero = some z) (h4 : i.size = size) (h5 : i.bytes = bytes) (h6 : z.cells.size = size) (h7 : 0 < size)
    (ao : Option Addr) (n cap : Nat) (olds : List Value) (hs : a.eval s = .slice ao n cap) (hnone : ao = none → n = 0 ∧ cap = 0) (hlo : olds.length = n * size) (holds : ∀ b, ao = some b → ∀ (j : Nat) (u : Value), olds[j]? = some u → w.cell? (b.add j) = some u)
    (ad : Addr) (m c : Nat) (news : List Value) (hx : a.eval x = .slice (some ad) m c) (hn : news.length = m * size) (hc : ∀ (j : Nat) (u : Value), news[j]? = some u → w.cell? (ad.add j) = some u) (h1c : ∀ u ∈ news, u.oneCell' = true)
    (hfull : cap < n + m) (b1 : n + m ≤ maxLen) (b2 : (n + m) * bytes ≤ 140737488355328)
    (hK : ∀ v' w', w'.ownsRow w.heap.size e size v' (n + m) (olds ++ news) → w.grownBy w' none → K (a.put o.dst v') w') :
    if Region.wanted o (yielded ops a.tmps) = true then Oper.wp P o a w K Q else E := by
  have hw : Region.wanted o (yielded ops a.tmps) = true := by simp [Region.wanted, hg]
  rw [if_pos hw]
  cases ao with
  | some b =>
    obtain ⟨v', w', hrun, r1, r2⟩ := run_append_arg_grows (P := P) w t o.type e i z size bytes h1 h2 h3 h4 h5 h6 h7 b n cap olds hlo (holds b rfl) ad m c news hn hc hfull b1 b2
    unfold Oper.wp
    simp [execOp, hop, resolve, invoke, builtin, hs, hx, hrun, Result.andThen]
    exact hK v' w' r1 r2
  | none =>
    obtain ⟨rfl, rfl⟩ := hnone rfl
    obtain rfl : olds = [] := List.eq_nil_of_length_eq_zero (by simpa using hlo)
    obtain ⟨v', w', hrun, r1, r2, _⟩ := run_append_own (P := P) w w.heap.size t o.type e i z size bytes h1 h2 h3 h4 h5 h6 h7 (.slice none 0 0) 0 [] (World.ownsRow_nil w _ e size) ad m c news hn hc h1c b1 b2 (Nat.le_refl _)
    unfold Oper.wp
    simp [execOp, hop, resolve, invoke, builtin, hs, hx, hrun, Result.andThen]
    exact hK v' w' r1 r2
theorem setsOf_get (l : List S37) {k : Nat} (hk : k < l.length) : (setsOf l).getD k ByteArray.empty = onceB (l.getD k z37).f0 := by
  unfold setsOf
  rw [getD_lt _ (by rw [List.length_map]; exact hk), getD_lt _ hk, List.getElem_map]
theorem validR_any (A : Option Addr) (c : Nat) (l : List S37) (w : World) (hr : Kd.C k37 w A l.length l) (hc : l.length ≤ c) (h : sumIn l = true) :
    Calls Tryz.prog 23 #[.slice A l.length c] w fun e w' => e = .returned (.bool (validB l)) ∧ Below w.heap.size w w' :=
  firnref09_ValidSum.calls A c l _ w hr hc (by unfold firnref09_ValidSum.f; rw [if_pos h])
theorem all_take {α : Type} (p : α → Bool) (xs : List α) (d : α) {q : Nat} (hq : q < xs.length) : (xs.take (q + 1)).all p = ((xs.take q).all p && p (xs.getD q d)) := by
  rw [List.take_succ_eq_append_getElem hq, List.all_append, getD_lt _ hq]
  simp
set_option maxHeartbeats 16000000 in
set_option maxRecDepth 100000 in
theorem refWhy_any (A : Option Addr) (c : Nat) (l : List S37) (w : World) (hr : Kd.C k37 w A l.length l) (hc : l.length ≤ c) (hi : sumIn l = true) (hv : validB l = true) :
    Calls Tryz.prog 7 #[.slice A l.length c] w fun e w' => ∃ v0_ : Value, e = .returned (.tuple #[v0_, .int .i64 0]) ∧ Kd.R Kd.string 9 w' w.heap.size (fun _ => True) v0_ (whyR l 9) ∧ Below w.heap.size w w' := by
  obtain ⟨i0, hi0, hj0, hj1, hj2⟩ := info_parts infoStr
  have hval := validR_any A c l w hr hc hi
  rw [hv] at hval
  have HVal := Lib.hid hval
  clear hval hi
  have h40 : l.length ≤ 40 := by unfold validB at hv; rw [Bool.and_eq_true, decide_eq_true_eq] at hv; exact hv.2
  have HOK := Lib.hid (setsOf_ok hv)
  have HV := Lib.hid hv; clear hv
  go_enter Tryz.func7, Tryz.ntmps7
  go_wp2_with (go_at_call 23; (refine HVal.out.mono ?_); rintro e w1 ⟨rfl, hb1⟩)
  go_loopw [4, 5] (fun v4 v5 wr => ∃ (size : Nat) (out : List ByteArray), v5 = .int .i64 size ∧ size ≤ 9 ∧ wr.ownsRow w.heap.size 9 1 v4 out.length (pw_strs out) ∧ Hid (out = whyR l size) ∧ Below w.heap.size w wr) (fun _ v _ => 9 - (intOf v).toNat)
  case atStart => exact ⟨0, [], rfl, by omega, own_nil _ _ _ _, rfl, hb1⟩
  case round =>
    obtain ⟨size, out, rfl, hsize, hown, HOut, hb⟩ := hrel
    by_cases hs8 : size ≤ 8
    · have hs8z : (size : Int) ≤ 8 := by omega
      have houtl : out.length ≤ 400 := by have := whyR_len l size; rw [← HOut.out] at this; have h2 : size * l.length ≤ 8 * 40 := Nat.mul_le_mul hs8 h40; omega
      have HOutOk : Hid (∀ x ∈ out, okS x) := fun x hx => HOK.out x (whyR_mem l size (by rw [← HOut.out]; exact hx))
      obtain ⟨A4, c4, hv4, hc4, hC4⟩ := Kd.R_reads (Kd.R_of_own (enc := Value.string) (h1 := fun _ => rfl) (ok := fun _ => True) hown (fun _ _ => trivial))
      subst hv4
      have HOwn := Lib.hid hown
      have HC4 := Lib.hid hC4
      clear hown hC4
      go_wp2_with fail
      go_loopw [6, 25] (fun v6 v25 w2 => ∃ (k : Nat) (same : List ByteArray), v25 = .int .i64 k ∧ k ≤ l.length ∧ w2.ownsRow wr.heap.size 9 1 v6 same.length (pw_strs same) ∧ Hid (same = ((setsOf l).take k).foldl (stepR out size) []) ∧ Below wr.heap.size wr w2) (fun _ v _ => l.length - (intOf v).toNat)
      case atStart => exact ⟨0, [], rfl, by omega, own_nil _ _ _ _, rfl, Below.refl _ _⟩
      case round =>
        rename World => w2
        obtain ⟨k, same, rfl, hk, hown6, HSame, hb2⟩ := hrel
        by_cases hlt : k < l.length
        · have hltz : (k : Int) < (l.length : Int) := by omega
          obtain ⟨ad, e1, c0, c1⟩ := at_T37 hr (k : Int) (by omega) (by omega)
          subst e1
          have hx : rd_T37 l (k : Int) = l.getD k z37 := rfl
          rw [hx] at c0 c1
          simp only [Int.toNat_natCast] at c0 c1
          have hsx := (tokB_ascii (prodB_tok (validB_mem HV.out _ (getD_mem z37 hlt)))).2
          have HTK : Hid (((setsOf l).take (k + 1)).foldl (stepR out size) [] = stepR out size same (onceB (l.getD k z37).f0)) := by
            show _ = _
            rw [foldR_take _ _ _ (by unfold setsOf; rw [List.length_map]; exact hlt), setsOf_get l hlt, ← HSame.out]
          have HYok : Hid (okS (onceB (l.getD k z37).f0)) := HOK.out _ (by unfold setsOf; exact List.mem_map_of_mem (getD_mem _ hlt))
          have HSameOk : Hid (∀ x ∈ same, okS x) := fun x hx => by
            rw [HSame.out] at hx
            rcases foldR_mem _ _ _ _ hx with h | h
            · exact absurd h List.not_mem_nil
            · exact HOK.out x (List.mem_of_mem_take h)
          have hsamel : same.length ≤ 40 := by
            have := foldR_len out size ((setsOf l).take k) []
            rw [← HSame.out, List.length_take] at this
            simp at this
            omega
          generalize l.getD k z37 = x at c0 c1 hsx HTK HYok
          clear hx
          have hbw := hb.trans (hb2.mono hb.size)
          replace c0 := cell_later hbw c0
          replace c1 := cell_later hbw c1
          have HOnce := Lib.hid (once_any x.f0 (by omega))
          generalize onceB x.f0 = y at HTK HYok HOnce
          obtain ⟨A6, c6, hv6, hc6, hC6⟩ := Kd.R_reads (Kd.R_of_own (enc := Value.string) (h1 := fun _ => rfl) (ok := fun _ => True) hown6 (fun _ _ => trivial))
          subst hv6
          have HOwn6 := Lib.hid hown6
          have HC6 := Lib.hid hC6
          have HR6 : Hid (ReadsOf Value.string ByteArray.empty w2 A6 same.length same) := by
            obtain ⟨A', c', hv', hr'⟩ := own_reads_of (enc := Value.string) (d := ByteArray.empty) hown6
            injection hv' with e1
            rw [e1]
            exact hr'
          clear hown6 hC6
          obtain ⟨b0, hb0⟩ : ∃ b0, b0 = decide (y.size = size) := ⟨_, rfl⟩
          have hbz : ((y.size : Int) == (size : Int)) = b0 := by rw [hb0, Bool.eq_iff_iff]; simp; omega
          have HB0 := Lib.hid hb0; clear hb0
          go_wp2_with (go_at_call 24; (refine (HOnce.out _).mono ?_); rintro e w3 ⟨rfl, hb3⟩)
          have hb3' : Below w2.heap.size w2 w3 := ((Below.refl _ w2).alloc (Nat.le_refl _) _).trans (hb3.mono (by simp))
          clear hb3 c0 c1
          go_loopw [10, 38] (fun v10 v38 w4 => ∃ (q : Nat) (b : Bool), v10 = .bool b ∧ v38 = .int .i64 q ∧ q ≤ out.length ∧ Hid (b = (decide (y.size = size) && (out.take q).all fun t => !subB t y)) ∧ Below w3.heap.size w3 w4) (fun _ v _ => out.length - (intOf v).toNat)
          case atStart => exact ⟨0, b0, rfl, rfl, by omega, (by show _ = _; rw [HB0.out]; simp), Below.refl _ _⟩
          case round =>
            rename World => w4
            obtain ⟨q, b, rfl, rfl, hq, HB, hb4⟩ := hrel
            have hb24 : Below w2.heap.size w2 w4 := hb3'.trans (hb4.mono hb3'.size)
            by_cases hqlt : q < out.length
            · have hqz : (q : Int) < (out.length : Int) := by omega
              obtain ⟨ad4, e4, c4'⟩ := KC_at_str HC4.out q hqlt
              subst e4
              replace c4' := cell_later (hb2.trans (hb24.mono hb2.size)) c4'
              have HAll := Lib.hid (all_take (fun t => !subB t y) out ByteArray.empty hqlt)
              have HTok := HOutOk.out _ (getD_mem ByteArray.empty hqlt)
              generalize out.getD q ByteArray.empty = t at c4' HAll HTok
              have HPart := Lib.hid (partR_any t y HTok.2 HYok.out.2)
              clear HTok
              cases b with
              | false =>
                go_wp2_with fail
                go_roundw
                case rel => exact ⟨q + 1, false, rfl, by go_num, by omega, (by show _ = _; rw [HAll.out, ← Bool.and_assoc, ← HB.out]; rfl), hb4⟩
                case measure => simp [intOf]; omega
              | true =>
                generalize subB t y = s at HAll HPart
                go_wp2_with (go_at_call 25; (refine (HPart.out _).mono ?_); rintro e w5 ⟨rfl, hb5⟩)
                go_roundw
                case rel => exact ⟨q + 1, !s, rfl, by go_num, by omega, (by show _ = _; rw [HAll.out, ← Bool.and_assoc, ← HB.out]; first | done | simp), hb4.trans (hb5.mono hb4.size)⟩
                case measure => simp [intOf]; omega
            · obtain rfl : q = out.length := by omega
              have hqz : ¬ ((out.length : Int) < (out.length : Int)) := by omega
              have HB1 : Hid (b = (decide (y.size = size) && out.all fun t => !subB t y)) := by show _ = _; rw [HB.out, List.take_of_length_le (Nat.le_refl _)]
              clear HB
              go_wp2_with fail
              go_loopw [10, 52] (fun v10 v52 w5 => ∃ (q : Nat) (b : Bool), v10 = .bool b ∧ v52 = .int .i64 q ∧ q ≤ same.length ∧ Hid (b = ((decide (y.size = size) && out.all fun t => !subB t y) && (same.take q).all fun t => !decide (t = y))) ∧ Below w4.heap.size w4 w5) (fun _ v _ => same.length - (intOf v).toNat)
              case atStart => exact ⟨0, b, rfl, rfl, by omega, (by show _ = _; rw [List.take_zero]; simpa using HB1.out), Below.refl _ _⟩
              case round =>
                clear HB1
                rename World => w5
                obtain ⟨q, b, rfl, rfl, hq, HB, hb5⟩ := hrel
                have hb25 : Below w2.heap.size w2 w5 := hb24.trans (hb5.mono hb24.size)
                by_cases hqlt : q < same.length
                · have hqz : (q : Int) < (same.length : Int) := by omega
                  obtain ⟨ad6, e6, c6'⟩ := KC_at_str HC6.out q hqlt
                  subst e6
                  replace c6' := cell_later hb25 c6'
                  have HAll := Lib.hid (all_take (fun t => !decide (t = y)) same ByteArray.empty hqlt)
                  generalize same.getD q ByteArray.empty = t at c6' HAll
                  have hty : (t.toList == y.toList) = decide (t = y) := by
                    rw [Bool.eq_iff_iff, beq_iff_eq, decide_eq_true_eq]
                    constructor
                    · intro h
                      rw [toList_data, toList_data] at h
                      exact ba_ext h
                    · rintro rfl; rfl
                  cases b with
                  | false =>
                    go_wp2_with fail
                    go_roundw
                    case rel => exact ⟨q + 1, false, rfl, by go_num, by omega, (by show _ = _; rw [HAll.out, ← Bool.and_assoc, ← HB.out]; rfl), hb5⟩
                    case measure => simp [intOf]; omega
                  | true =>
                    have HTY := Lib.hid hty
                    clear hty
                    go_wp2_with fail
                    go_roundw
                    case rel => exact ⟨q + 1, !decide (t = y), (by rw [← HTY.out]; first | done | rfl | simp), by go_num, by omega, (by show _ = _; rw [HAll.out, ← Bool.and_assoc, ← HB.out]; first | done | simp), hb5⟩
                    case measure => simp [intOf]; omega
                · obtain rfl : q = same.length := by omega
                  have hqz : ¬ ((same.length : Int) < (same.length : Int)) := by omega
                  have HB1 : Hid (b = leastB out same size y) := by show _ = _; rw [HB.out, List.take_of_length_le (Nat.le_refl _)]; rfl
                  clear HB
                  cases b with
                  | false =>
                    go_wp2_with fail
                    go_roundw
                    case rel => exact ⟨k + 1, same, by go_num, by omega, own_move HOwn6.out (fun j hj => hb25.block j (own_lt HOwn6.out j hj)), (by show _ = _; rw [HTK.out]; unfold stepR; rw [← HB1.out]; rfl), hb2.trans (hb25.mono hb2.size)⟩
                    case measure => simp [intOf]; omega
                  | true =>
                    have HIns : Hid (((setsOf l).take (k + 1)).foldl (stepR out size) [] = insS same y) := by show _ = _; rw [HTK.out]; unfold stepR; rw [← HB1.out]; rfl
                    clear HTK HB1
                    go_wp2_with fail
                    go_loopw [15] (fun v15 w6 => ∃ at_ : Nat, v15 = .int .i64 at_ ∧ at_ ≤ same.length ∧ Hid (∀ j, j < at_ → Op.bytesLess (same.getD j ByteArray.empty).toList y.toList = true) ∧ Below w5.heap.size w5 w6) (fun v _ => same.length - (intOf v).toNat)
                    case atStart => exact ⟨0, rfl, by omega, fun j hj => absurd hj (Nat.not_lt_zero _), Below.refl _ _⟩
                    case round =>
                      rename World => w6
                      obtain ⟨at_, rfl, hat, HL, hb6⟩ := hrel
                      have hb26 : Below w2.heap.size w2 w6 := hb25.trans (hb6.mono hb25.size)
                      by_cases halt : at_ < same.length
                      · have hatz : (at_ : Int) < (same.length : Int) := by omega
                        have hatd : decide ((at_ : Int) < (same.length : Int)) = true := decide_eq_true hatz
                        obtain ⟨ad6, e6, c6'⟩ := KC_at_str HC6.out at_ halt
                        subst e6
                        replace c6' := cell_later hb26 c6'
                        have HLN : Hid (Op.bytesLess (same.getD at_ ByteArray.empty).toList y.toList = true → ∀ j, j < at_ + 1 → Op.bytesLess (same.getD j ByteArray.empty).toList y.toList = true) := fun h j hj => by
                          rcases Nat.lt_or_ge j at_ with h1 | h1
                          · exact HL.out j h1
                          · obtain rfl : j = at_ := by omega
                            exact h
                        have HLS : Hid (Op.bytesLess (same.getD at_ ByteArray.empty).toList y.toList = false → insAt same y = at_) := fun h => insAt_of same y hat HL.out (fun _ => h)
                        generalize hbl : Op.bytesLess (same.getD at_ ByteArray.empty).toList y.toList = bl at HLN HLS
                        generalize same.getD at_ ByteArray.empty = t at c6' hbl
                        cases bl with
                        | true =>
                          go_wp2_with fail
                          go_roundw
                          case rel => exact ⟨at_ + 1, by go_num, by omega, HLN.out rfl, hb6⟩
                          case measure => simp [intOf]; omega
                        | false =>
                          have HIn := Lib.hid (HLS.out rfl)
                          clear HLN HLS HL
                          clear HC4
                          go_wp2_with fail
                          have hcut3 := cut3 (some ad6) same.length c6 at_ hat hc6 (Joins.ownsRow_forms HOwn6.out)
                          obtain ⟨A7, hcut7, hread7⟩ := print_cut_of (P := Tryz.prog) Value.string ByteArray.empty 25 9 .i64 Tryz.underlying25 hi0 hj1 (some ad6) same.length c6 at_ hat
                          have hbd : Below w6.heap.size w6 (w6.alloc (.cells #[.string y] 9)).drew := ((Below.refl _ w6).alloc (Nat.le_refl _) _).drew
                          have hR6 := HR6.out.below hb26
                          have HR7 : Hid (Kd.C Kd.string (w6.alloc (.cells #[.string y] 9)).drew A7 (same.length - at_) (same.drop at_)) := Kd.C_of_reads (h1 := fun _ => rfl) ((hread7 w6 same hc6 hR6).below hbd)
                          have HTk : Hid (ReadsOf Value.string ByteArray.empty w6 (some ad6) at_ (same.take at_)) := hR6.take_ at_ hat
                          have HLit : Hid (Kd.R Kd.string 9 (w6.alloc (.cells #[.string y] 9)).drew w6.heap.size (fun _ => True) (.slice (some ⟨w6.heap.size, 0, none⟩) 1 1) [y]) :=
                            Kd.R_drew (Kd.R_of_own (enc := Value.string) (h1 := fun _ => rfl) (World.ownsRow_lit w6 #[.string y] 1 (Nat.le_refl _) (by decide) rfl) (fun _ _ => trivial))
                          have HBd := Lib.hid hbd
                          have HNone := Lib.hid (none_of (Joins.ownsRow_forms HOwn6.out) hat)
                          clear hread7 hR6 hbd
                          go_region_law (first
                            | (refine Kd.R_append_rows_step Kd.string (w0 := w6) w6.heap.size ?hW (.tmp 84) (.tmp 87) 25 9 (.string ⟨#[]⟩) 16 rfl Tryz.underlying25 infoStr rfl (by decide) (by omega) (.slice (some ⟨w6.heap.size, 0, none⟩) 1 1) [y] (same.drop at_) A7 (same.length - at_) (c6 - at_) (fun _ => True) (fun _ => False) ?hS ?hX HLit.out HR7.out (fun _ _ h => h) (fun _ h => h.elim) (fun _ _ => trivial) HBd.out ?hB ?hL ?_
                               case hW => simp [Region.wanted]
                               case hS => simp [Act.eval, Act.put]
                               case hX => simp [Act.eval, Act.put]
                               case hB => simp
                               case hL => simp; omega
                               intro v1 w7 HO1 HB1 _ _
                               obtain ⟨g7, c7, hv7, hg7, _⟩ := Kd.R_form HO1 (by simp)
                               subst hv7
                               have HO7 := Lib.hid (Kd.own_of_R HO1)
                               have HB7 := Lib.hid HB1
                               clear HO1 HB1 hg7)
                            | (refine step_append_grows rfl (.tmp 82) (.tmp 88) 25 rfl 9 i0 (.string ⟨#[]⟩) 1 16 Tryz.underlying25 hi0 hj0 hj1 hj2 rfl (by decide) (some ad6) at_ at_ (pw_strs (same.take at_)) ?hS HNone.out ?hO (reads_cells (HTk.out.below HB7.out)) ⟨g7, 0, none⟩ ([y] ++ same.drop at_).length c7 (pw_strs ([y] ++ same.drop at_)) ?hX ?hN (HO7.out.cells rfl) ?hC ?hF ?hM ?hL ?_
                               case hS => simp [Act.eval, Act.put]
                               case hO => unfold pw_strs; rw [List.length_map, List.length_take]; omega
                               case hX => simp [Act.eval, Act.put]
                               case hN => unfold pw_strs; rw [List.length_map]; omega
                               case hC => intro u hu; unfold pw_strs at hu; obtain ⟨_, _, rfl⟩ := List.mem_map.1 hu; rfl
                               case hF => simp
                               case hM => unfold maxLen; simp; omega
                               case hL => simp; omega
                               intro v8 w8 hown8 hg8))
                          have hlen8 : at_ + ([y] ++ same.drop at_).length = (insS same y).length := by unfold insS; rw [HIn.out]; simp only [List.length_append, List.length_take]; omega
                          have hrow8 : pw_strs (same.take at_) ++ pw_strs ([y] ++ same.drop at_) = pw_strs (insS same y) := by unfold insS pw_strs; rw [HIn.out, ← List.map_append]
                          rw [hlen8, hrow8] at hown8
                          have hb28 : Below w2.heap.size w2 w8 := (hb26.trans (HB7.out.mono hb26.size)).grown hg8 (by have := hb26.size; have := HB7.out.size; omega) (fun j hj => by cases hj)
                          have hown9 := Joins.ownsRow_le hown8 (show wr.heap.size ≤ w7.heap.size by have := hb2.size; have := hb26.size; have := HB7.out.size; omega)
                          have HO9 := Lib.hid hown9
                          clear hown8 hown9 hlen8 hrow8 hg8
                          go_wp2
                          go_roundw
                          case rel => exact ⟨k + 1, insS same y, by go_num, by omega, HO9.out, HIns.out.symm, hb2.trans (hb28.mono hb2.size)⟩
                          case measure => simp [intOf]; omega
                      · have hatd : decide ((at_ : Int) < (same.length : Int)) = false := decide_eq_false (by omega)
                        have HIn : Hid (insAt same y = at_) := insAt_of same y hat HL.out (fun h => absurd h halt)
                        clear HL
                        clear HC4
                        go_wp2_with fail
                        have hcut3 := cut3 (A6) same.length c6 at_ hat hc6 (Joins.ownsRow_forms HOwn6.out)
                        obtain ⟨A7, hcut7, hread7⟩ := print_cut_of (P := Tryz.prog) Value.string ByteArray.empty 25 9 .i64 Tryz.underlying25 hi0 hj1 (A6) same.length c6 at_ hat
                        have hbd : Below w6.heap.size w6 (w6.alloc (.cells #[.string y] 9)).drew := ((Below.refl _ w6).alloc (Nat.le_refl _) _).drew
                        have hR6 := HR6.out.below hb26
                        have HR7 : Hid (Kd.C Kd.string (w6.alloc (.cells #[.string y] 9)).drew A7 (same.length - at_) (same.drop at_)) := Kd.C_of_reads (h1 := fun _ => rfl) ((hread7 w6 same hc6 hR6).below hbd)
                        have HTk : Hid (ReadsOf Value.string ByteArray.empty w6 (A6) at_ (same.take at_)) := hR6.take_ at_ hat
                        have HLit : Hid (Kd.R Kd.string 9 (w6.alloc (.cells #[.string y] 9)).drew w6.heap.size (fun _ => True) (.slice (some ⟨w6.heap.size, 0, none⟩) 1 1) [y]) :=
                          Kd.R_drew (Kd.R_of_own (enc := Value.string) (h1 := fun _ => rfl) (World.ownsRow_lit w6 #[.string y] 1 (Nat.le_refl _) (by decide) rfl) (fun _ _ => trivial))
                        have HBd := Lib.hid hbd
                        have HNone := Lib.hid (none_of (Joins.ownsRow_forms HOwn6.out) hat)
                        clear hread7 hR6 hbd
                        go_region_law (first
                          | (refine Kd.R_append_rows_step Kd.string (w0 := w6) w6.heap.size ?hW (.tmp 84) (.tmp 87) 25 9 (.string ⟨#[]⟩) 16 rfl Tryz.underlying25 infoStr rfl (by decide) (by omega) (.slice (some ⟨w6.heap.size, 0, none⟩) 1 1) [y] (same.drop at_) A7 (same.length - at_) (c6 - at_) (fun _ => True) (fun _ => False) ?hS ?hX HLit.out HR7.out (fun _ _ h => h) (fun _ h => h.elim) (fun _ _ => trivial) HBd.out ?hB ?hL ?_
                             case hW => simp [Region.wanted]
                             case hS => simp [Act.eval, Act.put]
                             case hX => simp [Act.eval, Act.put]
                             case hB => simp
                             case hL => simp; omega
                             intro v1 w7 HO1 HB1 _ _
                             obtain ⟨g7, c7, hv7, hg7, _⟩ := Kd.R_form HO1 (by simp)
                             subst hv7
                             have HO7 := Lib.hid (Kd.own_of_R HO1)
                             have HB7 := Lib.hid HB1
                             clear HO1 HB1 hg7)
                          | (refine step_append_grows rfl (.tmp 82) (.tmp 88) 25 rfl 9 i0 (.string ⟨#[]⟩) 1 16 Tryz.underlying25 hi0 hj0 hj1 hj2 rfl (by decide) (A6) at_ at_ (pw_strs (same.take at_)) ?hS HNone.out ?hO (reads_cells (HTk.out.below HB7.out)) ⟨g7, 0, none⟩ ([y] ++ same.drop at_).length c7 (pw_strs ([y] ++ same.drop at_)) ?hX ?hN (HO7.out.cells rfl) ?hC ?hF ?hM ?hL ?_
                             case hS => simp [Act.eval, Act.put]
                             case hO => unfold pw_strs; rw [List.length_map, List.length_take]; omega
                             case hX => simp [Act.eval, Act.put]
                             case hN => unfold pw_strs; rw [List.length_map]; omega
                             case hC => intro u hu; unfold pw_strs at hu; obtain ⟨_, _, rfl⟩ := List.mem_map.1 hu; rfl
                             case hF => simp
                             case hM => unfold maxLen; simp; omega
                             case hL => simp; omega
                             intro v8 w8 hown8 hg8))
                        have hlen8 : at_ + ([y] ++ same.drop at_).length = (insS same y).length := by unfold insS; rw [HIn.out]; simp only [List.length_append, List.length_take]; omega
                        have hrow8 : pw_strs (same.take at_) ++ pw_strs ([y] ++ same.drop at_) = pw_strs (insS same y) := by unfold insS pw_strs; rw [HIn.out, ← List.map_append]
                        rw [hlen8, hrow8] at hown8
                        have hb28 : Below w2.heap.size w2 w8 := (hb26.trans (HB7.out.mono hb26.size)).grown hg8 (by have := hb26.size; have := HB7.out.size; omega) (fun j hj => by cases hj)
                        have hown9 := Joins.ownsRow_le hown8 (show wr.heap.size ≤ w7.heap.size by have := hb2.size; have := hb26.size; have := HB7.out.size; omega)
                        have HO9 := Lib.hid hown9
                        clear hown8 hown9 hlen8 hrow8 hg8
                        go_wp2
                        go_roundw
                        case rel => exact ⟨k + 1, insS same y, by go_num, by omega, HO9.out, HIns.out.symm, hb2.trans (hb28.mono hb2.size)⟩
                        case measure => simp [intOf]; omega
        · obtain rfl : k = l.length := by omega
          have hltz : ¬ ((l.length : Int) < (l.length : Int)) := by omega
          have HS : Hid (same = sizeR l out size) := by
            show _ = _
            rw [HSame.out, List.take_of_length_le (by unfold setsOf; rw [List.length_map]; exact Nat.le_refl _)]
            rfl
          have hsamel : same.length ≤ 40 := by
            have := foldR_len out size ((setsOf l).take l.length) []
            rw [← HSame.out, List.length_take] at this
            simp at this
            omega
          obtain ⟨A6, c6, hv6, hc6, hC6⟩ := Kd.R_reads (Kd.R_of_own (enc := Value.string) (h1 := fun _ => rfl) (ok := fun _ => True) hown6 (fun _ _ => trivial))
          subst hv6
          have HC6 := Lib.hid hC6
          have HRO : Hid (Kd.R Kd.string 9 w2 w.heap.size (fun _ => True) (.slice A4 out.length c4) out) := Kd.R_of_own (enc := Value.string) (h1 := fun _ => rfl) (own_move HOwn.out (fun j hj => hb2.block j (own_lt HOwn.out j hj))) (fun _ _ => trivial)
          have hbw := hb.trans (hb2.mono hb.size)
          clear hown6 hC6
          go_wp2_with (at_builtin; refine Kd.R_append_rows Kd.string (w0 := w) w.heap.size rfl _ _ 25 9 (.string ⟨#[]⟩) 16 rfl Tryz.underlying25 infoStr rfl (by decide) (by omega) _ out same A6 same.length c6 (fun _ => True) (fun _ => False) rfl rfl HRO.out HC6.out (fun _ _ h => h) (fun _ h => h.elim) (fun _ _ => trivial) hbw ?cS ?cL ?_)
          case cS => exact hbw.size
          case cL => omega
          intro v1 w3 HO1 HB1 _ _
          have HO3 := Lib.hid (Kd.own_of_R HO1)
          have HB3 := Lib.hid HB1
          clear HO1 HB1
          go_wp2
          go_roundw
          case rel => exact ⟨size + 1, out ++ same, by go_num, by omega, HO3.out, (by show _ = _; rw [whyR_succ, ← HOut.out, ← HS.out]), HB3.out⟩
          case measure => simp [intOf]; omega
    · obtain rfl : size = 9 := by omega
      have hs8z : ¬ (((9 : Nat) : Int) ≤ 8) := by omega
      obtain ⟨A4, c4, hv4, hc4, _⟩ := Kd.R_reads (Kd.R_of_own (enc := Value.string) (h1 := fun _ => rfl) (ok := fun _ => True) hown (fun _ _ => trivial))
      subst hv4
      have HR9 : Hid (Kd.R Kd.string 9 wr w.heap.size (fun _ => True) (.slice A4 out.length c4) (whyR l 9)) := by
        rw [← HOut.out]
        exact Kd.R_of_own (enc := Value.string) (h1 := fun _ => rfl) hown (fun _ _ => trivial)
      clear hown
      go_wp2
      go_ret2
      exact ⟨_, rfl, HR9.out, hb⟩
theorem refWhy_bad (A : Option Addr) (c : Nat) (l : List S37) (w : World) (hr : Kd.C k37 w A l.length l) (hc : l.length ≤ c) (hi : sumIn l = true) (hv : validB l = false) :
    Calls Tryz.prog 7 #[.slice A l.length c] w fun e w' => e = .returned (.tuple #[.slice none 0 0, .int .i64 92]) ∧ Below w.heap.size w w' := by
  have hval := validR_any A c l w hr hc hi
  rw [hv] at hval
  have HVal := Lib.hid hval
  clear hval hi hv
  go_enter Tryz.func7, Tryz.ntmps7
  go_wp2_with (go_at_call 23; (refine HVal.out.mono ?_); rintro e w1 ⟨rfl, hb1⟩)
  go_ret2
  exact ⟨rfl, hb1⟩
def firnref09_Why.f (l0 : List S37) : Option (List ByteArray × Int) := if sumIn l0 then (if validB l0 then some (whyR l0 9, 0) else some ([], 92)) else none
theorem firnref09_Why.calls (A0 : Option Addr) (c0 : Nat) (l0 : List S37) (r1 : List ByteArray) (r2 : Int) (w : World) (hr0 : Kd.C k37 w A0 l0.length l0) (hc0 : l0.length ≤ c0) (h : firnref09_Why.f l0 = some (r1, r2)) :
    Calls Tryz.prog 7 #[.slice A0 l0.length c0] w fun e w' => ∃ v0_ : Value, e = .returned (.tuple #[v0_, .int .i64 r2]) ∧ Kd.R Kd.string 9 w' w.heap.size (fun _ => True) v0_ r1 ∧ Below w.heap.size w w' := by
  unfold firnref09_Why.f at h
  split at h
  · rename_i hi
    split at h
    · rename_i hv
      have h := Option.some.inj h
      rw [Prod.mk.injEq] at h
      obtain ⟨rfl, rfl⟩ := h
      exact refWhy_any A0 c0 l0 w hr0 hc0 hi hv
    · rename_i hv
      have h := Option.some.inj h
      rw [Prod.mk.injEq] at h
      obtain ⟨rfl, rfl⟩ := h
      refine (refWhy_bad A0 c0 l0 w hr0 hc0 hi (by simpa using hv)).mono ?_
      rintro e w' ⟨rfl, hb⟩
      exact ⟨_, rfl, Kd.R_nil _ _ _ _ _, hb⟩
  · cases h

end Go.Proofs.YtajeaefpapnkbaaGreatDoor.P
-- WRITTEN FOR THIS CLAIM BY A PROGRAM OF THIS SESSION (wip/tools), which turns the lines of the kit's print
namespace Go.Proofs.YtajeaefpapnkbaaGreatDoor.P
open Go.RowKit Go.Proofs.YtajeaefpapnkbaaGreatDoorW.PrintWords Go.Proofs.YtajeaefpapnkbaaGreatDoorW.PrintLast Go.Proofs.YtajeaefpapnkbaaGreatDoorW.PrintMore
attribute [local go_sem] max2_int min2_int max_two min_two max_three min_three max_four min_four   -- for this text's walks alone
set_option linter.unusedVariables false
set_option linter.unusedSimpArgs false

/-! ### firnref09_SameTexts: function 8 -/
def firnref09_SameTexts.l0 : Nat → List ByteArray → List ByteArray → Int → Int → Option (Bool)
  | 0, _, _, _, _ => none
  | k + 1, x0, x1, x12, x13 => if x13 < x12 then (if 0 ≤ x13 then (if x13 < (x0.length : Int) then (if x13 < (x1.length : Int) then (if (rdOf ByteArray.empty x0 x13).toList = (rdOf ByteArray.empty x1 x13).toList then (firnref09_SameTexts.l0 k x0 x1 x12 (wrap64 (x13 + 1))) else (some false)) else (none)) else (none)) else (none)) else (some true)
def firnref09_SameTexts.f (k : Nat) (l0 : List ByteArray) (l1 : List ByteArray) : Option (Bool) := if (l0.length : Int) = (l1.length : Int) then (firnref09_SameTexts.l0 k l0 l1 (l0.length : Int) 0) else (some false)
theorem firnref09_SameTexts.mono_l : ∀ k, (∀ y0 y1 y2 y3, LeO (firnref09_SameTexts.l0 k y0 y1 y2 y3) (firnref09_SameTexts.l0 (k + 1) y0 y1 y2 y3))
  | 0 => fun _ _ _ _ r h => by simp [firnref09_SameTexts.l0] at h
  | k + 1 => by
    have ih0 := firnref09_SameTexts.mono_l k
    · intro y0 y1 y2 y3
      unfold firnref09_SameTexts.l0
      repeat' first
      | (with_reducible exact ih0 _ _ _ _)
      | (with_reducible exact LeO.refl _)
      | (with_reducible exact LeO.none _)
      | (with_reducible refine LeO.ite ?_ ?_)
      | (with_reducible refine LeO.bind ?_ (fun _ => ?_))
      | exact ih0 _ _ _ _
      | exact LeO.none _
      | refine LeO.ite ?_ ?_
      | refine LeO.bind ?_ (fun _ => ?_)
theorem firnref09_SameTexts.mono : ∀ a0 a1 k, LeO (firnref09_SameTexts.f k a0 a1) (firnref09_SameTexts.f (k + 1) a0 a1) := by
  intro a0 a1 k
  have ih0 := firnref09_SameTexts.mono_l k
  unfold firnref09_SameTexts.f
  repeat' first
      | (with_reducible exact ih0 _ _ _ _)
      | (with_reducible exact LeO.refl _)
      | (with_reducible exact LeO.none _)
      | (with_reducible refine LeO.ite ?_ ?_)
      | (with_reducible refine LeO.bind ?_ (fun _ => ?_))
      | exact ih0 _ _ _ _
      | exact LeO.none _
      | refine LeO.ite ?_ ?_
      | refine LeO.bind ?_ (fun _ => ?_)
set_option maxHeartbeats 8000000 in
set_option maxRecDepth 100000 in
theorem firnref09_SameTexts.calls (k : Nat) (A0 : Option Addr) (c0 : Nat) (l0 : List ByteArray) (A1 : Option Addr) (c1 : Nat) (l1 : List ByteArray) (r : Bool) (w : World) (hr0 : Kd.C Kd.string w A0 l0.length l0) (hc0 : l0.length ≤ c0) (hr1 : Kd.C Kd.string w A1 l1.length l1) (hc1 : l1.length ≤ c1) (h : firnref09_SameTexts.f k l0 l1 = some r) :
    Calls Tryz.prog 8 #[.slice A0 l0.length c0, .slice A1 l1.length c1] w fun e w' => e = .returned (.bool r) ∧ Drawn0 w w' := by
  have HR0 := Aside0.mk hr0
  have HC0 := Aside0.mk hc0
  clear hr0 hc0
  have HR1 := Aside0.mk hr1
  have HC1 := Aside0.mk hc1
  clear hr1 hc1
  have H : (if (l0.length : Int) = (l1.length : Int) then (firnref09_SameTexts.l0 k l0 l1 (l0.length : Int) 0) else (some false)) = some r := h
  clear h
  by_cases c3 : (l0.length : Int) = (l1.length : Int)
  · rw [if_pos c3] at H
    have c3b0 : ((l0.length : Int) == (l1.length : Int)) = true := beq_iff_eq.mpr c3
    have c3b1 : ((l0.length : Int) != (l1.length : Int)) = false := bne_eq_false_iff_eq.mpr c3
    have c3b2 : (l0.length == l1.length) = true := by first | simpa using c3 | (simp at c3 ⊢; omega)
    clear c3
    have H' := Aside0.mk H
    clear H
    go_enter Tryz.func8, Tryz.ntmps8
    go_wp2
    repeat (go_quiet (fail); try go_wp2)
    go_loopg [13] k (fun kq v13 w' => ∃ (x13_1 : Int), v13 = .int .i64 x13_1 ∧ Aside0 (firnref09_SameTexts.l0 kq l0 l1 (l0.length : Int) x13_1 = some r) ∧ Aside0 (kq ≤ k) ∧ Drawn0 w w')
    case atStart => exact ⟨(0), (by first | rfl | (simp; done) | (simp [*]; done)), H', ⟨Nat.le_refl _⟩, by repeat (first | exact Drawn0.refl _ | apply Drawn0.step)⟩
    case round =>
      clear H'
      try clear c1
      try clear p2
      try clear c3
      try clear c3b0
      try clear c3b1
      try clear c3b2
      obtain ⟨x13_1, rfl, HA, HK1, ⟨m1, rfl⟩⟩ := hrel
      cases gk with
      | zero => exact absurd HA.out (by simp [firnref09_SameTexts.l0])
      | succ k1 =>
        have H := HA.out
        clear HA
        simp only [firnref09_SameTexts.l0] at H
        by_cases c4 : x13_1 < (l0.length : Int)
        · rw [if_pos c4] at H
          have c4b0 : decide (x13_1 < (l0.length : Int)) = true := decide_eq_true c4
          clear c4
          by_cases c5 : 0 ≤ x13_1
          · rw [if_pos c5] at H
            have c5b0 : decide (0 ≤ x13_1) = true := decide_eq_true c5
            clear c5
            by_cases c6 : x13_1 < (l0.length : Int)
            · rw [if_pos c6] at H
              have c6b0 : decide (x13_1 < (l0.length : Int)) = true := decide_eq_true c6
              clear c6
              by_cases c7 : x13_1 < (l1.length : Int)
              · rw [if_pos c7] at H
                have c7b0 : decide (x13_1 < (l1.length : Int)) = true := decide_eq_true c7
                clear c7
                by_cases c8 : (rdOf ByteArray.empty l0 x13_1).toList = (rdOf ByteArray.empty l1 x13_1).toList
                · rw [if_pos c8] at H
                  have c8b0 : ((rdOf ByteArray.empty l0 x13_1).toList == (rdOf ByteArray.empty l1 x13_1).toList) = true := beq_iff_eq.mpr c8
                  have c8b1 : ((rdOf ByteArray.empty l0 x13_1).toList != (rdOf ByteArray.empty l1 x13_1).toList) = false := bne_eq_false_iff_eq.mpr c8
                  clear c8
                  have H' := Aside0.mk H
                  clear H
                  have p124 : 0 ≤ (x13_1 : Int) := of_decide_eq_true (by first | (with_reducible assumption) | assumption)
                  have q124 : x13_1 < (l0.length : Int) := of_decide_eq_true (by first | (with_reducible assumption) | assumption)
                  obtain ⟨ad124, e124, hx124_0⟩ := Kd.at_string HR0.out x13_1 p124 q124
                  cases e124
                  replace p124 := eq_true p124
                  replace q124 := eq_true q124
                  have p125 : 0 ≤ (x13_1 : Int) := of_decide_eq_true (by first | (with_reducible assumption) | assumption)
                  have q125 : x13_1 < (l1.length : Int) := of_decide_eq_true (by first | (with_reducible assumption) | assumption)
                  obtain ⟨ad125, e125, hx125_0⟩ := Kd.at_string HR1.out x13_1 p125 q125
                  cases e125
                  replace p125 := eq_true p125
                  replace q125 := eq_true q125
                  go_wp2
                  repeat (go_quiet (fail); try go_wp2)
                  go_roundg k1
                  case measure => have := HK1.out; omega
                  case rel => exact ⟨(wrap64 (x13_1 + 1)), (by first | rfl | (simp; done) | (simp [*]; done)), H', ⟨by have := HK1.out; omega⟩, by repeat (first | exact Drawn0.refl _ | apply Drawn0.step)⟩
                · rw [if_neg c8] at H
                  have c8b0 : ((rdOf ByteArray.empty l0 x13_1).toList == (rdOf ByteArray.empty l1 x13_1).toList) = false := beq_eq_false_iff_ne.mpr c8
                  have c8b1 : ((rdOf ByteArray.empty l0 x13_1).toList != (rdOf ByteArray.empty l1 x13_1).toList) = true := bne_iff_ne.mpr c8
                  obtain rfl := Option.some.inj H
                  have p124 : 0 ≤ (x13_1 : Int) := of_decide_eq_true (by first | (with_reducible assumption) | assumption)
                  have q124 : x13_1 < (l0.length : Int) := of_decide_eq_true (by first | (with_reducible assumption) | assumption)
                  obtain ⟨ad124, e124, hx124_0⟩ := Kd.at_string HR0.out x13_1 p124 q124
                  cases e124
                  replace p124 := eq_true p124
                  replace q124 := eq_true q124
                  have p125 : 0 ≤ (x13_1 : Int) := of_decide_eq_true (by first | (with_reducible assumption) | assumption)
                  have q125 : x13_1 < (l1.length : Int) := of_decide_eq_true (by first | (with_reducible assumption) | assumption)
                  obtain ⟨ad125, e125, hx125_0⟩ := Kd.at_string HR1.out x13_1 p125 q125
                  cases e125
                  replace p125 := eq_true p125
                  replace q125 := eq_true q125
                  go_wp2
                  repeat (go_quiet (fail); try go_wp2)
                  go_ret
                  exact ⟨by first | rfl | (simp; done) | (simp [*]; done), by repeat (first | exact Drawn0.refl _ | apply Drawn0.step)⟩
              · rw [if_neg c7] at H
                exact absurd H (by simp)
            · rw [if_neg c6] at H
              exact absurd H (by simp)
          · rw [if_neg c5] at H
            exact absurd H (by simp)
        · rw [if_neg c4] at H
          have c4b0 : decide (x13_1 < (l0.length : Int)) = false := decide_eq_false c4
          clear c4
          obtain rfl := Option.some.inj H
          go_wp2
          repeat (go_quiet (fail); try go_wp2)
          go_ret
          exact ⟨by first | rfl | (simp; done) | (simp [*]; done), by repeat (first | exact Drawn0.refl _ | apply Drawn0.step)⟩
  · rw [if_neg c3] at H
    have c3b0 : ((l0.length : Int) == (l1.length : Int)) = false := beq_eq_false_iff_ne.mpr c3
    have c3b1 : ((l0.length : Int) != (l1.length : Int)) = true := bne_iff_ne.mpr c3
    have c3b2 : (l0.length == l1.length) = false := by first | simpa using c3 | (simp at c3 ⊢; omega)
    obtain rfl := Option.some.inj H
    go_enter Tryz.func8, Tryz.ntmps8
    go_wp2
    repeat (go_quiet (fail); try go_wp2)
    go_ret
    exact ⟨by first | rfl | (simp; done) | (simp [*]; done), by repeat (first | exact Drawn0.refl _ | apply Drawn0.step)⟩

end Go.Proofs.YtajeaefpapnkbaaGreatDoor.P
