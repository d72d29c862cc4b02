/- Pass: no number of the two lists is wrong. -/
import Derived.Test.YtpiciiglncdbpaaGreatDoorLinkPass
import Derived.Test.YtpiciiglncdbpaaGreatDoorF29
import Derived.Deep.RegionHeld3
import Derived.Deep.DrawnRows
namespace Go.Proofs.YtpiciiglncdbpaaGreatDoor.LK
open Go.RowKit Go.Proofs.YtpiciiglncdbpaaGreatDoorW.PrintWords Go.Proofs.YtpiciiglncdbpaaGreatDoor.P
variable {B : Nat} {F : Nat → Prop} {W : World} {b : Nat} {win seen : Int} {vp vn vs : Value} {pole north : List ByteArray} {sent : List Int}
set_option maxRecDepth 100000 in
theorem not_makes (g : Nat) (lb : Array Value) (w : World) : Calls Tryz.prog 27 #[.func (.func g) #[] lb] w fun e w' => e = .returned (.func (.func 28) #[] #[.pointer (some ⟨w.heap.size, 0, none⟩)]) ∧ w' = w.alloc (.cells #[.func (.func g) #[] lb] 56) := by
  go_enter Tryz.func27, Tryz.ntmps27
  go_wp2
  go_ret
  exact ⟨rfl, rfl⟩
set_option maxRecDepth 100000 in
theorem not_letter (n : Int) (m cn q1 q2 q3 : Nat) (An : Option Addr) (h : LinkAt B F W b win seen vp vn vs pole north sent) (h1 : W.cell? ⟨q1, 0, none⟩ = some (.pointer (some ⟨b, 0, none⟩))) (h2 : W.cell? ⟨q2, 0, none⟩ = some (.slice An m cn)) (hs : sent.length ≤ 5000) (hm : m ≤ 5000)
    (h3 : W.cell? ⟨q3, 0, none⟩ = some (.func (.func 25) #[] #[.pointer (some ⟨q1, 0, none⟩), .pointer (some ⟨q2, 0, none⟩)])) :
    Calls Tryz.prog 28 #[.int .i64 n, .pointer (some ⟨q3, 0, none⟩)] W fun e w' => e = .returned (.bool (!(decide (-(sent.length : Int) ≤ n) && decide (n ≤ (m : Int) - 1)))) ∧ Below W.heap.size W w' := by
  have HL := Lib.hid (letter_any n m cn q1 q2 An h h1 h2 hs hm)
  generalize (decide (-(sent.length : Int) ≤ n) && decide (n ≤ (m : Int) - 1)) = r at HL ⊢
  clear h h1 h2
  go_enter Tryz.func28, Tryz.ntmps28
  go_wp2_with (go_at_call 25; (refine HL.out.mono ?_); rintro e w1 ⟨rfl, hb1⟩)
  go_ret
  exact ⟨rfl, hb1⟩
set_option maxRecDepth 100000 in
theorem not_receipt (n : Int) (m cn q1 q3 : Nat) (An : Option Addr) (h1 : W.cell? ⟨q1, 0, none⟩ = some (.slice An m cn)) (hm : m ≤ 5000)
    (h3 : W.cell? ⟨q3, 0, none⟩ = some (.func (.func 26) #[] #[.pointer (some ⟨q1, 0, none⟩)])) :
    Calls Tryz.prog 28 #[.int .i64 n, .pointer (some ⟨q3, 0, none⟩)] W fun e w' => e = .returned (.bool (!(decide (0 ≤ n) && decide (n ≤ (m : Int) - 1)))) ∧ Below W.heap.size W w' := by
  have HL := Lib.hid (receipt_any n m cn q1 An h1 hm)
  generalize (decide (0 ≤ n) && decide (n ≤ (m : Int) - 1)) = r at HL ⊢
  clear h1
  go_enter Tryz.func28, Tryz.ntmps28
  go_wp2_with (go_at_call 26; (refine HL.out.mono ?_); rintro e w' ⟨rfl, hw'⟩; obtain rfl : W = w' := hw'.symm)
  go_ret
  exact ⟨rfl, Below.refl _ W⟩
theorem enters28 : ∀ args W, (callFunc 28 args).run Tryz.prog W = .ok (.enter 28 args) W :=
  Go.Proofs.enters_of Tryz.func28 (by kernel_rfl) rfl
/-- No number of the list is wrong: the guard's ContainsFunc says no. -/
theorem all_letters (ns : List Int) (m cn q1 q2 q3 : Nat) (An Ad : Option Addr) (cd : Nat) (h : LinkAt B F W b win seen vp vn vs pole north sent) (h1 : W.cell? ⟨q1, 0, none⟩ = some (.pointer (some ⟨b, 0, none⟩))) (h2 : W.cell? ⟨q2, 0, none⟩ = some (.slice An m cn)) (hs : sent.length ≤ 5000) (hm : m ≤ 5000)
    (h3 : W.cell? ⟨q3, 0, none⟩ = some (.func (.func 25) #[] #[.pointer (some ⟨q1, 0, none⟩), .pointer (some ⟨q2, 0, none⟩)])) (hr : Kd.C (Kd.int .i64) W Ad ns.length ns) (hn : ns.length ≤ 1000)
    (ha : ∀ n ∈ ns, -(sent.length : Int) ≤ n ∧ n ≤ (m : Int) - 1) :
    Calls Tryz.prog 29 #[.slice Ad ns.length cd, .func (.func 28) #[] #[.pointer (some ⟨q3, 0, none⟩)]] W fun e w' => e = .returned (.bool false) ∧ Below W.heap.size W w' := by
  have hp : PredB Tryz.prog 28 #[.pointer (some ⟨q3, 0, none⟩)] (Value.int .i64) (fun n => !(decide (-(sent.length : Int) ≤ n) && decide (n ≤ (m : Int) - 1))) ns W := fun W1 x _ hb =>
    not_letter x m cn q1 q2 q3 An (h.later hb) (cell_later hb h1) (cell_later hb h2) hs hm (cell_later hb h3)
  have hc := containsFunc_int_any _ _ _ Ad cd ns W hr (by omega) enters28 hp
  have e : (ns.any fun n => !(decide (-(sent.length : Int) ≤ n) && decide (n ≤ (m : Int) - 1))) = false := by
    rw [List.any_eq_false]
    intro n hn
    obtain ⟨k1, k2⟩ := ha n hn
    simp [k1, k2]
  rw [e] at hc
  exact hc
theorem all_receipts (ns : List Int) (m cn q1 q3 : Nat) (An Ad : Option Addr) (cd : Nat) (h1 : W.cell? ⟨q1, 0, none⟩ = some (.slice An m cn)) (hm : m ≤ 5000)
    (h3 : W.cell? ⟨q3, 0, none⟩ = some (.func (.func 26) #[] #[.pointer (some ⟨q1, 0, none⟩)])) (hr : Kd.C (Kd.int .i64) W Ad ns.length ns) (hn : ns.length ≤ 1000)
    (ha : ∀ n ∈ ns, 0 ≤ n ∧ n ≤ (m : Int) - 1) :
    Calls Tryz.prog 29 #[.slice Ad ns.length cd, .func (.func 28) #[] #[.pointer (some ⟨q3, 0, none⟩)]] W fun e w' => e = .returned (.bool false) ∧ Below W.heap.size W w' := by
  have hp : PredB Tryz.prog 28 #[.pointer (some ⟨q3, 0, none⟩)] (Value.int .i64) (fun n => !(decide (0 ≤ n) && decide (n ≤ (m : Int) - 1))) ns W := fun W1 x _ hb =>
    not_receipt x m cn q1 q3 An (cell_later hb h1) hm (cell_later hb h3)
  have hc := containsFunc_int_any _ _ _ Ad cd ns W hr (by omega) enters28 hp
  have e : (ns.any fun n => !(decide (0 ≤ n) && decide (n ≤ (m : Int) - 1))) = false := by
    rw [List.any_eq_false]
    intro n hn
    obtain ⟨k1, k2⟩ := ha n hn
    simp [k1, k2]
  rw [e] at hc
  exact hc
end Go.Proofs.YtpiciiglncdbpaaGreatDoor.LK
