/- The closures of Pass. -/
import Derived.Test.YtpiciiglncdbpaaGreatDoorLinkDoes
import Derived.BigQuiet
import Derived.CellFam
namespace Go.Proofs.YtpiciiglncdbpaaGreatDoor.LK
open Go.RowKit Go.Proofs.YtpiciiglncdbpaaGreatDoorW.PrintWords Go.Proofs.YtpiciiglncdbpaaGreatDoor.P
variable {B : Nat} {F : Nat → Prop} {W : World} {b : Nat} {win seen : Int} {vp vn vs : Value} {pole north : List ByteArray} {sent : List Int}
set_option maxHeartbeats 1000000 in
set_option maxRecDepth 100000 in
/-- letter: whether a number is one of a letter that waits or was sent. -/
theorem letter_any (n : Int) (m cn q1 q2 : Nat) (An : Option Addr) (h : LinkAt B F W b win seen vp vn vs pole north sent) (h1 : W.cell? ⟨q1, 0, none⟩ = some (.pointer (some ⟨b, 0, none⟩))) (h2 : W.cell? ⟨q2, 0, none⟩ = some (.slice An m cn)) (hs : sent.length ≤ 5000) (hm : m ≤ 5000) :
    Calls Tryz.prog 25 #[.int .i64 n, .pointer (some ⟨q1, 0, none⟩), .pointer (some ⟨q2, 0, none⟩)] W fun e w' => e = .returned (.bool (decide (-(sent.length : Int) ≤ n) && decide (n ≤ (m : Int) - 1))) ∧ Below W.heap.size W w' := by
  obtain ⟨A, c, hv, _, _⟩ := Kd.R_reads (Kd.R_of_own (enc := Value.int .i64) (h1 := fun _ => rfl) (ok := fun _ => True) h.sent (fun _ _ => trivial))
  subst hv
  have c4 := h.cells.2.2.2.2
  clear h
  go_enter Tryz.func25, Tryz.ntmps25
  go_wp2_with fail
  go_quiet (first | (go_at_call 22; refine Calls.quiet_of_same (between_any _ _ _ _)))
  go_wp2
  go_ret
  exact ⟨rfl, pw_below_drewN (Below.refl _ W) _⟩
set_option maxRecDepth 100000 in
/-- receipt. -/
theorem receipt_any (n : Int) (m cn q1 : Nat) (An : Option Addr) (h1 : W.cell? ⟨q1, 0, none⟩ = some (.slice An m cn)) (hm : m ≤ 5000) :
    Calls Tryz.prog 26 #[.int .i64 n, .pointer (some ⟨q1, 0, none⟩)] W fun e w' => e = .returned (.bool (decide (0 ≤ n) && decide (n ≤ (m : Int) - 1))) ∧ w' = W := by
  have HB : Hid (∀ W', Calls Tryz.prog 22 #[.int .i64 0, .int .i64 n, .int .i64 ((m : Int) - 1)] W' fun e w' => e = .returned (.bool (decide (0 ≤ n) && decide (n ≤ (m : Int) - 1))) ∧ w' = W') := fun W' => between_any 0 n ((m : Int) - 1) W'
  go_enter Tryz.func26, Tryz.ntmps26
  go_wp2_with (go_at_call 22; (refine (HB.out _).mono ?_); rintro e w' ⟨rfl, hw'⟩; obtain rfl : W = w' := hw'.symm)
  go_ret
  exact ⟨rfl, rfl⟩
end Go.Proofs.YtpiciiglncdbpaaGreatDoor.LK
