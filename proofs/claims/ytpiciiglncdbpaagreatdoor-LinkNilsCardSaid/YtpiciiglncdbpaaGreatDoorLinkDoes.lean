/- Lines that are done: an entry is added; what has been seen. -/
import Derived.Test.YtpiciiglncdbpaaGreatDoorLinkRead
namespace Go.Proofs.YtpiciiglncdbpaaGreatDoor.LK
open Go.RowKit Go.Proofs.YtpiciiglncdbpaaGreatDoorW.PrintWords Go.Proofs.YtpiciiglncdbpaaGreatDoor.P
variable {B : Nat} {F : Nat → Prop} {W : World} {b : Nat} {win seen : Int} {vp vn vs : Value} {pole north : List ByteArray} {sent : List Int}
theorem as_add (s : ByteArray) (w : World) : (Instr.typeAssert (.iface 93 (.string s)) 20 93 true).run Tryz.prog w = .ok (.tuple #[.string s, .bool true]) w := by
  simp [Instr.typeAssert, run_underlying Tryz.underlying93]
theorem as_not_add (t : Nat) (h : t ≠ 93) (v : Value) (w : World) : (Instr.typeAssert (.iface t v) 20 93 true).run Tryz.prog w = .ok (.tuple #[.string ⟨#[]⟩, .bool false]) w := by
  simp [Instr.typeAssert, run_underlying Tryz.underlying93, h]
theorem as_pass (v : Value) (w : World) : (Instr.typeAssert (.iface 95 v) 20 95 true).run Tryz.prog w = .ok (.tuple #[v, .bool true]) w := by
  simp [Instr.typeAssert, run_underlying Tryz.underlying95]
theorem as_not_pass (t : Nat) (h : t ≠ 95) (v : Value) (w : World) : (Instr.typeAssert (.iface t v) 20 95 true).run Tryz.prog w = .ok (.tuple #[.agg #[.slice none 0 0, .slice none 0 0], .bool false]) w := by
  simp [Instr.typeAssert, run_underlying Tryz.underlying95, h]
theorem as_word (v : Value) (w : World) : (Instr.typeAssert (.iface 97 v) 20 97 true).run Tryz.prog w = .ok (.tuple #[v, .bool true]) w := by
  simp [Instr.typeAssert, run_underlying Tryz.underlying97]
theorem entry_one (c : UInt8) (h1 : 32 ≤ c.toNat) (h2 : c.toNat ≤ 126) : isEntryB ⟨#[c]⟩ = true := by
  have e : (ByteArray.mk #[c]).size = 1 := rfl
  unfold isEntryB
  rw [e]
  simp [h1, h2]
set_option maxHeartbeats 2000000 in
set_option maxRecDepth 100000 in
theorem does_add (c : UInt8) (h1 : 32 ≤ c.toNat) (h2 : c.toNat ≤ 126) (h : LinkAt B F W b win seen vp vn vs pole north sent) (hB : B ≤ W.heap.size) (hw : win ≠ 0) (hl : pole.length < 59) :
    Calls Tryz.prog 39 #[.pointer (some ⟨b, 0, none⟩), .string ⟨#[97, 100, 100, 32, c]⟩] W fun e w' => e = .returned (.tuple #[.string (digS (pole.length + 1)), .int .i64 0]) ∧
      ∃ F' v1, LinkAt B F' w' b win seen v1 vn vs (pole ++ [⟨#[c]⟩]) north sent ∧ Keeps F W w' ∧ ∀ k, F' k → F k ∨ W.heap.size ≤ k := by
  have HR := Lib.hid (read_add c W)
  have HA := Lib.hid (add_yes ⟨#[c]⟩ h hB hw (entry_one c h1 h2) (by omega))
  have HI : Hid (∀ W', Calls Tryz.prog 40 #[.int .i64 ((pole.length : Int) + 1)] W' fun e w' => e = .returned (.string (digS (pole.length + 1))) ∧ w' = W') := fun W' => Tryz.strconv_Itoa_small (pole.length + 1) (by omega) W'
  clear h
  have ta := as_add ⟨#[c]⟩ W
  go_enter Tryz.func39, Tryz.ntmps39
  go_wp2_with (first
    | (go_at_call 47; (refine HR.out.mono ?_); rintro e w' ⟨rfl, hw'⟩; obtain rfl : W = w' := hw'.symm)
    | (go_at_call 11; (refine HA.out.mono ?_); rintro e w1 ⟨rfl, F', v1, hL, hK, hF⟩
       obtain ⟨A1, k1, hv1, _, _⟩ := Kd.R_reads (Kd.R_of_own (enc := Value.string) (h1 := fun _ => rfl) (ok := fun _ => True) hL.pole (fun _ _ => trivial))
       subst hv1
       have c1 := hL.cells.2.1
       rw [show (pole ++ [(⟨#[c]⟩ : ByteArray)]).length = pole.length + 1 by simp] at c1
       have HL := Lib.hid hL
       have HK := Lib.hid hK
       clear hL hK)
    | (go_at_call 40; (refine (HI.out _).mono ?_); rintro e w' ⟨rfl, hw'⟩; obtain rfl : w1 = w' := hw'.symm))
  first | go_ret2 | go_ret
  exact ⟨rfl, F', _, HL.out, HK.out, hF⟩
set_option maxRecDepth 100000 in
theorem seen_any (h : LinkAt B F W b win seen vp vn vs pole north sent) (hw : win ≠ 0) : Calls Tryz.prog 16 #[.pointer (some ⟨b, 0, none⟩)] W fun e w' => e = .returned (.int .i64 seen) ∧ w' = W := by
  have HN := Lib.hid (none_no h.cells.1 hw)
  have c3 := h.cells.2.2.2.1
  clear h
  go_enter Tryz.func16, Tryz.ntmps16
  go_wp2_with (go_at_call 23; (refine HN.out.mono ?_); rintro e w' ⟨rfl, hww⟩; obtain rfl : W = w' := hww.symm)
  go_ret
  exact ⟨rfl, rfl⟩
set_option maxRecDepth 100000 in
theorem tell_seen {n : Nat} (h : LinkAt B F W b win n vp vn vs pole north sent) (hw : win ≠ 0) (hn : n < 100) : Calls Tryz.prog 49 #[.string ⟨#[115, 101, 101, 110]⟩, .pointer (some ⟨b, 0, none⟩)] W fun e w' => e = .returned (.tuple #[.string (digS n), .int .i64 0]) ∧ w' = W := by
  have HS := Lib.hid (seen_any h hw)
  have HI : Hid (∀ W', Calls Tryz.prog 40 #[.int .i64 n] W' fun e w' => e = .returned (.string (digS n)) ∧ w' = W') := fun W' => Tryz.strconv_Itoa_small n hn W'
  clear h
  go_enter Tryz.func49, Tryz.ntmps49
  go_wp2_with (first
    | (go_at_call 16; (refine HS.out.mono ?_); rintro e w' ⟨rfl, hww⟩; obtain rfl : W = w' := hww.symm)
    | (go_at_call 40; (refine (HI.out _).mono ?_); rintro e w' ⟨rfl, hw'⟩; obtain rfl : W = w' := hw'.symm))
  first | go_ret2 | go_ret
  exact ⟨rfl, rfl⟩
set_option maxHeartbeats 1000000 in
set_option maxRecDepth 100000 in
theorem does_seen {n : Nat} (h : LinkAt B F W b win n vp vn vs pole north sent) (hw : win ≠ 0) (hn : n < 100) : Calls Tryz.prog 39 #[.pointer (some ⟨b, 0, none⟩), .string ⟨#[115, 101, 101, 110]⟩] W fun e w' => e = .returned (.tuple #[.string (digS n), .int .i64 0]) ∧ w' = W := by
  have HR := Lib.hid (read_seen W)
  have HT := Lib.hid (tell_seen h hw hn)
  clear h
  have t1 := as_not_add 97 (by decide) (.string ⟨#[115, 101, 101, 110]⟩) W
  have t2 := as_not_pass 97 (by decide) (.string ⟨#[115, 101, 101, 110]⟩) W
  have t3 := as_word (.string ⟨#[115, 101, 101, 110]⟩) W
  go_enter Tryz.func39, Tryz.ntmps39
  go_wp2_with (first
    | (go_at_call 47; (refine HR.out.mono ?_); rintro e w' ⟨rfl, hw'⟩; obtain rfl : W = w' := hw'.symm)
    | (go_at_call 49; (refine HT.out.mono ?_); rintro e w' ⟨rfl, hw'⟩; obtain rfl : W = w' := hw'.symm))
  first | go_ret2 | go_ret
  exact ⟨rfl, rfl⟩
end Go.Proofs.YtpiciiglncdbpaaGreatDoor.LK
