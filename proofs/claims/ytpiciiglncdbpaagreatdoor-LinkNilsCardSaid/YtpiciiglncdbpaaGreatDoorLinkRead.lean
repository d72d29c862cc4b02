/- What the five lines of the script are. -/
import Derived.Test.YtpiciiglncdbpaaGreatDoorLinkText2
import Derived.Test.YtpiciiglncdbpaaGreatDoorLinkCome
namespace Go.Proofs.YtpiciiglncdbpaaGreatDoor.LK
open Go.RowKit Go.Proofs.YtpiciiglncdbpaaGreatDoorW.PrintWords Go.Proofs.YtpiciiglncdbpaaGreatDoor.P
set_option maxHeartbeats 1000000 in
set_option maxRecDepth 100000 in
theorem read_add (c : UInt8) (w : World) : Calls Tryz.prog 47 #[.string ⟨#[97, 100, 100, 32, c]⟩] w fun e w' => e = .returned (.iface 93 (.string ⟨#[c]⟩)) ∧ w' = w := by
  have h := Tryz.strings_CutPrefix ⟨#[97, 100, 100, 32, c]⟩ ⟨#[97, 100, 100, 32]⟩ w
  rw [show (⟨(Lib.trimPrefix (ByteArray.mk #[97, 100, 100, 32, c]).data.toList (ByteArray.mk #[97, 100, 100, 32]).data.toList).toArray⟩ : ByteArray) = ⟨#[c]⟩ by simp [Lib.trimPrefix, Lib.hasPrefix], show Lib.hasPrefix (ByteArray.mk #[97, 100, 100, 32, c]).data.toList (ByteArray.mk #[97, 100, 100, 32]).data.toList = true by simp [Lib.hasPrefix]] at h
  have H := Lib.hid h; clear h
  go_enter Tryz.func47, Tryz.ntmps47
  go_wp2_with (go_at_call 54; (refine H.out.mono ?_); rintro e w' ⟨rfl, hw'⟩; obtain rfl : w = w' := hw'.symm)
  go_ret
  exact ⟨rfl, rfl⟩
set_option maxHeartbeats 1000000 in
set_option maxRecDepth 100000 in
theorem read_seen (w : World) : Calls Tryz.prog 47 #[.string ⟨#[115, 101, 101, 110]⟩] w fun e w' => e = .returned (.iface 97 (.string ⟨#[115, 101, 101, 110]⟩)) ∧ w' = w := by
  have h1 := Tryz.strings_CutPrefix ⟨#[115, 101, 101, 110]⟩ ⟨#[97, 100, 100, 32]⟩ w
  rw [show Lib.hasPrefix (ByteArray.mk #[115, 101, 101, 110]).data.toList (ByteArray.mk #[97, 100, 100, 32]).data.toList = false by first | rfl | decide | kernel_rfl] at h1
  have h2 := Tryz.strings_CutPrefix ⟨#[115, 101, 101, 110]⟩ ⟨#[112, 97, 115, 115, 32]⟩ w
  rw [show Lib.hasPrefix (ByteArray.mk #[115, 101, 101, 110]).data.toList (ByteArray.mk #[112, 97, 115, 115, 32]).data.toList = false by first | rfl | decide | kernel_rfl] at h2
  generalize (⟨(Lib.trimPrefix (ByteArray.mk #[115, 101, 101, 110]).data.toList (ByteArray.mk #[97, 100, 100, 32]).data.toList).toArray⟩ : ByteArray) = x1 at h1
  generalize (⟨(Lib.trimPrefix (ByteArray.mk #[115, 101, 101, 110]).data.toList (ByteArray.mk #[112, 97, 115, 115, 32]).data.toList).toArray⟩ : ByteArray) = x2 at h2
  have H1 := Lib.hid h1; clear h1
  have H2 := Lib.hid h2; clear h2
  go_enter Tryz.func47, Tryz.ntmps47
  go_wp2_with (first
    | (go_at_call_of 54 (Value.string ⟨#[97, 100, 100, 32]⟩); (refine H1.out.mono ?_); rintro e w' ⟨rfl, hw'⟩; obtain rfl : w = w' := hw'.symm)
    | (go_at_call_of 54 (Value.string ⟨#[112, 97, 115, 115, 32]⟩); (refine H2.out.mono ?_); rintro e w' ⟨rfl, hw'⟩; obtain rfl : w = w' := hw'.symm))
  go_ret
  exact ⟨rfl, rfl⟩
set_option maxHeartbeats 2000000 in
set_option maxRecDepth 100000 in
/-- The fourth line. -/
theorem read_pass (w : World) (hM : MaxL w) : Calls Tryz.prog 47 #[.string ⟨#[112, 97, 115, 115, 32, 49, 44, 48, 32, 49, 44, 48]⟩] w fun e w' => ∃ v1 v2 : Value, e = .returned (.iface 95 (.agg #[v1, v2])) ∧ Kd.R (Kd.int .i64) 3 w' w.heap.size (fun _ => True) v1 [1, 0] ∧ Kd.R (Kd.int .i64) 3 w' w.heap.size (fun _ => True) v2 [1, 0] ∧ Below w.heap.size w w' := by
  have h1 := Tryz.strings_CutPrefix ⟨#[112, 97, 115, 115, 32, 49, 44, 48, 32, 49, 44, 48]⟩ ⟨#[97, 100, 100, 32]⟩ w
  rw [show Lib.hasPrefix (ByteArray.mk #[112, 97, 115, 115, 32, 49, 44, 48, 32, 49, 44, 48]).data.toList (ByteArray.mk #[97, 100, 100, 32]).data.toList = false by first | rfl | decide | kernel_rfl] at h1
  generalize (⟨(Lib.trimPrefix (ByteArray.mk #[112, 97, 115, 115, 32, 49, 44, 48, 32, 49, 44, 48]).data.toList (ByteArray.mk #[97, 100, 100, 32]).data.toList).toArray⟩ : ByteArray) = x1 at h1
  have h2 := Tryz.strings_CutPrefix ⟨#[112, 97, 115, 115, 32, 49, 44, 48, 32, 49, 44, 48]⟩ ⟨#[112, 97, 115, 115, 32]⟩ w
  rw [show Lib.hasPrefix (ByteArray.mk #[112, 97, 115, 115, 32, 49, 44, 48, 32, 49, 44, 48]).data.toList (ByteArray.mk #[112, 97, 115, 115, 32]).data.toList = true by first | rfl | decide | kernel_rfl, show (⟨(Lib.trimPrefix (ByteArray.mk #[112, 97, 115, 115, 32, 49, 44, 48, 32, 49, 44, 48]).data.toList (ByteArray.mk #[112, 97, 115, 115, 32]).data.toList).toArray⟩ : ByteArray) = ⟨#[49, 44, 48, 32, 49, 44, 48]⟩ by first | rfl | kernel_rfl] at h2
  obtain ⟨m, hm⟩ := hM
  have h3 := Tryz.strings_Cut ⟨#[49, 44, 48, 32, 49, 44, 48]⟩ ⟨#[32]⟩ m w (by decide) hm
  rw [show Lib.cut (ByteArray.mk #[49, 44, 48, 32, 49, 44, 48]).data.toList (ByteArray.mk #[32]).data.toList = ([49, 44, 48], [49, 44, 48], true) by first | rfl | decide | kernel_rfl] at h3
  have h3' : Calls Tryz.prog 55 #[.string ⟨#[49, 44, 48, 32, 49, 44, 48]⟩, .string ⟨#[32]⟩] w fun e w' => e = .returned (.tuple #[.string ⟨#[49, 44, 48]⟩, .string ⟨#[49, 44, 48]⟩, .bool true]) ∧ ∃ n, w' = w.drewN n := h3
  have HM : Hid (MaxL w) := ⟨m, hm⟩
  have H1 := Lib.hid h1
  have H2 := Lib.hid h2
  have H3 := Lib.hid h3'
  have HP := Lib.hid places_10
  clear h1 h2 h3 h3' hm
  go_enter Tryz.func47, Tryz.ntmps47
  go_wp2_with (first
    | (go_at_call_of 54 (Value.string ⟨#[97, 100, 100, 32]⟩); (refine H1.out.mono ?_); rintro e w' ⟨rfl, hw'⟩; obtain rfl : w = w' := hw'.symm)
    | (go_at_call_of 54 (Value.string ⟨#[112, 97, 115, 115, 32]⟩); (refine H2.out.mono ?_); rintro e w' ⟨rfl, hw'⟩; obtain rfl : w = w' := hw'.symm)
    | (go_at_call 55; (refine H3.out.mono ?_); rintro e w1 ⟨rfl, n, hw1⟩
       have hb1 : Below w.heap.size w w1 := by rw [hw1]; exact pw_below_drewN (Below.refl _ w) n
       clear hw1))
  go_wp2_with (go_at_call 56; (refine (HP.out w1 (HM.out.later hb1)).mono ?_); rintro e w2 ⟨v1, rfl, hv1, hb2⟩; obtain ⟨A1, k1, ev1⟩ := Kd.R_slice hv1; subst ev1)
  have hb12 : Below w.heap.size w w2 := hb1.trans (hb2.mono hb1.size)
  go_wp2_with (go_at_call 56; (refine (HP.out w2 (HM.out.later hb12)).mono ?_); rintro e w3 ⟨v2, rfl, hv2, hb3⟩; obtain ⟨A2, k2, ev2⟩ := Kd.R_slice hv2; subst ev2)
  go_ret
  exact ⟨_, _, rfl, Kd.R_lower (Kd.R_below hv1 hb3) hb1.size, Kd.R_lower hv2 hb12.size, hb12.trans (hb3.mono hb12.size)⟩
end Go.Proofs.YtpiciiglncdbpaaGreatDoor.LK
