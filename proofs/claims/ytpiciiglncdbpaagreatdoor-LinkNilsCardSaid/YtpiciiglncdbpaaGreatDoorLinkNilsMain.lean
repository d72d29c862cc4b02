/- LinkNils: whatever the input, true. -/
import Derived.Test.YtpiciiglncdbpaaGreatDoorLinkSane
import Derived.ProofKit
namespace Go.Proofs.YtpiciiglncdbpaaGreatDoor.LK
open Go.RowKit Go.Proofs.YtpiciiglncdbpaaGreatDoorW.PrintWords Go.Proofs.YtpiciiglncdbpaaGreatDoor.P
theorem none_nil (w : World) : NoneL (.pointer none) w := .inl rfl
set_option maxHeartbeats 8000000 in
set_option maxRecDepth 100000 in
theorem nils_yes (s : ByteArray) (A : Option Addr) (m c : Nat) (n : Int) (w : World) (hM : MaxL w) :
    Calls Tryz.prog 3 #[.string s, .slice A m c, .int .i64 n] w fun e w' => e = .returned (.bool true) ∧ Below w.heap.size w w' := by
  have HSn : Hid (∀ w', Below w.heap.size w w' → Calls Tryz.prog 4 #[] w' fun e w'' => e = .returned (.bool true) ∧ Below w'.heap.size w' w'') := fun w' hb => sane_yes w' (hM.later hb)
  clear hM
  by_cases hs : (s.size : Int) > 300
  · have g1 : decide ((s.size : Int) > 300) = true := decide_eq_true hs
    have g2 : decide ((300 : Int) < (s.size : Int)) = true := decide_eq_true hs
    have HS0 := Lib.hid (HSn.out w (Below.refl _ _))
    go_enter Tryz.func3, Tryz.ntmps3
    go_wp2_with (go_at_call 4; (refine HS0.out.mono ?_); rintro e w1 ⟨rfl, hb1⟩)
    first | go_ret2 | go_ret
    exact ⟨rfl, hb1⟩
  · have g1 : decide ((s.size : Int) > 300) = false := decide_eq_false hs
    have g2 : decide ((300 : Int) < (s.size : Int)) = false := decide_eq_false hs
    by_cases hd : (m : Int) > 100
    · have g3 : decide ((m : Int) > 100) = true := decide_eq_true hd
      have g4 : decide ((100 : Int) < (m : Int)) = true := decide_eq_true hd
      have HS0 := Lib.hid (HSn.out w (Below.refl _ _))
      go_enter Tryz.func3, Tryz.ntmps3
      go_wp2_with (go_at_call 4; (refine HS0.out.mono ?_); rintro e w1 ⟨rfl, hb1⟩)
      first | go_ret2 | go_ret
      exact ⟨rfl, hb1⟩
    · have g3 : decide ((m : Int) > 100) = false := decide_eq_false hd
      have g4 : decide ((100 : Int) < (m : Int)) = false := decide_eq_false hd
      have HN := Lib.hid (new_any 3 (by decide) (by decide) w)
      go_enter Tryz.func3, Tryz.ntmps3
      go_wp2_with (go_at_call 5; (refine HN.out.mono ?_); rintro e w' ⟨rfl, hw'⟩; subst hw')
      have hb2 : Below w.heap.size w (((w.alloc (.cells #[.int .i64 3, .slice none 0 0, .slice none 0 0, .int .i64 0, .slice none 0 0] 32)).alloc (.cells #[.int .i64 0, .slice none 0 0, .slice none 0 0, .int .i64 0, .slice none 0 0] 32)).alloc (.cells #[.pointer none, .pointer (some ⟨w.heap.size + 1, 0, none⟩)] 24)) := (((Below.refl _ w).alloc (Nat.le_refl _) _).alloc (by simp) _).alloc (by simp; omega) _
      have c0 : (((w.alloc (.cells #[.int .i64 3, .slice none 0 0, .slice none 0 0, .int .i64 0, .slice none 0 0] 32)).alloc (.cells #[.int .i64 0, .slice none 0 0, .slice none 0 0, .int .i64 0, .slice none 0 0] 32)).alloc (.cells #[.pointer none, .pointer (some ⟨w.heap.size + 1, 0, none⟩)] 24)).cell? ⟨w.heap.size, 0, none⟩ = some (.int .i64 3) := by go_simp
      have c1 : (((w.alloc (.cells #[.int .i64 3, .slice none 0 0, .slice none 0 0, .int .i64 0, .slice none 0 0] 32)).alloc (.cells #[.int .i64 0, .slice none 0 0, .slice none 0 0, .int .i64 0, .slice none 0 0] 32)).alloc (.cells #[.pointer none, .pointer (some ⟨w.heap.size + 1, 0, none⟩)] 24)).cell? ⟨w.heap.size + 1, 0, none⟩ = some (.int .i64 0) := by go_simp
      have c2 : (((w.alloc (.cells #[.int .i64 3, .slice none 0 0, .slice none 0 0, .int .i64 0, .slice none 0 0] 32)).alloc (.cells #[.int .i64 0, .slice none 0 0, .slice none 0 0, .int .i64 0, .slice none 0 0] 32)).alloc (.cells #[.pointer none, .pointer (some ⟨w.heap.size + 1, 0, none⟩)] 24)).cell? ⟨w.heap.size + 1 + 1, 0, none⟩ = some (.pointer none) := by go_simp
      have c3 : (((w.alloc (.cells #[.int .i64 3, .slice none 0 0, .slice none 0 0, .int .i64 0, .slice none 0 0] 32)).alloc (.cells #[.int .i64 0, .slice none 0 0, .slice none 0 0, .int .i64 0, .slice none 0 0] 32)).alloc (.cells #[.pointer none, .pointer (some ⟨w.heap.size + 1, 0, none⟩)] 24)).cell? ⟨w.heap.size + 1 + 1, 1, none⟩ = some (.pointer (some ⟨w.heap.size + 1, 0, none⟩)) := by go_simp
      have HB2 := Lib.hid hb2
      have HCC := Lib.hid (And.intro c0 (And.intro c1 (And.intro c2 c3)))
      clear hb2 c0 c1 c2 c3 HN
      generalize (((w.alloc (.cells #[.int .i64 3, .slice none 0 0, .slice none 0 0, .int .i64 0, .slice none 0 0] 32)).alloc (.cells #[.int .i64 0, .slice none 0 0, .slice none 0 0, .int .i64 0, .slice none 0 0] 32)).alloc (.cells #[.pointer none, .pointer (some ⟨w.heap.size + 1, 0, none⟩)] 24)) = w2 at HB2 HCC ⊢
      generalize w.heap.size + 1 + 1 = ga at HCC ⊢
      generalize w.heap.size + 1 = gz at HCC ⊢
      go_loopw [10] (fun v10 wr => ∃ k : Nat, v10 = .int .i64 k ∧ k ≤ 2 ∧ Hid (Below w2.heap.size w2 wr)) (fun v _ => 2 - (intOf v).toNat)
      case atStart => exact ⟨0, rfl, by omega, Below.refl _ _⟩
      case round =>
        obtain ⟨k, rfl, hk, HR⟩ := hrel
        have HSo : Hid (∀ w', Below wr.heap.size wr w' → Calls Tryz.prog 23 #[.pointer (some ⟨w.heap.size, 0, none⟩)] w' fun e w'' => e = .returned (.bool false) ∧ w'' = w') :=
          fun w' hb => none_no (cell_later (HR.out.trans (hb.mono HR.out.size)) HCC.out.1) (by decide)
        have c2 := cell_later HR.out HCC.out.2.2.1
        have c3 := cell_later HR.out HCC.out.2.2.2
        have hk2 : k = 0 ∨ k = 1 ∨ k = 2 := by omega
        rcases hk2 with rfl | rfl | rfl
        · have N0 : Hid (NoneL (.pointer none) wr) := .inl rfl
          go_wp2_with (first
            | (go_at_call 6; (refine (pass_none _ _ _ _ N0.out).mono ?_); rintro e w6 ⟨rfl, hb6⟩
               have N6 := Lib.hid (N0.out.later hb6)
               have H6 := Lib.hid hb6
               clear hb6)
            | (go_at_call 7; (refine (clean_none N6.out).mono ?_); rintro e w7 ⟨rfl, hb7⟩
               have N7 := Lib.hid (N6.out.later hb7)
               have H7 := Lib.hid (H6.out.trans (hb7.mono H6.out.size))
               clear hb7)
            | (go_at_call 8; (refine (entry_none _ N7.out).mono ?_); rintro e w8 ⟨rfl, hb8⟩
               have N8 := Lib.hid (N7.out.later hb8)
               have H8 := Lib.hid (H7.out.trans (hb8.mono H7.out.size))
               clear hb8)
            | (go_at_call 9; (refine (ask_none _ N8.out).mono ?_); rintro e w9 ⟨rfl, hb9⟩
               have N9 := Lib.hid (N8.out.later hb9)
               have H9 := Lib.hid (H8.out.trans (hb9.mono H8.out.size))
               clear hb9)
            | (go_at_call 10; (refine (passes_none N9.out).mono ?_); rintro e w10 ⟨rfl, hb10⟩
               have N10 := Lib.hid (N9.out.later hb10)
               have H10 := Lib.hid (H9.out.trans (hb10.mono H9.out.size))
               clear hb10)
            | (go_at_call 11; (refine (add_none _ N10.out).mono ?_); rintro e w11 ⟨rfl, hb11⟩
               have N11 := Lib.hid (N10.out.later hb11)
               have H11 := Lib.hid (H10.out.trans (hb11.mono H10.out.size))
               clear hb11)
            | (go_at_call 12; (refine (fall_none N11.out).mono ?_); rintro e w12 ⟨rfl, hb12⟩
               have N12 := Lib.hid (N11.out.later hb12)
               have H12 := Lib.hid (H11.out.trans (hb12.mono H11.out.size))
               clear hb12)
            | (go_at_call 13; (refine (waits_none N12.out).mono ?_); rintro e w13 ⟨rfl, hb13⟩
               have N13 := Lib.hid (N12.out.later hb13)
               have H13 := Lib.hid (H12.out.trans (hb13.mono H12.out.size))
               clear hb13)
            | (go_at_call 14; (refine (pole_none N13.out).mono ?_); rintro e w14 ⟨rfl, hb14⟩
               have N14 := Lib.hid (N13.out.later hb14)
               have H14 := Lib.hid (H13.out.trans (hb14.mono H13.out.size))
               clear hb14)
            | (go_at_call 15; (refine (north_none N14.out).mono ?_); rintro e w15 ⟨rfl, hb15⟩
               have N15 := Lib.hid (N14.out.later hb15)
               have H15 := Lib.hid (H14.out.trans (hb15.mono H14.out.size))
               clear hb15)
            | (go_at_call 16; (refine (seen_none N15.out).mono ?_); rintro e w16 ⟨rfl, hb16⟩
               have N16 := Lib.hid (N15.out.later hb16)
               have H16 := Lib.hid (H15.out.trans (hb16.mono H15.out.size))
               clear hb16)
            | (go_at_call 17; (refine (sent_none N16.out).mono ?_); rintro e w17 ⟨rfl, hb17⟩
               have N17 := Lib.hid (N16.out.later hb17)
               have H17 := Lib.hid (H16.out.trans (hb17.mono H16.out.size))
               clear hb17)
            | (go_at_call 18; (refine (copy_none N17.out).mono ?_); rintro e w18 ⟨rfl, hb18⟩
               have N18 := Lib.hid (N17.out.later hb18)
               have H18 := Lib.hid (H17.out.trans (hb18.mono H17.out.size))
               clear hb18)
            | (go_at_call 19; ((with_reducible refine (same_none_no N18.out (fun w' hb => HSo.out w' (H18.out.trans (hb.mono H18.out.size)))).mono ?_)); rintro e w' ⟨rfl, hw'⟩; obtain rfl : w18 = w' := hw'.symm)
            | (go_at_call 19; ((with_reducible refine (same_no_none (fun w' hb => HSo.out w' (H18.out.trans (hb.mono H18.out.size))) N18.out).mono ?_)); rintro e w' ⟨rfl, hw'⟩; obtain rfl : w18 = w' := hw'.symm)
            | (go_at_call 19; ((with_reducible refine (same_none_yes N18.out (none_nil w18)).mono ?_)); rintro e w' ⟨rfl, hw'⟩; obtain rfl : w18 = w' := hw'.symm))
          go_roundw
          case rel => exact ⟨1, rfl, by omega, HR.out.trans (H18.out.mono HR.out.size)⟩
          case measure => simp [intOf]
        · have N0 : Hid (NoneL (.pointer (some ⟨gz, 0, none⟩)) wr) := .inr ⟨gz, 0, rfl, cell_later HR.out HCC.out.2.1⟩
          go_wp2_with (first
            | (go_at_call 6; (refine (pass_none _ _ _ _ N0.out).mono ?_); rintro e w6 ⟨rfl, hb6⟩
               have N6 := Lib.hid (N0.out.later hb6)
               have H6 := Lib.hid hb6
               clear hb6)
            | (go_at_call 7; (refine (clean_none N6.out).mono ?_); rintro e w7 ⟨rfl, hb7⟩
               have N7 := Lib.hid (N6.out.later hb7)
               have H7 := Lib.hid (H6.out.trans (hb7.mono H6.out.size))
               clear hb7)
            | (go_at_call 8; (refine (entry_none _ N7.out).mono ?_); rintro e w8 ⟨rfl, hb8⟩
               have N8 := Lib.hid (N7.out.later hb8)
               have H8 := Lib.hid (H7.out.trans (hb8.mono H7.out.size))
               clear hb8)
            | (go_at_call 9; (refine (ask_none _ N8.out).mono ?_); rintro e w9 ⟨rfl, hb9⟩
               have N9 := Lib.hid (N8.out.later hb9)
               have H9 := Lib.hid (H8.out.trans (hb9.mono H8.out.size))
               clear hb9)
            | (go_at_call 10; (refine (passes_none N9.out).mono ?_); rintro e w10 ⟨rfl, hb10⟩
               have N10 := Lib.hid (N9.out.later hb10)
               have H10 := Lib.hid (H9.out.trans (hb10.mono H9.out.size))
               clear hb10)
            | (go_at_call 11; (refine (add_none _ N10.out).mono ?_); rintro e w11 ⟨rfl, hb11⟩
               have N11 := Lib.hid (N10.out.later hb11)
               have H11 := Lib.hid (H10.out.trans (hb11.mono H10.out.size))
               clear hb11)
            | (go_at_call 12; (refine (fall_none N11.out).mono ?_); rintro e w12 ⟨rfl, hb12⟩
               have N12 := Lib.hid (N11.out.later hb12)
               have H12 := Lib.hid (H11.out.trans (hb12.mono H11.out.size))
               clear hb12)
            | (go_at_call 13; (refine (waits_none N12.out).mono ?_); rintro e w13 ⟨rfl, hb13⟩
               have N13 := Lib.hid (N12.out.later hb13)
               have H13 := Lib.hid (H12.out.trans (hb13.mono H12.out.size))
               clear hb13)
            | (go_at_call 14; (refine (pole_none N13.out).mono ?_); rintro e w14 ⟨rfl, hb14⟩
               have N14 := Lib.hid (N13.out.later hb14)
               have H14 := Lib.hid (H13.out.trans (hb14.mono H13.out.size))
               clear hb14)
            | (go_at_call 15; (refine (north_none N14.out).mono ?_); rintro e w15 ⟨rfl, hb15⟩
               have N15 := Lib.hid (N14.out.later hb15)
               have H15 := Lib.hid (H14.out.trans (hb15.mono H14.out.size))
               clear hb15)
            | (go_at_call 16; (refine (seen_none N15.out).mono ?_); rintro e w16 ⟨rfl, hb16⟩
               have N16 := Lib.hid (N15.out.later hb16)
               have H16 := Lib.hid (H15.out.trans (hb16.mono H15.out.size))
               clear hb16)
            | (go_at_call 17; (refine (sent_none N16.out).mono ?_); rintro e w17 ⟨rfl, hb17⟩
               have N17 := Lib.hid (N16.out.later hb17)
               have H17 := Lib.hid (H16.out.trans (hb17.mono H16.out.size))
               clear hb17)
            | (go_at_call 18; (refine (copy_none N17.out).mono ?_); rintro e w18 ⟨rfl, hb18⟩
               have N18 := Lib.hid (N17.out.later hb18)
               have H18 := Lib.hid (H17.out.trans (hb18.mono H17.out.size))
               clear hb18)
            | (go_at_call 19; ((with_reducible refine (same_none_no N18.out (fun w' hb => HSo.out w' (H18.out.trans (hb.mono H18.out.size)))).mono ?_)); rintro e w' ⟨rfl, hw'⟩; obtain rfl : w18 = w' := hw'.symm)
            | (go_at_call 19; ((with_reducible refine (same_no_none (fun w' hb => HSo.out w' (H18.out.trans (hb.mono H18.out.size))) N18.out).mono ?_)); rintro e w' ⟨rfl, hw'⟩; obtain rfl : w18 = w' := hw'.symm)
            | (go_at_call 19; ((with_reducible refine (same_none_yes N18.out (none_nil w18)).mono ?_)); rintro e w' ⟨rfl, hw'⟩; obtain rfl : w18 = w' := hw'.symm))
          go_roundw
          case rel => exact ⟨2, rfl, by omega, HR.out.trans (H18.out.mono HR.out.size)⟩
          case measure => simp [intOf]
        · have HS0 := Lib.hid (HSn.out wr (HB2.out.trans (HR.out.mono HB2.out.size)))
          go_wp2_with (go_at_call 4; (refine HS0.out.mono ?_); rintro e w1 ⟨rfl, hb1⟩)
          first | go_ret2 | go_ret
          exact ⟨rfl, (HB2.out.trans (HR.out.mono HB2.out.size)).trans (hb1.mono (HB2.out.trans (HR.out.mono HB2.out.size)).size)⟩
end Go.Proofs.YtpiciiglncdbpaaGreatDoor.LK
