/- Sane: example 1 of the chapter comes out. -/
import Derived.Test.YtpiciiglncdbpaaGreatDoorLinkDoes2
import Derived.Test.YtpiciiglncdbpaaGreatDoorLinkPlayOk
import Derived.Test.YtpiciiglncdbpaaGreatDoorF21
namespace Go.Proofs.YtpiciiglncdbpaaGreatDoor.LK
open Go.RowKit Go.Proofs.YtpiciiglncdbpaaGreatDoorW.PrintWords Go.Proofs.YtpiciiglncdbpaaGreatDoor.P
def scrA : ByteArray := ⟨#[97]⟩
def scrB : ByteArray := ⟨#[98]⟩
def scrC : ByteArray := ⟨#[99]⟩
def scrLines : List ByteArray := [⟨#[97, 100, 100, 32, 97]⟩, ⟨#[97, 100, 100, 32, 98]⟩, ⟨#[97, 100, 100, 32, 99]⟩, ⟨#[112, 97, 115, 115, 32, 49, 44, 48, 32, 49, 44, 48]⟩, ⟨#[115, 101, 101, 110]⟩]
def scrAns : List ByteArray := [⟨#[49]⟩, ⟨#[50]⟩, ⟨#[51]⟩, ⟨#[48, 44, 49]⟩, ⟨#[49]⟩]
def scrPole (k : Nat) : List ByteArray := [scrA, scrB, scrC].take k
def scrNorth (k : Nat) : List ByteArray := if 4 ≤ k then [scrA] else []
def scrSent (k : Nat) : List Int := if 4 ≤ k then [1, 2] else []
def scrSeen (k : Nat) : Int := if 4 ≤ k then 1 else 0
def ScrInv (B : Nat) (k : Nat) (F' : Nat → Prop) (w1 : World) : Prop :=
  (∃ vp vn vs, LinkAt B F' w1 B 2 (scrSeen k) vp vn vs (scrPole k) (scrNorth k) (scrSent k)) ∧ MaxL w1
theorem dig_1 : digS 1 = ⟨#[49]⟩ := by unfold digS; first | kernel_rfl | (rw [Lib.decDigits]; rfl)
theorem dig_2 : digS 2 = ⟨#[50]⟩ := by unfold digS; first | kernel_rfl | (rw [Lib.decDigits]; rfl)
theorem dig_3 : digS 3 = ⟨#[51]⟩ := by unfold digS; first | kernel_rfl | (rw [Lib.decDigits]; rfl)
theorem play_scr (A : Option Addr) (c : Nat) (w : World) (hC : Kd.C Kd.string w A 5 scrLines) (hM : MaxL w) :
    Calls Tryz.prog 20 #[.int .i64 2, .slice A 5 c] w fun e w' => ∃ v, e = .returned (.tuple #[v, .int .i64 0]) ∧ Kd.R Kd.string 9 w' w.heap.size (fun _ => True) v scrAns ∧ Below w.heap.size w w' := by
  have hG : 1 < w.heap.size := by
    obtain ⟨m, hm⟩ := hM
    exact World.block_lt_of_cell? w _ hm
  refine play_ok 2 (by decide) (by decide) scrLines scrAns A c w hC (by decide) rfl (ScrInv w.heap.size) ?_ ?_ ?_ ?_
  · have hb : Below w.heap.size w (w.alloc (.cells #[.int .i64 2, .slice none 0 0, .slice none 0 0, .int .i64 0, .slice none 0 0] 32)) := (Below.refl _ w).alloc (Nat.le_refl _) _
    exact ⟨⟨_, _, _, LinkAt.fresh 2 w (Nat.le_refl _)⟩, hM.later hb⟩
  · rintro k F' w1 w2 ⟨⟨vp, vn, vs, hL⟩, hM1⟩ hK
    exact ⟨⟨vp, vn, vs, hL.moved hK.size (fun j hj => hK.block j (hL.lt j hj).2 (fun h => h.1 hj))⟩, hM1.keeps hK (fun h => by have := h.2; omega)⟩
  · rintro k F' w1 ⟨⟨vp, vn, vs, hL⟩, _⟩ j hj
    exact hL.lt j hj
  · rintro k hk F' w1 ⟨⟨vp, vn, vs, hL⟩, hM1⟩
    have hB : w.heap.size ≤ w1.heap.size := by have := hL.lt _ hL.own; omega
    have hMk : ∀ w', Keeps F' w1 w' → MaxL w' := fun w' hk => hM1.keeps hk (fun h => by have := (hL.lt _ h).1; omega)
    have hadd : ∀ (x : UInt8) (n : Nat), 32 ≤ x.toNat → x.toNat ≤ 126 → k = n → n < 3 → scrLines.getD n ByteArray.empty = ⟨#[97, 100, 100, 32, x]⟩ → scrAns.getD n ByteArray.empty = digS (n + 1) → scrPole (n + 1) = scrPole n ++ [⟨#[x]⟩] → (scrPole n).length = n →
        Calls Tryz.prog 39 #[.pointer (some ⟨w.heap.size, 0, none⟩), .string (scrLines.getD k ByteArray.empty)] w1 fun e w' =>
          e = .returned (.tuple #[.string (scrAns.getD k ByteArray.empty), .int .i64 0]) ∧ ∃ F2, ScrInv w.heap.size (k + 1) F2 w' ∧ Keeps F' w1 w' ∧ ∀ j, F2 j → F' j ∨ w1.heap.size ≤ j := by
      intro x n hx1 hx2 hkn hn hl ha hp hpl
      subst hkn
      rw [hl, ha]
      have hd := does_add x hx1 hx2 hL hB (by decide) (by rw [hpl]; omega)
      rw [hpl] at hd
      refine hd.mono ?_
      rintro e w' ⟨he, F2, v1, hL2, hK2, hF2⟩
      refine ⟨he, F2, ⟨⟨v1, vn, vs, ?_⟩, hMk w' hK2⟩, hK2, hF2⟩
      have e1 : scrSeen (k + 1) = scrSeen k := by unfold scrSeen; rw [if_neg (by omega), if_neg (by omega)]
      have e2 : scrNorth (k + 1) = scrNorth k := by unfold scrNorth; rw [if_neg (by omega), if_neg (by omega)]
      have e3 : scrSent (k + 1) = scrSent k := by unfold scrSent; rw [if_neg (by omega), if_neg (by omega)]
      rw [hp, e1, e2, e3]
      exact hL2
    have hc : k = 0 ∨ k = 1 ∨ k = 2 ∨ k = 3 ∨ k = 4 := by have : k < 5 := hk; omega
    rcases hc with h | h | h | h | h
    · exact hadd 97 0 (by decide) (by decide) h (by decide) rfl dig_1.symm rfl rfl
    · exact hadd 98 1 (by decide) (by decide) h (by decide) rfl dig_2.symm rfl rfl
    · exact hadd 99 2 (by decide) (by decide) h (by decide) rfl dig_3.symm rfl rfl
    · subst h
      refine (does_pass hL hB rfl hM1).mono ?_
      rintro e w' ⟨he, F2, vn', vs', hL2, hK2, hF2⟩
      exact ⟨he, F2, ⟨⟨vp, vn', vs', hL2⟩, hMk w' hK2⟩, hK2, hF2⟩
    · subst h
      have hL' : LinkAt w.heap.size F' w1 w.heap.size 2 ((1 : Nat) : Int) vp vn vs (scrPole 4) (scrNorth 4) (scrSent 4) := hL
      refine (does_seen hL' (by decide) (by decide)).mono ?_
      rintro e w' ⟨he, hw'⟩
      subst hw'
      rw [dig_1] at he
      exact ⟨he, F', ⟨⟨vp, vn, vs, hL⟩, hM1⟩, Keeps.refl _ _, fun j hj => .inl hj⟩
set_option maxHeartbeats 2000000 in
set_option maxRecDepth 100000 in
theorem sane_yes (w : World) (hM : MaxL w) : Calls Tryz.prog 4 #[] w fun e w' => e = .returned (.bool true) ∧ Below w.heap.size w w' := by
  have hba : Below w.heap.size w (w.alloc (.cells (scrLines.map Value.string).toArray 9)) := (Below.refl _ w).alloc (Nat.le_refl _) _
  have hR := World.ownsRow_lit (base := 0) (e := 9) (size := 1) w (scrLines.map Value.string).toArray 5 (Nat.zero_le _) (by decide) rfl
  have hP := play_scr (some ⟨w.heap.size, 0, none⟩) 5 _ (Kd.R_reads' (Kd.R_of_own (enc := Value.string) (h1 := fun _ => rfl) (ok := fun _ => True) hR (fun _ _ => trivial))).2.2 (hM.later hba)
  have HP := Lib.hid hP
  have HB := Lib.hid hba
  clear hP hba hR hM
  have hl : (w.alloc (.cells (scrLines.map Value.string).toArray 9)).heap.size = w.heap.size + 1 := by simp
  have HL := Lib.hid hl
  clear hl
  go_enter Tryz.func4, Tryz.ntmps4
  go_wp2_with (first
    | (go_at_call 20; (refine HP.out.mono ?_); rintro e w1 ⟨v, rfl, hR1, hb1⟩
       obtain ⟨A1, c1, hv⟩ := Kd.R_slice hR1
       subst hv
       have hbl : Below w1.heap.size w1 (w1.alloc (.cells (scrAns.map Value.string).toArray 9)) := (Below.refl _ w1).alloc (Nat.le_refl _) _
       have hR2 := Kd.R_reads' (Kd.R_below hR1 hbl)
       have hR3 := World.ownsRow_lit (base := 0) (e := 9) (size := 1) w1 (scrAns.map Value.string).toArray 5 (Nat.zero_le _) (by decide) rfl
       have hR4 := Kd.R_reads' (Kd.R_of_own (enc := Value.string) (h1 := fun _ => rfl) (ok := fun _ => True) hR3 (fun _ _ => trivial))
       have hS := firnref10_SameTexts.calls 9 A1 c1 scrAns (some ⟨w1.heap.size, 0, none⟩) 5 scrAns true (w1.alloc (.cells (scrAns.map Value.string).toArray 9)) hR2.2.2 hR2.2.1 hR4.2.2 hR4.2.1 (by simp [firnref10_SameTexts.f, firnref10_SameTexts.l0, scrAns, wrap64, rdOf])
       have HS := Lib.hid hS
       have hb2 := HB.out.trans (hb1.mono HB.out.size)
       have HB2 := Lib.hid (hb2.trans (hbl.mono hb2.size))
       clear hR1 hb1 hbl hR2 hR3 hR4 hS hb2)
    | (go_at_call 21; (refine HS.out.mono ?_); rintro e w2 ⟨rfl, hd⟩))
  first | go_ret2 | go_ret
  exact ⟨by first | rfl | simp, HB2.out.trans (drawn_below hd _)⟩
end Go.Proofs.YtpiciiglncdbpaaGreatDoor.LK
