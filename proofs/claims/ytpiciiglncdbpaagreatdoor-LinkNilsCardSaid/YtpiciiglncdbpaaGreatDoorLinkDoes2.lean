/- The fourth line of the script is done. -/
import Derived.Test.YtpiciiglncdbpaaGreatDoorLinkPass2
namespace Go.Proofs.YtpiciiglncdbpaaGreatDoor.LK
open Go.RowKit Go.Proofs.YtpiciiglncdbpaaGreatDoorW.PrintWords Go.Proofs.YtpiciiglncdbpaaGreatDoor.P
variable {B : Nat} {F : Nat → Prop} {W : World} {b : Nat} {win seen : Int} {vp vn vs : Value} {pole north : List ByteArray} {sent : List Int}
theorem MaxL.keeps {w w' : World} (h : MaxL w) (hk : Keeps F w w') (hF : ¬ F 1) : MaxL w' := by
  obtain ⟨m, hm⟩ := h
  exact ⟨m, hk.cell hm hF⟩
theorem waits_two (pole : List ByteArray) (h : pole.length = 3) : link_state_waits.f 4 2 pole [] 0 [] = some [1, 2] := by
  obtain ⟨x, y, z, rfl⟩ : ∃ x y z, pole = [x, y, z] := by
    match pole, h with
    | [x, y, z], _ => exact ⟨x, y, z, rfl⟩
  simp [link_state_waits.f, link_state_waits.l0, mn, wrap64]
theorem R_block {base n c : Nat} {A : Option Addr} {xs : List Int} (hR : Kd.R (Kd.int .i64) 3 W base (fun _ => True) (.slice A n c) xs) : ∀ ad, A = some ad → base ≤ ad.block := by
  rintro ad rfl
  have ho : W.ownsRow base 3 1 (.slice (some ad) n c) xs.length (nums .i64 xs) := Kd.own_of_R hR
  exact own_base ho ad.block rfl
set_option maxHeartbeats 2000000 in
set_option maxRecDepth 100000 in
theorem does_pass (h : LinkAt B F W b 2 0 vp vn vs pole [] []) (hB : B ≤ W.heap.size) (hp : pole.length = 3) (hM : MaxL W) :
    Calls Tryz.prog 39 #[.pointer (some ⟨b, 0, none⟩), .string ⟨#[112, 97, 115, 115, 32, 49, 44, 48, 32, 49, 44, 48]⟩] W fun e w' => e = .returned (.tuple #[.string ⟨#[48, 44, 49]⟩, .int .i64 0]) ∧
      ∃ F' vn' vs', LinkAt B F' w' b 2 1 vp vn' vs' pole [pole.getD 0 ByteArray.empty] [1, 2] ∧ Keeps F W w' ∧ ∀ k, F' k → F k ∨ W.heap.size ≤ k := by
  have HR := Lib.hid (read_pass W hM)
  have HP : Hid (∀ (w1 : World) (A1 A2 : Option Addr) (c1 c2 : Nat), Below W.heap.size W w1 → Kd.R (Kd.int .i64) 3 w1 W.heap.size (fun _ => True) (.slice A1 2 c1) [1, 0] → Kd.R (Kd.int .i64) 3 w1 W.heap.size (fun _ => True) (.slice A2 2 c2) [1, 0] →
      Calls Tryz.prog 6 #[.pointer (some ⟨b, 0, none⟩), .slice A1 2 c1, .slice A2 2 c2] w1 fun e w' => ∃ F' vn' vs' A c, e = .returned (.tuple #[.slice A 2 c, .int .i64 0]) ∧ Kd.C (Kd.int .i64) w' A 2 [0, 1] ∧
        LinkAt B F' w' b 2 1 vp vn' vs' pole [pole.getD 0 ByteArray.empty] [1, 2] ∧ Keeps F W w' ∧ ∀ k, F' k → F k ∨ W.heap.size ≤ k) := by
    intro w1 A1 A2 c1 c2 hb h1 h2
    have hlt : ∀ j, F j → j < W.heap.size := fun j hj => (h.lt j hj).2
    refine (pass_yes 4 [1, 2] [1, 0] [1, 0] A1 A2 c1 c2 (h.later hb) (Nat.le_trans hB hb.size) (by decide) (by simp) (by omega) (fun x hx => ?_) (waits_two pole hp) (Kd.R_reads' h1).2.2 (Kd.R_reads' h2).2.2
      (fun ad e hf => by have := R_block h1 ad e; have := hlt _ hf; omega) (fun ad e hf => by have := R_block h2 ad e; have := hlt _ hf; omega) (by decide) (by decide) (fun n hn => ?_) (fun n hn => ?_) (by decide)).mono ?_
    · simp at hx; omega
    · simp at hn; simp; omega
    · simp at hn; simp; omega
    · rintro e w' ⟨F', vn', vs', A, c, he, hm⟩
      have e1 : lettersK ([] ++ [1, 2]) ([] : List Int).length [1, 0] = [2, 1] := rfl
      have e2 : northK pole [] [2, 1] = [pole.getD 0 ByteArray.empty] := rfl
      have e3 : outK pole [] [2, 1] = [0, 1] := rfl
      have e4 : hearK [0, 1] 0 [1, 0] = 1 := rfl
      rw [e1, e2, e3, e4] at hm
      refine ⟨F', vn', vs', A, c, he, (Kd.R_reads' hm.row).2.2, hm.link, (Keeps.of_below (F := F) hb).trans hm.keeps (fun _ hk => .inl hk), fun j hj => (hm.sub j hj).imp id (fun h2 => Nat.le_trans hb.size h2)⟩
  clear h
  go_enter Tryz.func39, Tryz.ntmps39
  go_wp2_with fail
  refine HR.out.mono ?_
  rintro e w1 ⟨v1, v2, rfl, r1, r2, hb⟩
  obtain ⟨A1, c1, hv1⟩ := Kd.R_slice r1
  obtain ⟨A2, c2, hv2⟩ := Kd.R_slice r2
  subst hv1 hv2
  have hl : Below w1.heap.size w1 (w1.alloc (.cells #[.slice A1 2 c1, .slice A2 2 c2] 95)) := (Below.refl _ w1).alloc (Nat.le_refl _) _
  have HC := Lib.hid (HP.out _ A1 A2 c1 c2 (hb.trans (hl.mono hb.size)) (Kd.R_below r1 hl) (Kd.R_below r2 hl))
  clear r1 r2 hb HP HR hl
  have t1 := as_not_add 95 (by decide) (.agg #[.slice A1 2 c1, .slice A2 2 c2]) w1
  have t2 := as_pass (.agg #[.slice A1 2 c1, .slice A2 2 c2]) w1
  go_wp2_with (first
    | (go_at_call 6; (refine HC.out.mono ?_); rintro e w2 ⟨F', vn', vs', A, c, rfl, hC, hL, hK, hF⟩
       have HX := Lib.hid (text_01 A c w2 hC)
       have HL := Lib.hid hL
       have HK := Lib.hid hK
       clear hC hL hK)
    | (go_at_call 48; (refine HX.out.mono ?_); rintro e w3 ⟨rfl, hb3⟩))
  first | go_ret2 | go_ret
  exact ⟨rfl, F', vn', vs', HL.out.later hb3, HK.out.trans (Keeps.of_below (F := F) hb3) (fun _ hk => .inl hk), hF⟩
end Go.Proofs.YtpiciiglncdbpaaGreatDoor.LK
