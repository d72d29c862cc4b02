/- Play, where every line has an answer. -/
import Derived.Test.YtpiciiglncdbpaaGreatDoorLinkMid
namespace Go.Proofs.YtpiciiglncdbpaaGreatDoor.LK
open Go.RowKit Go.Proofs.YtpiciiglncdbpaaGreatDoorW.PrintWords Go.Proofs.YtpiciiglncdbpaaGreatDoor.P
theorem Keeps.rowS {G : Nat → Prop} {w w' : World} {base : Nat} {v : Value} {xs : List ByteArray} (h : Keeps G w w') (hR : Kd.R Kd.string 9 w base (fun _ => True) v xs) (hO : ∀ g, v.ownBlock = some g → ¬ G g) : Kd.R Kd.string 9 w' base (fun _ => True) v xs := by
  have ho : w.ownsRow base 9 1 v xs.length (pw_strs xs) := Kd.own_of_R hR
  exact Kd.R_of_own (enc := Value.string) (h1 := fun _ => rfl) (own_move ho (fun g hg => h.block g (own_lt ho g hg) (hO g hg))) (fun _ _ => trivial)
theorem R_blockS {W : World} {base : Nat} {v : Value} {xs : List ByteArray} (hR : Kd.R Kd.string 9 W base (fun _ => True) v xs) : ∀ g, v.ownBlock = some g → base ≤ g ∧ g < W.heap.size := by
  intro g hg
  have ho : W.ownsRow base 9 1 v xs.length (pw_strs xs) := Kd.own_of_R hR
  exact ⟨own_base ho g hg, own_lt ho g hg⟩
/-- What stands between two lines. -/
structure PlayMid (Inv : Nat → (Nat → Prop) → World → Prop) (w : World) (k : Nat) (F' : Nat → Prop) (out : List ByteArray) (v : Value) (wr : World) : Prop where
  inv : Inv k F' wr
  below : Below w.heap.size w wr
  row : Kd.R Kd.string 9 wr w.heap.size (fun _ => True) v out
  apart : ∀ g, v.ownBlock = some g → ¬ F' g
theorem PlayMid.wrote {Inv : Nat → (Nat → Prop) → World → Prop} {w wr w1 w2 : World} {k : Nat} {F' F2 : Nat → Prop} {out out2 : List ByteArray} {v v1 : Value}
    (hmv : ∀ k F' w1 w2, Inv k F' w1 → Keeps (fun j => ¬ F' j ∧ w.heap.size ≤ j) w1 w2 → Inv k F' w2) (hlt : ∀ k F' w1, Inv k F' w1 → ∀ j, F' j → w.heap.size ≤ j ∧ j < w1.heap.size)
    (h : PlayMid Inv w k F' out v wr) (hI : Inv (k + 1) F2 w1) (hK : Keeps F' wr w1) (hF : ∀ j, F2 j → F' j ∨ wr.heap.size ≤ j) (o : Obj)
    (hR : Kd.R Kd.string 9 w2 w.heap.size (fun _ => True) v1 out2) (hg : (w1.alloc o).grownBy w2 v.ownBlock) (hat : v1.ownBlock = v.ownBlock ∨ ∃ g, v1.ownBlock = some g ∧ (w1.alloc o).heap.size ≤ g) :
    PlayMid Inv w (k + 1) F2 out2 v1 w2 := by
  have hg2 : w1.grownBy w2 v.ownBlock := (World.grownBy_alloc w1 _ _).trans hg
  have hb := R_blockS h.row
  have hap : ∀ g, v.ownBlock = some g → ¬ F2 g := fun g hgo hj => by
    rcases hF g hj with h1 | h1
    · exact h.apart g hgo h1
    · have := (hb g hgo).2; omega
  have hb1 : Below w.heap.size w w1 := h.below.trans (hK.below h.below.size (fun j hj => (hlt _ _ _ h.inv j hj).1))
  have hK2 : Keeps (fun j => ¬ F2 j ∧ w.heap.size ≤ j) w1 w2 := ⟨hg2.os, hg2.tape, hg2.output, hg2.size, fun j hj hne => hg2.block j hj (fun he => hne ⟨hap j he.symm, (hb j he.symm).1⟩)⟩
  refine ⟨hmv _ _ _ _ hI hK2, hb1.trans (hK2.below hb1.size (fun j hj => hj.2)), hR, ?_⟩
  intro g hgo hj
  rcases hat with h1 | ⟨g', h1, h2⟩
  · exact hap g (h1 ▸ hgo) hj
  · rw [hgo] at h1
    injection h1 with h1
    have := (hlt _ _ _ hI g hj).2
    have h3 : (w1.alloc o).heap.size = w1.heap.size + 1 := by simp
    omega
theorem strs_take (ws : List ByteArray) {k : Nat} (hk : k < ws.length) : ws.take (k + 1) = ws.take k ++ [ws.getD k ByteArray.empty] := by
  rw [List.take_succ_eq_append_getElem hk, getD_lt _ hk]
set_option maxHeartbeats 4000000 in
set_option maxRecDepth 100000 in
theorem play_ok (win : Int) (h1 : 1 ≤ win) (h8 : win ≤ 8) (lines ans : List ByteArray) (A : Option Addr) (c : Nat) (w : World) (hC : Kd.C Kd.string w A lines.length lines) (hl : lines.length ≤ 100) (hal : ans.length = lines.length)
    (Inv : Nat → (Nat → Prop) → World → Prop)
    (h0 : Inv 0 (fun k => k = w.heap.size) (w.alloc (.cells #[.int .i64 win, .slice none 0 0, .slice none 0 0, .int .i64 0, .slice none 0 0] 32)))
    (hmv : ∀ k F' w1 w2, Inv k F' w1 → Keeps (fun j => ¬ F' j ∧ w.heap.size ≤ j) w1 w2 → Inv k F' w2)
    (hlt : ∀ k F' w1, Inv k F' w1 → ∀ j, F' j → w.heap.size ≤ j ∧ j < w1.heap.size)
    (hst : ∀ k, k < lines.length → ∀ F' w1, Inv k F' w1 → Calls Tryz.prog 39 #[.pointer (some ⟨w.heap.size, 0, none⟩), .string (lines.getD k ByteArray.empty)] w1 fun e w' =>
      e = .returned (.tuple #[.string (ans.getD k ByteArray.empty), .int .i64 0]) ∧ ∃ F2, Inv (k + 1) F2 w' ∧ Keeps F' w1 w' ∧ ∀ j, F2 j → F' j ∨ w1.heap.size ≤ j) :
    Calls Tryz.prog 20 #[.int .i64 win, .slice A lines.length c] w fun e w' => ∃ v, e = .returned (.tuple #[v, .int .i64 0]) ∧ Kd.R Kd.string 9 w' w.heap.size (fun _ => True) v ans ∧ Below w.heap.size w w' := by
  have HN := Lib.hid (new_any win h1 h8 w)
  have hb0 : Below w.heap.size w (w.alloc (.cells #[.int .i64 win, .slice none 0 0, .slice none 0 0, .int .i64 0, .slice none 0 0] 32)) := (Below.refl _ w).alloc (Nat.le_refl _) _
  have HM0 : Hid (PlayMid Inv w 0 (fun k => k = w.heap.size) [] (.slice none 0 0) (w.alloc (.cells #[.int .i64 win, .slice none 0 0, .slice none 0 0, .int .i64 0, .slice none 0 0] 32))) :=
    ⟨h0, hb0, Kd.R_nil _ _ _ _ _, fun g hg => by simp [Value.ownBlock] at hg⟩
  have HC := Lib.hid hC
  have HAL := Lib.hid hal
  have HMV := Lib.hid hmv
  have HLT := Lib.hid hlt
  have HST := Lib.hid hst
  have g1 : decide ((lines.length : Int) > 100) = false := decide_eq_false (by omega)
  have g2 : decide ((100 : Int) < (lines.length : Int)) = false := decide_eq_false (by omega)
  clear h0 hb0 hC hal hmv hlt hst
  go_enter Tryz.func20, Tryz.ntmps20
  go_wp2_with (go_at_call 5; (refine HN.out.mono ?_); rintro e w' ⟨rfl, hw'⟩; subst hw')
  generalize w.alloc (.cells #[.int .i64 win, .slice none 0 0, .slice none 0 0, .int .i64 0, .slice none 0 0] 32) = w0 at HM0 ⊢
  go_loopw [8, 28] (fun v8 v28 wr => ∃ (k m c8 : Nat) (A8 : Option Addr) (F' : Nat → Prop), v28 = .int .i64 k ∧ k ≤ lines.length ∧ v8 = .slice A8 m c8 ∧ Hid (m = (ans.take k).length) ∧ Hid (PlayMid Inv w k F' (ans.take k) (.slice A8 m c8) wr)) (fun _ v _ => lines.length - (intOf v).toNat)
  case atStart => exact ⟨0, 0, 0, none, _, rfl, by omega, rfl, (by show _ = _; rw [List.take_zero]; rfl), (by rw [List.take_zero]; exact HM0.out)⟩
  case round =>
    obtain ⟨k, m, c8, A8, F', rfl, hk, rfl, HM, HP⟩ := hrel
    have hm : m ≤ 100 := by have := HM.out; rw [List.length_take] at this; omega
    by_cases hlt : k < lines.length
    · obtain ⟨ad, e1, cx⟩ := KC_at_str HC.out k hlt
      subst e1
      replace cx := cell_later HP.out.below cx
      have HD := Lib.hid (HST.out k hlt F' wr HP.out.inv)
      have HT := Lib.hid (strs_take ans (show k < ans.length by rw [HAL.out]; exact hlt))
      generalize lines.getD k ByteArray.empty = x at cx HD
      generalize ans.getD k ByteArray.empty = y at HD HT
      go_wp2_with (first
        | (go_at_call 39; (refine HD.out.mono ?_); rintro e w1 ⟨rfl, F2, hI, hK, hF⟩
           have HI := Lib.hid hI
           have HK := Lib.hid hK
           have HRI : Hid (Kd.R Kd.string 9 (w1.alloc (.cells #[.string y] 9)) w.heap.size (fun _ => True) (.slice A8 m c8) (ans.take k)) := Kd.R_below (HK.out.rowS HP.out.row HP.out.apart) ((Below.refl _ w1).alloc (Nat.le_refl _) _)
           have HRS : Hid (Kd.C Kd.string (w1.alloc (.cells #[.string y] 9)) (some ⟨w1.heap.size, 0, none⟩) 1 [y]) := (Kd.R_reads' (Kd.R_of_own (enc := Value.string) (h1 := fun _ => rfl) (e := 9) (base := 0) (ok := fun _ => True) (World.ownsRow_lit w1 #[.string y] 1 (Nat.zero_le _) (by decide) rfl) (fun _ _ => trivial))).2.2
           have HLn : Hid (((ans.take k).length + 1) * 16 ≤ 140737488355328) := by show _ ≤ _; have := HM.out; omega
           have HBS : Hid (w.heap.size ≤ (w1.alloc (.cells #[.string y] 9)).heap.size) := Nat.le_trans HP.out.below.size (Nat.le_trans HK.out.size (by simp))
           clear hI hK)
        | (at_builtin; refine Kd.R_append_rows Kd.string (w0 := w1.alloc (.cells #[.string y] 9)) w.heap.size rfl _ _ 28 9 (.string ⟨#[]⟩) 16 rfl Tryz.underlying28 infoStr3 rfl (by decide) (by omega) _ (ans.take k) [y] (some ⟨w1.heap.size, 0, none⟩) 1 1 (fun _ => True) (fun _ => False) rfl rfl HRI.out HRS.out (fun _ _ h => h) (fun _ h => h.elim) (fun _ _ => trivial) (Below.refl _ _) HBS.out HLn.out ?_))
      intro v1 w2 HO1 _ hg hat
      have hat2 : v1.ownBlock = (Value.slice A8 m c8).ownBlock ∨ ∃ g, v1.ownBlock = some g ∧ (w1.alloc (.cells #[.string y] 9)).heap.size ≤ g := by
        rcases hat with h1 | ⟨g, h1, h2⟩
        · exact .inl h1
        · exact .inr ⟨g, h1, by first | exact h2 | simpa using h2⟩
      have hW := HP.out.wrote HMV.out HLT.out HI.out HK.out hF (.cells #[.string y] 9) HO1 hg hat2
      obtain ⟨A1, k1, hv1⟩ := Kd.R_slice HO1
      subst hv1
      have HW := Lib.hid hW
      clear HO1 hW hg hat hat2 hF
      go_wp2
      go_roundw
      case rel => exact ⟨k + 1, _, k1, A1, F2, by go_num, by omega, rfl, (by show _ = _; rw [HT.out]), (by rw [HT.out]; exact HW.out)⟩
      case measure => simp [intOf]; omega
    · obtain rfl : k = lines.length := by omega
      have hall : ans.take lines.length = ans := List.take_of_length_le (by rw [HAL.out]; exact Nat.le_refl _)
      rw [hall] at HP
      go_wp2
      first | go_ret2 | go_ret
      exact ⟨_, rfl, HP.out.row, HP.out.below⟩
end Go.Proofs.YtpiciiglncdbpaaGreatDoor.LK
