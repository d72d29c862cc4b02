/- Numbers of words: number at a text that is a small number's. -/
import Derived.Test.YtpiciiglncdbpaaGreatDoorLinkWords
import Derived.Test.YtpiciiglncdbpaaGreatDoorShelf
import Derived.Lib.ConvBytes
import Derived.Deep.RegionWith
import Derived.Test.YtpiciiglncdbpaaGreatDoorSF
import Derived.OwnWalk
namespace Go.Proofs.YtpiciiglncdbpaaGreatDoor.LK
open Go.RowKit Go.Proofs.YtpiciiglncdbpaaGreatDoorW.PrintWords Go.Proofs.YtpiciiglncdbpaaGreatDoor.P
/-- A text that is the number i's, i below 100. -/
structure NumS (s : ByteArray) (i : Nat) : Prop where
  lt : i < 100
  size : s.size ≤ 18
  read : Lib.atoi s.data.toList = some (i : Int)
  back : (⟨(Lib.decDigits i).toArray⟩ : ByteArray) = s
theorem num0 : NumS ⟨#[48]⟩ 0 := ⟨by omega, by decide, by decide, by first | kernel_rfl | (rw [Lib.decDigits]; rfl)⟩
theorem num1 : NumS ⟨#[49]⟩ 1 := ⟨by omega, by decide, by decide, by first | kernel_rfl | (rw [Lib.decDigits]; rfl)⟩
set_option maxHeartbeats 1000000 in
set_option maxRecDepth 100000 in
theorem number_any {s : ByteArray} {i : Nat} (h : NumS s i) (w : World) : Calls Tryz.prog 52 #[.string s] w fun e w' => e = .returned (.tuple #[.int .i64 i, .bool true]) ∧ Below w.heap.size w w' := by
  have ha := Tryz.strconv_Atoi s i h.size h.read w
  have hi := fun W => Tryz.strconv_Itoa_small i h.lt W
  rw [h.back] at hi
  have hb := fun W => between_any (-999999) (i : Int) 999999 W
  have hlt := h.lt
  rw [decide_eq_true (by omega), decide_eq_true (by omega)] at hb
  have HA := Lib.hid ha
  have HI := Lib.hid hi
  have HB := Lib.hid hb
  clear ha hi hb h
  go_enter Tryz.func52, Tryz.ntmps52
  go_wp2_with (first
    | (go_at_call 62; (refine HA.out.mono ?_); rintro e w1 ⟨rfl, t, hw1⟩
       have hb1 : Below w.heap.size w w1 := by rw [hw1]; exact bytes_below (Below.refl _ _) (Nat.le_refl _) _ _
       clear hw1)
    | (go_at_call 40; (refine (HI.out _).mono ?_); rintro e w' ⟨rfl, hw'⟩; obtain rfl : w1 = w' := hw'.symm)
    | (go_at_call 22; (refine (HB.out _).mono ?_); rintro e w' ⟨rfl, hw'⟩; obtain rfl : w1 = w' := hw'.symm))
  first | go_ret2 | go_ret
  exact ⟨by simp, hb1⟩
theorem infoInt2 : (Tryz.prog.info? 3).map (fun i => (i.zero, i.size, i.bytes)) = some (some (.int .i64 0), 1, 8) := by kernel_rfl
def ints (ns : List Nat) : List Int := ns.map fun (n : Nat) => (n : Int)
theorem ints_take (ns : List Nat) {k : Nat} (hk : k < ns.length) : ints (ns.take (k + 1)) = ints (ns.take k) ++ [((ns.getD k 0 : Nat) : Int)] := by
  unfold ints
  rw [List.take_succ_eq_append_getElem hk, List.map_append, getD_lt _ hk]
  rfl
set_option maxHeartbeats 2000000 in
set_option maxRecDepth 100000 in
theorem all_any (A : Option Addr) (c : Nat) (ws : List ByteArray) (ns : List Nat) (w : World) (hr : Kd.C Kd.string w A ws.length ws) (hl : ns.length = ws.length) (hs : ∀ k, k < ws.length → NumS (ws.getD k ByteArray.empty) (ns.getD k 0)) (hb : ws.length ≤ 1000) :
    Calls Tryz.prog 43 #[.slice A ws.length c] w fun e w' => ∃ v : Value, e = .returned (.tuple #[v, .bool true]) ∧ Kd.R (Kd.int .i64) 3 w' w.heap.size (fun _ => True) v (ints ns) ∧ Below w.heap.size w w' := by
  have HS := Lib.hid hs; clear hs
  have HL := Lib.hid hl; clear hl
  have HR := Lib.hid hr; clear hr
  go_enter Tryz.func43, Tryz.ntmps43
  go_wp2
  go_loopw [4, 11] (fun v4 v11 wr => ∃ (k m : Nat) (c4 : Nat) (A4 : Option Addr), v11 = .int .i64 k ∧ k ≤ ws.length ∧ v4 = .slice A4 m c4 ∧ Hid (m = (ints (ns.take k)).length) ∧ Hid (Kd.R (Kd.int .i64) 3 wr w.heap.size (fun _ => True) (.slice A4 m c4) (ints (ns.take k))) ∧ Below w.heap.size w wr) (fun _ v _ => ws.length - (intOf v).toNat)
  case atStart => exact ⟨0, 0, 0, none, rfl, by omega, rfl, (by show _ = _; rw [List.take_zero]; rfl), (by rw [List.take_zero]; exact Kd.R_nil _ _ _ _ _), Below.refl _ _⟩
  case round =>
    obtain ⟨k, m, c4, A4, rfl, hk, rfl, HM, HI, hb1⟩ := hrel
    have hm : m ≤ 1000 := by have := HM.out; unfold ints at this; rw [List.length_map, List.length_take] at this; omega
    by_cases hlt : k < ws.length
    · obtain ⟨ad, e1, cx⟩ := KC_at_str HR.out k hlt
      subst e1
      replace cx := cell_later hb1 cx
      have hltz : (k : Int) < (ws.length : Int) := by omega
      have HT := Lib.hid (ints_take ns (show k < ns.length by have := HL.out; omega))
      have HN := Lib.hid (HS.out k hlt)
      generalize ws.getD k ByteArray.empty = x at cx HN
      generalize ns.getD k 0 = i at HT HN
      have HC := Lib.hid (number_any HN.out wr)
      go_wp2_with (first
        | (go_at_call 52; (refine HC.out.mono ?_); rintro e w1 ⟨rfl, hb2⟩
           have hbl : Below w1.heap.size w1 (w1.alloc (.cells #[.int .i64 i] 3)) := (Below.refl _ w1).alloc (Nat.le_refl _) _
           have hb3 : Below w.heap.size w w1 := hb1.trans (hb2.mono hb1.size)
           have HBL : Hid (Below w.heap.size w (w1.alloc (.cells #[.int .i64 i] 3))) := hb3.trans (hbl.mono hb3.size)
           have HRI : Hid (Kd.R (Kd.int .i64) 3 (w1.alloc (.cells #[.int .i64 i] 3)) w.heap.size (fun _ => True) (.slice A4 m c4) (ints (ns.take k))) := Kd.R_below (Kd.R_below HI.out hb2) hbl
           have HRS : Hid (Kd.C (Kd.int .i64) (w1.alloc (.cells #[.int .i64 i] 3)) (some ⟨w1.heap.size, 0, none⟩) 1 [(i : Int)]) := (Kd.R_reads' (Kd.R_of_own (enc := Value.int .i64) (h1 := fun _ => rfl) (e := 3) (base := 0) (ok := fun _ => True) (World.ownsRow_lit w1 #[.int .i64 i] 1 (Nat.zero_le _) (by decide) rfl) (fun _ _ => trivial))).2.2
           have HLn : Hid (((ints (ns.take k)).length + 1) * 8 ≤ 140737488355328) := by show _ ≤ _; have := HM.out; omega
           clear hbl HC)
        | (at_builtin; refine Kd.R_append_rows (Kd.int .i64) (w0 := w) w.heap.size rfl _ _ 22 3 (.int .i64 0) 8 rfl Tryz.underlying22 infoInt2 rfl (by decide) (by omega) _ (ints (ns.take k)) [(i : Int)] (some ⟨w1.heap.size, 0, none⟩) 1 1 (fun _ => True) (fun _ => False) rfl rfl HRI.out HRS.out (fun _ _ h => h) (fun _ h => h.elim) (fun _ _ => trivial) HBL.out HBL.out.size HLn.out ?_))
      intro v1 w2 HO1 HB1 _ _
      obtain ⟨A1, k1, hv1⟩ := Kd.R_slice HO1
      subst hv1
      have HO2 := Lib.hid HO1
      have HB2 := Lib.hid HB1
      clear HO1 HB1
      go_wp2
      go_roundw
      case rel => exact ⟨k + 1, _, k1, A1, by go_num, by omega, rfl, (by show _ = _; rw [HT.out]), (by rw [HT.out]; exact HO2.out), HB2.out⟩
      case measure => simp [intOf]; omega
    · obtain rfl : k = ws.length := by omega
      have hltz : ¬ ((ws.length : Int) < (ws.length : Int)) := by omega
      have hall : ns.take ws.length = ns := List.take_of_length_le (by have := HL.out; omega)
      rw [hall] at HI
      go_wp2
      go_ret2
      exact ⟨_, rfl, HI.out, hb1⟩
/-- The package variable that the search in texts looks at holds some number. -/
def MaxL (w : World) : Prop := ∃ m, w.cell? ⟨1, 0, none⟩ = some (.int .i64 m)
theorem MaxL.later {w w' : World} (h : MaxL w) (hb : Below w.heap.size w w') : MaxL w' := by
  obtain ⟨m, hm⟩ := h
  exact ⟨m, by rw [hb.cell (World.block_lt_of_cell? w _ hm)]; exact hm⟩
set_option maxHeartbeats 1000000 in
set_option maxRecDepth 100000 in
theorem list_any (s : ByteArray) (ws : List ByteArray) (ns : List Nat) (w : World) (hM : MaxL w) (hz : s.size < 1000) (hw : Lib.splitB ⟨#[44]⟩ 0 (Lib.countB s ⟨#[44]⟩) s = ws) (hc : Lib.countB s ⟨#[44]⟩ + 1 = ws.length) (hl : ns.length = ws.length) (hs : ∀ k, k < ws.length → NumS (ws.getD k ByteArray.empty) (ns.getD k 0)) (hb : ws.length ≤ 1000) :
    Calls Tryz.prog 66 #[.string s] w fun e w' => ∃ v : Value, e = .returned (.tuple #[v, .bool true]) ∧ Kd.R (Kd.int .i64) 3 w' w.heap.size (fun _ => True) v (ints ns) ∧ Below w.heap.size w w' := by
  obtain ⟨m, hm⟩ := hM
  have hS := Tryz.strings_Split s ⟨#[44]⟩ m w (by omega) hm (by decide)
  rw [hw, hc] at hS
  have hbl : Below w.heap.size w (w.alloc (.cells (ws.map Value.string).toArray 9)) := (Below.refl _ w).alloc (Nat.le_refl _) _
  have hR := World.ownsRow_lit (base := 0) (e := 9) (size := 1) w (ws.map Value.string).toArray ws.length (Nat.zero_le _) (by unfold maxLen; omega) (by simp)
  have hA := all_any (some ⟨w.heap.size, 0, none⟩) ws.length ws ns (w.alloc (.cells (ws.map Value.string).toArray 9)) (Kd.R_reads' (Kd.R_of_own (enc := Value.string) (h1 := fun _ => rfl) (ok := fun _ => True) hR (fun _ _ => trivial))).2.2 hl hs hb
  have HS := Lib.hid hS
  have HA := Lib.hid hA
  have HB := Lib.hid hbl
  clear hS hA hbl hR hm hs hw hc
  go_enter Tryz.func66, Tryz.ntmps66
  go_wp2_with (first
    | (go_at_call 42; (refine HS.out.mono ?_); rintro e w' ⟨rfl, hw'⟩; subst hw')
    | (go_at_call 43; (refine HA.out.mono ?_); rintro e w2 ⟨v, rfl, h2, hb2⟩))
  first | go_ret2 | go_ret
  exact ⟨v, rfl, Kd.R_lower h2 (by simp), HB.out.trans (hb2.mono (by simp))⟩
set_option maxRecDepth 100000 in
theorem places_any (s : ByteArray) (ws : List ByteArray) (ns : List Nat) (w : World) (hM : MaxL w) (hd : (s.toList == [45]) = false) (hz : s.size < 1000) (hw : Lib.splitB ⟨#[44]⟩ 0 (Lib.countB s ⟨#[44]⟩) s = ws) (hc : Lib.countB s ⟨#[44]⟩ + 1 = ws.length) (hl : ns.length = ws.length) (hs : ∀ k, k < ws.length → NumS (ws.getD k ByteArray.empty) (ns.getD k 0)) (hb : ws.length ≤ 1000) :
    Calls Tryz.prog 56 #[.string s] w fun e w' => ∃ v : Value, e = .returned (.tuple #[v, .bool true]) ∧ Kd.R (Kd.int .i64) 3 w' w.heap.size (fun _ => True) v (ints ns) ∧ Below w.heap.size w w' := by
  have HA := Lib.hid (list_any s ws ns w hM hz hw hc hl hs hb)
  have hd2 : (s.toList == (ByteArray.mk #[45]).toList) = false := by rw [show (ByteArray.mk #[45]).toList = [45] by simp [ByteArray.toList_eq]]; exact hd
  clear hs hw hc
  go_enter Tryz.func56, Tryz.ntmps56
  go_wp2_with (go_at_call 66; (refine HA.out.mono ?_); rintro e w2 ⟨v, rfl, h2, hb2⟩)
  first | go_ret2 | go_ret
  exact ⟨v, rfl, h2, hb2⟩
/-- The places of the script's fourth line. -/
theorem places_10 (w : World) (hM : MaxL w) : Calls Tryz.prog 56 #[.string ⟨#[49, 44, 48]⟩] w fun e w' => ∃ v : Value, e = .returned (.tuple #[v, .bool true]) ∧ Kd.R (Kd.int .i64) 3 w' w.heap.size (fun _ => True) v [1, 0] ∧ Below w.heap.size w w' :=
  places_any ⟨#[49, 44, 48]⟩ [⟨#[49]⟩, ⟨#[48]⟩] [1, 0] w hM (by first | decide | kernel_rfl) (by decide) (by first | kernel_rfl | rfl) (by first | kernel_rfl | rfl) rfl (fun k hk => by
    have : k = 0 ∨ k = 1 := by simp at hk; omega
    rcases this with rfl | rfl
    · exact num1
    · exact num0) (by decide)
end Go.Proofs.YtpiciiglncdbpaaGreatDoor.LK
