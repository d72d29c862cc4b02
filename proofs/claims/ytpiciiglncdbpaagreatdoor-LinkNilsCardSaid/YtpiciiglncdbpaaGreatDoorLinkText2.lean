/- The text of numbers. -/
import Derived.Test.YtpiciiglncdbpaaGreatDoorLinkText
namespace Go.Proofs.YtpiciiglncdbpaaGreatDoor.LK
open Go.RowKit Go.Proofs.YtpiciiglncdbpaaGreatDoorW.PrintWords Go.Proofs.YtpiciiglncdbpaaGreatDoor.P
def digS (n : Nat) : ByteArray := ⟨(Lib.decDigits n).toArray⟩
def digs (ns : List Nat) : List ByteArray := ns.map digS
theorem digs_take (ns : List Nat) {k : Nat} (hk : k < ns.length) : digs (ns.take (k + 1)) = digs (ns.take k) ++ [digS (ns.getD k 0)] := by
  unfold digs
  rw [List.take_succ_eq_append_getElem hk, List.map_append, getD_lt _ hk]
  rfl
theorem infoStr3 : (Tryz.prog.info? 9).map (fun i => (i.zero, i.size, i.bytes)) = some (some (.string ⟨#[]⟩), 1, 16) := by kernel_rfl
theorem C_at_int {w : World} {A : Option Addr} {xs : List Int} (h : Kd.C (Kd.int .i64) w A xs.length xs) (k : Nat) (hk : k < xs.length) : ∃ ad, A = some ad ∧ w.cell? (ad.add k) = some (.int .i64 (xs.getD k 0)) := C_at_sc h 0 k hk
set_option maxHeartbeats 2000000 in
set_option maxRecDepth 100000 in
theorem text_any (A : Option Addr) (c : Nat) (ns : List Nat) (w : World) (hr : Kd.C (Kd.int .i64) w A ns.length (ints ns)) (h0 : 0 < ns.length) (hs : ∀ n ∈ ns, n < 100) (hb : ns.length ≤ 1000) (hj : (Lib.join ((digs ns).map (·.data.toList)) [44]).length ≤ 140737488355328) :
    Calls Tryz.prog 48 #[.slice A ns.length c] w fun e w' => e = .returned (.string ⟨(Lib.join ((digs ns).map (·.data.toList)) [44]).toArray⟩) ∧ Below w.heap.size w w' := by
  have HS := Lib.hid hs; clear hs
  have hil : (ints ns).length = ns.length := by unfold ints; rw [List.length_map]
  have HR : Hid (Kd.C (Kd.int .i64) w A (ints ns).length (ints ns)) := by rw [hil]; exact hr
  have HIL := Lib.hid hil
  have HJ := Lib.hid hj
  clear hr hil hj
  have hne : ((ns.length : Int) == 0) = false := beq_eq_false_iff_ne.2 (by omega)
  go_enter Tryz.func48, Tryz.ntmps48
  go_wp2
  go_loopw [3, 11] (fun v3 v11 wr => ∃ (k m : Nat) (c4 : Nat) (A4 : Option Addr), v11 = .int .i64 k ∧ k ≤ ns.length ∧ v3 = .slice A4 m c4 ∧ Hid (m = (digs (ns.take k)).length) ∧ Hid (Kd.R Kd.string 9 wr w.heap.size (fun _ => True) (.slice A4 m c4) (digs (ns.take k))) ∧ Below w.heap.size w wr) (fun _ v _ => ns.length - (intOf v).toNat)
  case atStart => exact ⟨0, 0, 0, none, rfl, by omega, rfl, (by show _ = _; rw [List.take_zero]; rfl), (by rw [List.take_zero]; exact Kd.R_nil _ _ _ _ _), Below.refl _ _⟩
  case round =>
    obtain ⟨k, m, c4, A4, rfl, hk, rfl, HM, HI, hb1⟩ := hrel
    have hm : m ≤ 1000 := by have := HM.out; unfold digs at this; rw [List.length_map, List.length_take] at this; omega
    by_cases hlt : k < ns.length
    · obtain ⟨ad, e1, cx⟩ := C_at_int HR.out k (by rw [HIL.out]; exact hlt)
      subst e1
      replace cx := cell_later hb1 cx
      have hg : (ints ns).getD k 0 = ((ns.getD k 0 : Nat) : Int) := by
        unfold ints
        rw [getD_lt _ (by rw [List.length_map]; exact hlt), getD_lt _ hlt, List.getElem_map]
      rw [hg] at cx
      have hltz : (k : Int) < (ns.length : Int) := by omega
      have HT := Lib.hid (digs_take ns hlt)
      have HN := Lib.hid (HS.out _ (getD_mem 0 hlt))
      clear hg
      generalize ns.getD k 0 = i at cx HT HN
      have hit := fun W => Tryz.strconv_Itoa_small i HN.out W
      have hit2 : ∀ W, Calls Tryz.prog 40 #[.int .i64 i] W fun e w' => e = .returned (.string (digS i)) ∧ w' = W := hit
      have HC := Lib.hid hit2
      clear hit hit2
      generalize digS i = x at HT HC
      have hbl : Below wr.heap.size wr (wr.alloc (.cells #[.string x] 9)) := (Below.refl _ wr).alloc (Nat.le_refl _) _
      have HBL : Hid (Below w.heap.size w (wr.alloc (.cells #[.string x] 9))) := hb1.trans (hbl.mono hb1.size)
      have HRI : Hid (Kd.R Kd.string 9 (wr.alloc (.cells #[.string x] 9)) w.heap.size (fun _ => True) (.slice A4 m c4) (digs (ns.take k))) := Kd.R_below HI.out hbl
      have HRS : Hid (Kd.C Kd.string (wr.alloc (.cells #[.string x] 9)) (some ⟨wr.heap.size, 0, none⟩) 1 [x]) := (Kd.R_reads' (Kd.R_of_own (enc := Value.string) (h1 := fun _ => rfl) (e := 9) (base := 0) (ok := fun _ => True) (World.ownsRow_lit wr #[.string x] 1 (Nat.zero_le _) (by decide) rfl) (fun _ _ => trivial))).2.2
      have HLn : Hid (((digs (ns.take k)).length + 1) * 16 ≤ 140737488355328) := by show _ ≤ _; have := HM.out; omega
      clear hbl
      go_wp2_with (first
        | (go_at_call 40; (refine (HC.out _).mono ?_); rintro e w' ⟨rfl, hw'⟩; obtain rfl : wr = w' := hw'.symm)
        | (at_builtin; refine Kd.R_append_rows Kd.string (w0 := w) w.heap.size rfl _ _ 28 9 (.string ⟨#[]⟩) 16 rfl Tryz.underlying28 infoStr3 rfl (by decide) (by omega) _ (digs (ns.take k)) [x] (some ⟨wr.heap.size, 0, none⟩) 1 1 (fun _ => True) (fun _ => False) rfl rfl HRI.out HRS.out (fun _ _ h => h) (fun _ h => h.elim) (fun _ _ => trivial) HBL.out HBL.out.size HLn.out ?_))
      intro v1 w2 HO1 HB1 _ _
      obtain ⟨A1, k1, hv1⟩ := Kd.R_slice HO1
      subst hv1
      have HO2 := Lib.hid HO1
      have HB2 := Lib.hid HB1
      clear HO1 HB1
      go_wp2
      go_roundw
      case rel => exact ⟨k + 1, _, k1, A1, by go_num, by omega, rfl, (by show _ = _; rw [HT.out]), (by rw [HT.out]; exact HO2.out), HB2.out⟩
      case measure => simp [intOf]; omega
    · obtain rfl : k = ns.length := by omega
      have hltz : ¬ ((ns.length : Int) < (ns.length : Int)) := by omega
      have hall : ns.take ns.length = ns := List.take_of_length_le (Nat.le_refl _)
      rw [hall] at HI HM
      have hdl : (digs ns).length = ns.length := by unfold digs; rw [List.length_map]
      have hmn : m = ns.length := by rw [HM.out, hdl]
      obtain ⟨g, cap, hv, _, hgl, _⟩ := Kd.R_form HI.out (by omega)
      injection hv with ea eb ec
      subst ea
      subst ec
      have hown := Kd.own_of_R HI.out
      have hcells : ∀ (j : Nat) x, (digs ns)[j]? = some x → wr.cell? ⟨g, 0 + j, none⟩ = some (.string x) := fun j x hx => by
        have hj : j < (digs ns).length := (List.getElem?_eq_some_iff.1 hx).1
        rw [Nat.zero_add]
        rw [← eb] at hown
        rw [hown.cellAt j (by omega)]
        unfold encs
        rw [List.getElem?_map, hx]
        rfl
      have hJ := Tryz.strings_Join g 0 c4 (digs ns) ⟨#[44]⟩ wr hcells hgl (by omega) (by have := (Kd.R_reads' HI.out).2.1; omega) HJ.out
      rw [show (digs ns).length = m by omega] at hJ
      have HC := Lib.hid hJ
      clear hJ hcells hown eb hmn hdl hall
      go_wp2_with (go_at_call 57; (refine HC.out.mono ?_); rintro e w' ⟨rfl, hb2⟩)
      go_ret
      exact ⟨rfl, hb1.trans (hb2.mono hb1.size)⟩
theorem text_01 (A : Option Addr) (c : Nat) (w : World) (hr : Kd.C (Kd.int .i64) w A 2 [0, 1]) : Calls Tryz.prog 48 #[.slice A 2 c] w fun e w' => e = .returned (.string ⟨#[48, 44, 49]⟩) ∧ Below w.heap.size w w' := by
  have hd0 : digS 0 = ⟨#[48]⟩ := by unfold digS; first | kernel_rfl | (rw [Lib.decDigits]; rfl)
  have hd1 : digS 1 = ⟨#[49]⟩ := by unfold digS; first | kernel_rfl | (rw [Lib.decDigits]; rfl)
  have hj : Lib.join ((digs [0, 1]).map (·.data.toList)) [44] = [48, 44, 49] := by
    unfold digs
    simp only [List.map_cons, List.map_nil, hd0, hd1]
    rfl
  have h := text_any A c [0, 1] w hr (by decide) (by decide) (by decide) (by rw [hj]; decide)
  rw [hj] at h
  exact h
end Go.Proofs.YtpiciiglncdbpaaGreatDoor.LK
