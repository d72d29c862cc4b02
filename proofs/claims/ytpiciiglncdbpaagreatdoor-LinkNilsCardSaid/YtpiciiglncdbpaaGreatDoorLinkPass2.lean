/- Pass, where no number is wrong. -/
import Derived.Test.YtpiciiglncdbpaaGreatDoorLinkMid
import Derived.Deep.DeepCutAuto
import Derived.Deep.CutRange
namespace Go.Proofs.YtpiciiglncdbpaaGreatDoor.LK
open Go.RowKit Go.Proofs.YtpiciiglncdbpaaGreatDoorW.PrintWords Go.Proofs.YtpiciiglncdbpaaGreatDoor.P
variable {B : Nat} {F : Nat → Prop} {W : World} {b : Nat} {win seen : Int} {vp vn vs : Value} {pole north : List ByteArray} {sent : List Int}
set_option maxHeartbeats 4000000 in
set_option maxRecDepth 100000 in
theorem pass_yes (k : Nat) (now dn un : List Int) (Ad Au : Option Addr) (cd cu : Nat) (h : LinkAt B F W b win seen vp vn vs pole north sent) (hB : B ≤ W.heap.size) (hw : win ≠ 0) (hn0 : north.length ≤ pole.length) (hp0 : pole.length ≤ 60) (hsp : ∀ x ∈ sent ++ now, x ≤ (pole.length : Int))
    (hnow : link_state_waits.f k win pole north seen sent = some now)
    (hd : Kd.C (Kd.int .i64) W Ad dn.length dn) (hu : Kd.C (Kd.int .i64) W Au un.length un) (hdF : ∀ ad, Ad = some ad → ¬ F ad.block) (huF : ∀ ad, Au = some ad → ¬ F ad.block) (hdl : dn.length ≤ 50) (hul : un.length ≤ 50)
    (hda : ∀ n ∈ dn, -(sent.length : Int) ≤ n ∧ n ≤ (now.length : Int) - 1) (hua : ∀ n ∈ un, 0 ≤ n ∧ n ≤ (dn.length : Int) - 1) (hs : sent.length + now.length ≤ 2000) :
    Calls Tryz.prog 6 #[.pointer (some ⟨b, 0, none⟩), .slice Ad dn.length cd, .slice Au un.length cu] W fun e w' => ∃ F' vn' vs' A c, e = .returned (.tuple #[.slice A dn.length c, .int .i64 0]) ∧ PassMid B F F' W b win (hearK (outK pole north (lettersK (sent ++ now) sent.length dn)) seen un) vp vn' vs' pole (northK pole north (lettersK (sent ++ now) sent.length dn)) (sent ++ now) (outK pole north (lettersK (sent ++ now) sent.length dn)) (.slice A dn.length c) w' := by
  have HN : Hid (∀ w', Below W.heap.size W w' → Calls Tryz.prog 23 #[.pointer (some ⟨b, 0, none⟩)] w' fun e w'' => e = .returned (.bool false) ∧ w'' = w') := fun w' hb => none_no (h.later hb).cells.1 hw
  obtain ⟨As, cs, hvs, _, _⟩ := Kd.R_reads (Kd.R_of_own (enc := Value.int .i64) (h1 := fun _ => rfl) (ok := fun _ => True) h.sent (fun _ _ => trivial))
  subst hvs
  have HL := Lib.hid h
  clear h
  go_enter Tryz.func6, Tryz.ntmps6
  have HB2 : Hid (Below W.heap.size W ((W.alloc (.cells #[.pointer (some ⟨b, 0, none⟩)] 24)).alloc (.cells #[.slice Ad dn.length cd] 22))) := ((Below.refl _ W).alloc (Nat.le_refl _) _).alloc (by simp) _
  have HL2 := Lib.hid (HL.out.later HB2.out)
  obtain ⟨c20, c21, c22, c23, c24⟩ := HL2.out.cells
  have HW := Lib.hid (waits_at HL2.out hnow)
  have a1 : ((W.alloc (.cells #[.pointer (some ⟨b, 0, none⟩)] 24)).alloc (.cells #[.slice Ad dn.length cd] 22)).cell? ⟨W.heap.size, 0, none⟩ = some (.pointer (some ⟨b, 0, none⟩)) := by go_simp
  have a2 : ((W.alloc (.cells #[.pointer (some ⟨b, 0, none⟩)] 24)).alloc (.cells #[.slice Ad dn.length cd] 22)).cell? ⟨W.heap.size + 1, 0, none⟩ = some (.slice Ad dn.length cd) := by go_simp
  have A1 := Lib.hid a1
  have A2 := Lib.hid a2
  clear a1 a2
  go_upto_region 7 with (first
    | (go_at_call 23; (refine (HN.out _ HB2.out).mono ?_); rintro e w' ⟨rfl, rfl⟩)
    | (go_at_call 24; (refine HW.out.mono ?_); rintro e w3 ⟨An, cn, rfl, hR, hb3⟩
       have HB3 := Lib.hid hb3
       have HRn := Lib.hid hR
       have HL3 := Lib.hid (HL2.out.later hb3)
       clear hb3 hR HW c20 c21 c22 c23 c24))
  have e4 : Below w3.heap.size w3 (w3.alloc (.cells #[.slice An now.length cn] 22)) := (Below.refl _ w3).alloc (Nat.le_refl _) _
  have b23 := HB2.out.trans (HB3.out.mono HB2.out.size)
  have b24 := HB3.out.trans (e4.mono HB3.out.size)
  have HB4 : Hid (Below W.heap.size W (w3.alloc (.cells #[.slice An now.length cn] 22))) := b23.trans (e4.mono b23.size)
  have A14 := cell_later b24 A1.out
  have A24 := cell_later b24 A2.out
  have A34 : (w3.alloc (.cells #[.slice An now.length cn] 22)).cell? ⟨w3.heap.size, 0, none⟩ = some (.slice An now.length cn) := by go_simp
  have HL4 := Lib.hid (HL3.out.later e4)
  have HR4 := Lib.hid (Kd.R_below HRn.out e4)
  have z2 : ((W.alloc (.cells #[.pointer (some ⟨b, 0, none⟩)] 24)).alloc (.cells #[.slice Ad dn.length cd] 22)).heap.size = W.heap.size + 2 := by simp
  have z3 := HB3.out.size
  rw [z2] at z3
  have HR4' : Hid (Kd.R (Kd.int .i64) 3 (w3.alloc (.cells #[.slice An now.length cn] 22)) W.heap.size (fun _ => True) (.slice An now.length cn) now) := Kd.R_lower HR4.out (by rw [z2]; omega)
  have Z4 : Hid (W.heap.size + 2 ≤ w3.heap.size ∧ w3.heap.size < (w3.alloc (.cells #[.slice An now.length cn] 22)).heap.size) := ⟨z3, by simp⟩
  clear e4 b23 b24 A1 A2 HL3 HRn HB3 HB2 HL2 z2 z3 HR4
  generalize w3.alloc (.cells #[.slice An now.length cn] 22) = W4 at *
  generalize w3.heap.size = q8 at *
  have HC4 : Hid (Kd.C (Kd.int .i64) W4 Ad dn.length dn ∧ Kd.C (Kd.int .i64) W4 Au un.length un) := ⟨Kd.C_below hd HB4.out, Kd.C_below hu HB4.out⟩
  have HF : Hid (W4.cell? ⟨W.heap.size, 0, none⟩ = some (.pointer (some ⟨b, 0, none⟩)) ∧ W4.cell? ⟨W.heap.size + 1, 0, none⟩ = some (.slice Ad dn.length cd) ∧ W4.cell? ⟨q8, 0, none⟩ = some (.slice An now.length cn)) := ⟨A14, A24, A34⟩
  have HLet : Hid (∀ w' q, Below W4.heap.size W4 w' → w'.cell? ⟨q, 0, none⟩ = some (.func (.func 25) #[] #[.pointer (some ⟨W.heap.size, 0, none⟩), .pointer (some ⟨q8, 0, none⟩)]) →
      Calls Tryz.prog 29 #[.slice Ad dn.length cd, .func (.func 28) #[] #[.pointer (some ⟨q, 0, none⟩)]] w' fun e w'' => e = .returned (.bool false) ∧ Below w'.heap.size w' w'') := fun w' q hb hq =>
    all_letters dn now.length cn W.heap.size q8 q An Ad cd (HL4.out.later hb) (cell_later hb HF.out.1) (cell_later hb HF.out.2.2) (by omega) (by omega) hq (Kd.C_below HC4.out.1 hb) (by omega) hda
  have HRec : Hid (∀ w' q, Below W4.heap.size W4 w' → w'.cell? ⟨q, 0, none⟩ = some (.func (.func 26) #[] #[.pointer (some ⟨W.heap.size + 1, 0, none⟩)]) →
      Calls Tryz.prog 29 #[.slice Au un.length cu, .func (.func 28) #[] #[.pointer (some ⟨q, 0, none⟩)]] w' fun e w'' => e = .returned (.bool false) ∧ Below w'.heap.size w' w'') := fun w' q hb hq =>
    all_receipts un dn.length cd W.heap.size.succ q Ad Au cu (cell_later hb HF.out.2.1) (by omega) hq (Kd.C_below HC4.out.2 hb) (by omega) hua
  clear HN A14 A34
  have g1 : decide ((dn.length : Int) > 50) = false := decide_eq_false (by omega)
  have g2 : decide ((50 : Int) < (dn.length : Int)) = false := decide_eq_false (by omega)
  have g3 : decide ((un.length : Int) > 50) = false := decide_eq_false (by omega)
  have g4 : decide ((50 : Int) < (un.length : Int)) = false := decide_eq_false (by omega)
  go_cut [27] from 28 to 49 (fun v27 wc => v27 = .bool false ∧ Below W4.heap.size W4 wc)
  case first =>
    have A24 := HF.out.2.1
    have bL : Below W4.heap.size W4 (W4.drew.alloc (.cells #[.func (.func 25) #[] #[.pointer (some ⟨W.heap.size, 0, none⟩), .pointer (some ⟨q8, 0, none⟩)]] 56)) := ((Below.refl _ W4).drew).alloc (by simp) _
    have cL : (W4.drew.alloc (.cells #[.func (.func 25) #[] #[.pointer (some ⟨W.heap.size, 0, none⟩), .pointer (some ⟨q8, 0, none⟩)]] 56)).cell? ⟨W4.heap.size, 0, none⟩ = some (.func (.func 25) #[] #[.pointer (some ⟨W.heap.size, 0, none⟩), .pointer (some ⟨q8, 0, none⟩)]) := by go_simp
    have HLL := Lib.hid (HLet.out _ _ bL cL)
    have HBL := Lib.hid bL
    clear bL cL
    go_region_held3 (fun w' => w'.cell? ⟨W.heap.size + 1, 0, none⟩ = some (.slice Ad dn.length cd)) (first | go_keep) ((first
      | (go_at_call 27; (refine (not_makes _ _ _).mono ?_); rintro e w' ⟨rfl, hw'⟩; subst hw')
      | (go_at_call_of 29 (Value.slice Ad dn.length cd); (refine HLL.out.mono ?_); rintro e w5 ⟨rfl, hb5⟩
         have b5 := HBL.out.trans (hb5.mono HBL.out.size)
         have A25 := cell_later b5 A24
         have HB5 := Lib.hid b5
         have bR : Below W4.heap.size W4 (w5.alloc (.cells #[.func (.func 26) #[] #[.pointer (some ⟨W.heap.size + 1, 0, none⟩)]] 56)) := HB5.out.alloc HB5.out.size _
         have cR : (w5.alloc (.cells #[.func (.func 26) #[] #[.pointer (some ⟨W.heap.size + 1, 0, none⟩)]] 56)).cell? ⟨w5.heap.size, 0, none⟩ = some (.func (.func 26) #[] #[.pointer (some ⟨W.heap.size + 1, 0, none⟩)]) := by go_simp
         have HRR := Lib.hid (HRec.out _ _ bR cR)
         have HBR := Lib.hid bR
         clear b5 hb5 HB5 bR cR)
      | (go_at_call_of 29 (Value.slice Au un.length cu); (refine HRR.out.mono ?_); rintro e w6 ⟨rfl, hb6⟩
         have b6 := HBR.out.trans (hb6.mono HBR.out.size)
         have A26 := cell_later b6 A24
         have HB6 := Lib.hid b6
         clear b6 hb6)))
    go_wp2_with fail
    go_meet
    exact ⟨rfl, HB6.out⟩
  case rest =>
    obtain ⟨rfl, hbc⟩ := hcut
    have HLc := Lib.hid (HL4.out.later hbc)
    obtain ⟨_, _, _, _, c4⟩ := HLc.out.cells
    have c3 := cell_later hbc HF.out.1
    have c8 := cell_later hbc HF.out.2.2
    have c14 := cell_later hbc HF.out.2.1
    have HBC := Lib.hid hbc
    have w1 : IntKind.i64.wrap ((sent.length : Int) + (now.length : Int)) = (sent.length : Int) + (now.length : Int) := IntWalk.i64_in _ (by omega)
    have g5 : decide ((2000 : Int) < (sent.length : Int) + (now.length : Int)) = false := decide_eq_false (by omega)
    have g6 : decide ((sent.length : Int) + (now.length : Int) > (2000 : Int)) = false := decide_eq_false (by omega)
    clear hbc HLet HRec
    go_wp2_with fail
    go_quiet (fail)
    go_upto_region 12 with fail
    have bd : Below W4.heap.size W4 (wc.drewN nq) := pw_below_drewN HBC.out nq
    have HLd := Lib.hid (HL4.out.later bd)
    have d3 := cell_later bd HF.out.1
    have d8 := cell_later bd HF.out.2.2
    have d14 := cell_later bd HF.out.2.1
    obtain ⟨_, _, _, _, d4⟩ := HLd.out.cells
    have HBD : Hid (Below W.heap.size W (wc.drewN nq)) := HB4.out.trans (bd.mono HB4.out.size)
    have HRd := Lib.hid (Kd.R_below HR4'.out bd)
    have Zd : Hid (W4.heap.size ≤ (wc.drewN nq).heap.size) := bd.size
    clear c3 c8 c14 c4 bd HBC HLc g1 g2 g3 g4 g5 g6 w1
    generalize wc.drewN nq = wd at *
    go_cut [] from 67 to 77 (fun wx => ∃ F' A' c', LinkAt B F' wx b win seen vp vn (.slice A' (sent.length + now.length) c') pole north (sent ++ now) ∧ Keeps F wd wx ∧ ∀ j, F' j → F j ∨ wd.heap.size ≤ j)
    case first =>
      have HFb : Hid (∀ j, F j → B ≤ j ∧ j < W.heap.size) := HL.out.lt
      have be : Below wd.heap.size wd wd.drew := (Below.refl _ wd).drew
      have HBe : Hid (Below B wd wd.drew) := (Below.refl _ wd).drew
      have HBs : Hid (B ≤ wd.drew.heap.size) := Nat.le_trans hB (Nat.le_trans HBD.out.size be.size)
      have HRs : Hid (Kd.R (Kd.int .i64) 3 wd.drew B (fun _ => True) (.slice As sent.length cs) sent) := Kd.R_below (Kd.R_of_own (enc := Value.int .i64) (h1 := fun _ => rfl) HLd.out.sent (fun _ _ => trivial)) be
      have HRx : Hid (Kd.C (Kd.int .i64) wd.drew An now.length now) := Kd.C_below (Kd.R_reads' HRd.out).2.2 be
      have HLen : Hid ((sent.length + now.length) * 8 ≤ 140737488355328) := by show _ ≤ _; omega
      have HNew : Hid (∀ (v1 : Value) (w2 : World), Kd.R (Kd.int .i64) 3 w2 B (fun _ => True) v1 (sent ++ now) → wd.drew.grownBy w2 (Value.slice As sent.length cs).ownBlock → (v1.ownBlock = (Value.slice As sent.length cs).ownBlock ∨ ∃ g, v1.ownBlock = some g ∧ wd.drew.heap.size ≤ g) →
          ∃ A1 k1, v1 = .slice A1 (sent.length + now.length) k1 ∧ w2.cell? ⟨b, 4, none⟩ = some (.slice As sent.length cs) ∧ w2.frozen? ⟨b, 4, none⟩ = false ∧ w2.cell? ⟨W.heap.size, 0, none⟩ = some (.pointer (some ⟨b, 0, none⟩)) ∧
            ∃ F', LinkAt B F' (w2.setCell ⟨b, 4, none⟩ v1) b win seen vp vn v1 pole north (sent ++ now) ∧ Keeps F wd (w2.setCell ⟨b, 4, none⟩ v1) ∧ ∀ j, F' j → F j ∨ wd.heap.size ≤ j) := by
        intro v1 w2 HO hg hat
        have hL := HLd.out.later be
        have hnew := hL.newSent HBs.out (Kd.own_of_R HO) hg hat
        obtain ⟨A1, k1, rfl⟩ := Kd.R_slice HO
        have hbs : (Value.slice As sent.length cs).ownBlock ≠ some b := fun he => by
          obtain ⟨cells, hc⟩ := own_typed hL.sent b he
          rw [hL.at_] at hc
          cases hc
        have hb2 : w2.heap[b]? = wd.drew.heap[b]? := hg.block b (hL.lt b hL.own).2 (fun he => hbs he.symm)
        have hq : (Value.slice As sent.length cs).ownBlock ≠ some W.heap.size := fun he => by
          have := (HFb.out _ (HL.out.fs _ he)).2
          omega
        have hq2 : w2.heap[W.heap.size]? = wd.drew.heap[W.heap.size]? := hg.block _ (Nat.lt_of_lt_of_le (World.block_lt_of_cell? wd _ d3) be.size) (fun he => hq he.symm)
        refine ⟨A1, k1, by rw [List.length_append], by simp [World.cell?, hb2, hL.at_], by simp [World.frozen?, hb2, hL.at_], ?_, _, hnew.1, (Keeps.of_below be).trans hnew.2 (fun _ hk => .inl hk), fun j hj => ?_⟩
        · have hd3 := cell_later be d3
          unfold World.cell? at hd3 ⊢
          rw [hq2]
          exact hd3
        · rcases hj with hj | hj
          · exact .inl hj
          · exact .inr hj.1
      clear be
      go_region_law (
        refine Kd.R_append_rows_step (Kd.int .i64) (w0 := wd) B ?hW (.tmp 72) (.tmp 73) 22 3 (.int .i64 0) 8 rfl Tryz.underlying22 infoInt2 rfl (by decide) (by omega) (.slice As sent.length cs) sent now An now.length cn (fun _ => True) (fun _ => False) ?hS ?hX HRs.out HRx.out (fun _ _ h => h) (fun _ h => h.elim) (fun _ _ => trivial) HBe.out HBs.out HLen.out ?_
        case hW => simp [Region.wanted]
        case hS => simp [Act.eval]
        case hX => simp [Act.eval]
        intro v1 w2 HO1 _ hg hat
        obtain ⟨A1, k1, rfl, d1, d2, d33, F', HFF⟩ := HNew.out v1 w2 HO1 hg hat
        have HG := Lib.hid HFF
        clear HO1 hg hat HFF)
      all_goals
        go_wp2_with fail
        go_meet
        exact ⟨F', A1, k1, HG.out⟩
    case rest =>
      obtain ⟨F1, A1, c1, hL1, hK1, hF1⟩ := hcut
      rename World => w5
      have HFb : Hid (∀ j, F j → B ≤ j ∧ j < W.heap.size) := HL.out.lt
      have HMid := Lib.hid (PassMid.begin hL1 hK1 hF1)
      have HSP := Lib.hid hsp
      have HDF := Lib.hid hdF
      have HDA := Lib.hid hda
      have HC := Lib.hid hd
      have HUC := Lib.hid hu
      have HUF := Lib.hid huF
      have HUA := Lib.hid hua
      clear hL1 hK1 hF1 hsp hdF d4 hda hd hu huF hua
      have HQ : Hid (wd.cell? ⟨W.heap.size, 0, none⟩ = some (.pointer (some ⟨b, 0, none⟩)) ∧ wd.cell? ⟨W.heap.size + 1, 0, none⟩ = some (.slice Ad dn.length cd)) := ⟨d3, d14⟩
      have HQF : Hid (¬ F W.heap.size ∧ ¬ F (W.heap.size + 1)) := ⟨fun h => by have := (HFb.out _ h).2; omega, fun h => by have := (HFb.out _ h).2; omega⟩
      have e14 : w5.cell? ⟨W.heap.size + 1, 0, none⟩ = some (.slice Ad dn.length cd) := HMid.out.keeps.cell d14 HQF.out.2
      clear d3 d8 d14
      go_wp2_with fail
      go_loopw [13, 80] (fun v13 v80 wr => ∃ (k m c4 : Nat) (A4 : Option Addr) (F' : Nat → Prop) (vn' : Value), v80 = .int .i64 k ∧ k ≤ dn.length ∧ v13 = .slice A4 m c4 ∧ Hid (m = (outK pole north ((lettersK (sent ++ now) sent.length dn).take k)).length) ∧
        Hid (PassMid B F F' wd b win seen vp vn' (.slice A1 (sent.length + now.length) c1) pole (northK pole north ((lettersK (sent ++ now) sent.length dn).take k)) (sent ++ now) (outK pole north ((lettersK (sent ++ now) sent.length dn).take k)) (.slice A4 m c4) wr)) (fun _ v _ => dn.length - (intOf v).toNat)
      case atStart => exact ⟨0, 0, 0, none, F1, vn, rfl, by omega, rfl, (by show _ = _; rw [List.take_zero]; rfl), (by rw [List.take_zero]; exact HMid.out)⟩
      case round =>
        obtain ⟨k, m, c4, A4, F', vn', rfl, hk, rfl, HM, HP⟩ := hrel
        have hm : m ≤ 50 := by have := HM.out; rw [outK_length, List.length_take, lettersK_len] at this; omega
        by_cases hlt : k < dn.length
        · obtain ⟨ad, e1, cx⟩ := C_at_int HC.out k hlt
          subst e1
          have cx2 := HP.out.keeps.cell (cell_later HBD.out cx) (fun hf => HDF.out ad rfl (by rw [addr_block] at hf; exact hf))
          have hnb := HDA.out _ (getD_mem 0 hlt)
          obtain ⟨p, hp⟩ : ∃ p : Nat, (sent.length : Int) + dn.getD k 0 = p := ⟨((sent.length : Int) + dn.getD k 0).toNat, by omega⟩
          have hpl : p < (sent ++ now).length := by rw [List.length_append]; omega
          have hpl2 : p < sent.length + now.length := by omega
          have hpl3 : (p : Int) < (sent.length : Int) + (now.length : Int) := by omega
          have hnx := letters_next pole north (sent ++ now) sent.length dn hlt hp
          have hxx := HSP.out _ (getD_mem 0 hpl)
          obtain ⟨ax, e2, _⟩ := HP.out.sentAt hpl
          subst e2
          have hNl : (northK pole north ((lettersK (sent ++ now) sent.length dn).take k)).length ≤ pole.length := northK_len _ _ _ hn0 (fun y hy => lettersK_le _ _ HSP.out (by omega) y (List.mem_of_mem_take hy))
          have HT := Lib.hid (fun (F2 : Nat → Prop) (vn2 : Value) (N2 : List ByteArray) (O2 : List Int) (v2 : Value) (w2 : World) (h : PassMid B F F2 wd b win seen vp vn2 (.slice (some ax) (sent.length + now.length) c1) pole N2 (sent ++ now) O2 v2 w2) => h.three HQ.out.1 HQF.out.1 hpl)
          generalize (sent ++ now).getD p 0 = x at hnx hxx HT
          have hwr : IntKind.i64.wrap ((sent.length : Int) + dn.getD k 0) = (p : Int) := by rw [hp]; exact IntWalk.i64_in _ (by omega)
          clear hp cx
          generalize dn.getD k 0 = n at cx2 hnb hwr
          generalize hNN : northK pole north ((lettersK (sent ++ now) sent.length dn).take k) = NN at hnx HP hNl
          generalize hOO : outK pole north ((lettersK (sent ++ now) sent.length dn).take k) = OO at hnx HP HM
          clear hNN hOO
          have HX := Lib.hid hnx
          have HCome := Lib.hid (come_any x HP.out.drew.link (Nat.le_trans hB (Nat.le_trans HBD.out.size HP.out.drew.keeps.size)) hNl hp0 hxx)
          generalize north1 pole NN x = N2 at HX HCome
          obtain ⟨t1, t2, t3⟩ := HT.out _ _ _ _ _ _ HP.out
          clear hnx hNl hxx
          go_upto_region 17 with fail
          have HPd := Lib.hid HP.out.drew
          have i0 : (0 : Int) ≤ (p : Int) := by omega
          have HLt := Lib.hid hpl
          have hd := HPd.out
          obtain ⟨s1, s2, s3⟩ := HT.out _ _ _ _ _ _ hd
          clear hd t1 t2 t3
          generalize hN2l : N2.length = n2 at *
          have HN2 := Lib.hid hN2l
          clear hN2l
          go_region_held3 (fun w' => w'.cell? ⟨W.heap.size, 0, none⟩ = some (.pointer (some ⟨b, 0, none⟩)) ∧ w'.cell? ⟨b, 4, none⟩ = some (.slice (some ax) (sent.length + now.length) c1) ∧ w'.cell? (ax.add p) = some (.int .i64 x)) (first | exact ⟨s1, s2, s3⟩ | exact ⟨r1, r2, r3⟩ | exact ⟨v1_, v2_, v3_⟩ | go_keep) ((first
            | (go_at_call 30; (refine HCome.out.mono ?_); rintro e w1 ⟨rfl, F2, vn2, hL2, hK2, hF2⟩
               have hM1 := HP.out.come hL2 hK2 hF2
               obtain ⟨r1, r2, r3⟩ := HT.out _ _ _ _ _ _ hM1
               have HM1 := Lib.hid hM1
               have HRI : Hid (Kd.R (Kd.int .i64) 3 (w1.alloc (.cells #[.int .i64 n2] 3)) wd.heap.size (fun _ => True) (.slice A4 m c4) OO) := Kd.R_below HM1.out.row ((Below.refl _ w1).alloc (Nat.le_refl _) _)
               have HRS : Hid (Kd.C (Kd.int .i64) (w1.alloc (.cells #[.int .i64 n2] 3)) (some ⟨w1.heap.size, 0, none⟩) 1 [(n2 : Int)]) := (Kd.R_reads' (Kd.R_of_own (enc := Value.int .i64) (h1 := fun _ => rfl) (e := 3) (base := 0) (ok := fun _ => True) (World.ownsRow_lit w1 #[.int .i64 n2] 1 (Nat.zero_le _) (by decide) rfl) (fun _ _ => trivial))).2.2
               have HLn : Hid ((OO.length + 1) * 8 ≤ 140737488355328) := by show _ ≤ _; have := HM.out; omega
               have HBW : Hid (Below 0 w1 (w1.alloc (.cells #[.int .i64 n2] 3))) := ((Below.refl 0 w1).alloc (Nat.zero_le _) _)
               have HBS : Hid (wd.heap.size ≤ (w1.alloc (.cells #[.int .i64 n2] 3)).heap.size) := Nat.le_trans HM1.out.keeps.size (by simp)
               clear hM1 hL2 hK2 hF2)
            | (refine Kd.R_append_rows_step (Kd.int .i64) (w0 := w1.alloc (.cells #[.int .i64 n2] 3)) wd.heap.size ?hW (.tmp 84) (.tmp 99) 22 3 (.int .i64 0) 8 rfl Tryz.underlying22 infoInt2 rfl (by decide) (by omega) (.slice A4 m c4) OO [(n2 : Int)] (some ⟨w1.heap.size, 0, none⟩) 1 1 (fun _ => True) (fun _ => False) ?hS ?hX HRI.out HRS.out (fun _ _ h => h) (fun _ h => h.elim) (fun _ _ => trivial) (Below.refl _ _) HBS.out HLn.out ?_
               case hW => simp [Region.wanted]
               case hS => simp [Act.eval]
               case hX => simp [Act.eval]
               intro v1 w2 HO1 _ hg hat
               obtain ⟨A2, k2, hv1⟩ := Kd.R_slice HO1
               subst hv1
               have hM2 := HM1.out.wrote (.cells #[.int .i64 n2] 3) HO1 hg hat
               obtain ⟨v1_, v2_, v3_⟩ := HT.out _ _ _ _ _ _ hM2
               have HM2 := Lib.hid hM2
               clear HO1 hg hat hM2)))
          rw [show (OO ++ [(n2 : Int)]).length = OO.length + 1 by simp] at HM2
          have HX2 := Lib.hid HX.out
          clear s1 s2 s3 r1 r2 r3 v1_ v2_ v3_
          rename _ ∧ _ ∧ _ => hHeld
          clear hHeld
          go_wp2
          go_roundw
          case rel => exact ⟨k + 1, _, k2, A2, F2, vn2, by go_num, by omega, rfl, (by show _ = _; rw [HX2.out.2]; simp), (by rw [HX2.out.1, HX2.out.2]; exact HM2.out)⟩
          case measure => simp [intOf]; omega
        · obtain rfl : k = dn.length := by omega
          have hall : (lettersK (sent ++ now) sent.length dn).take dn.length = lettersK (sent ++ now) sent.length dn := List.take_of_length_le (by rw [lettersK_len]; exact Nat.le_refl _)
          rw [hall] at HM HP
          have hm2 : m = dn.length := by rw [HM.out, outK_length, lettersK_len]
          subst hm2
          have HOl : Hid ((outK pole north (lettersK (sent ++ now) sent.length dn)).length = dn.length) := HM.out.symm
          clear hall HM
          generalize hOO : outK pole north (lettersK (sent ++ now) sent.length dn) = OO at HP HOl
          generalize hNN : northK pole north (lettersK (sent ++ now) sent.length dn) = NN at HP
          have HOO := Lib.hid hOO
          have HNN := Lib.hid hNN
          clear hOO hNN
          go_wp2
          go_loopw [104] (fun v104 wx => ∃ j : Nat, v104 = .int .i64 j ∧ j ≤ un.length ∧
            Hid (PassMid B F F' wd b win (hearK OO seen (un.take j)) vp vn' (.slice A1 (sent.length + now.length) c1) pole NN (sent ++ now) OO (.slice A4 dn.length c4) wx)) (fun v _ => un.length - (intOf v).toNat)
          case atStart => exact ⟨0, rfl, by omega, HP.out⟩
          case round =>
            rename World => wx
            obtain ⟨j, rfl, hj, HPj⟩ := hrel
            by_cases hlt2 : j < un.length
            · obtain ⟨au, e1, cx⟩ := C_at_int HUC.out j hlt2
              subst e1
              have cx2 := HPj.out.keeps.cell (cell_later HBD.out cx) (fun hf => HUF.out au rfl (by rw [addr_block] at hf; exact hf))
              have hnb := HUA.out _ (getD_mem 0 hlt2)
              have hnx := hearK_next OO seen un hlt2
              clear cx
              generalize un.getD j 0 = u at cx2 hnb hnx
              obtain ⟨q, rfl⟩ : ∃ q : Nat, u = q := ⟨u.toNat, by omega⟩
              rw [Int.toNat_natCast] at hnx
              have hql : q < dn.length := by omega
              obtain ⟨a4, e2, _⟩ := HPj.out.outAt (show q < OO.length by rw [HOl.out]; exact hql)
              subst e2
              have HT := Lib.hid (fun (s : Int) (w2 : World) (h : PassMid B F F' wd b win s vp vn' (.slice A1 (sent.length + now.length) c1) pole NN (sent ++ now) OO (.slice (some a4) dn.length c4) w2) => (show w2.cell? ⟨W.heap.size, 0, none⟩ = some (.pointer (some ⟨b, 0, none⟩)) ∧ w2.cell? (a4.add q) = some (.int .i64 (OO.getD q 0)) from ⟨h.keeps.cell HQ.out.1 HQF.out.1, by
                obtain ⟨a5, e3, c5⟩ := h.outAt (show q < OO.length by rw [HOl.out]; exact hql)
                injection e3 with e3
                subst e3
                exact c5⟩))
              generalize OO.getD q 0 = r at hnx HT
              have HX := Lib.hid hnx
              have hd := HPj.out.drew
              have HHear := Lib.hid (hear_any r hd.link)
              obtain ⟨s1, s2⟩ := HT.out _ _ hd
              obtain ⟨t1, t2⟩ := HT.out _ _ HPj.out
              have HPd := Lib.hid hd
              clear hnx hd t2
              generalize max (hearK OO seen (un.take j)) r = mx at HX HHear
              go_upto_region 22 with fail
              go_region_held3 (fun w' => w'.cell? ⟨W.heap.size, 0, none⟩ = some (.pointer (some ⟨b, 0, none⟩)) ∧ w'.cell? (a4.add q) = some (.int .i64 r)) (first | exact ⟨s1, s2⟩ | exact ⟨r1, r2⟩ | go_keep) ((first
                | (go_at_call 31; (refine HHear.out.mono ?_); rintro e w1 ⟨rfl, hL2, hK2⟩
                   have hM1 := HPd.out.hear hL2 hK2
                   obtain ⟨r1, r2⟩ := HT.out _ _ hM1
                   have HM1 := Lib.hid hM1
                   clear hM1 hL2 hK2)))
              clear s1 s2 r1 r2
              rename _ ∧ _ => hHeld
              clear hHeld
              go_wp2
              go_roundw
              case rel => exact ⟨j + 1, by go_num, by omega, (by rw [HX.out]; exact HM1.out)⟩
              case measure => simp [intOf]; omega
            · obtain rfl : j = un.length := by omega
              rw [List.take_of_length_le (Nat.le_refl _)] at HPj
              go_wp2
              first | go_ret2 | go_ret
              exact ⟨F', vn', _, A4, c4, rfl, by rw [HOO.out, HNN.out]; exact HPj.out.lower HBD.out⟩
end Go.Proofs.YtpiciiglncdbpaaGreatDoor.LK
