/- Add: an entry goes into the pole's book. -/
import Derived.Test.YtpiciiglncdbpaaGreatDoorLinkWords
import Derived.Test.YtpiciiglncdbpaaGreatDoorSC
import Derived.Laws.AppendOwn
import Derived.OwnWalk
import Derived.Lib.OthersKept
import Derived.Shelf.Abstract
namespace Go.Proofs.YtpiciiglncdbpaaGreatDoor.LK
open Go.RowKit Go.Proofs.YtpiciiglncdbpaaGreatDoorW.PrintWords Go.Proofs.YtpiciiglncdbpaaGreatDoor.P
set_option maxRecDepth 100000 in
theorem entryRune (c : UInt8) (h1 : 32 ≤ c.toNat) (h2 : c.toNat ≤ 126) (w : World) : Calls Tryz.prog 46 #[.int .i32 c.toNat] w fun e w' => e = .returned (.bool false) ∧ w' = w := by
  have g1 : decide ((c.toNat : Int) < 32) = false := decide_eq_false (by omega)
  have g2 : decide ((c.toNat : Int) > 126) = false := decide_eq_false (by omega)
  have g3 : decide ((126 : Int) < (c.toNat : Int)) = false := decide_eq_false (by omega)
  go_enter Tryz.func46, Tryz.ntmps46
  go_wp2
  go_ret
  exact ⟨by simp, rfl⟩
set_option maxHeartbeats 1000000 in
set_option maxRecDepth 100000 in
theorem indexFunc_none (g : Nat) (s : ByteArray) (w : World) (hs : asciiB s = true) (hz : s.size ≤ 140737488351232) (eg : ∀ args W, (callFunc g args).run Tryz.prog W = .ok (.enter g args) W)
    (hp : ∀ (j : Nat) (hj : j < s.size) (W : World), Calls Tryz.prog g #[.int .i32 s[j].toNat] W fun e w' => e = .returned (.bool false) ∧ w' = W) :
    Calls Tryz.prog 63 #[.string s, .func (.func g) #[] #[], .bool true] w fun e w' => e = .returned (.int .i64 (-1)) ∧ Below w.heap.size w w' := by
  have HS := Lib.hid hs; clear hs
  have HP := Lib.hid hp; clear hp
  go_enter Tryz.func63, Tryz.ntmps63
  go_wp2
  go_loopw [] (fun wr => ∃ pos : Nat, pos ≤ s.size ∧ wr.heap[w.heap.size]? = some (.stringIter s pos) ∧ Below w.heap.size w wr) (fun wr => s.size - wr.iterPos w.heap.size)
  case atStart =>
    refine ⟨0, by omega, ?_, (Below.refl _ w).alloc (Nat.le_refl _) _⟩
    simpa using World.iter_heap w s 0
  case round =>
    obtain ⟨pos, hpos, hit, hb⟩ := hrel
    have hsz : w.heap.size < wr.heap.size := (Array.getElem?_eq_some_iff.1 hit).1
    by_cases hp : pos < s.size
    · have hnx : ∀ ty, (Instr.next (.pointer (some ⟨w.heap.size, 0, none⟩)) true ty).run Tryz.prog wr = _ := fun ty => Lib.run_next_ascii_at wr w.heap.size s pos ty hit hp (asciiB_at HS.out hp)
      have hit2 := Lib.iterAt_heap wr w.heap.size s pos (pos + 1) hit
      have hb2 := Lib.below_iterAt hb (k := w.heap.size) (by omega) s (pos + 1)
      have HC := Lib.hid (HP.out pos hp)
      go_wp2_with fail
      (with_reducible refine (HC.out _).mono ?_)
      rintro e w2 ⟨rfl, hw2⟩
      rw [← hw2] at hit2 hb2
      clear hw2 hnx HC
      go_wp2_with fail
      go_roundw
      case rel => exact ⟨pos + 1, by omega, hit2, hb2⟩
      case measure => rw [iterPos_at hit2, iterPos_at hit]; omega
    · obtain rfl : pos = s.size := by omega
      have hnx : ∀ ty, (Instr.next (.pointer (some ⟨w.heap.size, 0, none⟩)) true ty).run Tryz.prog wr = _ := fun ty => Lib.run_next_end_at wr w.heap.size s s.size ty hit hp
      go_wp2
      go_ret
      exact ⟨rfl, hb⟩
/-- A text that is an entry. -/
def isEntryB (s : ByteArray) : Bool := decide (1 ≤ s.size) && (decide (s.size ≤ 60) && s.data.toList.all fun c => decide (32 ≤ c.toNat) && decide (c.toNat ≤ 126))
theorem entry_ascii {s : ByteArray} (h : isEntryB s = true) : asciiB s = true ∧ 1 ≤ s.size ∧ s.size ≤ 60 ∧ ∀ (j : Nat) (hj : j < s.size), 32 ≤ s[j].toNat ∧ s[j].toNat ≤ 126 := by
  unfold isEntryB at h
  rw [Bool.and_eq_true, Bool.and_eq_true, decide_eq_true_eq, decide_eq_true_eq, List.all_eq_true] at h
  obtain ⟨h1, h2, h3⟩ := h
  have h3' : ∀ c ∈ s.data.toList, 32 ≤ c.toNat ∧ c.toNat ≤ 126 := fun c hc => by
    have := h3 c hc
    rw [Bool.and_eq_true, decide_eq_true_eq, decide_eq_true_eq] at this
    exact this
  refine ⟨?_, h1, h2, fun j hj => h3' _ (by rw [ByteArray.getElem_eq_getElem_data]; simp)⟩
  unfold asciiB
  rw [List.all_eq_true]
  intro c hc
  have := h3' c hc
  simp only [decide_eq_true_eq, UInt8.lt_iff_toNat_lt]
  show c.toNat < 128
  omega
set_option maxRecDepth 100000 in
theorem isEntry_yes (s : ByteArray) (w : World) (h : isEntryB s = true) : Calls Tryz.prog 35 #[.string s] w fun e w' => e = .returned (.bool true) ∧ Below w.heap.size w w' := by
  obtain ⟨ha, h1, h2, hr⟩ := entry_ascii h
  have eg : ∀ args W, (callFunc 46 args).run Tryz.prog W = .ok (.enter 46 args) W := Go.Proofs.enters_of Tryz.func46 (by kernel_rfl) rfl
  have h63 := fun w => indexFunc_none 46 s w ha (by omega) eg (fun j hj W => entryRune s[j] (hr j hj).1 (hr j hj).2 W)
  have hi : ∀ w, Calls Tryz.prog 53 #[.string s, .func (.func 46) #[] #[]] w fun e w' => e = .returned (.int .i64 (-1)) ∧ Below w.heap.size w w' := fun w => by
    have H := Lib.hid (h63 w)
    clear h63 eg
    go_enter Tryz.func53, Tryz.ntmps53
    go_wp2_with (go_at_call 63; (refine H.out.mono ?_); rintro e w' ⟨rfl, hb⟩)
    go_ret
    exact ⟨rfl, hb⟩
  have hc : ∀ w, Calls Tryz.prog 45 #[.string s, .func (.func 46) #[] #[]] w fun e w' => e = .returned (.bool false) ∧ Below w.heap.size w w' := fun w => by
    have H := Lib.hid (hi w)
    clear h63 hi eg
    go_enter Tryz.func45, Tryz.ntmps45
    go_wp2_with (go_at_call 53; (refine H.out.mono ?_); rintro e w' ⟨rfl, hb⟩)
    go_ret
    exact ⟨rfl, hb⟩
  have hb := between_any 1 (s.size : Int) 60 w
  rw [decide_eq_true (by omega), decide_eq_true (by omega)] at hb
  have HB := Lib.hid hb
  have HC := Lib.hid (hc w)
  clear h63 hi hc hb eg
  go_enter Tryz.func35, Tryz.ntmps35
  go_wp2_with (first
    | (go_at_call 22; (refine HB.out.mono ?_); rintro e w' ⟨rfl, rfl⟩)
    | (go_at_call 45; (refine HC.out.mono ?_); rintro e w' ⟨rfl, hb2⟩))
  go_ret
  exact ⟨by simp, hb2⟩
theorem infoStr2 : (Tryz.prog.info? 9).map (fun i => (i.zero, i.size, i.bytes)) = some (some (.string ⟨#[]⟩), 1, 16) := by kernel_rfl
variable {B : Nat} {F : Nat → Prop} {W : World} {b : Nat} {win seen : Int} {vp vn vs : Value} {pole north : List ByteArray} {sent : List Int}
theorem pn_after {v1 : Value} (h : LinkAt B F W b win seen vp vn vs pole north sent) (hn : v1.ownBlock = vp.ownBlock ∨ ∃ g, v1.ownBlock = some g ∧ W.heap.size ≤ g) : ∀ g, v1.ownBlock = some g → vn.ownBlock ≠ some g := by
  intro g hg he
  rcases hn with h1 | ⟨g', h1, h2⟩
  · exact h.pn g (by rw [← h1]; exact hg) he
  · rw [hg] at h1
    injection h1 with h1
    have := (h.lt g (h.fn g he)).2
    omega
/-- The pole's book has a new row; the link's cell says so. -/
theorem LinkAt.newPole {W1 : World} {v1 : Value} {pole' : List ByteArray} (h : LinkAt B F W b win seen vp vn vs pole north sent) (hB : B ≤ W.heap.size)
    (hown : W1.ownsRow B 9 1 v1 pole'.length (pw_strs pole')) (hg : W.grownBy W1 vp.ownBlock) (hat : v1.ownBlock = vp.ownBlock ∨ ∃ g, v1.ownBlock = some g ∧ W.heap.size ≤ g) :
    LinkAt B (fun k => F k ∨ (W.heap.size ≤ k ∧ k < W1.heap.size)) (W1.setCell ⟨b, 1, none⟩ v1) b win seen v1 vn vs pole' north sent ∧ Keeps F W (W1.setCell ⟨b, 1, none⟩ v1) := by
  have hbp : vp.ownBlock ≠ some b := fun he => by
    obtain ⟨cells, hc⟩ := own_typed h.pole b he
    rw [h.at_] at hc
    cases hc
  have hb1 : W1.heap[b]? = W.heap[b]? := hg.block b (h.lt b h.own).2 (fun he => hbp he.symm)
  have hv1b : v1.ownBlock ≠ some b := fun he => by
    rcases hat with h1 | ⟨g, h1, h2⟩
    · exact hbp (h1 ▸ he)
    · rw [he] at h1
      injection h1 with h1
      have := (h.lt b h.own).2
      omega
  have hother : ∀ k, k ≠ b → (W1.setCell ⟨b, 1, none⟩ v1).heap[k]? = W1.heap[k]? := fun k hk => Below.heap_setCell W1 ⟨b, 1, none⟩ v1 k hk
  have hsz : (W1.setCell ⟨b, 1, none⟩ v1).heap.size = W1.heap.size := by simp
  have hnb : vn.ownBlock ≠ some b := fun he => by
    obtain ⟨cells, hc⟩ := own_typed h.north b he
    rw [h.at_] at hc
    cases hc
  have hsb : vs.ownBlock ≠ some b := fun he => by
    obtain ⟨cells, hc⟩ := own_typed h.sent b he
    rw [h.at_] at hc
    cases hc
  have hsp : ∀ g, vs.ownBlock = some g → vp.ownBlock ≠ some g := fun g hs he => by
    obtain ⟨cells, hc⟩ := own_typed h.sent g hs
    obtain ⟨cells', hc'⟩ := own_typed h.pole g he
    rw [hc] at hc'
    cases hc'
  refine ⟨?_, ?_⟩
  · constructor
    · have := heap_setCell_same W1 b 1 #[.int .i64 win, vp, vn, .int .i64 seen, vs] 32 v1 (by rw [hb1]; exact h.at_)
      rw [this]
      rfl
    · exact .inl h.own
    · intro k hk
      rw [hsz]
      rcases hk with hk | hk
      · exact ⟨(h.lt k hk).1, Nat.lt_of_lt_of_le (h.lt k hk).2 hg.size⟩
      · exact ⟨by omega, hk.2⟩
    · exact own_move hown (fun k hk => hother k (fun e => hv1b (e ▸ hk)))
    · exact own_move h.north (fun k hk => (hother k (fun e => hnb (e ▸ hk))).trans (hg.block k (h.lt k (h.fn k hk)).2 (fun e => h.pn k e.symm hk)))
    · exact own_move h.sent (fun k hk => (hother k (fun e => hsb (e ▸ hk))).trans (hg.block k (h.lt k (h.fs k hk)).2 (fun e => hsp k hk e.symm)))
    · intro g hgo
      rcases hat with h1 | ⟨g', h1, h2⟩
      · exact .inl (h.fp g (by rw [← h1]; exact hgo))
      · rw [hgo] at h1
        injection h1 with h1
        refine .inr ⟨by omega, ?_⟩
        exact (own_lt hown g hgo)
    · exact fun g hgo => .inl (h.fn g hgo)
    · exact fun g hgo => .inl (h.fs g hgo)
    · exact pn_after h hat
  · have hz := (Below.refl 0 W1).setCell (p := ⟨b, 1, none⟩) (Nat.zero_le _) v1
    exact ⟨hz.os.trans hg.os, hz.tape.trans hg.tape, hz.output.trans hg.output, by rw [hsz]; exact hg.size, fun k hk hF => by
      rw [hother k (fun e => hF (e ▸ h.own))]
      exact hg.block k hk (fun e => hF (h.fp k e.symm))⟩
set_option maxHeartbeats 2000000 in
set_option maxRecDepth 100000 in
theorem add_yes (s : ByteArray) (h : LinkAt B F W b win seen vp vn vs pole north sent) (hB : B ≤ W.heap.size) (hw : win ≠ 0) (hs : isEntryB s = true) (hl : pole.length < 60) :
    Calls Tryz.prog 11 #[.pointer (some ⟨b, 0, none⟩), .string s] W fun e w' => e = .returned (.int .i64 0) ∧
      ∃ F' v1, LinkAt B F' w' b win seen v1 vn vs (pole ++ [s]) north sent ∧ Keeps F W w' ∧ ∀ k, F' k → F k ∨ W.heap.size ≤ k := by
  obtain ⟨i0, hi0, hj0, hj1, hj2⟩ := info_parts infoStr2
  have HN := Lib.hid (none_no h.cells.1 hw)
  have HE := Lib.hid (isEntry_yes s W hs)
  have HL := Lib.hid h
  obtain ⟨A, c, hv, _, _⟩ := Kd.R_reads (Kd.R_of_own (enc := Value.string) (h1 := fun _ => rfl) (ok := fun _ => True) h.pole (fun _ _ => trivial))
  subst hv
  clear h
  have hne : ((pole.length : Int) == 60) = false := beq_eq_false_iff_ne.2 (by omega)
  go_enter Tryz.func11, Tryz.ntmps11
  go_wp2_with (first
    | (go_at_call 23; (refine HN.out.mono ?_); rintro e w' ⟨rfl, hww⟩; obtain rfl : W = w' := hww.symm)
    | (go_at_call 35; (refine HE.out.mono ?_); rintro e w1 ⟨rfl, hb1⟩
       have HL1 := Lib.hid (HL.out.later hb1)
       have c1 := HL1.out.cells.2.1
       have f1 := HL1.out.thaw 1
       have hbl : Below w1.heap.size w1 (w1.alloc (.cells #[.string s] 9)) := (Below.refl _ w1).alloc (Nat.le_refl _) _
       have HBL : Hid (Below B w1 (w1.alloc (.cells #[.string s] 9))) := hbl.mono (Nat.le_trans hB hb1.size)
       have HRP : Hid (Kd.R Kd.string 9 (w1.alloc (.cells #[.string s] 9)) B (fun _ => True) (.slice A pole.length c) pole) := Kd.R_below (Kd.R_of_own (enc := Value.string) (h1 := fun _ => rfl) HL1.out.pole (fun _ _ => trivial)) hbl
       have HRS : Hid (Kd.C Kd.string (w1.alloc (.cells #[.string s] 9)) (some ⟨w1.heap.size, 0, none⟩) 1 [s]) := (Kd.R_reads' (Kd.R_of_own (enc := Value.string) (h1 := fun _ => rfl) (e := 9) (base := 0) (ok := fun _ => True) (World.ownsRow_lit w1 #[.string s] 1 (Nat.zero_le _) (by decide) rfl) (fun _ _ => trivial))).2.2
       clear HN HE hbl)
    | (at_builtin; refine Kd.R_append_rows Kd.string (w0 := w1) B rfl _ _ 28 9 (.string ⟨#[]⟩) 16 rfl Tryz.underlying28 infoStr2 rfl (by decide) (by omega) _ pole [s] (some ⟨w1.heap.size, 0, none⟩) 1 1 (fun _ => True) (fun _ => False) rfl rfl HRP.out HRS.out (fun _ _ h => h) (fun _ h => h.elim) (fun _ _ => trivial) HBL.out ?cS ?cL ?_))
  case cS => exact Nat.le_trans (Nat.le_trans hB hb1.size) HBL.out.size
  case cL => omega
  intro v1 w2 HO1 _ hg hat
  obtain ⟨A1, k1, hv1⟩ := Kd.R_slice HO1
  subst hv1
  have hg2 : w1.grownBy w2 (Value.slice A pole.length c).ownBlock := (World.grownBy_alloc w1 _ _).trans hg
  have hat2 : (Value.slice A1 (pole ++ [s]).length k1).ownBlock = (Value.slice A pole.length c).ownBlock ∨ ∃ g, (Value.slice A1 (pole ++ [s]).length k1).ownBlock = some g ∧ w1.heap.size ≤ g := by
    rcases hat with h1 | ⟨g, h1, h2⟩
    · exact .inl h1
    · exact .inr ⟨g, h1, Nat.le_trans (by simp) h2⟩
  have HNew := Lib.hid (HL1.out.newPole (Nat.le_trans hB hb1.size) (Kd.own_of_R HO1) hg2 hat2)
  rw [show (pole ++ [s]).length = pole.length + 1 by simp] at HNew
  have hbp : (Value.slice A pole.length c).ownBlock ≠ some b := fun he => by
    obtain ⟨cells, hc⟩ := own_typed HL1.out.pole b he
    rw [HL1.out.at_] at hc
    cases hc
  have hb2 : w2.heap[b]? = w1.heap[b]? := hg2.block b (HL1.out.lt b HL1.out.own).2 (fun he => hbp he.symm)
  have c2 : w2.cell? ⟨b, 1, none⟩ = some (.slice A pole.length c) := by simp [World.cell?, hb2, HL1.out.at_]
  have f2 : w2.frozen? ⟨b, 1, none⟩ = false := by simp [World.frozen?, hb2, HL1.out.at_]
  have HK1 : Hid (Keeps F W w1) := Keeps.of_below hb1
  clear HO1 hg hat hg2 hat2 hb2 hbp c1 f1
  go_wp2
  go_ret
  refine ⟨rfl, _, _, HNew.out.1, HK1.out.trans HNew.out.2 (fun k hk => .inl hk), fun k hk => ?_⟩
  rcases hk with hk | hk
  · exact .inl hk
  · exact .inr (Nat.le_trans hb1.size hk.1)
end Go.Proofs.YtpiciiglncdbpaaGreatDoor.LK
