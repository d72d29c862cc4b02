/- come and hear: a letter comes to the north, a receipt to the pole. -/
import Derived.Test.YtpiciiglncdbpaaGreatDoorLinkAdd
import Derived.Deep.RegionLaw
import Derived.Test.YtpiciiglncdbpaaGreatDoorSF
namespace Go.Proofs.YtpiciiglncdbpaaGreatDoor.LK
open Go.RowKit Go.Proofs.YtpiciiglncdbpaaGreatDoorW.PrintWords Go.Proofs.YtpiciiglncdbpaaGreatDoor.P
variable {B : Nat} {F : Nat → Prop} {W : World} {b : Nat} {win seen : Int} {vp vn vs : Value} {pole north : List ByteArray} {sent : List Int}
set_option maxHeartbeats 2000000 in
set_option maxRecDepth 100000 in
theorem come_no (n : Int) (h : LinkAt B F W b win seen vp vn vs pole north sent) (hn : n ≠ (north.length : Int) + 1) (hl : north.length ≤ 100) :
    Calls Tryz.prog 30 #[.pointer (some ⟨b, 0, none⟩), .int .i64 n] W fun e w' => e = .returned (.int .i64 north.length) ∧ w' = W := by
  obtain ⟨A, c, hv, _, _⟩ := Kd.R_reads (Kd.R_of_own (enc := Value.string) (h1 := fun _ => rfl) (ok := fun _ => True) h.north (fun _ _ => trivial))
  subst hv
  have c2 := h.cells.2.2.1
  have hne : (n == (north.length : Int) + 1) = false := beq_eq_false_iff_ne.2 hn
  clear h
  go_enter Tryz.func30, Tryz.ntmps30
  go_wp2
  go_ret
  exact ⟨rfl, rfl⟩
/-- A cell of the link's own block is written: all else stands. -/
theorem LinkAt.setSeen (s' : Int) (h : LinkAt B F W b win seen vp vn vs pole north sent) : LinkAt B F (W.setCell ⟨b, 3, none⟩ (.int .i64 s')) b win s' vp vn vs pole north sent ∧ Keeps F W (W.setCell ⟨b, 3, none⟩ (.int .i64 s')) := by
  have hother : ∀ k, k ≠ b → (W.setCell ⟨b, 3, none⟩ (.int .i64 s')).heap[k]? = W.heap[k]? := fun k hk => Below.heap_setCell W ⟨b, 3, none⟩ _ k hk
  have hsz : (W.setCell ⟨b, 3, none⟩ (.int .i64 s')).heap.size = W.heap.size := by simp
  have hne : ∀ (e : Nat) (v : Value) (n : Nat) (xs : List Value), e ≠ 32 → W.ownsRow B e 1 v n xs → v.ownBlock ≠ some b := fun e v n xs he ho hb => by
    obtain ⟨cells, hc⟩ := own_typed ho b hb
    rw [h.at_] at hc
    injection hc with hc
    injection hc with _ hc
    exact he hc.symm
  refine ⟨?_, ?_⟩
  · constructor
    · have := heap_setCell_same W b 3 #[.int .i64 win, vp, vn, .int .i64 seen, vs] 32 (.int .i64 s') h.at_
      rw [this]
      rfl
    · exact h.own
    · intro k hk
      rw [hsz]
      exact h.lt k hk
    · exact own_move h.pole (fun k hk => hother k (fun e => hne _ _ _ _ (by decide) h.pole (e ▸ hk)))
    · exact own_move h.north (fun k hk => hother k (fun e => hne _ _ _ _ (by decide) h.north (e ▸ hk)))
    · exact own_move h.sent (fun k hk => hother k (fun e => hne _ _ _ _ (by decide) h.sent (e ▸ hk)))
    · exact h.fp
    · exact h.fn
    · exact h.fs
    · exact h.pn
  · have hz := (Below.refl 0 W).setCell (p := ⟨b, 3, none⟩) (Nat.zero_le _) (.int .i64 s')
    exact ⟨hz.os, hz.tape, hz.output, by rw [hsz]; exact Nat.le_refl _, fun k hk hF => hother k (fun e => hF (e ▸ h.own))⟩
set_option maxRecDepth 100000 in
theorem hear_any (n : Int) (h : LinkAt B F W b win seen vp vn vs pole north sent) :
    Calls Tryz.prog 31 #[.pointer (some ⟨b, 0, none⟩), .int .i64 n] W fun e w' => e = .returned (.tuple #[]) ∧ LinkAt B F w' b win (max seen n) vp vn vs pole north sent ∧ Keeps F W w' := by
  have HS := Lib.hid (h.setSeen (max seen n))
  have c3 := h.cells.2.2.2.1
  have f3 := h.thaw 3
  clear h
  go_enter Tryz.func31, Tryz.ntmps31
  go_wp2
  · have hm : max seen n = n := by omega
    rw [hm] at HS ⊢
    go_end0
    exact ⟨rfl, HS.out.1, HS.out.2⟩
  · have hm : max seen n = seen := by omega
    rw [hm] at HS ⊢
    go_end0
    exact ⟨rfl, HS.out.1, HS.out.2⟩
/-- The north's book has a new row; the link's cell says so. -/
theorem LinkAt.newNorth {W1 : World} {v1 : Value} {north' : List ByteArray} (h : LinkAt B F W b win seen vp vn vs pole north sent) (hB : B ≤ W.heap.size)
    (hown : W1.ownsRow B 9 1 v1 north'.length (pw_strs north')) (hg : W.grownBy W1 vn.ownBlock) (hat : v1.ownBlock = vn.ownBlock ∨ ∃ g, v1.ownBlock = some g ∧ W.heap.size ≤ g) :
    LinkAt B (fun k => F k ∨ (W.heap.size ≤ k ∧ k < W1.heap.size)) (W1.setCell ⟨b, 2, none⟩ v1) b win seen vp v1 vs pole north' sent ∧ Keeps F W (W1.setCell ⟨b, 2, none⟩ v1) := by
  have hbp : vn.ownBlock ≠ some b := fun he => by
    obtain ⟨cells, hc⟩ := own_typed h.north b he
    rw [h.at_] at hc
    cases hc
  have hb1 : W1.heap[b]? = W.heap[b]? := hg.block b (h.lt b h.own).2 (fun he => hbp he.symm)
  have hv1b : v1.ownBlock ≠ some b := fun he => by
    rcases hat with h1 | ⟨g, h1, h2⟩
    · exact hbp (h1 ▸ he)
    · rw [he] at h1
      injection h1 with h1
      have := (h.lt b h.own).2
      omega
  have hother : ∀ k, k ≠ b → (W1.setCell ⟨b, 2, none⟩ v1).heap[k]? = W1.heap[k]? := fun k hk => Below.heap_setCell W1 ⟨b, 2, none⟩ v1 k hk
  have hsz : (W1.setCell ⟨b, 2, none⟩ v1).heap.size = W1.heap.size := by simp
  have hnb : vp.ownBlock ≠ some b := fun he => by
    obtain ⟨cells, hc⟩ := own_typed h.pole b he
    rw [h.at_] at hc
    cases hc
  have hsb : vs.ownBlock ≠ some b := fun he => by
    obtain ⟨cells, hc⟩ := own_typed h.sent b he
    rw [h.at_] at hc
    cases hc
  have hsp : ∀ g, vs.ownBlock = some g → vn.ownBlock ≠ some g := fun g hs he => by
    obtain ⟨cells, hc⟩ := own_typed h.sent g hs
    obtain ⟨cells', hc'⟩ := own_typed h.north g he
    rw [hc] at hc'
    cases hc'
  refine ⟨?_, ?_⟩
  · constructor
    · have := heap_setCell_same W1 b 2 #[.int .i64 win, vp, vn, .int .i64 seen, vs] 32 v1 (by rw [hb1]; exact h.at_)
      rw [this]
      rfl
    · exact .inl h.own
    · intro k hk
      rw [hsz]
      rcases hk with hk | hk
      · exact ⟨(h.lt k hk).1, Nat.lt_of_lt_of_le (h.lt k hk).2 hg.size⟩
      · exact ⟨by omega, hk.2⟩
    · exact own_move h.pole (fun k hk => (hother k (fun e => hnb (e ▸ hk))).trans (hg.block k (h.lt k (h.fp k hk)).2 (fun e => h.pn k hk e.symm)))
    · exact own_move hown (fun k hk => hother k (fun e => hv1b (e ▸ hk)))
    · exact own_move h.sent (fun k hk => (hother k (fun e => hsb (e ▸ hk))).trans (hg.block k (h.lt k (h.fs k hk)).2 (fun e => hsp k hk e.symm)))
    · exact fun g hgo => .inl (h.fp g hgo)
    · intro g hgo
      rcases hat with h1 | ⟨g', h1, h2⟩
      · exact .inl (h.fn g (by rw [← h1]; exact hgo))
      · rw [hgo] at h1
        injection h1 with h1
        refine .inr ⟨by omega, ?_⟩
        exact (own_lt hown g hgo)
    · exact fun g hgo => .inl (h.fs g hgo)
    · intro g hgo he
      rcases hat with h1 | ⟨g', h1, h2⟩
      · exact h.pn g hgo (h1 ▸ he)
      · rw [he] at h1
        injection h1 with h1
        have := (h.lt g (h.fp g hgo)).2
        omega
  · have hz := (Below.refl 0 W1).setCell (p := ⟨b, 2, none⟩) (Nat.zero_le _) v1
    exact ⟨hz.os.trans hg.os, hz.tape.trans hg.tape, hz.output.trans hg.output, by rw [hsz]; exact hg.size, fun k hk hF => by
      rw [hother k (fun e => hF (e ▸ h.own))]
      exact hg.block k hk (fun e => hF (h.fn k e.symm))⟩
set_option maxHeartbeats 4000000 in
set_option maxRecDepth 100000 in
theorem come_yes (x : ByteArray) (h : LinkAt B F W b win seen vp vn vs pole north sent) (hB : B ≤ W.heap.size) (hl : north.length < pole.length) (hl2 : pole.length ≤ 60) (hx : pole.getD north.length ByteArray.empty = x) :
    Calls Tryz.prog 30 #[.pointer (some ⟨b, 0, none⟩), .int .i64 ((north.length : Int) + 1)] W fun e w' => e = .returned (.int .i64 ((north.length : Int) + 1)) ∧
      ∃ F' v1, LinkAt B F' w' b win seen vp v1 vs pole (north ++ [x]) sent ∧ Keeps F W w' ∧ ∀ k, F' k → F k ∨ W.heap.size ≤ k := by
  obtain ⟨A, c, hv, _, _⟩ := Kd.R_reads (Kd.R_of_own (enc := Value.string) (h1 := fun _ => rfl) (ok := fun _ => True) h.north (fun _ _ => trivial))
  subst hv
  obtain ⟨Ap, cp, hvp, _, hCp⟩ := Kd.R_reads (Kd.R_of_own (enc := Value.string) (h1 := fun _ => rfl) (ok := fun _ => True) h.pole (fun _ _ => trivial))
  subst hvp
  obtain ⟨ad, e1, cx⟩ := KC_at_str hCp north.length hl
  subst e1
  rw [hx] at cx
  have c2 := h.cells.2.2.1
  have c1 := h.cells.2.1
  have hlz : (north.length : Int) < (pole.length : Int) := by omega
  have hwr : IntKind.i64.wrap (north.length : Int) = (north.length : Int) := by rw [IntKind.wrap_i64]; omega
  have hbl : Below W.heap.size W (W.alloc (.cells #[.string x] 9)).drew := ((Below.refl _ W).alloc (Nat.le_refl _) _).drew
  have HBL : Hid (Below B W (W.alloc (.cells #[.string x] 9)).drew) := hbl.mono hB
  have HRP : Hid (Kd.R Kd.string 9 (W.alloc (.cells #[.string x] 9)).drew B (fun _ => True) (.slice A north.length c) north) := Kd.R_below (Kd.R_of_own (enc := Value.string) (h1 := fun _ => rfl) h.north (fun _ _ => trivial)) hbl
  have HRS : Hid (Kd.C Kd.string (W.alloc (.cells #[.string x] 9)).drew (some ⟨W.heap.size, 0, none⟩) 1 [x]) := Kd.C_below (Kd.R_reads' (Kd.R_of_own (enc := Value.string) (h1 := fun _ => rfl) (e := 9) (base := 0) (ok := fun _ => True) (World.ownsRow_lit W #[.string x] 1 (Nat.zero_le _) (by decide) rfl) (fun _ _ => trivial))).2.2 ((Below.refl _ _).drew)
  have HL := Lib.hid h
  have HBs : Hid (B ≤ (W.alloc (.cells #[.string x] 9)).drew.heap.size) := Nat.le_trans hB hbl.size
  have HLen : Hid ((north.length + 1) * 16 ≤ 140737488355328) := by show _ ≤ _; omega
  have HNew : Hid (∀ (v1 : Value) (w2 : World), Kd.R Kd.string 9 w2 B (fun _ => True) v1 (north ++ [x]) → (W.alloc (.cells #[.string x] 9)).drew.grownBy w2 (Value.slice A north.length c).ownBlock → (v1.ownBlock = (Value.slice A north.length c).ownBlock ∨ ∃ b, v1.ownBlock = some b ∧ (W.alloc (.cells #[.string x] 9)).drew.heap.size ≤ b) →
      ∃ A1 k1, v1 = .slice A1 (north.length + 1) k1 ∧ w2.cell? ⟨b, 2, none⟩ = some (.slice A north.length c) ∧ w2.frozen? ⟨b, 2, none⟩ = false ∧
        ∃ F', LinkAt B F' (w2.setCell ⟨b, 2, none⟩ v1) b win seen (.slice (some ad) pole.length cp) v1 vs pole (north ++ [x]) sent ∧ Keeps F W (w2.setCell ⟨b, 2, none⟩ v1) ∧ ∀ k, F' k → F k ∨ W.heap.size ≤ k) := by
    intro v1 w2 HO hg hat
    obtain ⟨A1, k1, rfl⟩ := Kd.R_slice HO
    have hg1 : (W.alloc (.cells #[.string x] 9)).grownBy w2 (Value.slice A north.length c).ownBlock := ⟨hg.os, hg.tape, hg.output, hg.size, hg.block⟩
    have hg2 : W.grownBy w2 (Value.slice A north.length c).ownBlock := (World.grownBy_alloc W _ _).trans hg1
    have hat2 : (Value.slice A1 (north ++ [x]).length k1).ownBlock = (Value.slice A north.length c).ownBlock ∨ ∃ g, (Value.slice A1 (north ++ [x]).length k1).ownBlock = some g ∧ W.heap.size ≤ g := by
      rcases hat with h1 | ⟨g, h1, h2⟩
      · exact .inl h1
      · exact .inr ⟨g, h1, Nat.le_trans hbl.size h2⟩
    have hnew := h.newNorth hB (Kd.own_of_R HO) hg2 hat2
    have hbp : (Value.slice A north.length c).ownBlock ≠ some b := fun he => by
      obtain ⟨cells, hc⟩ := own_typed h.north b he
      rw [h.at_] at hc
      cases hc
    have hb2 : w2.heap[b]? = W.heap[b]? := hg2.block b (h.lt b h.own).2 (fun he => hbp he.symm)
    refine ⟨A1, k1, by rw [show (north ++ [x]).length = north.length + 1 by simp], by simp [World.cell?, hb2, h.at_], by simp [World.frozen?, hb2, h.at_], _, hnew.1, hnew.2, fun k hk => ?_⟩
    rcases hk with hk | hk
    · exact .inl hk
    · exact .inr hk.1
  have c2a : (W.alloc (.cells #[.string x] 9)).cell? ⟨b, 2, none⟩ = some (.slice A north.length c) := Go.Lib.cell?_alloc_some _ c2
  clear h hCp hbl
  go_enter Tryz.func30, Tryz.ntmps30
  go_wp2_with fail
  go_region_law (
    refine Kd.R_append_rows_step Kd.string (w0 := W) B ?hW (.tmp 17) (.tmp 26) 28 9 (.string ⟨#[]⟩) 16 rfl Tryz.underlying28 infoStr2 rfl (by decide) (by omega) (.slice A north.length c) north [x] (some ⟨W.heap.size, 0, none⟩) 1 1 (fun _ => True) (fun _ => False) ?hS ?hX HRP.out HRS.out (fun _ _ h => h) (fun _ h => h.elim) (fun _ _ => trivial) HBL.out HBs.out HLen.out ?_
    case hW => simp [Region.wanted]
    case hS => simp [Act.eval]
    case hX => simp [Act.eval]
    intro v1 w2 HO1 _ hg hat
    obtain ⟨A1, k1, rfl, d1, d2, F', HF⟩ := HNew.out v1 w2 HO1 hg hat
    have HG := Lib.hid HF
    clear HO1 hg hat HF)
  all_goals
    have d3 := HG.out.1.cells.2.2.1
    generalize w2.setCell ⟨b, 2, none⟩ (.slice A1 (north.length + 1) k1) = w3 at HG d3 ⊢
    clear d1 d2
    go_wp2
    go_ret
    exact ⟨by first | rfl | simp, F', _, HG.out.1, HG.out.2.1, HG.out.2.2⟩
end Go.Proofs.YtpiciiglncdbpaaGreatDoor.LK
