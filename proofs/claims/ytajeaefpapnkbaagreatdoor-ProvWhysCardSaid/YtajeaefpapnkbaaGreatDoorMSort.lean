import Derived.Test.YtajeaefpapnkbaaGreatDoorProg
import Derived.Shelf.SlSortCmp.Kit1
import Derived.Sort.WalkA
import Derived.Sort.WalkB2
import Derived.Sort.WalkB12
import Derived.Deep.LoopGhost
import Derived.CellFam
import Derived.Sort.WalkB3
import Derived.Sort.WalkC4
import Derived.Sort.WalkA6
import Derived.Shelf.SlSortCmp.Median1
import Derived.Shelf.SlSortFuncK.PivotK
import Derived.Deep.RegionWith
import Derived.Sort.LotD4
import Derived.Test.YtajeaefpapnkbaaGreatDoorShelf
import Derived.Shelf.SlSortCmp.Xorshift
import Derived.Sort.Walk7
import Derived.Sort.Walk13
import Derived.Sort.AssemblyPlain
/-
  The byte sort of the library (pdqsortOrdered at bytes), walked at this translation, first part: cmp.Less, insertionSort. At any row of bytes of which no cell is frozen.
-/
namespace Go.Proofs.YtajeaefpapnkbaaGreatDoor.BS
open Go.Shelf Go.RowKit Go.Lib Go.Sort
abbrev E : Int → Value := Value.int .u8
theorem less (x y : Int) (w : World) : Calls Tryz.prog 69 #[.int .u8 x, .int .u8 y] w fun e w' => e = .returned (.bool (ltInt x y)) ∧ w' = w := by
  have n1 : ∀ z w, Calls Tryz.prog 92 #[.int .u8 z] w fun e w' => e = .returned (.bool false) ∧ w' = w := by
    intro z w
    go_enter Tryz.func92, Tryz.ntmps92
    go_wp2
    go_ret
    exact ⟨by simp, rfl⟩
  go_enter Tryz.func69, Tryz.ntmps69
  go_wp2
  go_ret
  exact ⟨by simp [ltInt], rfl⟩
variable {w0 W : World} {blk off : Nat} {d0 d dk : Array Int}
/-- The cells of the row, as families. -/
theorem fams (S : SW E w0 blk off dk W) (R : Row1 E w0 blk off d0) (hs : dk.size = d0.size) :
    ∃ G : Nat → Int, (∀ t, G t = dk[t]!) ∧ (∀ t, t < dk.size → W.cell? ⟨blk, off + t, none⟩ = some (.int .u8 (G t))) ∧ (∀ t, t < dk.size → W.frozen? ⟨blk, off + t, none⟩ = false) :=
  ⟨fun t => dk[t]!, fun _ => rfl, fun t ht => S.c1 R hs t ht, fun t ht => S.f1 R hs t ht⟩
theorem swapped (S : SW E w0 blk off dk W) (R : Row1 E w0 blk off d0) (q : Nat) (G : Nat → Int) (hG : ∀ t, G t = dk[t]!) (i j : Nat) (hi : i < dk.size) (hj : j < dk.size) :
    SW E w0 blk off (swp dk i j) (((W.drewN q).setCell ⟨blk, off + i, none⟩ (.int .u8 (G j))).setCell ⟨blk, off + j, none⟩ (.int .u8 (G i))) := by
  rw [hG, hG]
  exact (S.drewN q).swap R.hblk i j hi hj
set_option maxHeartbeats 4000000 in
set_option maxRecDepth 100000 in
theorem insSort (cap a b : Nat) (R : Row1 E w0 blk off d0) (hs : d.size = d0.size) (S : SW E w0 blk off d W) (hab : a ≤ b) (hb : b ≤ d.size) (hsz : d.size < 4611686018427387904) :
    Calls Tryz.prog 63 #[.slice (some ⟨blk, off, none⟩) d.size cap, .int .i64 a, .int .i64 b] W fun e w' =>
      e = .returned (.tuple #[]) ∧ SW E w0 blk off (Sort.insertionSort ltInt d a b) w' := by
  go_enter Tryz.func63, Tryz.ntmps63
  have S0 : Aside (SW E w0 blk off d W) := S
  clear S
  go_wp2
  go_loopg [6] (b - a) (fun g1 vi wr => ∃ (i : Nat) (dk : Array Int), vi = .int .i64 i ∧ a < i ∧ i ≤ b + 1 ∧ b + 1 - i ≤ g1 + 1 ∧ dk.size = d.size ∧ Aside (SW E w0 blk off dk wr) ∧ Hid (insOuter ltInt a b i dk = insOuter ltInt a b (a + 1) d))
  case atStart => exact ⟨a + 1, d, by go_num, by omega, by omega, by omega, rfl, S0, rfl⟩
  case round =>
    clear S0
    obtain ⟨i, dk, rfl, hai, hib, hg1, hsk, S1, HO⟩ := hrel
    go_wp2
    · have hlt : i < b := by assumption
      go_loopg [7] i (fun g2 vj wr2 => ∃ (j : Nat) (dj : Array Int), vj = .int .i64 j ∧ a ≤ j ∧ j ≤ i ∧ j ≤ g2 ∧ dj.size = d.size ∧ Aside (SW E w0 blk off dj wr2) ∧ Hid (insInner ltInt a j dj = insInner ltInt a i dk))
      case atStart => exact ⟨i, dk, rfl, by omega, Nat.le_refl _, Nat.le_refl _, hsk, S1, rfl⟩
      case round =>
        clear S1
        obtain ⟨j, dj, rfl, haj, hji, hg2, hsj, SJ, HI⟩ := hrel
        obtain ⟨G, hG, hcw, hfw⟩ := fams SJ.out R (by omega)
        rw [hsj] at hcw hfw
        have HG : Hid (∀ t, G t = dj[t]!) := hG
        have out : (j ≤ a ∨ ltInt dj[j]! dj[j - 1]! = false) → insOuter ltInt a b (i + 1) dj = insOuter ltInt a b (a + 1) d := fun hs => by
          rw [← HO.out, insOuter_go _ _ _ _ _ hlt, ← HI.out, insInner_stop _ _ _ _ hs]
        have OUT : Aside _ := out
        clear out hG
        go_wp2
        by_cases hja : a < j
        · go_quiet (first | (go_at_call 69; refine Calls.quiet_of_same (less _ _ _)))
          go_wp2
          · have hl : ltInt (G j) (G (j - 1)) = true := by assumption
            go_region
            all_goals go_wp2
            go_roundg (j - 1)
            case measure => omega
            case rel =>
              refine ⟨j - 1, swp dj j (j - 1), by congr 1; omega, by omega, by omega, Nat.le_refl _, by rw [size_swp]; exact hsj, ?_, ?_⟩
              · exact swapped SJ.out R _ G HG.out j (j - 1) (by omega) (by omega)
              · show _ = _
                rw [← HI.out, insInner_go ltInt a j dj hja (by rw [← HG.out, ← HG.out]; exact hl)]
          · have hl : ltInt (G j) (G (j - 1)) = false := by assumption
            go_roundg (b - i - 1)
            case measure => omega
            case rel => exact ⟨i + 1, dj, by go_num, by omega, by omega, by omega, hsj, SJ.out.drewN nq, OUT.out (Or.inr (by rw [← HG.out, ← HG.out]; exact hl))⟩
        · go_quiet (first | (go_at_call 69; refine Calls.quiet_of_same (less _ _ _)))
          go_wp2
          go_roundg (b - i - 1)
          case measure => omega
          case rel => exact ⟨i + 1, dj, by go_num, by omega, by omega, by omega, hsj, SJ.out.drewN nq, OUT.out (Or.inl (by omega))⟩
    · have hge : ¬ i < b := by assumption
      go_end0
      exact ⟨rfl, by unfold Sort.insertionSort; rw [← HO.out, insOuter_stop _ _ _ _ _ hge]; exact S1.out⟩
end Go.Proofs.YtajeaefpapnkbaaGreatDoor.BS
/-
  The byte sort of the library, walked at this translation, second part: reverseRange, siftDown, heapSort. At any row of bytes of which no cell is frozen.
-/
namespace Go.Proofs.YtajeaefpapnkbaaGreatDoor.BS
open Go.Shelf Go.RowKit Go.Lib Go.Sort
variable {w0 W : World} {blk off : Nat} {d0 d dk : Array Int}
theorem swapped1 (S : SW E w0 blk off dk W) (R : Row1 E w0 blk off d0) (G : Nat → Int) (hG : ∀ t, G t = dk[t]!) (i j : Nat) (hi : i < dk.size) (hj : j < dk.size) :
    SW E w0 blk off (swp dk i j) ((W.setCell ⟨blk, off + i, none⟩ (.int .u8 (G j))).setCell ⟨blk, off + j, none⟩ (.int .u8 (G i))).drew := by
  rw [hG, hG]
  exact S.swapped R i j hi hj
set_option maxHeartbeats 4000000 in
set_option maxRecDepth 100000 in
theorem reverse (cap a b : Nat) (R : Row1 E w0 blk off d0) (hs : d.size = d0.size) (S : SW E w0 blk off d W) (hab : a ≤ b) (hb : b ≤ d.size) (hsz : d.size < 4611686018427387904) :
    Calls Tryz.prog 67 #[.slice (some ⟨blk, off, none⟩) d.size cap, .int .i64 a, .int .i64 b] W fun e w' =>
      e = .returned (.tuple #[]) ∧ SW E w0 blk off (reverseRange d a b) w' := by
  have S0 : Aside (SW E w0 blk off d W) := S
  have HS : Hid (d.size = d0.size) := hs
  clear S hs
  go_enter Tryz.func67, Tryz.ntmps67
  go_wp2
  go_loopg [6, 7] (b - a) (fun k s6 s7 wr => ∃ (i jn : Nat) (jz : Int) (dk : Array Int), s6 = .int .i64 i ∧ s7 = .int .i64 jz ∧ ((i : Int) < jz → jz = jn ∧ jn < d.size) ∧ (¬ (i : Int) < jz → ¬ i < jn) ∧ jn - i ≤ k ∧
    dk.size = d.size ∧ Aside (SW E w0 blk off dk wr) ∧ Hid (reverseLoop i jn dk = reverseLoop a (b - 1) d))
  case atStart => exact ⟨a, b - 1, (b : Int) - 1, d, rfl, rfl, fun h => ⟨by omega, by omega⟩, fun h => by omega, by omega, rfl, S0, rfl⟩
  case round =>
    clear S0
    obtain ⟨i, jn, jz, dk, rfl, rfl, h1, h2, hk, hds, S1, heq⟩ := hrel
    by_cases hlt : (i : Int) < jz
    · obtain ⟨rfl, hjn⟩ := h1 hlt
      have hij : i < jn := by omega
      obtain ⟨G, hG, hcw, hfw⟩ := fams S1.out R (by have := HS.out; omega)
      rw [hds] at hcw hfw
      have HG : Hid (∀ t, G t = dk[t]!) := hG
      clear h1 h2 hG
      go_wp2_with fail
      go_region
      go_wp2
      go_roundg (jn - 1 - (i + 1))
      case measure => omega
      case rel =>
        have e := heq.out
        rw [reverseLoop, if_pos hij] at e
        exact ⟨i + 1, jn - 1, (jn : Int) - 1, swp dk i jn, by simp, rfl, fun h => ⟨by omega, by omega⟩, fun h => by omega, Nat.le_refl _, by rw [size_swp]; exact hds,
          swapped1 S1.out R G HG.out i jn (by omega) (by omega), e⟩
    · have hnot := h2 hlt
      go_wp2
      go_end0
      refine ⟨rfl, ?_⟩
      have e := heq.out
      rw [reverseLoop, if_neg hnot] at e
      rw [reverseRange, ← e]
      exact S1.out
set_option maxHeartbeats 8000000 in
set_option maxRecDepth 100000 in
theorem sift (cap lo hi first : Nat) (R : Row1 E w0 blk off d0) (hs : d.size = d0.size) (S : SW E w0 blk off d W) (hlo : lo ≤ hi) (hb : first + hi ≤ d.size) (hsz : d.size < 4611686018427387904) :
    Calls Tryz.prog 89 #[.slice (some ⟨blk, off, none⟩) d.size cap, .int .i64 lo, .int .i64 hi, .int .i64 first] W fun e w' =>
      e = .returned (.tuple #[]) ∧ SW E w0 blk off (siftDown ltInt hi first lo d) w' := by
  have S0 : Aside (SW E w0 blk off d W) := S
  have HS : Hid (d.size = d0.size) := hs
  clear S hs
  go_enter Tryz.func89, Tryz.ntmps89
  go_wp2
  go_loopg [8] (hi - lo) (fun k s8 wr => ∃ (r : Nat) (dk : Array Int), s8 = .int .i64 r ∧ r ≤ hi ∧ hi - r ≤ k ∧ dk.size = d.size ∧ Aside (SW E w0 blk off dk wr) ∧ Hid (siftDown ltInt hi first r dk = siftDown ltInt hi first lo d))
  case atStart => exact ⟨lo, d, rfl, hlo, Nat.le_refl _, rfl, S0, rfl⟩
  case round =>
    clear S0
    obtain ⟨r, dk, rfl, hr, hk, hds, S1, HE⟩ := hrel
    obtain ⟨G, hG, hcw, hfw⟩ := fams S1.out R (by have := HS.out; omega)
    rw [hds] at hcw hfw
    have HG : Hid (∀ t, G t = dk[t]!) := hG
    clear hG
    by_cases h0 : hi ≤ 2 * r + 1
    · have h0z : (hi : Int) ≤ 2 * (r : Int) + 1 := by omega
      go_wp2
      go_end0
      refine ⟨rfl, ?_⟩
      have e := HE.out
      rw [sd_end ltInt dk h0] at e
      rw [← e]
      exact S1.out
    · have h0z : ¬ ((hi : Int) ≤ 2 * (r : Int) + 1) := by omega
      by_cases h1 : 2 * r + 2 < hi
      · have h1z : 2 * (r : Int) + 1 + 1 < (hi : Int) := by omega
        go_wp2_with fail
        go_big_quiet (first | (go_at_call 69; refine Calls.quiet_of_same (less _ _ _)))
        go_wp2_with fail
        · have hL : ltInt (G (first + 2 * r + 1)) (G (first + 2 * r + 2)) = true := by assumption
          revert nq; intro nq1
          have S2 : Aside (SW E w0 blk off dk (wr.drewN nq1)) := S1.out.drewN nq1
          have hcw2 : ∀ t, t < d.size → (wr.drewN nq1).cell? ⟨blk, off + t, none⟩ = some (.int .u8 (G t)) := hcw
          have hfw2 : ∀ t, t < d.size → (wr.drewN nq1).frozen? ⟨blk, off + t, none⟩ = false := hfw
          clear hcw hfw S1
          generalize wr.drewN nq1 = wr2 at hcw2 hfw2 S2 ⊢
          go_big_quiet (first | (go_at_call 69; refine Calls.quiet_of_same (less _ _ _)))
          go_wp2_with fail
          · have hS : ltInt (G (first + r)) (G (first + 2 * r + 2)) = false := by
              have : (!ltInt (G (first + r)) (G (first + 2 * r + 2))) = true := by assumption
              simpa using this
            (try simp only [Exit.inBlock, Exit.then]); refine bodyPost_ret (results_none rfl _ _ _) rfl ?_
            refine ⟨rfl, ?_⟩
            rw [HG.out, HG.out] at hL hS
            rw [← HE.out, sd_right_stop ltInt dk h1 hL hS]
            exact S2.out.drewN nq
          · have hS : ltInt (G (first + r)) (G (first + 2 * r + 2)) = true := by
              have : (!ltInt (G (first + r)) (G (first + 2 * r + 2))) = false := by assumption
              simpa using this
            have S3 : Aside (SW E w0 blk off dk (wr2.drewN nq)) := S2.out.drewN nq
            have hcw3 : ∀ t, t < d.size → (wr2.drewN nq).cell? ⟨blk, off + t, none⟩ = some (.int .u8 (G t)) := hcw2
            have hfw3 : ∀ t, t < d.size → (wr2.drewN nq).frozen? ⟨blk, off + t, none⟩ = false := hfw2
            clear hcw2 hfw2 S2
            generalize wr2.drewN nq = wr3 at hcw3 hfw3 S3 ⊢
            go_region
            go_wp2
            go_roundg (hi - (2 * r + 2))
            case measure => omega
            case rel =>
              refine ⟨2 * r + 2, swp dk (first + r) (first + (2 * r + 1 + 1)), by simp <;> omega, by omega, Nat.le_refl _, by rw [size_swp]; exact hds, ?_, ?_⟩
              · exact swapped1 S3.out R G HG.out _ _ (by omega) (by omega)
              · show _ = _
                rw [HG.out, HG.out] at hL hS
                rw [← HE.out, sd_right_go ltInt dk h1 hL hS]
        · have hL : ltInt (G (first + 2 * r + 1)) (G (first + 2 * r + 2)) = false := by assumption
          revert nq; intro nq1
          have S2 : Aside (SW E w0 blk off dk (wr.drewN nq1)) := S1.out.drewN nq1
          have hcw2 : ∀ t, t < d.size → (wr.drewN nq1).cell? ⟨blk, off + t, none⟩ = some (.int .u8 (G t)) := hcw
          have hfw2 : ∀ t, t < d.size → (wr.drewN nq1).frozen? ⟨blk, off + t, none⟩ = false := hfw
          clear hcw hfw S1
          generalize wr.drewN nq1 = wr2 at hcw2 hfw2 S2 ⊢
          go_big_quiet (first | (go_at_call 69; refine Calls.quiet_of_same (less _ _ _)))
          go_wp2_with fail
          · have hS : ltInt (G (first + r)) (G (first + 2 * r + 1)) = false := by
              have : (!ltInt (G (first + r)) (G (first + 2 * r + 1))) = true := by assumption
              simpa using this
            (try simp only [Exit.inBlock, Exit.then]); refine bodyPost_ret (results_none rfl _ _ _) rfl ?_
            refine ⟨rfl, ?_⟩
            rw [HG.out, HG.out] at hL hS
            rw [← HE.out, sd_left_stop ltInt dk (by omega) (fun _ => hL) hS]
            exact S2.out.drewN nq
          · have hS : ltInt (G (first + r)) (G (first + 2 * r + 1)) = true := by
              have : (!ltInt (G (first + r)) (G (first + 2 * r + 1))) = false := by assumption
              simpa using this
            have S3 : Aside (SW E w0 blk off dk (wr2.drewN nq)) := S2.out.drewN nq
            have hcw3 : ∀ t, t < d.size → (wr2.drewN nq).cell? ⟨blk, off + t, none⟩ = some (.int .u8 (G t)) := hcw2
            have hfw3 : ∀ t, t < d.size → (wr2.drewN nq).frozen? ⟨blk, off + t, none⟩ = false := hfw2
            clear hcw2 hfw2 S2
            generalize wr2.drewN nq = wr3 at hcw3 hfw3 S3 ⊢
            go_region
            go_wp2
            go_roundg (hi - (2 * r + 1))
            case measure => omega
            case rel =>
              refine ⟨2 * r + 1, swp dk (first + r) (first + (2 * r + 1)), by simp <;> omega, by omega, Nat.le_refl _, by rw [size_swp]; exact hds, ?_, ?_⟩
              · exact swapped1 S3.out R G HG.out _ _ (by omega) (by omega)
              · show _ = _
                rw [HG.out, HG.out] at hL hS
                rw [← HE.out, sd_left_go ltInt dk (by omega) (fun _ => hL) hS]
      · have h1z : ¬ (2 * (r : Int) + 1 + 1 < (hi : Int)) := by omega
        have h1d : decide (2 * (r : Int) + 1 + 1 < (hi : Int)) = false := decide_eq_false h1z
        go_wp2_with fail
        go_big_quiet (first | (go_at_call 69; refine Calls.quiet_of_same (less _ _ _)))
        go_wp2_with fail
        revert nq; intro nq1
        have S2 : Aside (SW E w0 blk off dk (wr.drewN nq1)) := S1.out.drewN nq1
        have hcw2 : ∀ t, t < d.size → (wr.drewN nq1).cell? ⟨blk, off + t, none⟩ = some (.int .u8 (G t)) := hcw
        have hfw2 : ∀ t, t < d.size → (wr.drewN nq1).frozen? ⟨blk, off + t, none⟩ = false := hfw
        clear hcw hfw S1
        generalize wr.drewN nq1 = wr2 at hcw2 hfw2 S2 ⊢
        go_big_quiet (first | (go_at_call 69; refine Calls.quiet_of_same (less _ _ _)))
        go_wp2_with fail
        · have hS : ltInt (G (first + r)) (G (first + 2 * r + 1)) = false := by
            have : (!ltInt (G (first + r)) (G (first + 2 * r + 1))) = true := by assumption
            simpa using this
          (try simp only [Exit.inBlock, Exit.then]); refine bodyPost_ret (results_none rfl _ _ _) rfl ?_
          refine ⟨rfl, ?_⟩
          rw [HG.out, HG.out] at hS
          rw [← HE.out, sd_left_stop ltInt dk (by omega) (fun h => absurd h h1) hS]
          exact S2.out.drewN nq
        · have hS : ltInt (G (first + r)) (G (first + 2 * r + 1)) = true := by
            have : (!ltInt (G (first + r)) (G (first + 2 * r + 1))) = false := by assumption
            simpa using this
          have S3 : Aside (SW E w0 blk off dk (wr2.drewN nq)) := S2.out.drewN nq
          have hcw3 : ∀ t, t < d.size → (wr2.drewN nq).cell? ⟨blk, off + t, none⟩ = some (.int .u8 (G t)) := hcw2
          have hfw3 : ∀ t, t < d.size → (wr2.drewN nq).frozen? ⟨blk, off + t, none⟩ = false := hfw2
          clear hcw2 hfw2 S2
          generalize wr2.drewN nq = wr3 at hcw3 hfw3 S3 ⊢
          go_region
          go_wp2
          go_roundg (hi - (2 * r + 1))
          case measure => omega
          case rel =>
            refine ⟨2 * r + 1, swp dk (first + r) (first + (2 * r + 1)), by simp <;> omega, by omega, Nat.le_refl _, by rw [size_swp]; exact hds, ?_, ?_⟩
            · exact swapped1 S3.out R G HG.out _ _ (by omega) (by omega)
            · show _ = _
              rw [HG.out, HG.out] at hS
              rw [← HE.out, sd_left_go ltInt dk (by omega) (fun h => absurd h h1) hS]
set_option maxHeartbeats 8000000 in
set_option maxRecDepth 100000 in
theorem heap (cap a b : Nat) (R : Row1 E w0 blk off d0) (hs : d.size = d0.size) (S : SW E w0 blk off d W) (hab : a ≤ b) (hb : b ≤ d.size) (hsz : d.size < 4611686018427387904) :
    Calls Tryz.prog 64 #[.slice (some ⟨blk, off, none⟩) d.size cap, .int .i64 a, .int .i64 b] W fun e w' =>
      e = .returned (.tuple #[]) ∧ SW E w0 blk off (heapSort ltInt d a b) w' := by
  have S0 : Aside (SW E w0 blk off d W) := S
  have HS : Hid (d.size = d0.size) := hs
  clear S hs
  have ecast : ((b - a : Nat) : Int) = (b : Int) - (a : Int) := by omega
  have step : ∀ (dj : Array Int) (w1 : World) (lo hi : Nat), dj.size = d.size → SW E w0 blk off dj w1 → lo ≤ hi → a + hi ≤ d.size →
      Calls Tryz.prog 89 #[.slice (some ⟨blk, off, none⟩) d.size cap, .int .i64 lo, .int .i64 hi, .int .i64 a] w1 fun e w' =>
        e = .returned (.tuple #[]) ∧ SW E w0 blk off (siftDown ltInt hi a lo dj) w' := fun dj w1 lo hi h1 h2 h3 h4 => by
    have := sift cap lo hi a R (by rw [h1]; exact HS.out) h2 h3 (by omega) (by omega)
    rw [h1] at this
    exact this
  have STEP : Aside _ := step
  clear step
  go_enter Tryz.func64, Tryz.ntmps64
  go_wp2
  go_loopg [9] ((b - a - 1) / 2 + 1) (fun k s9 wr => s9 = .int .i64 ((k : Int) - 1) ∧ k ≤ (b - a - 1) / 2 + 1 ∧ ∃ (dk : Array Int), dk.size = d.size ∧ Aside (SW E w0 blk off dk wr) ∧
    Hid (heapBuild ltInt (b - a) a k dk = heapBuild ltInt (b - a) a ((b - a - 1) / 2 + 1) d))
  case atStart => exact ⟨by rw [half_start hab], Nat.le_refl _, d, rfl, S0, rfl⟩
  case round =>
    clear S0
    obtain ⟨rfl, hkk, dk, hds, S1, HE⟩ := hrel
    cases gk with
    | zero =>
      have HB : Hid (dk = heapBuild ltInt (b - a) a ((b - a - 1) / 2 + 1) d) := HE.out
      clear HE hkk
      go_wp2
      go_loopg [10] (b - a) (fun k s10 wr2 => s10 = .int .i64 ((k : Int) - 1) ∧ k ≤ b - a ∧ ∃ (dj : Array Int), dj.size = d.size ∧ Aside (SW E w0 blk off dj wr2) ∧ Hid (heapPop ltInt a k dj = heapPop ltInt a (b - a) dk))
      case atStart => exact ⟨by rw [ecast], Nat.le_refl _, dk, hds, S1, rfl⟩
      case round =>
        clear S1
        obtain ⟨rfl, hkk, dj, hdj, S2, HE2⟩ := hrel
        cases gk with
        | zero =>
          go_wp2
          go_end0
          refine ⟨rfl, ?_⟩
          have e : dj = heapSort ltInt d a b := by rw [heapSort, ← HB.out, ← HE2.out]; rfl
          rw [← e]
          exact S2.out
        | succ k =>
          obtain ⟨G, hG, hcw, hfw⟩ := fams S2.out R (by have := HS.out; omega)
          rw [hdj] at hcw hfw
          have HG : Hid (∀ t, G t = dj[t]!) := hG
          clear hG
          rcases Nat.eq_zero_or_pos k with hk0 | hkp
          · subst hk0
            go_wp2_with fail
            go_region
            go_wp2_with fail
            refine (STEP.out (swp dj a a) _ 0 0 (by rw [size_swp]; exact hdj) (swapped1 S2.out R G HG.out a a (by omega) (by omega)) (Nat.le_refl _) (by omega)).mono ?_
            rintro e w1 ⟨rfl, S3⟩
            have S4 : Aside (SW E w0 blk off (siftDown ltInt 0 a 0 (swp dj a a)) w1) := S3
            clear S3
            go_wp2
            go_roundg 0
            case measure => omega
            case rel => exact ⟨by simp, by omega, siftDown ltInt 0 a 0 (swp dj a a), by rw [size_siftDown ltInt _ _ _ _ _ (Nat.le_refl _), size_swp]; exact hdj, S4, HE2⟩
          · go_wp2_with fail
            go_region
            go_wp2_with fail
            refine (STEP.out (swp dj a (a + k)) _ 0 k (by rw [size_swp]; exact hdj) (swapped1 S2.out R G HG.out a (a + k) (by omega) (by omega)) (Nat.zero_le _) (by omega)).mono ?_
            rintro e w1 ⟨rfl, S3⟩
            have S4 : Aside (SW E w0 blk off (siftDown ltInt k a 0 (swp dj a (a + k))) w1) := S3
            clear S3
            go_wp2
            go_roundg k
            case measure => omega
            case rel => exact ⟨by simp, by omega, siftDown ltInt k a 0 (swp dj a (a + k)), by rw [size_siftDown ltInt _ _ _ _ _ (Nat.le_refl _), size_swp]; exact hdj, S4, HE2⟩
    | succ k =>
      have hcall := STEP.out dk _ k (b - a) hds S1.out (by omega) (by omega)
      rw [ecast] at hcall
      go_wp2_with (go_at_call 89; refine hcall.mono ?_; rintro e w1 ⟨rfl, S3⟩; (have S4 : Aside (SW E w0 blk off (siftDown ltInt (b - a) a k dk) w1) := S3); clear S3)
      go_roundg k
      case measure => omega
      case rel => exact ⟨by simp, by omega, siftDown ltInt (b - a) a k dk, by rw [size_siftDown ltInt _ _ _ _ _ (Nat.le_refl _)]; exact hds, S4, HE⟩
end Go.Proofs.YtajeaefpapnkbaaGreatDoor.BS
/-
  The byte sort of the library, walked at this translation, third part: partitionEqual. At any row of bytes of which no cell is frozen.
-/
namespace Go.Proofs.YtajeaefpapnkbaaGreatDoor.BS
open Go.Shelf Go.RowKit Go.Lib Go.Sort
variable {w0 W : World} {blk off : Nat} {d0 d dk : Array Int}
set_option maxHeartbeats 8000000 in
set_option maxRecDepth 100000 in
theorem partEq (cap a b pivot : Nat) (R : Row1 E w0 blk off d0) (hs : d.size = d0.size) (S : SW E w0 blk off d W) (hap : a ≤ pivot) (hpb : pivot < b) (hb : b ≤ d.size) (hsz : d.size < 4611686018427387904) :
    Calls Tryz.prog 70 #[.slice (some ⟨blk, off, none⟩) d.size cap, .int .i64 a, .int .i64 b, .int .i64 pivot] W fun e w' =>
      e = .returned (.int .i64 (partitionEqual ltInt d a b pivot).1) ∧ SW E w0 blk off (partitionEqual ltInt d a b pivot).2 w' := by
  have hla : a < d.size := by omega
  have hlp : pivot < d.size := by omega
  obtain ⟨G, hG, hcw, hfw⟩ := fams S R hs
  have ca := hcw a hla
  have fa := hfw a hla
  have cp := hcw pivot hlp
  have fp := hfw pivot hlp
  obtain ⟨v', hy'⟩ := cell?_setCell_some (w := W) (p := ⟨blk, off + a, none⟩) (x := .int .u8 (G pivot)) (q := ⟨blk, off + pivot, none⟩) cp
  have S1 : Aside (SW E w0 blk off (swp d a pivot) ((W.setCell ⟨blk, off + a, none⟩ (.int .u8 (G pivot))).setCell ⟨blk, off + pivot, none⟩ (.int .u8 (G a))).drew) := swapped1 S R G hG a pivot hla hlp
  have HS : Hid (d.size = d0.size) := hs
  clear hG hcw hfw S hs
  go_enter Tryz.func70, Tryz.ntmps70
  go_wp2
  go_region
  go_wp2
  go_loopg [9, 10] b (fun g vi vj wr => ∃ (i j : Nat) (dk : Array Int), vi = .int .i64 i ∧ vj = .int .i64 j ∧ a < i ∧ i ≤ j + 1 ∧ j < b ∧ j + 1 - i ≤ g ∧ dk.size = d.size ∧ Aside (SW E w0 blk off dk wr) ∧
      Hid (partEqLoop ltInt a i j dk = partEqLoop ltInt a (a + 1) (b - 1) (swp d a pivot)))
  case atStart => exact ⟨a + 1, b - 1, swp d a pivot, by go_num, by go_num, by omega, by omega, by omega, by omega, size_swp _ _ _, S1, rfl⟩
  case round =>
    obtain ⟨i, j, dk, rfl, rfl, hai, hij, hjb, hg, hsk, S2, AE⟩ := hrel
    clear ca fa cp fp hy' v' S1
    rename World => W1
    obtain ⟨Gk, hG, hc, hf⟩ := fams S2.out R (by have := HS.out; omega)
    rw [hsk] at hc hf
    have AG : Hid (∀ t, Gk t = dk[t]!) := hG
    clear hG
    go_wp2
    go_loopg [9] (j + 1 - i) (fun g2 vi w1 => ∃ (i' n1 : Nat), vi = .int .i64 i' ∧ i ≤ i' ∧ i' ≤ j + 1 ∧ j + 1 - i' ≤ g2 ∧ w1 = W1.drewN n1 ∧ Hid (scanUp (fun x => !ltInt dk[a]! x) dk j i' = scanUp (fun x => !ltInt dk[a]! x) dk j i))
    case atStart => exact ⟨i, 0, rfl, Nat.le_refl _, hij, Nat.le_refl _, rfl, rfl⟩
    case round =>
      obtain ⟨i', n1, rfl, hii, hij', hg2, hw1, hsc⟩ := hrel
      have hcw : ∀ t, t < d.size → wr.cell? ⟨blk, off + t, none⟩ = some (.int .u8 (Gk t)) := fun t ht => by rw [hw1]; exact hc t ht
      have HW1 : Hid (wr = W1.drewN n1) := hw1
      clear hw1
      by_cases hle : i' ≤ j
      · go_wp2_with fail
        go_big_quiet (first | (go_at_call 69; refine Calls.quiet_of_same (less _ _ _)))
        go_wp2
        · have ht : (!ltInt (Gk a) (Gk i')) = true := by assumption
          go_roundg (j - i')
          case measure => omega
          case rel => exact ⟨i' + 1, n1 + nq, by go_num, by omega, by omega, by omega, by rw [HW1.out, World.drewN_drewN], (scanUp_go (fun x => !ltInt dk[a]! x) dk j i' hle (by rw [← AG.out a, ← AG.out i']; exact ht)).symm.trans hsc.out⟩
        · have ht : (!ltInt (Gk a) (Gk i')) = false := by assumption
          have hi2 : Hid (i' = scanUp (fun x => !ltInt dk[a]! x) dk j i) := (scanUp_end (fun x => !ltInt dk[a]! x) dk j i' (Or.inr (by rw [← AG.out a, ← AG.out i']; exact ht))).symm.trans hsc.out
          clear ht
          have hw2 : wr.drewN nq = W1.drewN (n1 + nq) := by rw [HW1.out, World.drewN_drewN]
          clear hcw HW1 hsc
          go_loopg [10] j (fun g3 vj w2 => ∃ (j' n2 : Nat), vj = .int .i64 j' ∧ j' ≤ j ∧ j' ≤ g3 ∧ i' ≤ j' + 1 ∧ w2 = W1.drewN n2 ∧ Hid (scanDown (fun x => ltInt dk[a]! x) dk i' j' = scanDown (fun x => ltInt dk[a]! x) dk i' j))
          case atStart => exact ⟨j, n1 + nq, rfl, Nat.le_refl _, Nat.le_refl _, hij', hw2, rfl⟩
          case round =>
            clear hw2
            obtain ⟨j', n2, rfl, hjj, hg3, hij2, hw2, hsd⟩ := hrel
            have hcw : ∀ t, t < d.size → wr.cell? ⟨blk, off + t, none⟩ = some (.int .u8 (Gk t)) := fun t ht => by rw [hw2]; exact hc t ht
            have HW2 : Hid (wr = W1.drewN n2) := hw2
            clear hw2
            by_cases hle2 : i' ≤ j'
            · go_wp2_with fail
              go_big_quiet (first | (go_at_call 69; refine Calls.quiet_of_same (less _ _ _)))
              go_wp2
              · have ht : ltInt (Gk a) (Gk j') = true := by assumption
                go_roundg (j' - 1)
                case measure => omega
                case rel => exact ⟨j' - 1, n2 + nq, by go_num, by omega, by omega, by omega, by rw [HW2.out, World.drewN_drewN], (scanDown_go (fun x => ltInt dk[a]! x) dk i' j' hle2 (by omega) (by rw [← AG.out a, ← AG.out j']; exact ht)).symm.trans hsd.out⟩
              · have ht : ltInt (Gk a) (Gk j') = false := by assumption
                have hj2 : Hid (j' = scanDown (fun x => ltInt dk[a]! x) dk i' j) := (scanDown_end (fun x => ltInt dk[a]! x) dk i' j' (Or.inr (by rw [← AG.out a, ← AG.out j']; exact ht))).symm.trans hsd.out
                clear hcw hsd ht
                have hw3 : wr.drewN nq = W1.drewN (n2 + nq) := by rw [HW2.out, World.drewN_drewN]
                generalize wr.drewN nq = W3 at hw3 ⊢
                have hc3 : ∀ t, t < d.size → W3.cell? ⟨blk, off + t, none⟩ = some (.int .u8 (Gk t)) := fun t ht => by rw [hw3]; exact hc t ht
                have hf3 : ∀ t, t < d.size → W3.frozen? ⟨blk, off + t, none⟩ = false := fun t ht => by rw [hw3]; exact hf t ht
                have S3 : Aside (SW E w0 blk off dk W3) := by rw [hw3]; exact S2.out.drewN _
                clear hw3 HW2
                obtain ⟨v3, hy3⟩ := cell?_setCell_some (w := W3) (p := ⟨blk, off + i', none⟩) (x := .int .u8 (Gk j')) (q := ⟨blk, off + j', none⟩) (hc3 j' (by omega))
                have hlt3 := scans_lt ltInt a i j dk (by omega) hi2.out hj2.out hle2
                go_wp2
                go_region
                all_goals go_wp2
                all_goals go_roundg (j' - 1 - i')
                case measure => omega
                case rel =>
                  refine ⟨i' + 1, j' - 1, swp dk i' j', by go_num, by go_num, by omega, by omega, by omega, by omega, by rw [size_swp]; exact hsk, ?_, ?_⟩
                  · exact swapped1 S3.out R Gk AG.out i' j' (by omega) (by omega)
                  · show _ = _
                    rw [← AE.out]; exact (partEq_go ltInt a i j dk hi2.out hj2.out (by omega)).symm
            · go_wp2_with fail
              go_big_quiet (first | (go_at_call 69; refine Calls.quiet_of_same (less _ _ _)))
              have hj2 : Hid (j' = scanDown (fun x => ltInt dk[a]! x) dk i' j) := (scanDown_end (fun x => ltInt dk[a]! x) dk i' j' (Or.inl hle2)).symm.trans hsd.out
              clear hcw hsd
              have S3 : Aside (SW E w0 blk off dk (wr.drewN nq)) := by show SW _ _ _ _ _ _; rw [HW2.out]; exact (S2.out.drewN _).drewN _
              generalize wr.drewN nq = W3 at S3 ⊢
              go_wp2
              go_ret
              have e := partEq_break ltInt a i j dk hi2.out hj2.out (by omega)
              refine ⟨?_, ?_⟩
              · unfold partitionEqual; rw [← AE.out, e]; rfl
              · unfold partitionEqual; rw [← AE.out, e]; exact S3.out
      · go_wp2_with fail
        go_big_quiet (first | (go_at_call 69; refine Calls.quiet_of_same (less _ _ _)))
        go_wp2
        have hi2 : Hid (i' = scanUp (fun x => !ltInt dk[a]! x) dk j i) := (scanUp_end (fun x => !ltInt dk[a]! x) dk j i' (Or.inl hle)).symm.trans hsc.out
        have hw2 : wr.drewN nq = W1.drewN (n1 + nq) := by rw [HW1.out, World.drewN_drewN]
        clear hcw HW1 hsc
        go_loopg [10] j (fun g3 vj w2 => ∃ (j' n2 : Nat), vj = .int .i64 j' ∧ j' ≤ j ∧ j' ≤ g3 ∧ i' ≤ j' + 1 ∧ w2 = W1.drewN n2 ∧ Hid (scanDown (fun x => ltInt dk[a]! x) dk i' j' = scanDown (fun x => ltInt dk[a]! x) dk i' j))
        case atStart => exact ⟨j, n1 + nq, rfl, Nat.le_refl _, Nat.le_refl _, hij', hw2, rfl⟩
        case round =>
          clear hw2
          obtain ⟨j', n2, rfl, hjj, hg3, hij2, hw2, hsd⟩ := hrel
          have hcw : ∀ t, t < d.size → wr.cell? ⟨blk, off + t, none⟩ = some (.int .u8 (Gk t)) := fun t ht => by rw [hw2]; exact hc t ht
          have HW2 : Hid (wr = W1.drewN n2) := hw2
          clear hw2
          by_cases hle2 : i' ≤ j'
          · exfalso; omega
          · go_wp2_with fail
            go_big_quiet (first | (go_at_call 69; refine Calls.quiet_of_same (less _ _ _)))
            have hj2 : Hid (j' = scanDown (fun x => ltInt dk[a]! x) dk i' j) := (scanDown_end (fun x => ltInt dk[a]! x) dk i' j' (Or.inl hle2)).symm.trans hsd.out
            clear hcw hsd
            have S3 : Aside (SW E w0 blk off dk (wr.drewN nq)) := by show SW _ _ _ _ _ _; rw [HW2.out]; exact (S2.out.drewN _).drewN _
            generalize wr.drewN nq = W3 at S3 ⊢
            go_wp2
            go_ret
            have e := partEq_break ltInt a i j dk hi2.out hj2.out (by omega)
            refine ⟨?_, ?_⟩
            · unfold partitionEqual; rw [← AE.out, e]; rfl
            · unfold partitionEqual; rw [← AE.out, e]; exact S3.out
end Go.Proofs.YtajeaefpapnkbaaGreatDoor.BS
/-
  The byte sort of the library, walked at this translation, fourth part: partition. At any row of bytes of which no cell is frozen. Printed by wip/tools/sort4.py.
-/
namespace Go.Proofs.YtajeaefpapnkbaaGreatDoor.BS
open Go.Shelf Go.RowKit Go.Lib Go.Sort
variable {w0 W : World} {blk off : Nat} {d0 d dk : Array Int}
set_option maxHeartbeats 16000000 in
set_option maxRecDepth 100000 in
theorem part (cap a b pivot : Nat) (R : Row1 E w0 blk off d0) (hs : d.size = d0.size) (S : SW E w0 blk off d W) (hap : a ≤ pivot) (hpb : pivot < b) (hb : b ≤ d.size) (hsz : d.size < 4611686018427387904) :
    Calls Tryz.prog 71 #[.slice (some ⟨blk, off, none⟩) d.size cap, .int .i64 a, .int .i64 b, .int .i64 pivot] W fun e w' =>
      e = .returned (.tuple #[.int .i64 (partition ltInt d a b pivot).1, .bool (partition ltInt d a b pivot).2.1]) ∧ SW E w0 blk off (partition ltInt d a b pivot).2.2 w' := by
  have hla : a < d.size := by omega
  have hlp : pivot < d.size := by omega
  obtain ⟨G, hG, hcw, hfw⟩ := fams S R hs
  have ca := hcw a hla
  have fa := hfw a hla
  have cp := hcw pivot hlp
  have fp := hfw pivot hlp
  obtain ⟨v', hy'⟩ := cell?_setCell_some (w := W) (p := ⟨blk, off + a, none⟩) (x := .int .u8 (G pivot)) (q := ⟨blk, off + pivot, none⟩) cp
  have S1 : Aside (SW E w0 blk off (swp d a pivot) ((W.setCell ⟨blk, off + a, none⟩ (.int .u8 (G pivot))).setCell ⟨blk, off + pivot, none⟩ (.int .u8 (G a))).drew) := swapped1 S R G hG a pivot hla hlp
  have HS : Hid (d.size = d0.size) := hs
  clear hG hcw hfw S hs
  go_enter Tryz.func71, Tryz.ntmps71
  go_wp2
  go_region
  go_wp2
  obtain ⟨dk, hdk⟩ : ∃ dk, dk = swp d a pivot := ⟨_, rfl⟩
  obtain ⟨i, hi⟩ : ∃ i, i = a + 1 := ⟨_, rfl⟩
  obtain ⟨j, hj⟩ : ∃ j, j = b - 1 := ⟨_, rfl⟩
  have S2 : Aside (SW E w0 blk off dk ((W.setCell ⟨blk, off + a, none⟩ (.int .u8 (G pivot))).setCell ⟨blk, off + pivot, none⟩ (.int .u8 (G a))).drew) := by rw [hdk]; exact S1
  have hsk : dk.size = d.size := by rw [hdk, size_swp]
  have hai : a < i := by omega
  have hij : i ≤ j + 1 := by omega
  have hjb : j < b := by omega
  have HI : Hid (i = a + 1) := hi
  have HJ : Hid (j = b - 1) := hj
  have HDK : Hid (dk = swp d a pivot) := hdk
  rw [show (a : Int) + 1 = (i : Nat) by omega, show (b : Int) - 1 = (j : Nat) by omega]
  clear hdk hi hj S1
  generalize ((W.setCell ⟨blk, off + a, none⟩ (.int .u8 (G pivot))).setCell ⟨blk, off + pivot, none⟩ (.int .u8 (G a))).drew = W1 at S2 ⊢
  clear ca fa cp fp hy' v'
  obtain ⟨Gk, hG, hc, hf⟩ := fams S2.out R (by have := HS.out; omega)
  rw [hsk] at hc hf
  have AG : Hid (∀ t, Gk t = dk[t]!) := hG
  clear hG
  go_wp2
  go_loopg [10] (j + 1 - i) (fun g2 vi w1 => ∃ (i' n1 : Nat), vi = .int .i64 i' ∧ i ≤ i' ∧ i' ≤ j + 1 ∧ j + 1 - i' ≤ g2 ∧ w1 = W1.drewN n1 ∧ Hid (scanUp (fun x => ltInt x dk[a]!) dk j i' = scanUp (fun x => ltInt x dk[a]!) dk j i))
  case atStart => exact ⟨i, 0, rfl, Nat.le_refl _, hij, Nat.le_refl _, rfl, rfl⟩
  case round =>
    obtain ⟨i', n1, rfl, hii, hij', hg2, hw1, hsc⟩ := hrel
    have hcw : ∀ t, t < d.size → wr.cell? ⟨blk, off + t, none⟩ = some (.int .u8 (Gk t)) := fun t ht => by rw [hw1]; exact hc t ht
    have HW1 : Hid (wr = W1.drewN n1) := hw1
    clear hw1
    by_cases hle : i' ≤ j
    · go_wp2_with fail
      go_big_quiet (first | (go_at_call 69; refine Calls.quiet_of_same (less _ _ _)))
      go_wp2
      · have ht : ltInt (Gk i') (Gk a) = true := by assumption
        go_roundg (j - i')
        case measure => omega
        case rel => exact ⟨i' + 1, n1 + nq, by go_num, by omega, by omega, by omega, by rw [HW1.out, World.drewN_drewN], (scanUp_go (fun x => ltInt x dk[a]!) dk j i' hle (by rw [← AG.out a, ← AG.out i']; exact ht)).symm.trans hsc.out⟩
      · have ht : ltInt (Gk i') (Gk a) = false := by assumption
        have hi2 : Hid (i' = scanUp (fun x => ltInt x dk[a]!) dk j i) := (scanUp_end (fun x => ltInt x dk[a]!) dk j i' (Or.inr (by rw [← AG.out a, ← AG.out i']; exact ht))).symm.trans hsc.out
        clear ht
        have hw2 : wr.drewN nq = W1.drewN (n1 + nq) := by rw [HW1.out, World.drewN_drewN]
        clear hcw HW1 hsc
        go_loopg [11] j (fun g3 vj w2 => ∃ (j' n2 : Nat), vj = .int .i64 j' ∧ j' ≤ j ∧ j' ≤ g3 ∧ i' ≤ j' + 1 ∧ w2 = W1.drewN n2 ∧ Hid (scanDown (fun x => !ltInt x dk[a]!) dk i' j' = scanDown (fun x => !ltInt x dk[a]!) dk i' j))
        case atStart => exact ⟨j, n1 + nq, rfl, Nat.le_refl _, Nat.le_refl _, hij', hw2, rfl⟩
        case round =>
          clear hw2
          obtain ⟨j', n2, rfl, hjj, hg3, hij2, hw2, hsd⟩ := hrel
          have hcw : ∀ t, t < d.size → wr.cell? ⟨blk, off + t, none⟩ = some (.int .u8 (Gk t)) := fun t ht => by rw [hw2]; exact hc t ht
          have HW2 : Hid (wr = W1.drewN n2) := hw2
          clear hw2
          by_cases hle2 : i' ≤ j'
          · go_wp2_with fail
            go_big_quiet (first | (go_at_call 69; refine Calls.quiet_of_same (less _ _ _)))
            go_wp2
            · have ht : (!ltInt (Gk j') (Gk a)) = true := by assumption
              go_roundg (j' - 1)
              case measure => omega
              case rel => exact ⟨j' - 1, n2 + nq, by go_num, by omega, by omega, by omega, by rw [HW2.out, World.drewN_drewN], (scanDown_go (fun x => !ltInt x dk[a]!) dk i' j' hle2 (by omega) (by rw [← AG.out a, ← AG.out j']; exact ht)).symm.trans hsd.out⟩
            · have ht : (!ltInt (Gk j') (Gk a)) = false := by assumption
              have hj2 : Hid (j' = scanDown (fun x => !ltInt x dk[a]!) dk i' j) := (scanDown_end (fun x => !ltInt x dk[a]!) dk i' j' (Or.inr (by rw [← AG.out a, ← AG.out j']; exact ht))).symm.trans hsd.out
              clear hcw hsd ht
              have hw3 : wr.drewN nq = W1.drewN (n2 + nq) := by rw [HW2.out, World.drewN_drewN]
              generalize wr.drewN nq = W3 at hw3 ⊢
              have hc3 : ∀ t, t < d.size → W3.cell? ⟨blk, off + t, none⟩ = some (.int .u8 (Gk t)) := fun t ht => by rw [hw3]; exact hc t ht
              have hf3 : ∀ t, t < d.size → W3.frozen? ⟨blk, off + t, none⟩ = false := fun t ht => by rw [hw3]; exact hf t ht
              have S3 : Aside (SW E w0 blk off dk W3) := by rw [hw3]; exact S2.out.drewN _
              clear hw3 HW2
              obtain ⟨v3, hy3⟩ := cell?_setCell_some (w := W3) (p := ⟨blk, off + i', none⟩) (x := .int .u8 (Gk j')) (q := ⟨blk, off + j', none⟩) (hc3 j' (by omega))
              have hlt3 := part_scans_lt ltInt a i j dk (by omega) hi2.out hj2.out hle2
              go_wp2
              go_region
              all_goals go_wp2
              obtain ⟨PR, hPR⟩ : ∃ PR, PR = partLoop ltInt a (i' + 1) (j' - 1) (swp dk i' j') := ⟨_, rfl⟩
              have HP : Hid (partition ltInt d a b pivot = (PR.1, false, swp PR.2 PR.1 a)) := by rw [hPR]; exact part_first_go ltInt d a b pivot HI.out HJ.out HDK.out hi2.out hj2.out (by omega)
              have S4 : Aside (SW E w0 blk off (swp dk i' j') ((W3.setCell ⟨blk, off + i', none⟩ (.int .u8 (Gk j'))).setCell ⟨blk, off + j', none⟩ (.int .u8 (Gk i'))).drew) := swapped1 S3.out R Gk AG.out i' j' (by omega) (by omega)
              have hai2 : a < i' + 1 := by omega
              have hij3 : i' + 1 ≤ j' - 1 + 1 := by omega
              have hjb2 : j' - 1 < b := by omega
              have hsw : (swp dk i' j').size = d.size := by rw [size_swp]; exact hsk
              have HPR : Hid (PR = partLoop ltInt a (i' + 1) (j' - 1) (swp dk i' j')) := hPR
              clear hPR hc hf hc3 hf3 hy3 S3 S2 AG hi2 hj2 HI HJ HDK
              go_loopg [10, 11] b (fun g vi vj wr => ∃ (i j : Nat) (dk : Array Int), vi = .int .i64 i ∧ vj = .int .i64 j ∧ a < i ∧ i ≤ j + 1 ∧ j < b ∧ j + 1 - i ≤ g ∧ dk.size = d.size ∧ Aside (SW E w0 blk off dk wr) ∧
                  Hid (partLoop ltInt a i j dk = PR))
              case atStart => exact ⟨i' + 1, j' - 1, swp dk i' j', by go_num, by go_num, hai2, hij3, hjb2, by omega, hsw, S4, HPR.out.symm⟩
              case round =>
                clear S4 HPR hsw hai2 hij3 hjb2
                clear hlt3 hle hle2 hij' hjj hii hij hai hjb hij2 hg2 hg3 hsk


                obtain ⟨i, j, dk, rfl, rfl, hai, hij, hjb, hg, hsk, S2, AE⟩ := hrel
                rename World => W1
                obtain ⟨Gk, hG, hc, hf⟩ := fams S2.out R (by have := HS.out; omega)
                rw [hsk] at hc hf
                have AG : Hid (∀ t, Gk t = dk[t]!) := hG
                clear hG
                go_wp2
                go_loopg [10] (j + 1 - i) (fun g2 vi w1 => ∃ (i' n1 : Nat), vi = .int .i64 i' ∧ i ≤ i' ∧ i' ≤ j + 1 ∧ j + 1 - i' ≤ g2 ∧ w1 = W1.drewN n1 ∧ Hid (scanUp (fun x => ltInt x dk[a]!) dk j i' = scanUp (fun x => ltInt x dk[a]!) dk j i))
                case atStart => exact ⟨i, 0, rfl, Nat.le_refl _, hij, Nat.le_refl _, rfl, rfl⟩
                case round =>
                  obtain ⟨i', n1, rfl, hii, hij', hg2, hw1, hsc⟩ := hrel
                  have hcw : ∀ t, t < d.size → wr.cell? ⟨blk, off + t, none⟩ = some (.int .u8 (Gk t)) := fun t ht => by rw [hw1]; exact hc t ht
                  have HW1 : Hid (wr = W1.drewN n1) := hw1
                  clear hw1
                  by_cases hle : i' ≤ j
                  · go_wp2_with fail
                    go_big_quiet (first | (go_at_call 69; refine Calls.quiet_of_same (less _ _ _)))
                    go_wp2
                    · have ht : ltInt (Gk i') (Gk a) = true := by assumption
                      go_roundg (j - i')
                      case measure => omega
                      case rel => exact ⟨i' + 1, n1 + nq, by go_num, by omega, by omega, by omega, by rw [HW1.out, World.drewN_drewN], (scanUp_go (fun x => ltInt x dk[a]!) dk j i' hle (by rw [← AG.out a, ← AG.out i']; exact ht)).symm.trans hsc.out⟩
                    · have ht : ltInt (Gk i') (Gk a) = false := by assumption
                      have hi2 : Hid (i' = scanUp (fun x => ltInt x dk[a]!) dk j i) := (scanUp_end (fun x => ltInt x dk[a]!) dk j i' (Or.inr (by rw [← AG.out a, ← AG.out i']; exact ht))).symm.trans hsc.out
                      clear ht
                      have hw2 : wr.drewN nq = W1.drewN (n1 + nq) := by rw [HW1.out, World.drewN_drewN]
                      clear hcw HW1 hsc
                      go_loopg [11] j (fun g3 vj w2 => ∃ (j' n2 : Nat), vj = .int .i64 j' ∧ j' ≤ j ∧ j' ≤ g3 ∧ i' ≤ j' + 1 ∧ w2 = W1.drewN n2 ∧ Hid (scanDown (fun x => !ltInt x dk[a]!) dk i' j' = scanDown (fun x => !ltInt x dk[a]!) dk i' j))
                      case atStart => exact ⟨j, n1 + nq, rfl, Nat.le_refl _, Nat.le_refl _, hij', hw2, rfl⟩
                      case round =>
                        clear hw2
                        obtain ⟨j', n2, rfl, hjj, hg3, hij2, hw2, hsd⟩ := hrel
                        have hcw : ∀ t, t < d.size → wr.cell? ⟨blk, off + t, none⟩ = some (.int .u8 (Gk t)) := fun t ht => by rw [hw2]; exact hc t ht
                        have HW2 : Hid (wr = W1.drewN n2) := hw2
                        clear hw2
                        by_cases hle2 : i' ≤ j'
                        · go_wp2_with fail
                          go_big_quiet (first | (go_at_call 69; refine Calls.quiet_of_same (less _ _ _)))
                          go_wp2
                          · have ht : (!ltInt (Gk j') (Gk a)) = true := by assumption
                            go_roundg (j' - 1)
                            case measure => omega
                            case rel => exact ⟨j' - 1, n2 + nq, by go_num, by omega, by omega, by omega, by rw [HW2.out, World.drewN_drewN], (scanDown_go (fun x => !ltInt x dk[a]!) dk i' j' hle2 (by omega) (by rw [← AG.out a, ← AG.out j']; exact ht)).symm.trans hsd.out⟩
                          · have ht : (!ltInt (Gk j') (Gk a)) = false := by assumption
                            have hj2 : Hid (j' = scanDown (fun x => !ltInt x dk[a]!) dk i' j) := (scanDown_end (fun x => !ltInt x dk[a]!) dk i' j' (Or.inr (by rw [← AG.out a, ← AG.out j']; exact ht))).symm.trans hsd.out
                            clear hcw hsd ht
                            have hw3 : wr.drewN nq = W1.drewN (n2 + nq) := by rw [HW2.out, World.drewN_drewN]
                            generalize wr.drewN nq = W3 at hw3 ⊢
                            have hc3 : ∀ t, t < d.size → W3.cell? ⟨blk, off + t, none⟩ = some (.int .u8 (Gk t)) := fun t ht => by rw [hw3]; exact hc t ht
                            have hf3 : ∀ t, t < d.size → W3.frozen? ⟨blk, off + t, none⟩ = false := fun t ht => by rw [hw3]; exact hf t ht
                            have S3 : Aside (SW E w0 blk off dk W3) := by rw [hw3]; exact S2.out.drewN _
                            clear hw3 HW2
                            obtain ⟨v3, hy3⟩ := cell?_setCell_some (w := W3) (p := ⟨blk, off + i', none⟩) (x := .int .u8 (Gk j')) (q := ⟨blk, off + j', none⟩) (hc3 j' (by omega))
                            have hlt3 := part_scans_lt ltInt a i j dk (by omega) hi2.out hj2.out hle2
                            go_wp2
                            go_region
                            all_goals go_wp2
                            all_goals go_roundg (j' - 1 - i')
                            case measure => omega
                            case rel =>
                              refine ⟨i' + 1, j' - 1, swp dk i' j', by go_num, by go_num, by omega, by omega, by omega, by omega, by rw [size_swp]; exact hsk, ?_, ?_⟩
                              · exact swapped1 S3.out R Gk AG.out i' j' (by omega) (by omega)
                              · show _ = _
                                rw [← AE.out]; exact (part_go ltInt a i j dk hi2.out hj2.out (by omega)).symm
                        · go_wp2_with fail
                          go_big_quiet (first | (go_at_call 69; refine Calls.quiet_of_same (less _ _ _)))
                          have hj2 : Hid (j' = scanDown (fun x => !ltInt x dk[a]!) dk i' j) := (scanDown_end (fun x => !ltInt x dk[a]!) dk i' j' (Or.inl hle2)).symm.trans hsd.out
                          clear hcw hsd
                          have hw3 : wr.drewN nq = W1.drewN (n2 + nq) := by rw [HW2.out, World.drewN_drewN]
                          generalize wr.drewN nq = W3 at hw3 ⊢
                          have hc3 : ∀ t, t < d.size → W3.cell? ⟨blk, off + t, none⟩ = some (.int .u8 (Gk t)) := fun t ht => by rw [hw3]; exact hc t ht
                          have hf3 : ∀ t, t < d.size → W3.frozen? ⟨blk, off + t, none⟩ = false := fun t ht => by rw [hw3]; exact hf t ht
                          have S3 : Aside (SW E w0 blk off dk W3) := by rw [hw3]; exact S2.out.drewN _
                          clear hw3 HW2
                          obtain ⟨v3, hy3⟩ := cell?_setCell_some (w := W3) (p := ⟨blk, off + j', none⟩) (x := .int .u8 (Gk a)) (q := ⟨blk, off + a, none⟩) (hc3 a (by omega))
                          have hpe : PR = (j', dk) := AE.out.symm.trans (part_break ltInt a i j dk hi2.out hj2.out (by omega))
                          go_wp2
                          go_region
                          all_goals go_wp2
                          all_goals go_ret2
                          have e : partition ltInt d a b pivot = (j', false, swp dk j' a) := by rw [HP.out, hpe]
                          rw [e]
                          exact ⟨rfl, swapped1 S3.out R Gk AG.out j' a (by omega) (by omega)⟩
                  · go_wp2_with fail
                    go_big_quiet (first | (go_at_call 69; refine Calls.quiet_of_same (less _ _ _)))
                    go_wp2
                    have hi2 : Hid (i' = scanUp (fun x => ltInt x dk[a]!) dk j i) := (scanUp_end (fun x => ltInt x dk[a]!) dk j i' (Or.inl hle)).symm.trans hsc.out
                    have hw2 : wr.drewN nq = W1.drewN (n1 + nq) := by rw [HW1.out, World.drewN_drewN]
                    clear hcw HW1 hsc
                    go_loopg [11] j (fun g3 vj w2 => ∃ (j' n2 : Nat), vj = .int .i64 j' ∧ j' ≤ j ∧ j' ≤ g3 ∧ i' ≤ j' + 1 ∧ w2 = W1.drewN n2 ∧ Hid (scanDown (fun x => !ltInt x dk[a]!) dk i' j' = scanDown (fun x => !ltInt x dk[a]!) dk i' j))
                    case atStart => exact ⟨j, n1 + nq, rfl, Nat.le_refl _, Nat.le_refl _, hij', hw2, rfl⟩
                    case round =>
                      clear hw2
                      obtain ⟨j', n2, rfl, hjj, hg3, hij2, hw2, hsd⟩ := hrel
                      have hcw : ∀ t, t < d.size → wr.cell? ⟨blk, off + t, none⟩ = some (.int .u8 (Gk t)) := fun t ht => by rw [hw2]; exact hc t ht
                      have HW2 : Hid (wr = W1.drewN n2) := hw2
                      clear hw2
                      by_cases hle2 : i' ≤ j'
                      · exfalso; omega
                      · go_wp2_with fail
                        go_big_quiet (first | (go_at_call 69; refine Calls.quiet_of_same (less _ _ _)))
                        have hj2 : Hid (j' = scanDown (fun x => !ltInt x dk[a]!) dk i' j) := (scanDown_end (fun x => !ltInt x dk[a]!) dk i' j' (Or.inl hle2)).symm.trans hsd.out
                        clear hcw hsd
                        have hw3 : wr.drewN nq = W1.drewN (n2 + nq) := by rw [HW2.out, World.drewN_drewN]
                        generalize wr.drewN nq = W3 at hw3 ⊢
                        have hc3 : ∀ t, t < d.size → W3.cell? ⟨blk, off + t, none⟩ = some (.int .u8 (Gk t)) := fun t ht => by rw [hw3]; exact hc t ht
                        have hf3 : ∀ t, t < d.size → W3.frozen? ⟨blk, off + t, none⟩ = false := fun t ht => by rw [hw3]; exact hf t ht
                        have S3 : Aside (SW E w0 blk off dk W3) := by rw [hw3]; exact S2.out.drewN _
                        clear hw3 HW2
                        obtain ⟨v3, hy3⟩ := cell?_setCell_some (w := W3) (p := ⟨blk, off + j', none⟩) (x := .int .u8 (Gk a)) (q := ⟨blk, off + a, none⟩) (hc3 a (by omega))
                        have hpe : PR = (j', dk) := AE.out.symm.trans (part_break ltInt a i j dk hi2.out hj2.out (by omega))
                        go_wp2
                        go_region
                        all_goals go_wp2
                        all_goals go_ret2
                        have e : partition ltInt d a b pivot = (j', false, swp dk j' a) := by rw [HP.out, hpe]
                        rw [e]
                        exact ⟨rfl, swapped1 S3.out R Gk AG.out j' a (by omega) (by omega)⟩
          · go_wp2_with fail
            go_big_quiet (first | (go_at_call 69; refine Calls.quiet_of_same (less _ _ _)))
            have hj2 : Hid (j' = scanDown (fun x => !ltInt x dk[a]!) dk i' j) := (scanDown_end (fun x => !ltInt x dk[a]!) dk i' j' (Or.inl hle2)).symm.trans hsd.out
            clear hcw hsd
            have hw3 : wr.drewN nq = W1.drewN (n2 + nq) := by rw [HW2.out, World.drewN_drewN]
            generalize wr.drewN nq = W3 at hw3 ⊢
            have hc3 : ∀ t, t < d.size → W3.cell? ⟨blk, off + t, none⟩ = some (.int .u8 (Gk t)) := fun t ht => by rw [hw3]; exact hc t ht
            have hf3 : ∀ t, t < d.size → W3.frozen? ⟨blk, off + t, none⟩ = false := fun t ht => by rw [hw3]; exact hf t ht
            have S3 : Aside (SW E w0 blk off dk W3) := by rw [hw3]; exact S2.out.drewN _
            clear hw3 HW2
            obtain ⟨v3, hy3⟩ := cell?_setCell_some (w := W3) (p := ⟨blk, off + j', none⟩) (x := .int .u8 (Gk a)) (q := ⟨blk, off + a, none⟩) (hc3 a (by omega))
            go_wp2
            go_region
            all_goals go_wp2
            all_goals go_ret2
            have e : partition ltInt d a b pivot = (j', true, swp dk j' a) := part_first_break ltInt d a b pivot HI.out HJ.out HDK.out hi2.out hj2.out (by omega)
            rw [e]
            exact ⟨rfl, swapped1 S3.out R Gk AG.out j' a (by omega) (by omega)⟩
    · go_wp2_with fail
      go_big_quiet (first | (go_at_call 69; refine Calls.quiet_of_same (less _ _ _)))
      go_wp2
      have hi2 : Hid (i' = scanUp (fun x => ltInt x dk[a]!) dk j i) := (scanUp_end (fun x => ltInt x dk[a]!) dk j i' (Or.inl hle)).symm.trans hsc.out
      have hw2 : wr.drewN nq = W1.drewN (n1 + nq) := by rw [HW1.out, World.drewN_drewN]
      clear hcw HW1 hsc
      go_loopg [11] j (fun g3 vj w2 => ∃ (j' n2 : Nat), vj = .int .i64 j' ∧ j' ≤ j ∧ j' ≤ g3 ∧ i' ≤ j' + 1 ∧ w2 = W1.drewN n2 ∧ Hid (scanDown (fun x => !ltInt x dk[a]!) dk i' j' = scanDown (fun x => !ltInt x dk[a]!) dk i' j))
      case atStart => exact ⟨j, n1 + nq, rfl, Nat.le_refl _, Nat.le_refl _, hij', hw2, rfl⟩
      case round =>
        clear hw2
        obtain ⟨j', n2, rfl, hjj, hg3, hij2, hw2, hsd⟩ := hrel
        have hcw : ∀ t, t < d.size → wr.cell? ⟨blk, off + t, none⟩ = some (.int .u8 (Gk t)) := fun t ht => by rw [hw2]; exact hc t ht
        have HW2 : Hid (wr = W1.drewN n2) := hw2
        clear hw2
        by_cases hle2 : i' ≤ j'
        · exfalso; omega
        · go_wp2_with fail
          go_big_quiet (first | (go_at_call 69; refine Calls.quiet_of_same (less _ _ _)))
          have hj2 : Hid (j' = scanDown (fun x => !ltInt x dk[a]!) dk i' j) := (scanDown_end (fun x => !ltInt x dk[a]!) dk i' j' (Or.inl hle2)).symm.trans hsd.out
          clear hcw hsd
          have hw3 : wr.drewN nq = W1.drewN (n2 + nq) := by rw [HW2.out, World.drewN_drewN]
          generalize wr.drewN nq = W3 at hw3 ⊢
          have hc3 : ∀ t, t < d.size → W3.cell? ⟨blk, off + t, none⟩ = some (.int .u8 (Gk t)) := fun t ht => by rw [hw3]; exact hc t ht
          have hf3 : ∀ t, t < d.size → W3.frozen? ⟨blk, off + t, none⟩ = false := fun t ht => by rw [hw3]; exact hf t ht
          have S3 : Aside (SW E w0 blk off dk W3) := by rw [hw3]; exact S2.out.drewN _
          clear hw3 HW2
          obtain ⟨v3, hy3⟩ := cell?_setCell_some (w := W3) (p := ⟨blk, off + j', none⟩) (x := .int .u8 (Gk a)) (q := ⟨blk, off + a, none⟩) (hc3 a (by omega))
          go_wp2
          go_region
          all_goals go_wp2
          all_goals go_ret2
          have e : partition ltInt d a b pivot = (j', true, swp dk j' a) := part_first_break ltInt d a b pivot HI.out HJ.out HDK.out hi2.out hj2.out (by omega)
          rw [e]
          exact ⟨rfl, swapped1 S3.out R Gk AG.out j' a (by omega) (by omega)⟩
end Go.Proofs.YtajeaefpapnkbaaGreatDoor.BS
/-
  The byte sort of the library, walked at this translation, fifth part: partialInsertionSort. At any row of bytes of which no cell is frozen. Printed by wip/tools/sort5.py.
-/
namespace Go.Proofs.YtajeaefpapnkbaaGreatDoor.BS
open Go.Shelf Go.RowKit Go.Lib Go.Sort
variable {w0 W : World} {blk off : Nat} {d0 d dk : Array Int}
set_option maxHeartbeats 16000000 in
set_option maxRecDepth 100000 in
theorem partIns (cap a b : Nat) (R : Row1 E w0 blk off d0) (hs : d.size = d0.size) (S : SW E w0 blk off d W) (hab : a < b) (hb : b ≤ d.size) (hsz : d.size < 4611686018427387904) :
    Calls Tryz.prog 68 #[.slice (some ⟨blk, off, none⟩) d.size cap, .int .i64 a, .int .i64 b] W fun e w' =>
      e = .returned (.bool (partialInsertionSort ltInt d a b).2) ∧ SW E w0 blk off (partialInsertionSort ltInt d a b).1 w' := by
  have S0 : Aside (SW E w0 blk off d W) := S
  have HS : Hid (d.size = d0.size) := hs
  clear S hs
  go_enter Tryz.func68, Tryz.ntmps68
  go_wp2
  go_loopg [7, 8] 5 (fun g vi vs wr => ∃ (i s : Nat) (dk : Array Int), vi = .int .i64 i ∧ vs = .int .i64 s ∧ s ≤ 5 ∧ 5 - s ≤ g ∧ a < i ∧ i ≤ b ∧ dk.size = d.size ∧ Aside (SW E w0 blk off dk wr) ∧
      Hid (partialIns ltInt a b (5 - s) i dk = partialIns ltInt a b 5 (a + 1) d))
  case atStart => exact ⟨a + 1, 0, d, by go_num, rfl, by omega, by omega, by omega, by omega, rfl, S0, rfl⟩
  case round =>
    clear S0
    obtain ⟨i, s, dk, rfl, rfl, hs5, hg, hai, hib, hsk, S1, HO⟩ := hrel
    by_cases hs : s < 5
    · have hsz5 : (s : Int) < 5 := by omega
      by_cases h50 : b - a < 50
      · have h50z : (b : Int) - (a : Int) < 50 := by omega
        go_wp2_with fail
        go_loopg [7] (b - i) (fun g2 vi wr2 => ∃ (k : Nat), vi = .int .i64 k ∧ i ≤ k ∧ k ≤ b ∧ b - k ≤ g2 ∧ Aside (SW E w0 blk off dk wr2) ∧ Hid (scanSorted ltInt dk b k = scanSorted ltInt dk b i))
        case atStart => exact ⟨i, rfl, Nat.le_refl _, hib, Nat.le_refl _, S1, rfl⟩
        case round =>
          clear S1
          obtain ⟨k, rfl, hik, hkb, hg2, S2, HSc⟩ := hrel
          obtain ⟨G, hG, hcw, hfw⟩ := fams S2.out R (by have := HS.out; omega)
          rw [hsk] at hcw hfw
          have AG : Hid (∀ t, G t = dk[t]!) := hG
          clear hG
          by_cases hkb' : k < b
          · have hkbz : (k : Int) < (b : Int) := by omega
            have hkne : ¬ ((k : Int) = (b : Int)) := by omega
            go_wp2_with fail
            go_big_quiet (first | (go_at_call 69; refine Calls.quiet_of_same (less _ _ _)))
            go_wp2_with fail
            · have hl : ltInt (G k) (G (k - 1)) = false := by
                have h : (!ltInt (G k) (G (k - 1))) = true := by assumption
                simpa using h
              rw [AG.out, AG.out] at hl
              go_roundg (b - (k + 1))
              case measure => omega
              case rel => exact ⟨k + 1, by go_num, by omega, by omega, by omega, S2.out.drewN nq, (show _ = _ from by rw [← HSc.out, scanSorted_go ltInt dk b k hkb' hl])⟩
            · have hl : ltInt (G k) (G (k - 1)) = true := by
                have h : (!ltInt (G k) (G (k - 1))) = false := by assumption
                simpa using h
              have HK : Hid (scanSorted ltInt dk b i = k) := by
                show scanSorted ltInt dk b i = k
                rw [← HSc.out, scanSorted_stop ltInt dk b k (Or.inr (by rw [← AG.out, ← AG.out]; exact hl))]
              have hv : partialInsertionSort ltInt d a b = (dk, false) := by
                unfold partialInsertionSort
                rw [← HO.out, pi_short ltInt a b s i dk hs (by rw [HK.out]; omega) h50]
              go_ret
              rw [hv]
              exact ⟨rfl, S2.out.drewN nq⟩
          · have hkbz : decide ((k : Int) < (b : Int)) = false := decide_eq_false (by omega)
            have hke : (k : Int) = (b : Int) := by omega
            have HK : Hid (scanSorted ltInt dk b i = b) := by
              show scanSorted ltInt dk b i = b
              rw [← HSc.out, scanSorted_stop ltInt dk b k (Or.inl hkb')]
              omega
            go_wp2_with fail
            go_big_quiet (first | (go_at_call 69; refine Calls.quiet_of_same (less _ _ _)))
            have hv : partialInsertionSort ltInt d a b = (dk, true) := by
              unfold partialInsertionSort
              rw [← HO.out, pi_true ltInt a b s i dk hs HK.out]
            go_wp2
            go_ret
            rw [hv]
            exact ⟨rfl, S2.out.drewN nq⟩
      · have h50z : ¬ ((b : Int) - (a : Int) < 50) := by omega
        go_wp2_with fail
        go_loopg [7] (b - i) (fun g2 vi wr2 => ∃ (k : Nat), vi = .int .i64 k ∧ i ≤ k ∧ k ≤ b ∧ b - k ≤ g2 ∧ Aside (SW E w0 blk off dk wr2) ∧ Hid (scanSorted ltInt dk b k = scanSorted ltInt dk b i))
        case atStart => exact ⟨i, rfl, Nat.le_refl _, hib, Nat.le_refl _, S1, rfl⟩
        case round =>
          clear S1
          obtain ⟨k, rfl, hik, hkb, hg2, S2, HSc⟩ := hrel
          obtain ⟨G, hG, hcw, hfw⟩ := fams S2.out R (by have := HS.out; omega)
          rw [hsk] at hcw hfw
          have AG : Hid (∀ t, G t = dk[t]!) := hG
          clear hG
          by_cases hkb' : k < b
          · have hkbz : (k : Int) < (b : Int) := by omega
            have hkne : ¬ ((k : Int) = (b : Int)) := by omega
            go_wp2_with fail
            go_big_quiet (first | (go_at_call 69; refine Calls.quiet_of_same (less _ _ _)))
            go_wp2_with fail
            · have hl : ltInt (G k) (G (k - 1)) = false := by
                have h : (!ltInt (G k) (G (k - 1))) = true := by assumption
                simpa using h
              rw [AG.out, AG.out] at hl
              go_roundg (b - (k + 1))
              case measure => omega
              case rel => exact ⟨k + 1, by go_num, by omega, by omega, by omega, S2.out.drewN nq, (show _ = _ from by rw [← HSc.out, scanSorted_go ltInt dk b k hkb' hl])⟩
            · have hl : ltInt (G k) (G (k - 1)) = true := by
                have h : (!ltInt (G k) (G (k - 1))) = false := by assumption
                simpa using h
              have HK : Hid (scanSorted ltInt dk b i = k) := by
                show scanSorted ltInt dk b i = k
                rw [← HSc.out, scanSorted_stop ltInt dk b k (Or.inr (by rw [← AG.out, ← AG.out]; exact hl))]
              have hs1 : (swp dk k (k - 1)).size = d.size := by rw [size_swp]; exact hsk
              have hcw3 : ∀ t, t < d.size → (wr.drewN nq).cell? ⟨blk, off + t, none⟩ = some (.int .u8 (G t)) := hcw
              have hfw3 : ∀ t, t < d.size → (wr.drewN nq).frozen? ⟨blk, off + t, none⟩ = false := hfw
              have S3 : Aside (SW E w0 blk off dk (wr.drewN nq)) := S2.out.drewN nq
              clear hcw hfw S2
              generalize wr.drewN nq = wx at hcw3 hfw3 S3 ⊢
              have S5 : Aside (SW E w0 blk off (swp dk k (k - 1)) ((wx.setCell ⟨blk, off + k, none⟩ (.int .u8 (G (k - 1)))).setCell ⟨blk, off + (k - 1), none⟩ (.int .u8 (G k))).drew) := swapped1 S3.out R G AG.out k (k - 1) (by omega) (by omega)
              go_region
              clear hcw3 hfw3 S3 AG
              generalize ((wx.setCell ⟨blk, off + k, none⟩ (.int .u8 (G (k - 1)))).setCell ⟨blk, off + (k - 1), none⟩ (.int .u8 (G k))).drew = wv at S5 ⊢
              by_cases hka : k - a ≥ 2
              · have hkaz : (k : Int) - (a : Int) ≥ 2 := by omega
                by_cases hub : b - k ≥ 2
                · have hubz : (b : Int) - (k : Int) ≥ 2 := by omega
                  go_wp2_with fail
                  go_loopg [9] k (fun g3 vj wr2 => ∃ (j : Nat) (dj : Array Int), vj = .int .i64 j ∧ j ≤ k - 1 ∧ j ≤ g3 ∧ dj.size = d.size ∧ Aside (SW E w0 blk off dj wr2) ∧ Hid (shiftDown ltInt j dj = shiftDown ltInt (k - 1) (swp dk k (k - 1))))
                  case atStart => exact ⟨k - 1, _, by congr 1; omega, Nat.le_refl _, by omega, hs1, S5, rfl⟩
                  case round =>
                    clear S5
                    obtain ⟨j, dj, rfl, hjk, hg3, hsj, SJ, HDn⟩ := hrel
                    obtain ⟨G, hG, hcw, hfw⟩ := fams SJ.out R (by have := HS.out; omega)
                    rw [hsj] at hcw hfw
                    have AG : Hid (∀ t, G t = dj[t]!) := hG
                    clear hG
                    by_cases hj1 : 1 ≤ j
                    · have hj1z : (j : Int) ≥ 1 := by omega
                      go_wp2_with fail
                      go_big_quiet (first | (go_at_call 69; refine Calls.quiet_of_same (less _ _ _)))
                      go_wp2_with fail
                      · have hl : ltInt (G j) (G (j - 1)) = false := by
                          have h : (!ltInt (G j) (G (j - 1))) = true := by assumption
                          simpa using h
                        rw [AG.out, AG.out] at hl
                        have S4 : Aside (SW E w0 blk off dj (wr.drewN nq)) := SJ.out.drewN nq
                        clear hcw hfw AG SJ
                        generalize wr.drewN nq = wy at S4 ⊢
                        have HD : Hid (fixDown ltInt a k (swp dk k (k - 1)) = dj) := by
                          show _ = _
                          unfold fixDown; rw [if_pos hka, ← HDn.out, shiftDown_stop ltInt j dj (Or.inr hl)]
                        go_loopg [10] b (fun g4 vj wr2 => ∃ (j2 : Nat) (du : Array Int), vj = .int .i64 j2 ∧ k + 1 ≤ j2 ∧ j2 ≤ b ∧ b - j2 ≤ g4 ∧ du.size = d.size ∧ Aside (SW E w0 blk off du wr2) ∧ Hid (shiftUp ltInt b j2 du = shiftUp ltInt b (k + 1) (dj)))
                        case atStart => exact ⟨k + 1, _, by go_num, Nat.le_refl _, by omega, by omega, hsj, S4, rfl⟩
                        case round =>
                          obtain ⟨j2, du, rfl, hkj, hjb, hg4, hsu, S6, HU⟩ := hrel
                          obtain ⟨G, hG, hcw, hfw⟩ := fams S6.out R (by have := HS.out; omega)
                          rw [hsu] at hcw hfw
                          have AG : Hid (∀ t, G t = du[t]!) := hG
                          clear hG
                          by_cases hj2 : j2 < b
                          · have hj2z : (j2 : Int) < (b : Int) := by omega
                            go_wp2_with fail
                            go_big_quiet (first | (go_at_call 69; refine Calls.quiet_of_same (less _ _ _)))
                            go_wp2_with fail
                            · have hl : ltInt (G j2) (G (j2 - 1)) = false := by
                                have h : (!ltInt (G j2) (G (j2 - 1))) = true := by assumption
                                simpa using h
                              rw [AG.out, AG.out] at hl
                              have S7 : Aside (SW E w0 blk off du (wr.drewN nq)) := S6.out.drewN nq
                              go_roundg (5 - (s + 1))
                              case measure => omega
                              case rel =>
                                refine ⟨k, s + 1, du, rfl, by go_num, by omega, by omega, by omega, by omega, hsu, S7, ?_⟩
                                show _ = _
                                rw [← HO.out, pi_go ltInt a b s i k dk hs HK.out (by omega) (by omega), HD.out, show fixUp ltInt b k dj = du from by unfold fixUp; rw [if_pos (by omega), ← HU.out, shiftUp_stop ltInt b j2 du (Or.inr hl)]]
                            · have hl : ltInt (G j2) (G (j2 - 1)) = true := by
                                have h : (!ltInt (G j2) (G (j2 - 1))) = false := by assumption
                                simpa using h
                              have hcw3 : ∀ t, t < d.size → (wr.drewN nq).cell? ⟨blk, off + t, none⟩ = some (.int .u8 (G t)) := hcw
                              have hfw3 : ∀ t, t < d.size → (wr.drewN nq).frozen? ⟨blk, off + t, none⟩ = false := hfw
                              have S7 : Aside (SW E w0 blk off du (wr.drewN nq)) := S6.out.drewN nq
                              clear hcw hfw S6
                              generalize wr.drewN nq = wz at hcw3 hfw3 S7 ⊢
                              go_region
                              all_goals go_wp2
                              go_roundg (b - (j2 + 1))
                              case measure => omega
                              case rel =>
                                refine ⟨j2 + 1, swp du j2 (j2 - 1), by go_num, by omega, by omega, by omega, by rw [size_swp]; exact hsu, ?_, ?_⟩
                                · exact swapped1 S7.out R G AG.out j2 (j2 - 1) (by omega) (by omega)
                                · show _ = _
                                  rw [AG.out, AG.out] at hl
                                  rw [← HU.out, shiftUp_go ltInt b j2 du (by omega) hl]
                          · have hj2z : ¬ ((j2 : Int) < (b : Int)) := by omega
                            go_wp2_with fail
                            go_roundg (5 - (s + 1))
                            case measure => omega
                            case rel =>
                              refine ⟨k, s + 1, du, rfl, by go_num, by omega, by omega, by omega, by omega, hsu, S6, ?_⟩
                              show _ = _
                              rw [← HO.out, pi_go ltInt a b s i k dk hs HK.out (by omega) (by omega), HD.out, show fixUp ltInt b k dj = du from by unfold fixUp; rw [if_pos (by omega), ← HU.out, shiftUp_stop ltInt b j2 du (Or.inl hj2)]]
                      · have hl : ltInt (G j) (G (j - 1)) = true := by
                          have h : (!ltInt (G j) (G (j - 1))) = false := by assumption
                          simpa using h
                        have hcw3 : ∀ t, t < d.size → (wr.drewN nq).cell? ⟨blk, off + t, none⟩ = some (.int .u8 (G t)) := hcw
                        have hfw3 : ∀ t, t < d.size → (wr.drewN nq).frozen? ⟨blk, off + t, none⟩ = false := hfw
                        have S4 : Aside (SW E w0 blk off dj (wr.drewN nq)) := SJ.out.drewN nq
                        clear hcw hfw SJ
                        generalize wr.drewN nq = wz at hcw3 hfw3 S4 ⊢
                        go_region
                        all_goals go_wp2
                        go_roundg (j - 1)
                        case measure => omega
                        case rel =>
                          refine ⟨j - 1, swp dj j (j - 1), by congr 1; omega, by omega, by omega, by rw [size_swp]; exact hsj, ?_, ?_⟩
                          · exact swapped1 S4.out R G AG.out j (j - 1) (by omega) (by omega)
                          · show _ = _
                            rw [AG.out, AG.out] at hl
                            rw [← HDn.out, shiftDown_go ltInt j dj hj1 hl]
                    · have hj1z : ¬ ((j : Int) ≥ 1) := by omega
                      clear hcw hfw AG
                      go_wp2_with fail
                      have HD : Hid (fixDown ltInt a k (swp dk k (k - 1)) = dj) := by
                        show _ = _
                        unfold fixDown; rw [if_pos hka, ← HDn.out, shiftDown_stop ltInt j dj (Or.inl (by omega))]
                      go_loopg [10] b (fun g4 vj wr2 => ∃ (j2 : Nat) (du : Array Int), vj = .int .i64 j2 ∧ k + 1 ≤ j2 ∧ j2 ≤ b ∧ b - j2 ≤ g4 ∧ du.size = d.size ∧ Aside (SW E w0 blk off du wr2) ∧ Hid (shiftUp ltInt b j2 du = shiftUp ltInt b (k + 1) (dj)))
                      case atStart => exact ⟨k + 1, _, by go_num, Nat.le_refl _, by omega, by omega, hsj, SJ, rfl⟩
                      case round =>
                        obtain ⟨j2, du, rfl, hkj, hjb, hg4, hsu, S6, HU⟩ := hrel
                        obtain ⟨G, hG, hcw, hfw⟩ := fams S6.out R (by have := HS.out; omega)
                        rw [hsu] at hcw hfw
                        have AG : Hid (∀ t, G t = du[t]!) := hG
                        clear hG
                        by_cases hj2 : j2 < b
                        · have hj2z : (j2 : Int) < (b : Int) := by omega
                          go_wp2_with fail
                          go_big_quiet (first | (go_at_call 69; refine Calls.quiet_of_same (less _ _ _)))
                          go_wp2_with fail
                          · have hl : ltInt (G j2) (G (j2 - 1)) = false := by
                              have h : (!ltInt (G j2) (G (j2 - 1))) = true := by assumption
                              simpa using h
                            rw [AG.out, AG.out] at hl
                            have S7 : Aside (SW E w0 blk off du (wr.drewN nq)) := S6.out.drewN nq
                            go_roundg (5 - (s + 1))
                            case measure => omega
                            case rel =>
                              refine ⟨k, s + 1, du, rfl, by go_num, by omega, by omega, by omega, by omega, hsu, S7, ?_⟩
                              show _ = _
                              rw [← HO.out, pi_go ltInt a b s i k dk hs HK.out (by omega) (by omega), HD.out, show fixUp ltInt b k dj = du from by unfold fixUp; rw [if_pos (by omega), ← HU.out, shiftUp_stop ltInt b j2 du (Or.inr hl)]]
                          · have hl : ltInt (G j2) (G (j2 - 1)) = true := by
                              have h : (!ltInt (G j2) (G (j2 - 1))) = false := by assumption
                              simpa using h
                            have hcw3 : ∀ t, t < d.size → (wr.drewN nq).cell? ⟨blk, off + t, none⟩ = some (.int .u8 (G t)) := hcw
                            have hfw3 : ∀ t, t < d.size → (wr.drewN nq).frozen? ⟨blk, off + t, none⟩ = false := hfw
                            have S7 : Aside (SW E w0 blk off du (wr.drewN nq)) := S6.out.drewN nq
                            clear hcw hfw S6
                            generalize wr.drewN nq = wz at hcw3 hfw3 S7 ⊢
                            go_region
                            all_goals go_wp2
                            go_roundg (b - (j2 + 1))
                            case measure => omega
                            case rel =>
                              refine ⟨j2 + 1, swp du j2 (j2 - 1), by go_num, by omega, by omega, by omega, by rw [size_swp]; exact hsu, ?_, ?_⟩
                              · exact swapped1 S7.out R G AG.out j2 (j2 - 1) (by omega) (by omega)
                              · show _ = _
                                rw [AG.out, AG.out] at hl
                                rw [← HU.out, shiftUp_go ltInt b j2 du (by omega) hl]
                        · have hj2z : ¬ ((j2 : Int) < (b : Int)) := by omega
                          go_wp2_with fail
                          go_roundg (5 - (s + 1))
                          case measure => omega
                          case rel =>
                            refine ⟨k, s + 1, du, rfl, by go_num, by omega, by omega, by omega, by omega, hsu, S6, ?_⟩
                            show _ = _
                            rw [← HO.out, pi_go ltInt a b s i k dk hs HK.out (by omega) (by omega), HD.out, show fixUp ltInt b k dj = du from by unfold fixUp; rw [if_pos (by omega), ← HU.out, shiftUp_stop ltInt b j2 du (Or.inl hj2)]]
                · have hubz : ¬ ((b : Int) - (k : Int) ≥ 2) := by omega
                  go_wp2_with fail
                  go_loopg [9] k (fun g3 vj wr2 => ∃ (j : Nat) (dj : Array Int), vj = .int .i64 j ∧ j ≤ k - 1 ∧ j ≤ g3 ∧ dj.size = d.size ∧ Aside (SW E w0 blk off dj wr2) ∧ Hid (shiftDown ltInt j dj = shiftDown ltInt (k - 1) (swp dk k (k - 1))))
                  case atStart => exact ⟨k - 1, _, by congr 1; omega, Nat.le_refl _, by omega, hs1, S5, rfl⟩
                  case round =>
                    clear S5
                    obtain ⟨j, dj, rfl, hjk, hg3, hsj, SJ, HDn⟩ := hrel
                    obtain ⟨G, hG, hcw, hfw⟩ := fams SJ.out R (by have := HS.out; omega)
                    rw [hsj] at hcw hfw
                    have AG : Hid (∀ t, G t = dj[t]!) := hG
                    clear hG
                    by_cases hj1 : 1 ≤ j
                    · have hj1z : (j : Int) ≥ 1 := by omega
                      go_wp2_with fail
                      go_big_quiet (first | (go_at_call 69; refine Calls.quiet_of_same (less _ _ _)))
                      go_wp2_with fail
                      · have hl : ltInt (G j) (G (j - 1)) = false := by
                          have h : (!ltInt (G j) (G (j - 1))) = true := by assumption
                          simpa using h
                        rw [AG.out, AG.out] at hl
                        have S4 : Aside (SW E w0 blk off dj (wr.drewN nq)) := SJ.out.drewN nq
                        clear hcw hfw AG SJ
                        generalize wr.drewN nq = wy at S4 ⊢
                        have HD : Hid (fixDown ltInt a k (swp dk k (k - 1)) = dj) := by
                          show _ = _
                          unfold fixDown; rw [if_pos hka, ← HDn.out, shiftDown_stop ltInt j dj (Or.inr hl)]
                        go_roundg (5 - (s + 1))
                        case measure => omega
                        case rel =>
                          refine ⟨k, s + 1, dj, rfl, by go_num, by omega, by omega, by omega, by omega, hsj, S4, ?_⟩
                          show _ = _
                          rw [← HO.out, pi_go ltInt a b s i k dk hs HK.out (by omega) (by omega), HD.out, show fixUp ltInt b k dj = dj from by unfold fixUp; rw [if_neg (by omega)]]
                      · have hl : ltInt (G j) (G (j - 1)) = true := by
                          have h : (!ltInt (G j) (G (j - 1))) = false := by assumption
                          simpa using h
                        have hcw3 : ∀ t, t < d.size → (wr.drewN nq).cell? ⟨blk, off + t, none⟩ = some (.int .u8 (G t)) := hcw
                        have hfw3 : ∀ t, t < d.size → (wr.drewN nq).frozen? ⟨blk, off + t, none⟩ = false := hfw
                        have S4 : Aside (SW E w0 blk off dj (wr.drewN nq)) := SJ.out.drewN nq
                        clear hcw hfw SJ
                        generalize wr.drewN nq = wz at hcw3 hfw3 S4 ⊢
                        go_region
                        all_goals go_wp2
                        go_roundg (j - 1)
                        case measure => omega
                        case rel =>
                          refine ⟨j - 1, swp dj j (j - 1), by congr 1; omega, by omega, by omega, by rw [size_swp]; exact hsj, ?_, ?_⟩
                          · exact swapped1 S4.out R G AG.out j (j - 1) (by omega) (by omega)
                          · show _ = _
                            rw [AG.out, AG.out] at hl
                            rw [← HDn.out, shiftDown_go ltInt j dj hj1 hl]
                    · have hj1z : ¬ ((j : Int) ≥ 1) := by omega
                      clear hcw hfw AG
                      go_wp2_with fail
                      have HD : Hid (fixDown ltInt a k (swp dk k (k - 1)) = dj) := by
                        show _ = _
                        unfold fixDown; rw [if_pos hka, ← HDn.out, shiftDown_stop ltInt j dj (Or.inl (by omega))]
                      go_roundg (5 - (s + 1))
                      case measure => omega
                      case rel =>
                        refine ⟨k, s + 1, dj, rfl, by go_num, by omega, by omega, by omega, by omega, hsj, SJ, ?_⟩
                        show _ = _
                        rw [← HO.out, pi_go ltInt a b s i k dk hs HK.out (by omega) (by omega), HD.out, show fixUp ltInt b k dj = dj from by unfold fixUp; rw [if_neg (by omega)]]
              · have hkaz : ¬ ((k : Int) - (a : Int) ≥ 2) := by omega
                by_cases hub : b - k ≥ 2
                · have hubz : (b : Int) - (k : Int) ≥ 2 := by omega
                  go_wp2_with fail
                  go_loopg [10] b (fun g4 vj wr2 => ∃ (j2 : Nat) (du : Array Int), vj = .int .i64 j2 ∧ k + 1 ≤ j2 ∧ j2 ≤ b ∧ b - j2 ≤ g4 ∧ du.size = d.size ∧ Aside (SW E w0 blk off du wr2) ∧ Hid (shiftUp ltInt b j2 du = shiftUp ltInt b (k + 1) ((swp dk k (k - 1)))))
                  case atStart => exact ⟨k + 1, _, by go_num, Nat.le_refl _, by omega, by omega, hs1, S5, rfl⟩
                  case round =>
                    obtain ⟨j2, du, rfl, hkj, hjb, hg4, hsu, S6, HU⟩ := hrel
                    obtain ⟨G, hG, hcw, hfw⟩ := fams S6.out R (by have := HS.out; omega)
                    rw [hsu] at hcw hfw
                    have AG : Hid (∀ t, G t = du[t]!) := hG
                    clear hG
                    by_cases hj2 : j2 < b
                    · have hj2z : (j2 : Int) < (b : Int) := by omega
                      go_wp2_with fail
                      go_big_quiet (first | (go_at_call 69; refine Calls.quiet_of_same (less _ _ _)))
                      go_wp2_with fail
                      · have hl : ltInt (G j2) (G (j2 - 1)) = false := by
                          have h : (!ltInt (G j2) (G (j2 - 1))) = true := by assumption
                          simpa using h
                        rw [AG.out, AG.out] at hl
                        have S7 : Aside (SW E w0 blk off du (wr.drewN nq)) := S6.out.drewN nq
                        go_roundg (5 - (s + 1))
                        case measure => omega
                        case rel =>
                          refine ⟨k, s + 1, du, rfl, by go_num, by omega, by omega, by omega, by omega, hsu, S7, ?_⟩
                          show _ = _
                          rw [← HO.out, pi_go ltInt a b s i k dk hs HK.out (by omega) (by omega), show fixDown ltInt a k (swp dk k (k - 1)) = swp dk k (k - 1) from by unfold fixDown; rw [if_neg (by omega)], show fixUp ltInt b k (swp dk k (k - 1)) = du from by unfold fixUp; rw [if_pos (by omega), ← HU.out, shiftUp_stop ltInt b j2 du (Or.inr hl)]]
                      · have hl : ltInt (G j2) (G (j2 - 1)) = true := by
                          have h : (!ltInt (G j2) (G (j2 - 1))) = false := by assumption
                          simpa using h
                        have hcw3 : ∀ t, t < d.size → (wr.drewN nq).cell? ⟨blk, off + t, none⟩ = some (.int .u8 (G t)) := hcw
                        have hfw3 : ∀ t, t < d.size → (wr.drewN nq).frozen? ⟨blk, off + t, none⟩ = false := hfw
                        have S7 : Aside (SW E w0 blk off du (wr.drewN nq)) := S6.out.drewN nq
                        clear hcw hfw S6
                        generalize wr.drewN nq = wz at hcw3 hfw3 S7 ⊢
                        go_region
                        all_goals go_wp2
                        go_roundg (b - (j2 + 1))
                        case measure => omega
                        case rel =>
                          refine ⟨j2 + 1, swp du j2 (j2 - 1), by go_num, by omega, by omega, by omega, by rw [size_swp]; exact hsu, ?_, ?_⟩
                          · exact swapped1 S7.out R G AG.out j2 (j2 - 1) (by omega) (by omega)
                          · show _ = _
                            rw [AG.out, AG.out] at hl
                            rw [← HU.out, shiftUp_go ltInt b j2 du (by omega) hl]
                    · have hj2z : ¬ ((j2 : Int) < (b : Int)) := by omega
                      go_wp2_with fail
                      go_roundg (5 - (s + 1))
                      case measure => omega
                      case rel =>
                        refine ⟨k, s + 1, du, rfl, by go_num, by omega, by omega, by omega, by omega, hsu, S6, ?_⟩
                        show _ = _
                        rw [← HO.out, pi_go ltInt a b s i k dk hs HK.out (by omega) (by omega), show fixDown ltInt a k (swp dk k (k - 1)) = swp dk k (k - 1) from by unfold fixDown; rw [if_neg (by omega)], show fixUp ltInt b k (swp dk k (k - 1)) = du from by unfold fixUp; rw [if_pos (by omega), ← HU.out, shiftUp_stop ltInt b j2 du (Or.inl hj2)]]
                · have hubz : ¬ ((b : Int) - (k : Int) ≥ 2) := by omega
                  go_wp2_with fail
                  go_roundg (5 - (s + 1))
                  case measure => omega
                  case rel =>
                    refine ⟨k, s + 1, (swp dk k (k - 1)), rfl, by go_num, by omega, by omega, by omega, by omega, hs1, S5, ?_⟩
                    show _ = _
                    rw [← HO.out, pi_go ltInt a b s i k dk hs HK.out (by omega) (by omega), show fixDown ltInt a k (swp dk k (k - 1)) = swp dk k (k - 1) from by unfold fixDown; rw [if_neg (by omega)], show fixUp ltInt b k (swp dk k (k - 1)) = (swp dk k (k - 1)) from by unfold fixUp; rw [if_neg (by omega)]]
          · have hkbz : decide ((k : Int) < (b : Int)) = false := decide_eq_false (by omega)
            have hke : (k : Int) = (b : Int) := by omega
            have HK : Hid (scanSorted ltInt dk b i = b) := by
              show scanSorted ltInt dk b i = b
              rw [← HSc.out, scanSorted_stop ltInt dk b k (Or.inl hkb')]
              omega
            go_wp2_with fail
            go_big_quiet (first | (go_at_call 69; refine Calls.quiet_of_same (less _ _ _)))
            have hv : partialInsertionSort ltInt d a b = (dk, true) := by
              unfold partialInsertionSort
              rw [← HO.out, pi_true ltInt a b s i dk hs HK.out]
            go_wp2
            go_ret
            rw [hv]
            exact ⟨rfl, S2.out.drewN nq⟩
    · have hsz5 : ¬ ((s : Int) < 5) := by omega
      obtain rfl : s = 5 := by omega
      have hv : partialInsertionSort ltInt d a b = (dk, false) := by
        unfold partialInsertionSort
        rw [← HO.out, pi_end]
      go_wp2
      go_ret
      try rw [hv]
      exact ⟨rfl, S1.out⟩
end Go.Proofs.YtajeaefpapnkbaaGreatDoor.BS
/-
  The byte sort of the library, walked at this translation, sixth part: order2, median, medianAdjacent, choosePivot. At any row of bytes of which no cell is frozen; the counter is a cell of the call's own.
-/
namespace Go.Proofs.YtajeaefpapnkbaaGreatDoor.BS
open Go.Shelf Go.RowKit Go.Lib Go.Sort
variable {w0 W : World} {blk off : Nat} {d0 d dk : Array Int}
set_option maxHeartbeats 4000000 in
set_option maxRecDepth 100000 in
theorem ord2 (cap a b c s : Nat) (R : Row1 E w0 blk off d0) (hs : d.size = d0.size) (C : Cnt1 E w0 blk off d c s W) (ha : a < d.size) (hb : b < d.size) (_hsz : d.size < 4611686018427387904) (_hss : s < 4611686018427387904) :
    Calls Tryz.prog 98 #[.slice (some ⟨blk, off, none⟩) d.size cap, .int .i64 a, .int .i64 b, .pointer (some ⟨c, 0, none⟩)] W fun e w' =>
      e = .returned (.tuple #[.int .i64 (order2 ltInt d a b s).1, .int .i64 (order2 ltInt d a b s).2.1]) ∧ Cnt1 E w0 blk off d c (order2 ltInt d a b s).2.2 w' := by
  obtain ⟨G, hG, hcw, hfw⟩ := fams C.1 R hs
  have C1 : Aside (Cnt1 E w0 blk off d c s W) := C
  have AG : Hid (∀ t, G t = d[t]!) := hG
  have HS : Hid (d.size = d0.size) := hs
  clear C hG hs
  go_enter Tryz.func98, Tryz.ntmps98
  go_wp2_with fail
  go_big_quiet (first | (go_at_call 69; refine Calls.quiet_of_same (less _ _ _)))
  have C2 : Aside (Cnt1 E w0 blk off d c s (W.drewN nq)) := by
    have := C1.out.grown nq #[]
    rw [grow_empty] at this
    exact this
  clear hcw hfw C1
  generalize W.drewN nq = w2 at C2 ⊢
  obtain ⟨_, cc, cfz, _, _⟩ := C2.out
  go_wp2
  · have hl : ltInt (G b) (G a) = true := by assumption
    go_ret2
    rw [AG.out, AG.out] at hl
    have e2 : order2 ltInt d a b s = (b, a, s + 1) := by simp [order2, hl]
    rw [e2]
    exact ⟨rfl, by have := C2.out.bump (s + 1); simpa using this⟩
  · have hl : ltInt (G b) (G a) = false := by assumption
    go_ret2
    rw [AG.out, AG.out] at hl
    have e2 : order2 ltInt d a b s = (a, b, s) := by simp [order2, hl]
    rw [e2]
    exact ⟨rfl, C2.out⟩
set_option maxHeartbeats 2000000 in
set_option maxRecDepth 100000 in
theorem med (cap a b c' c s : Nat) (R : Row1 E w0 blk off d0) (hs : d.size = d0.size) (C : Cnt1 E w0 blk off d c s W) (ha : a < d.size) (hb : b < d.size) (hc : c' < d.size) (hsz : d.size < 4611686018427387904) (hss : s + 3 < 4611686018427387904) :
    Calls Tryz.prog 91 #[.slice (some ⟨blk, off, none⟩) d.size cap, .int .i64 a, .int .i64 b, .int .i64 c', .pointer (some ⟨c, 0, none⟩)] W fun e w' =>
      e = .returned (.int .i64 (median ltInt d a b c' s).1) ∧ Cnt1 E w0 blk off d c (median ltInt d a b c' s).2 w' := by
  have l1 := order2_lt' ltInt d s ha hb
  have s1 := order2_swaps' ltInt d a b s
  obtain ⟨x1, y1, t1, e1⟩ : ∃ x y t, order2 ltInt d a b s = (x, y, t) := ⟨_, _, _, rfl⟩
  rw [e1] at l1 s1
  simp only [] at l1 s1
  have l2 := order2_lt' ltInt d t1 l1.2 hc
  have s2 := order2_swaps' ltInt d y1 c' t1
  obtain ⟨x2, y2, t2, e2⟩ : ∃ x y t, order2 ltInt d y1 c' t1 = (x, y, t) := ⟨_, _, _, rfl⟩
  rw [e2] at l2 s2
  simp only [] at l2 s2
  obtain ⟨x3, y3, t3, e3⟩ : ∃ x y t, order2 ltInt d x1 x2 t2 = (x, y, t) := ⟨_, _, _, rfl⟩
  have hm : median ltInt d a b c' s = (y3, t3) := by simp only [median, e1, e2, e3]
  rw [hm]
  have c1 := ord2 cap a b c s R hs C ha hb hsz (by omega)
  rw [e1] at c1
  have c2 : ∀ W' : World, Cnt1 E w0 blk off d c t1 W' → _ := fun W' C' => ord2 cap y1 c' c t1 R hs C' l1.2 hc hsz (by omega)
  rw [e2] at c2
  have c3 : ∀ W' : World, Cnt1 E w0 blk off d c t2 W' → _ := fun W' C' => ord2 cap x1 x2 c t2 R hs C' l1.1 l2.1 hsz (by omega)
  rw [e3] at c3
  simp only [] at c1 c2 c3
  have HS : Hid (d.size = d0.size) := hs
  clear hs e1 e2 e3 hm l1 l2 s1 s2 C
  go_enter Tryz.func91, Tryz.ntmps91
  go_wp2_with (go_at_call_of 98 (Value.int .i64 (b : Int)); refine c1.mono ?_; rintro e w1 ⟨rfl, C1⟩)
  go_wp2_with (go_at_call_of 98 (Value.int .i64 (c' : Int)); refine (c2 _ C1).mono ?_; rintro e w2 ⟨rfl, C2⟩)
  go_wp2_with (go_at_call_of 98 (Value.int .i64 (x1 : Int)); refine (c3 _ C2).mono ?_; rintro e w3 ⟨rfl, C3⟩)
  go_ret
  exact ⟨rfl, C3⟩
set_option maxHeartbeats 2000000 in
set_option maxRecDepth 100000 in
theorem medAdj (cap a c s : Nat) (R : Row1 E w0 blk off d0) (hs : d.size = d0.size) (C : Cnt1 E w0 blk off d c s W) (ha1 : 1 ≤ a) (ha2 : a + 1 < d.size) (hsz : d.size < 4611686018427387904) (hss : s + 3 < 4611686018427387904) :
    Calls Tryz.prog 90 #[.slice (some ⟨blk, off, none⟩) d.size cap, .int .i64 a, .pointer (some ⟨c, 0, none⟩)] W fun e w' =>
      e = .returned (.int .i64 (medianAdjacent ltInt d a s).1) ∧ Cnt1 E w0 blk off d c (medianAdjacent ltInt d a s).2 w' := by
  have hm := med cap (a - 1) a (a + 1) c s R hs C (by omega) (by omega) ha2 hsz hss
  rw [show ((a - 1 : Nat) : Int) = (a : Int) - 1 by omega, show ((a + 1 : Nat) : Int) = (a : Int) + 1 by omega] at hm
  have HS : Hid (d.size = d0.size) := hs
  clear hs
  go_enter Tryz.func90, Tryz.ntmps90
  go_wp2_with (go_at_call 91; refine hm.mono ?_; rintro e w1 ⟨rfl, C1⟩)
  go_ret
  exact ⟨rfl, C1⟩
end Go.Proofs.YtajeaefpapnkbaaGreatDoor.BS
/-
  The byte sort of the library, walked at this translation, seventh part: choosePivot. At any row of bytes of which no cell is frozen; the counter is a cell of the call's own. After the kit's own walk of the sort by a function (SlSortCmp), turned to bytes. Printed by wip/tools/sort7.py.
-/
namespace Go.Proofs.YtajeaefpapnkbaaGreatDoor.BS
open Go.Shelf Go.RowKit Go.Lib Go.Sort
variable {w0 W : World} {blk off : Nat} {d0 d dk : Array Int}
set_option maxHeartbeats 4000000 in
set_option maxRecDepth 100000 in
theorem choose (cap a b : Nat) (R : Row1 E w0 blk off d0) (hs : d.size = d0.size) (S : SW E w0 blk off d W) (hab : a < b) (hb : b ≤ d.size) (hsz : d.size < 4611686018427387904) :
    Calls Tryz.prog 66 #[.slice (some ⟨blk, off, none⟩) d.size cap, .int .i64 a, .int .i64 b] W fun e w' =>
      e = .returned (.tuple #[.int .i64 (choosePivot ltInt d a b).1, .int .i64 (hintCode (choosePivot ltInt d a b).2)]) ∧ SW E w0 blk off d w' := by
  have MA := fun (W' : World) (x s : Nat) (C' : Cnt1 E w0 blk off d W.heap.size s W') (h1 : 1 ≤ x) (h2 : x + 1 < d.size) (h3 : s + 3 < 4611686018427387904) =>
    medAdj (W := W') cap x W.heap.size s R hs C' h1 h2 hsz h3
  have MD := fun (W' : World) (x y z s : Nat) (C' : Cnt1 E w0 blk off d W.heap.size s W') (hx : x < d.size) (hy : y < d.size) (hz : z < d.size) (h3 : s + 3 < 4611686018427387904) =>
    med (W := W') cap x y z W.heap.size s R hs C' hx hy hz hsz h3
  have C0 : Cnt1 E w0 blk off d W.heap.size 0 (W.alloc (.cells #[.int .i64 0] 3)) := Cnt1.start S 3
  have HS : Hid (d.size = d0.size) := hs
  clear S hs
  rw [choosePivot_eq]
  obtain ⟨I, hI⟩ : ∃ I : Nat, I = a + (b - a) / 4 * 1 := ⟨_, rfl⟩
  obtain ⟨J, hJ⟩ : ∃ J : Nat, J = a + (b - a) / 4 * 2 := ⟨_, rfl⟩
  obtain ⟨K, hK⟩ : ∃ K : Nat, K = a + (b - a) / 4 * 3 := ⟨_, rfl⟩
  have eI : ((a : Int) + ((b : Int) - (a : Int)) / 4) = (I : Int) := by omega
  have eJ : ((a : Int) + ((b : Int) - (a : Int)) / 4 * 2) = (J : Int) := by omega
  have eK : ((a : Int) + ((b : Int) - (a : Int)) / 4 * 3) = (K : Int) := by omega
  by_cases h8 : b - a ≥ 8
  · by_cases h50 : b - a ≥ 50
    · -- the ninther
      obtain ⟨i1, s1, h1⟩ : ∃ i1 s1, medianAdjacent ltInt d I 0 = (i1, s1) := ⟨_, _, rfl⟩
      obtain ⟨j1, s2, h2⟩ : ∃ j1 s2, medianAdjacent ltInt d J s1 = (j1, s2) := ⟨_, _, rfl⟩
      obtain ⟨k1, s3, h3⟩ : ∃ k1 s3, medianAdjacent ltInt d K s2 = (k1, s3) := ⟨_, _, rfl⟩
      obtain ⟨p, s, h4⟩ : ∃ p s, median ltInt d i1 j1 k1 s3 = (p, s) := ⟨_, _, rfl⟩
      have hraw : rawPivot ltInt d a b = (p, s) := by simp only [rawPivot, if_pos h8, if_pos h50, ← hI, ← hJ, ← hK, h1, h2, h3, h4]
      have m1 := medianAdjacent_mem ltInt d I 0; rw [h1] at m1
      have m2 := medianAdjacent_mem ltInt d J s1; rw [h2] at m2
      have m3 := medianAdjacent_mem ltInt d K s2; rw [h3] at m3
      have n1 := medianAdjacent_count ltInt d I 0; rw [h1] at n1
      have n2 := medianAdjacent_count ltInt d J s1; rw [h2] at n2
      have n3 := medianAdjacent_count ltInt d K s2; rw [h3] at n3
      simp only [] at m1 m2 m3 n1 n2 n3
      have c1 := MA _ I 0 C0 (by omega) (by omega) (by omega)
      rw [h1] at c1
      have c2 : ∀ W', Cnt1 E w0 blk off d W.heap.size s1 W' → _ := fun W' C' => MA W' J s1 C' (by omega) (by omega) (by omega)
      rw [h2] at c2
      have c3 : ∀ W', Cnt1 E w0 blk off d W.heap.size s2 W' → _ := fun W' C' => MA W' K s2 C' (by omega) (by omega) (by omega)
      rw [h3] at c3
      have c4 : ∀ W', Cnt1 E w0 blk off d W.heap.size s3 W' → _ := fun W' C' => MD W' i1 j1 k1 s3 C' (by omega) (by omega) (by omega) (by omega)
      rw [h4] at c4
      simp only [] at c1 c2 c3 c4
      rw [hraw]
      obtain ⟨Hc, hHc⟩ : ∃ Hc : Int, Hc = hintCode (hintOf s) := ⟨_, rfl⟩
      have hh0 : s = 0 → Hc = 1 := fun h => by rw [hHc, h]; rfl
      have hh12 : s = 12 → Hc = 2 := fun h => by rw [hHc, h]; rfl
      have hhx : s ≠ 0 → s ≠ 12 → Hc = 0 := fun h1 h2 => by rw [hHc]; unfold hintOf; rw [if_neg h1, if_neg h2]; rfl
      show Calls Tryz.prog 66 _ W fun e w' => e = .returned (.tuple #[.int .i64 (p : Int), .int .i64 (hintCode (hintOf s))]) ∧ SW E w0 blk off d w'
      rw [← hHc]
      clear hHc hraw
      clear h1 h2 h3 h4 MA MD hI hJ hK m1 m2 m3 C0
      go_enter Tryz.func66, Tryz.ntmps66
      go_wp2_with (go_at_call_of 90 (Value.int .i64 (I : Int)); refine c1.mono ?_; rintro e w1 ⟨rfl, C1⟩)
      go_wp2_with (go_at_call_of 90 (Value.int .i64 (J : Int)); refine (c2 _ C1).mono ?_; rintro e w2 ⟨rfl, C2⟩)
      go_wp2_with (go_at_call_of 90 (Value.int .i64 (K : Int)); refine (c3 _ C2).mono ?_; rintro e w3 ⟨rfl, C3⟩)
      go_wp2_with (go_at_call 91; refine (c4 _ C3).mono ?_; rintro e w4 ⟨rfl, S4, cc, cfz, _, _⟩)
      all_goals
        go_ret2
        refine ⟨?_, S4⟩
        first
          | (have e0 : (s : Int) = 0 := of_beq_int (by assumption)
             rw [hh0 (by omega)]; rfl)
          | (have e1 : (s : Int) = 12 := of_beq_int (by assumption)
             rw [hh12 (by omega)]; rfl)
          | (have e0 : (s : Int) ≠ 0 := of_bne_int (by assumption)
             have e1 : (s : Int) ≠ 12 := of_bne_int (by assumption)
             rw [hhx (by omega) (by omega)]; rfl)
          | (rw [hh0 (by omega)]; rfl)
    · -- the median of three
      obtain ⟨p, s, h4⟩ : ∃ p s, median ltInt d I J K 0 = (p, s) := ⟨_, _, rfl⟩
      have hraw : rawPivot ltInt d a b = (p, s) := by simp only [rawPivot, if_pos h8, if_neg h50, ← hI, ← hJ, ← hK, h4]
      have c4 := MD _ I J K 0 C0 (by omega) (by omega) (by omega) (by omega)
      rw [h4] at c4
      simp only [] at c4
      rw [hraw]
      obtain ⟨Hc, hHc⟩ : ∃ Hc : Int, Hc = hintCode (hintOf s) := ⟨_, rfl⟩
      have hh0 : s = 0 → Hc = 1 := fun h => by rw [hHc, h]; rfl
      have hh12 : s = 12 → Hc = 2 := fun h => by rw [hHc, h]; rfl
      have hhx : s ≠ 0 → s ≠ 12 → Hc = 0 := fun h1 h2 => by rw [hHc]; unfold hintOf; rw [if_neg h1, if_neg h2]; rfl
      show Calls Tryz.prog 66 _ W fun e w' => e = .returned (.tuple #[.int .i64 (p : Int), .int .i64 (hintCode (hintOf s))]) ∧ SW E w0 blk off d w'
      rw [← hHc]
      clear hHc hraw
      clear h4 MA MD hI hJ hK C0
      go_enter Tryz.func66, Tryz.ntmps66
      go_wp2_with (go_at_call 91; refine c4.mono ?_; rintro e w4 ⟨rfl, S4, cc, cfz, _, _⟩)
      all_goals
        go_ret2
        refine ⟨?_, S4⟩
        first
          | (have e0 : (s : Int) = 0 := of_beq_int (by assumption)
             rw [hh0 (by omega)]; rfl)
          | (have e1 : (s : Int) = 12 := of_beq_int (by assumption)
             rw [hh12 (by omega)]; rfl)
          | (have e0 : (s : Int) ≠ 0 := of_bne_int (by assumption)
             have e1 : (s : Int) ≠ 12 := of_bne_int (by assumption)
             rw [hhx (by omega) (by omega)]; rfl)
          | (rw [hh0 (by omega)]; rfl)
  · -- fewer than eight
    obtain ⟨p, hp⟩ : ∃ p : Nat, p = J := ⟨_, rfl⟩
    obtain ⟨s, hs0⟩ : ∃ s : Nat, s = 0 := ⟨_, rfl⟩
    have hraw : rawPivot ltInt d a b = (p, s) := by simp only [rawPivot, if_neg h8, ← hJ, hp, hs0]
    rw [hraw]
    obtain ⟨Hc, hHc⟩ : ∃ Hc : Int, Hc = hintCode (hintOf s) := ⟨_, rfl⟩
    have hh0 : s = 0 → Hc = 1 := fun h => by rw [hHc, h]; rfl
    have hh12 : s = 12 → Hc = 2 := fun h => by rw [hHc, h]; rfl
    have hhx : s ≠ 0 → s ≠ 12 → Hc = 0 := fun h1 h2 => by rw [hHc]; unfold hintOf; rw [if_neg h1, if_neg h2]; rfl
    show Calls Tryz.prog 66 _ W fun e w' => e = .returned (.tuple #[.int .i64 (p : Int), .int .i64 (hintCode (hintOf s))]) ∧ SW E w0 blk off d w'
    rw [← hHc]
    clear hHc hraw
    subst hp
    clear MA MD hI hJ hK
    have S4 := C0.1
    clear C0
    go_enter Tryz.func66, Tryz.ntmps66
    go_wp2
    all_goals
      go_ret2
      refine ⟨?_, S4⟩
      first
        | (have e0 : (s : Int) = 0 := of_beq_int (by assumption)
           rw [hh0 (by omega)]; rfl)
        | (have e1 : (s : Int) = 12 := of_beq_int (by assumption)
           rw [hh12 (by omega)]; rfl)
        | (have e0 : (s : Int) ≠ 0 := of_bne_int (by assumption)
           have e1 : (s : Int) ≠ 12 := of_bne_int (by assumption)
           rw [hhx (by omega) (by omega)]; rfl)
        | (rw [hh0 (by omega)]; rfl)
end Go.Proofs.YtajeaefpapnkbaaGreatDoor.BS
/-
  The byte sort of the library, walked at this translation, eighth part: breakPatterns (with nextPowerOfTwo and the shift register's Next, both off the kit's shelf). At any row of bytes of which no cell is frozen. After the kit's own walk of the sort by a function (SlSortCmp), turned to bytes. Printed by wip/tools/sort8.py.
-/
namespace Go.Proofs.YtajeaefpapnkbaaGreatDoor.BS
open Go.Shelf Go.RowKit Go.Lib Go.Sort
variable {w0 W w : World} {blk off : Nat} {d0 d dk : Array Int}
theorem nextPow (n : Nat) (hn : n < 4611686018427387904) (w : World) : Calls Tryz.prog 83 #[.int .i64 n] w fun e w' => e = .returned (.int .u64 ((1 <<< bitsLen n : Nat) : Int)) ∧ w' = w :=
  AnyF.nextPowerOfTwo { Tryz.sortFunc0 with } n hn w
theorem xNext (rb ro X : Nat) (hX : X < 18446744073709551616) (w : World) (hc : w.cell? ⟨rb, ro, none⟩ = some (.int .u64 X)) (hf : w.frozen? ⟨rb, ro, none⟩ = false) :
    Calls Tryz.prog 84 #[.pointer (some ⟨rb, ro, none⟩)] w fun e w' => e = .returned (.int .u64 (xorNextN X : Nat)) ∧ w' = (w.setCell ⟨rb, ro, none⟩ (.int .u64 (xorNextN X : Nat))).drewN 3 :=
  AnyF.xorshift_Next { Tryz.sortFunc0 with } rb ro X hX w hc hf
set_option maxHeartbeats 8000000 in
set_option maxRecDepth 1000000 in
theorem breakGo (cap a L : Nat) (R : Row1 E w0 blk off d0) (hs : d.size = d0.size) (S : SW E w0 blk off d w) (hb : a + L ≤ d.size) (hsz : d.size < 4611686018427387904) (h8 : 8 ≤ L) :
    Calls Tryz.prog 65 #[.slice (some ⟨blk, off, none⟩) d.size cap, .int .i64 a, .int .i64 ((a + L : Nat) : Int)] w fun e w' => e = .returned (.tuple #[]) ∧ SW E w0 blk off (breakPatterns d a (a + L)) w' := by
  have mixed : Tryz.prog.follows .mixedOrders = true := by kernel_rfl
  rw [breakPatterns_eq d a L h8]
  obtain ⟨M, hM⟩ : ∃ M : Nat, M = 1 <<< bitsLen L := ⟨_, rfl⟩
  have hM1 : 1 ≤ M := by rw [hM, Nat.one_shiftLeft]; exact Nat.two_pow_pos _
  have hM2 : M ≤ 2 * L := by rw [hM, Nat.one_shiftLeft]; exact two_pow_bitsLen_le (by omega)
  have hNP : ∀ w, Calls Tryz.prog 83 #[.int .i64 (L : Int)] w fun e w' => e = .returned (.int .u64 (M : Int)) ∧ w' = w := by rw [hM]; exact fun w => nextPow L (by omega) w
  rw [← hM]
  clear hM
  have hLz : ((a : Int) + (L : Int) - (a : Int)) = (L : Int) := by omega
  have h8z : (8 : Int) ≤ (L : Int) := by omega
  have hne : w.heap.size ≠ blk := by have := S.lt R.hblk; omega
  have hle0 : w0.heap.size ≤ w.heap.size := S.le
  have S0 : Aside (SW E w0 blk off d w) := S
  clear S
  go_enter Tryz.func65, Tryz.ntmps65
  go_wp2_with (first | (go_at_call 83; refine (hNP _).mono ?_; rintro e w' ⟨rfl, rfl⟩))
  go_loopg [9] 3 (fun g1 vi wr => ∃ (t : Nat) (r : UInt64) (dk : Array Int), vi = .int .i64 ((a : Int) + (L : Int) / 4 * 2 - 1 + (t : Int)) ∧ t ≤ 3 ∧ 3 - t ≤ g1 ∧ dk.size = d.size ∧ Aside (SW E w0 blk off dk wr) ∧
      wr.cell? ⟨w.heap.size, 0, none⟩ = some (.int .u64 (r.toNat : Int)) ∧ wr.frozen? ⟨w.heap.size, 0, none⟩ = false ∧
      Hid (bpRest a L M (a + L / 4 * 2 - 1) (3 - t) t (r, dk) = bpRest a L M (a + L / 4 * 2 - 1) 3 0 (UInt64.ofNat L, d)))
  case atStart =>
    refine ⟨0, UInt64.ofNat L, d, by simp, by omega, by omega, rfl, S0.out.alloc _, ?_, by simp, rfl⟩
    rw [show (UInt64.ofNat L).toNat = L from by simp; omega]
    simp
  case round =>
    clear S0
    obtain ⟨t, r, dk, rfl, ht, hg1, hds, S1, cR, fR, HR⟩ := hrel
    by_cases ht3 : t < 3
    · have hle : (a : Int) + (L : Int) / 4 * 2 - 1 + (t : Int) ≤ (a : Int) + (L : Int) / 4 * 2 + 1 := by omega
      obtain ⟨R0, hRr⟩ : ∃ R0 : Nat, R0 = r.toNat := ⟨_, rfl⟩
      have lR : R0 < 18446744073709551616 := by rw [hRr]; exact r.toNat_lt
      obtain ⟨R', hR'⟩ : ∃ R' : Nat, R' = xorNextN R0 := ⟨_, rfl⟩
      have lR' : R' < 18446744073709551616 := by rw [hR']; exact xorNextN_lt R0 lR
      obtain ⟨O, hO⟩ : ∃ O : Nat, O = R' &&& (M - 1) := ⟨_, rfl⟩
      have lO : O ≤ M - 1 := by rw [hO]; exact Nat.and_le_right
      have eAnd : bits .and .u64 (R' : Int) ((M : Int) - 1) = (O : Int) := by
        rw [show ((M : Int) - 1) = ((M - 1 : Nat) : Int) by omega, bits_and_u64_nat _ _ lR' (by omega), hO]
      rw [← hRr] at cR
      have hNext : Calls Tryz.prog 84 #[.pointer (some ⟨w.heap.size, 0, none⟩)] wr fun e w' => e = .returned (.int .u64 (R' : Int)) ∧ w' = (wr.setCell ⟨w.heap.size, 0, none⟩ (.int .u64 (R' : Int))).drewN 3 := by
        rw [hR']; exact xNext _ _ R0 lR wr cR fR
      have HN : Hid (R' = (xorNext r).toNat ∧ O = (xorNext r).toNat &&& (M - 1)) := by
        have e : R' = (xorNext r).toNat := by rw [hR', hRr, xorNext_toNat]
        exact ⟨e, by rw [hO, e]⟩
      clear hRr hR' hO
      have S2 : Aside (SW E w0 blk off dk ((wr.setCell ⟨w.heap.size, 0, none⟩ (.int .u64 (R' : Int))).drewN 3)) := (S1.out.setCell_new w.heap.size 0 (.int .u64 (R' : Int)) hle0).drewN 3
      have cR' : ((wr.setCell ⟨w.heap.size, 0, none⟩ (.int .u64 (R' : Int))).drewN 3).cell? ⟨w.heap.size, 0, none⟩ = some (.int .u64 (R' : Int)) := by
        rw [World.cell?_drewN]; exact World.cell?_setCell_same _ _ _ cR
      have fR' : ((wr.setCell ⟨w.heap.size, 0, none⟩ (.int .u64 (R' : Int))).drewN 3).frozen? ⟨w.heap.size, 0, none⟩ = false := by
        rw [World.frozen?_drewN]; simpa using fR
      generalize (wr.setCell ⟨w.heap.size, 0, none⟩ (.int .u64 (R' : Int))).drewN 3 = w2 at hNext S2 cR' fR'
      clear cR fR S1
      by_cases hLO : L ≤ O
      · have hLOz : (L : Int) ≤ (O : Int) := by omega
        go_wp2_with (go_at_call 84; refine hNext.mono ?_; rintro e w' ⟨rfl, hw'⟩; obtain rfl : w2 = w' := hw'.symm)
        obtain ⟨iN, hiN⟩ : ∃ q, q = a + L / 4 * 2 - 1 + t := ⟨_, rfl⟩
        obtain ⟨jN, hjN⟩ : ∃ q, q = a + (O - L) := ⟨_, rfl⟩
        have ea : ((a : Int) + (L : Int) / 4 * 2 - 1 + (t : Int)).toNat = iN := by omega
        have pa : (0 : Int) ≤ (a : Int) + (L : Int) / 4 * 2 - 1 + (t : Int) := by omega
        have ba : (a : Int) + (L : Int) / 4 * 2 - 1 + (t : Int) < (d.size : Int) := by omega
        have ra : IntKind.i64.wrap ((a : Int) + (L : Int) / 4 * 2 - 1 + (t : Int)) = (a : Int) + (L : Int) / 4 * 2 - 1 + (t : Int) := by rw [IntKind.wrap_i64]; omega
        have ec : ((a : Int) + ((O : Int) - (L : Int))).toNat = jN := by omega
        have pc : (0 : Int) ≤ (a : Int) + ((O : Int) - (L : Int)) := by omega
        have bc : (a : Int) + ((O : Int) - (L : Int)) < (d.size : Int) := by omega
        have rc : IntKind.i64.wrap ((a : Int) + ((O : Int) - (L : Int))) = (a : Int) + ((O : Int) - (L : Int)) := by rw [IntKind.wrap_i64]; omega
        obtain ⟨x, hx⟩ : ∃ x, x = dk[a + L / 4 * 2 - 1 + t]! := ⟨_, rfl⟩
        obtain ⟨y, hy⟩ : ∃ x, x = dk[a + (O - L)]! := ⟨_, rfl⟩
        have S3 : Aside (SW E w0 blk off (swp dk (a + L / 4 * 2 - 1 + t) (a + (O - L))) ((w2.setCell ⟨blk, off + iN, none⟩ (.int .u8 y)).setCell ⟨blk, off + jN, none⟩ (.int .u8 x)).drew) := by rw [hiN, hjN, hx, hy]; exact S2.out.swapped R (a + L / 4 * 2 - 1 + t) (a + (O - L)) (by omega) (by omega)
        have ca : w2.cell? ⟨blk, off + (a + L / 4 * 2 - 1 + t), none⟩ = some (.int .u8 dk[a + L / 4 * 2 - 1 + t]!) := S2.out.c1 R (by omega) (a + L / 4 * 2 - 1 + t) (by omega)
        have cb : w2.cell? ⟨blk, off + (a + (O - L)), none⟩ = some (.int .u8 dk[a + (O - L)]!) := S2.out.c1 R (by omega) (a + (O - L)) (by omega)
        have fa := S2.out.f1 R (by omega) (a + L / 4 * 2 - 1 + t) (by omega)
        have fb := S2.out.f1 R (by omega) (a + (O - L)) (by omega)
        obtain ⟨u, cc⟩ := S2.out.c2 R (by omega) (a + L / 4 * 2 - 1 + t) (a + (O - L)) (by omega) (by omega) (.int .u8 y)
        rw [← hjN, ← hiN] at cc
        rw [← hx, ← hiN] at ca
        rw [← hy, ← hjN] at cb
        rw [← hiN] at fa
        rw [← hjN] at fb
        clear S2 hx hy hiN hjN
        go_wp2_with fail
        go_big_region_o
        clear ca cb cc fa fb
        have k1 := box_kept_swap1 (W := w2) (blk := blk) hne cR' fR' (off + iN) (off + jN) (.int .u8 y) (.int .u8 x)
        generalize ((w2.setCell ⟨blk, off + iN, none⟩ (.int .u8 y)).setCell ⟨blk, off + jN, none⟩ (.int .u8 x)).drew = w3 at S3 k1 ⊢
        clear ea ec
        go_wp2
        go_roundg (3 - (t + 1))
        case measure => omega
        case rel => exact ⟨t + 1, xorNext r, swp dk (a + L / 4 * 2 - 1 + t) (a + (O - L)), by congr 1; push_cast; omega, by omega, Nat.le_refl _, by rw [size_swp]; exact hds, S3, by rw [← HN.out.1]; exact k1.1, k1.2,
          (show Hid _ from by rw [← HR.out, bp_step a L M _ t r dk (O - L) ht3 (by rw [← HN.out.2, if_pos (by omega)])]; exact rfl)⟩
      · have hLOz : ¬ (L : Int) ≤ (O : Int) := by omega
        go_wp2_with (go_at_call 84; refine hNext.mono ?_; rintro e w' ⟨rfl, hw'⟩; obtain rfl : w2 = w' := hw'.symm)
        obtain ⟨iN, hiN⟩ : ∃ q, q = a + L / 4 * 2 - 1 + t := ⟨_, rfl⟩
        obtain ⟨jN, hjN⟩ : ∃ q, q = a + O := ⟨_, rfl⟩
        have ea : ((a : Int) + (L : Int) / 4 * 2 - 1 + (t : Int)).toNat = iN := by omega
        have pa : (0 : Int) ≤ (a : Int) + (L : Int) / 4 * 2 - 1 + (t : Int) := by omega
        have ba : (a : Int) + (L : Int) / 4 * 2 - 1 + (t : Int) < (d.size : Int) := by omega
        have ra : IntKind.i64.wrap ((a : Int) + (L : Int) / 4 * 2 - 1 + (t : Int)) = (a : Int) + (L : Int) / 4 * 2 - 1 + (t : Int) := by rw [IntKind.wrap_i64]; omega
        have ec : ((a : Int) + (O : Int)).toNat = jN := by omega
        have pc : (0 : Int) ≤ (a : Int) + (O : Int) := by omega
        have bc : (a : Int) + (O : Int) < (d.size : Int) := by omega
        have rc : IntKind.i64.wrap ((a : Int) + (O : Int)) = (a : Int) + (O : Int) := by rw [IntKind.wrap_i64]; omega
        obtain ⟨x, hx⟩ : ∃ x, x = dk[a + L / 4 * 2 - 1 + t]! := ⟨_, rfl⟩
        obtain ⟨y, hy⟩ : ∃ x, x = dk[a + O]! := ⟨_, rfl⟩
        have S3 : Aside (SW E w0 blk off (swp dk (a + L / 4 * 2 - 1 + t) (a + O)) ((w2.setCell ⟨blk, off + iN, none⟩ (.int .u8 y)).setCell ⟨blk, off + jN, none⟩ (.int .u8 x)).drew) := by rw [hiN, hjN, hx, hy]; exact S2.out.swapped R (a + L / 4 * 2 - 1 + t) (a + O) (by omega) (by omega)
        have ca : w2.cell? ⟨blk, off + (a + L / 4 * 2 - 1 + t), none⟩ = some (.int .u8 dk[a + L / 4 * 2 - 1 + t]!) := S2.out.c1 R (by omega) (a + L / 4 * 2 - 1 + t) (by omega)
        have cb : w2.cell? ⟨blk, off + (a + O), none⟩ = some (.int .u8 dk[a + O]!) := S2.out.c1 R (by omega) (a + O) (by omega)
        have fa := S2.out.f1 R (by omega) (a + L / 4 * 2 - 1 + t) (by omega)
        have fb := S2.out.f1 R (by omega) (a + O) (by omega)
        obtain ⟨u, cc⟩ := S2.out.c2 R (by omega) (a + L / 4 * 2 - 1 + t) (a + O) (by omega) (by omega) (.int .u8 y)
        rw [← hjN, ← hiN] at cc
        rw [← hx, ← hiN] at ca
        rw [← hy, ← hjN] at cb
        rw [← hiN] at fa
        rw [← hjN] at fb
        clear S2 hx hy hiN hjN
        go_wp2_with fail
        go_big_region_o
        clear ca cb cc fa fb
        have k1 := box_kept_swap1 (W := w2) (blk := blk) hne cR' fR' (off + iN) (off + jN) (.int .u8 y) (.int .u8 x)
        generalize ((w2.setCell ⟨blk, off + iN, none⟩ (.int .u8 y)).setCell ⟨blk, off + jN, none⟩ (.int .u8 x)).drew = w3 at S3 k1 ⊢
        clear ea ec
        go_wp2
        go_roundg (3 - (t + 1))
        case measure => omega
        case rel => exact ⟨t + 1, xorNext r, swp dk (a + L / 4 * 2 - 1 + t) (a + O), by congr 1; push_cast; omega, by omega, Nat.le_refl _, by rw [size_swp]; exact hds, S3, by rw [← HN.out.1]; exact k1.1, k1.2,
          (show Hid _ from by rw [← HR.out, bp_step a L M _ t r dk O ht3 (by rw [← HN.out.2, if_neg (by omega)])]; exact rfl)⟩
    · -- three rounds are done
      obtain rfl : t = 3 := by omega
      have hle : ¬ ((a : Int) + (L : Int) / 4 * 2 - 1 + ((3 : Nat) : Int) ≤ (a : Int) + (L : Int) / 4 * 2 + 1) := by omega
      go_wp2
      go_end0
      refine ⟨rfl, ?_⟩
      rw [← HR.out]
      exact S1.out
set_option maxHeartbeats 2000000 in
theorem breaks (cap a b : Nat) (R : Row1 E w0 blk off d0) (hs : d.size = d0.size) (S : SW E w0 blk off d w) (hab : a ≤ b) (hb : b ≤ d.size) (hsz : d.size < 4611686018427387904) :
    Calls Tryz.prog 65 #[.slice (some ⟨blk, off, none⟩) d.size cap, .int .i64 a, .int .i64 b] w fun e w' => e = .returned (.tuple #[]) ∧ SW E w0 blk off (breakPatterns d a b) w' := by
  obtain ⟨L, rfl⟩ : ∃ L, b = a + L := ⟨b - a, by omega⟩
  by_cases h8 : 8 ≤ L
  · exact breakGo cap a L R hs S hb hsz h8
  · have hv : breakPatterns d a (a + L) = d := by unfold breakPatterns; simp only [Nat.add_sub_cancel_left]; rw [if_neg h8]
    rw [hv]
    have hLz : ((a : Int) + (L : Int) - (a : Int)) = (L : Int) := by omega
    have h8z : ¬ (8 : Int) ≤ (L : Int) := by omega
    go_enter Tryz.func65, Tryz.ntmps65
    go_wp2
    all_goals
      go_end0
      exact ⟨rfl, S⟩
end Go.Proofs.YtajeaefpapnkbaaGreatDoor.BS
/-
  The byte sort of the library, walked at this translation, ninth part: pdqsort, whole. At any row of bytes of which no cell is frozen. After the kit's own walk of the sort by a function (SlSortCmp), turned to bytes. Printed by wip/tools/sort9.py.
-/
namespace Go.Proofs.YtajeaefpapnkbaaGreatDoor.BS
open Go.Shelf Go.RowKit Go.Lib Go.Sort
variable {w0 W : World} {blk off : Nat} {d0 d dk : Array Int}
set_option maxHeartbeats 25600000 in
set_option maxRecDepth 1000000 in
theorem pdqAll (hO : SWO ltInt) (cap : Nat) (R : Row1 E w0 blk off d0) :
    ∀ (N a b limit : Nat) (d : Array Int) (w : World), b - a < N → d.size = d0.size → SW E w0 blk off d w → a ≤ b → b ≤ d.size → d.size < 4611686018427387904 → limit < 4611686018427387904 → Below ltInt a b d →
    Calls Tryz.prog 41 #[.slice (some ⟨blk, off, none⟩) d.size cap, .int .i64 a, .int .i64 b, .int .i64 limit] w fun e w' => e = .returned (.tuple #[]) ∧ SW E w0 blk off (pdq ltInt d a b limit true true) w' := by
  intro N
  induction N with
  | zero => intro _ _ _ _ _ h; exact absurd h (Nat.not_lt_zero _)
  | succ N ih =>
    intro a b limit d w hN hs' S hab hb hsz hlimit hBel0
    have hs : d0.size = d.size := hs'.symm
    clear hs'
    go_enter Tryz.func41, Tryz.ntmps41
    go_wp2
    go_loopg [1, 2, 3, 8, 9] (b - a) (fun kx s1 s2 s3 s8 s9 wr => ∃ (a' b' lim : Nat) (wb wp : Bool) (dk : Array Int), s1 = .int .i64 a' ∧ s2 = .int .i64 b' ∧ s3 = .int .i64 lim ∧ s8 = .bool wb ∧ s9 = .bool wp ∧
      a' ≤ b' ∧ b' ≤ d.size ∧ b' - a' ≤ kx ∧ kx ≤ b - a ∧ lim ≤ limit ∧ dk.size = d.size ∧ Below ltInt a' b' dk ∧ SW E w0 blk off dk wr ∧ pdq ltInt dk a' b' lim wb wp = pdq ltInt d a b limit true true)
    case atStart => exact ⟨a, b, limit, true, true, d, rfl, rfl, rfl, rfl, rfl, hab, hb, Nat.le_refl _, Nat.le_refl _, Nat.le_refl _, rfl, hBel0, S, rfl⟩
    case round =>
      obtain ⟨a', b', lim, wb, wp, dk, rfl, rfl, rfl, rfl, rfl, hab', hb', hkx, hkN, hlim, hds, hBel, hAt, heq⟩ := hrel
      have A : Aside (pdq ltInt dk a' b' lim wb wp = pdq ltInt d a b limit true true) := heq
      clear heq
      by_cases h12 : b' - a' ≤ 12
      · have h12z : (b' : Int) - (a' : Int) ≤ 12 := by omega
        have hc := insSort cap a' b' R (by omega) hAt hab' (by omega) (by omega)
        rw [hds] at hc
        go_wp2_with (go_at_call 63; refine hc.mono ?_; rintro e w1 ⟨rfl, hw1⟩)
        (try simp only [Exit.inBlock, Exit.then]); refine bodyPost_ret (results_none rfl _ _ _) rfl ?_
        refine ⟨rfl, ?_⟩
        rw [← A.out, pdq_small h12]
        exact hw1
      · have h12z : ¬ ((b' : Int) - (a' : Int) ≤ 12) := by omega
        by_cases hl0 : lim = 0
        · subst hl0
          have hc := heap cap a' b' R (by omega) hAt hab' (by omega) (by omega)
          rw [hds] at hc
          go_wp2_with (go_at_call 64; refine hc.mono ?_; rintro e w1 ⟨rfl, hw1⟩)
          (try simp only [Exit.inBlock, Exit.then]); refine bodyPost_ret (results_none rfl _ _ _) rfl ?_
          refine ⟨rfl, ?_⟩
          rw [← A.out, pdq_heap h12 rfl]
          exact hw1
        · have hl0z : ¬ ((lim : Int) = 0) := by omega
          obtain ⟨s1, B1, hc1, s2, B2, hpv, s3, B3⟩ := rd_facts (lt := ltInt) (limit := lim) (wb := wb) (wp := wp) hO partialInsertionSort_holds reverseRange_holds (show a' < b' by omega) (show b' ≤ dk.size by omega) hBel
          go_upto_if 35 with fail
          go_cut [3] from 19 (fun s3 wc => s3 = .int .i64 (rd ltInt dk a' b' lim wb wp).lim ∧ SW E w0 blk off (rd ltInt dk a' b' lim wb wp).d1 wc)
          case first =>
            cases wb
            · have hc := breaks cap a' b' R (by omega) hAt hab' (by omega) (by omega)
              rw [hds] at hc
              go_wp2_with (go_at_call 65; refine hc.mono ?_; rintro e w1 ⟨rfl, hw1⟩)
              go_meet
              case rel =>
                refine ⟨?_, hw1⟩
                show Value.int .i64 ((lim : Int) - 1) = Value.int .i64 ((lim - 1 : Nat) : Int)
                congr 1
                omega
            · go_wp2_with fail
              go_meet
              case rel => exact ⟨rfl, hAt⟩
          case rest =>
            obtain ⟨rfl, hAt1⟩ := hcut
            have hc17 := choose cap a' b' R (by omega) hAt1 (by omega) (by omega) (by omega)
            rw [show (rd ltInt dk a' b' lim wb wp).d1.size = d.size from s1.trans hds] at hc17
            have hc17 : Calls Tryz.prog 66 #[.slice (some ⟨blk, off, none⟩) d.size cap, .int .i64 a', .int .i64 b'] wc fun e w' => e = .returned (.tuple #[.int .i64 (rd ltInt dk a' b' lim wb wp).c.1, .int .i64 (hintCode (rd ltInt dk a' b' lim wb wp).c.2)]) ∧ SW E w0 blk off (rd ltInt dk a' b' lim wb wp).d1 w' := hc17
            go_upto_if 50 with (go_at_call 66; refine hc17.mono ?_; rintro e w2 ⟨rfl, hAt2⟩)
            go_cut [11, 12] from 19 (fun s11 s12 wc => s11 = .int .i64 (rd ltInt dk a' b' lim wb wp).pivot ∧ s12 = .int .i64 (hintCode (rd ltInt dk a' b' lim wb wp).hint) ∧ SW E w0 blk off (rd ltInt dk a' b' lim wb wp).d2 wc)
            case first =>
              by_cases hh : (rd ltInt dk a' b' lim wb wp).c.2 = .decreasing
              · have hcode : hintCode (rd ltInt dk a' b' lim wb wp).c.2 = 2 := by rw [hh]; rfl
                obtain ⟨e2, epv, eht⟩ := rd_dec hh
                have hc18 := reverse cap a' b' R (by omega) hAt2 hab' (by omega) (by omega)
                rw [show (rd ltInt dk a' b' lim wb wp).d1.size = d.size from s1.trans hds] at hc18
                go_wp2_with (go_at_call 67; refine hc18.mono ?_; rintro e w3 ⟨rfl, hw3⟩)
                go_meet
                case rel =>
                  refine ⟨?_, by rw [eht]; rfl, by rw [e2]; exact hw3⟩
                  rw [epv]
                  congr 1
                  omega
              · have hcode : ¬ (hintCode (rd ltInt dk a' b' lim wb wp).c.2 = 2) := fun h => hh (hintCode_two h)
                obtain ⟨e2, epv, eht⟩ := rd_not hh
                go_wp2_with fail
                go_meet
                case rel => exact ⟨by rw [epv], by rw [eht], by rw [e2]; exact hAt2⟩
            case rest =>
              obtain ⟨rfl, rfl, hAt3⟩ := hcut
              go_upto_region 15 with fail
              go_cut [12, 68] from 19 (fun s12 s68 wx => s12 = .int .i64 (hintCode (rd ltInt dk a' b' lim wb wp).hint) ∧ s68 = .bool (wb && wp && decide ((rd ltInt dk a' b' lim wb wp).hint = .increasing)) ∧ wx = wc)
              case first =>
                cases wb <;> cases wp <;> cases hh3 : (rd ltInt dk a' b' lim _ _).hint <;>
                  (have hcode3 := congrArg hintCode hh3
                   simp only [hintCode] at hcode3
                   go_wp2_with fail
                   go_meet
                   exact ⟨by simp [hh3, hintCode], by simp [hh3, hintCode], rfl⟩)
              case rest =>
                obtain ⟨rfl, rfl, rfl⟩ := hcut
                go_upto_if 68 with fail
                go_cut [] from 19 (fun wx => (rd ltInt dk a' b' lim wb wp).pi.2 = false ∧ SW E w0 blk off (rd ltInt dk a' b' lim wb wp).pi.1 wx)
                case first =>
                  cases h68 : (wb && wp && decide ((rd ltInt dk a' b' lim wb wp).hint = .increasing))
                  · have epi := rd_pi_no h68
                    go_wp2_with fail
                    go_meet
                    case rel => exact ⟨by rw [epi], by rw [epi]; exact hAt3⟩
                  · have epi := rd_pi_yes h68
                    have hc19 := partIns cap a' b' R (by omega) hAt3 (by omega) (by omega) (by omega)
                    rw [← epi, show (rd ltInt dk a' b' lim wb wp).d2.size = d.size from s2.trans hds] at hc19
                    go_wp2_with (go_at_call 68; refine hc19.mono ?_; rintro e w4 ⟨rfl, hw4⟩)
                    all_goals first
                      | (have hp2 : (rd ltInt dk a' b' lim wb wp).pi.2 = false := by rw [epi]; assumption
                         go_meet
                         exact ⟨hp2, hw4⟩)
                      | (have hp2 : (rd ltInt dk a' b' lim wb wp).pi.2 = true := by rw [epi]; assumption
                         (try simp only [Exit.inBlock, Exit.then]); refine bodyPost_ret (results_none rfl _ _ _) rfl ?_
                         refine ⟨rfl, ?_⟩
                         rw [← A.out, pdq_done h12 hl0 hp2]
                         exact hw4)
                case rest =>
                  obtain ⟨hp2, hAt5⟩ := hcut
                  have S5 : Aside (SW E w0 blk off (rd ltInt dk a' b' lim wb wp).pi.1 wc) := hAt5
                  have hpv1 := hpv.1
                  have hpv2 := hpv.2
                  obtain ⟨G, hG, hcw, hfw⟩ := fams hAt5 R (by omega)
                  rw [show (rd ltInt dk a' b' lim wb wp).pi.1.size = d.size from s3.trans hds] at hcw hfw
                  have AG : Hid (∀ t, G t = (rd ltInt dk a' b' lim wb wp).pi.1[t]!) := hG
                  clear hAt5 hG
                  have hpd : (rd ltInt dk a' b' lim wb wp).pivot < d.size := by omega
                  rcases Nat.eq_zero_or_pos a' with ha0 | ha0
                  · have ha0z : decide ((a' : Int) > 0) = false := decide_eq_false (by omega)
                    have h87 : (decide (a' > 0) && !ltInt (rd ltInt dk a' b' lim wb wp).pi.1[a' - 1]! (rd ltInt dk a' b' lim wb wp).pi.1[(rd ltInt dk a' b' lim wb wp).pivot]!) = false := by simp [ha0]
                    have hn0 : ¬ (0 < a') := by omega
                    have hn0d : decide (0 < a') = false := decide_eq_false hn0
                    have hn0z : decide ((0 : Int) < (a' : Int)) = false := decide_eq_false (by omega)
                    have h87H : Hid _ := h87
                    clear ha0 h87
                    go_wp2_with fail
                    go_big_quiet (first | (go_at_call 69; refine Calls.quiet_of_same (less _ _ _)))
                    have S6 : Aside (SW E w0 blk off (rd ltInt dk a' b' lim wb wp).pi.1 (wc.drewN nq)) := S5.out.drewN nq
                    clear S5 hcw hfw AG
                    generalize wc.drewN nq = w6 at S6 ⊢
                    have hAt6 := S6.out
                    have h87 := h87H.out
                    clear S6 h87H
                    obtain ⟨mid, ap, d4, hx⟩ : ∃ mid ap d4, partition ltInt (rd ltInt dk a' b' lim wb wp).pi.1 a' b' (rd ltInt dk a' b' lim wb wp).pivot = (mid, ap, d4) := ⟨_, _, _, rfl⟩
                    obtain ⟨r1, r2, r3, r4, r5, r6, r7⟩ := round_part hO (partition_holds ltInt) hpv.1 hpv.2 (show b' ≤ (rd ltInt dk a' b' lim wb wp).pi.1.size by omega) B3 hx
                    have hc22 := part cap a' b' (rd ltInt dk a' b' lim wb wp).pivot R (by omega) hAt6 hpv.1 hpv.2 (by omega) (by omega)
                    rw [hx, show (rd ltInt dk a' b' lim wb wp).pi.1.size = d.size from s3.trans hds] at hc22
                    have X : Aside (partition ltInt (rd ltInt dk a' b' lim wb wp).pi.1 a' b' (rd ltInt dk a' b' lim wb wp).pivot = (mid, ap, d4)) := hx
                    clear hx
                    go_upto_if 113 with (go_at_call 71; refine hc22.mono ?_; rintro e w7 ⟨rfl, hAt7⟩)
                    have hx := X.out
                    have hs4 : d4.size = d.size := r3.trans (s3.trans hds)
                    by_cases h4 : mid - a' < b' - mid
                    · have h4z : (mid : Int) - (a' : Int) < (b' : Int) - (mid : Int) := by omega
                      have hih := ih a' mid (rd ltInt dk a' b' lim wb wp).lim d4 w7 (by omega) (by omega) hAt7 (by omega) (by omega) (by omega) (Nat.lt_of_le_of_lt (Nat.le_trans rd_lim_le hlim) hlimit) r4
                      rw [hs4] at hih
                      obtain ⟨pL, sL⟩ := pdq_sorts ltInt hO d4 a' mid (rd ltInt dk a' b' lim wb wp).lim true true (by omega) (by omega) r4
                      go_wp2_with (go_at_call 41; refine hih.mono ?_; rintro e w8 ⟨rfl, hw8⟩)
                      go_roundg (b' - (mid + 1))
                      case measure => omega
                      case rel =>
                        refine ⟨mid + 1, b', (rd ltInt dk a' b' lim wb wp).lim, decide (mid - a' ≥ (b' - a') / 8), ap, pdq ltInt d4 a' mid (rd ltInt dk a' b' lim wb wp).lim true true, by simp, rfl, rfl, ?_, rfl, by omega, by omega, Nat.le_refl _, by omega, Nat.le_trans rd_lim_le hlim, by rw [pL.1, hs4], (r6 _ pL sL).1, hw8, ?_⟩
                        · exact congrArg Value.bool (eighth (by omega) (by omega))
                        · rw [← A.out, pdq_left h12 hl0 hp2 h87 (by rw [hx]; exact ⟨r1, r2⟩) (by rw [hx]; exact h4), hx]
                    · have h4z : ¬ ((mid : Int) - (a' : Int) < (b' : Int) - (mid : Int)) := by omega
                      have hih := ih (mid + 1) b' (rd ltInt dk a' b' lim wb wp).lim d4 w7 (by omega) (by omega) hAt7 (by omega) (by omega) (by omega) (Nat.lt_of_le_of_lt (Nat.le_trans rd_lim_le hlim) hlimit) r5
                      rw [show ((mid + 1 : Nat) : Int) = (mid : Int) + 1 by omega, hs4] at hih
                      obtain ⟨pL, sL⟩ := pdq_sorts ltInt hO d4 (mid + 1) b' (rd ltInt dk a' b' lim wb wp).lim true true (by omega) (by omega) r5
                      go_wp2_with (go_at_call 41; refine hih.mono ?_; rintro e w8 ⟨rfl, hw8⟩)
                      go_roundg (mid - a')
                      case measure => omega
                      case rel =>
                        refine ⟨a', mid, (rd ltInt dk a' b' lim wb wp).lim, decide (b' - mid ≥ (b' - a') / 8), ap, pdq ltInt d4 (mid + 1) b' (rd ltInt dk a' b' lim wb wp).lim true true, rfl, rfl, rfl, ?_, rfl, by omega, by omega, Nat.le_refl _, by omega, Nat.le_trans rd_lim_le hlim, by rw [pL.1, hs4], (r7 _ pL sL).1, hw8, ?_⟩
                        · exact congrArg Value.bool (eighth (by omega) (by omega))
                        · rw [← A.out, pdq_right h12 hl0 hp2 h87 (by rw [hx]; exact ⟨r1, r2⟩) (by rw [hx]; exact h4), hx]
                  · have ha0z : (a' : Int) > 0 := by omega
                    have ha1 : 1 ≤ a' := ha0
                    have had : a' - 1 < d.size := by omega
                    have ha0d : decide (0 < a') = true := decide_eq_true ha0
                    go_wp2_with fail
                    go_big_quiet (first | (go_at_call 69; refine Calls.quiet_of_same (less _ _ _)))
                    have S6 : Aside (SW E w0 blk off (rd ltInt dk a' b' lim wb wp).pi.1 (wc.drewN nq)) := S5.out.drewN nq
                    clear S5 hcw hfw
                    generalize wc.drewN nq = w6 at S6 ⊢
                    have hAt6 := S6.out
                    clear S6
                    go_wp2_with fail
                    · have hlv : ltInt (G (a' - 1)) (G (rd ltInt dk a' b' lim wb wp).pivot) = false := by
                        have h : (!ltInt (G (a' - 1)) (G (rd ltInt dk a' b' lim wb wp).pivot)) = true := by assumption
                        simpa using h
                      have h87 : (decide (a' > 0) && !ltInt (rd ltInt dk a' b' lim wb wp).pi.1[a' - 1]! (rd ltInt dk a' b' lim wb wp).pi.1[(rd ltInt dk a' b' lim wb wp).pivot]!) = true := by rw [← AG.out, ← AG.out, hlv]; simp [ha0]
                      clear AG
                      have h87' := h87
                      simp only [Bool.and_eq_true, decide_eq_true_eq, Bool.not_eq_true'] at h87'
                      obtain ⟨mid, d4, hx⟩ : ∃ mid d4, partitionEqual ltInt (rd ltInt dk a' b' lim wb wp).pi.1 a' b' (rd ltInt dk a' b' lim wb wp).pivot = (mid, d4) := ⟨_, _, rfl⟩
                      obtain ⟨r1, r2, r3, r4, _⟩ := round_eq hO (partitionEqual_holds ltInt) h87'.1 hpv.1 hpv.2 (show b' ≤ (rd ltInt dk a' b' lim wb wp).pi.1.size by omega) B3 h87'.2 hx
                      have hc21 := partEq cap a' b' (rd ltInt dk a' b' lim wb wp).pivot R (by omega) hAt6 hpv.1 hpv.2 (by omega) (by omega)
                      rw [hx, show (rd ltInt dk a' b' lim wb wp).pi.1.size = d.size from s3.trans hds] at hc21
                      have X : Aside (partitionEqual ltInt (rd ltInt dk a' b' lim wb wp).pi.1 a' b' (rd ltInt dk a' b' lim wb wp).pivot = (mid, d4)) := hx
                      clear hx
                      go_wp2_with (go_at_call 70; refine hc21.mono ?_; rintro e w7 ⟨rfl, hw7⟩)
                      go_roundg (b' - mid)
                      case measure => omega
                      case rel =>
                        have hx := X.out
                        exact ⟨mid, b', (rd ltInt dk a' b' lim wb wp).lim, wb, wp, d4, rfl, rfl, rfl, rfl, rfl, r2, hb', Nat.le_refl _, by omega, Nat.le_trans rd_lim_le hlim, by rw [r3, s3, hds], r4, hw7, by rw [← A.out, pdq_eq h12 hl0 hp2 h87 (by rw [hx]; exact ⟨r1, r2⟩), hx]⟩
                    · have hlv : ltInt (G (a' - 1)) (G (rd ltInt dk a' b' lim wb wp).pivot) = true := by
                        have h : (!ltInt (G (a' - 1)) (G (rd ltInt dk a' b' lim wb wp).pivot)) = false := by assumption
                        simpa using h
                      have h87 : (decide (a' > 0) && !ltInt (rd ltInt dk a' b' lim wb wp).pi.1[a' - 1]! (rd ltInt dk a' b' lim wb wp).pi.1[(rd ltInt dk a' b' lim wb wp).pivot]!) = false := by rw [← AG.out, ← AG.out, hlv]; simp
                      clear AG
                      obtain ⟨mid, ap, d4, hx⟩ : ∃ mid ap d4, partition ltInt (rd ltInt dk a' b' lim wb wp).pi.1 a' b' (rd ltInt dk a' b' lim wb wp).pivot = (mid, ap, d4) := ⟨_, _, _, rfl⟩
                      obtain ⟨r1, r2, r3, r4, r5, r6, r7⟩ := round_part hO (partition_holds ltInt) hpv.1 hpv.2 (show b' ≤ (rd ltInt dk a' b' lim wb wp).pi.1.size by omega) B3 hx
                      have hc22 := part cap a' b' (rd ltInt dk a' b' lim wb wp).pivot R (by omega) hAt6 hpv.1 hpv.2 (by omega) (by omega)
                      rw [hx, show (rd ltInt dk a' b' lim wb wp).pi.1.size = d.size from s3.trans hds] at hc22
                      have X : Aside (partition ltInt (rd ltInt dk a' b' lim wb wp).pi.1 a' b' (rd ltInt dk a' b' lim wb wp).pivot = (mid, ap, d4)) := hx
                      clear hx
                      go_upto_if 113 with (go_at_call 71; refine hc22.mono ?_; rintro e w7 ⟨rfl, hAt7⟩)
                      have hx := X.out
                      have hs4 : d4.size = d.size := r3.trans (s3.trans hds)
                      by_cases h4 : mid - a' < b' - mid
                      · have h4z : (mid : Int) - (a' : Int) < (b' : Int) - (mid : Int) := by omega
                        have hih := ih a' mid (rd ltInt dk a' b' lim wb wp).lim d4 w7 (by omega) (by omega) hAt7 (by omega) (by omega) (by omega) (Nat.lt_of_le_of_lt (Nat.le_trans rd_lim_le hlim) hlimit) r4
                        rw [hs4] at hih
                        obtain ⟨pL, sL⟩ := pdq_sorts ltInt hO d4 a' mid (rd ltInt dk a' b' lim wb wp).lim true true (by omega) (by omega) r4
                        go_wp2_with (go_at_call 41; refine hih.mono ?_; rintro e w8 ⟨rfl, hw8⟩)
                        go_roundg (b' - (mid + 1))
                        case measure => omega
                        case rel =>
                          refine ⟨mid + 1, b', (rd ltInt dk a' b' lim wb wp).lim, decide (mid - a' ≥ (b' - a') / 8), ap, pdq ltInt d4 a' mid (rd ltInt dk a' b' lim wb wp).lim true true, by simp, rfl, rfl, ?_, rfl, by omega, by omega, Nat.le_refl _, by omega, Nat.le_trans rd_lim_le hlim, by rw [pL.1, hs4], (r6 _ pL sL).1, hw8, ?_⟩
                          · exact congrArg Value.bool (eighth (by omega) (by omega))
                          · rw [← A.out, pdq_left h12 hl0 hp2 h87 (by rw [hx]; exact ⟨r1, r2⟩) (by rw [hx]; exact h4), hx]
                      · have h4z : ¬ ((mid : Int) - (a' : Int) < (b' : Int) - (mid : Int)) := by omega
                        have hih := ih (mid + 1) b' (rd ltInt dk a' b' lim wb wp).lim d4 w7 (by omega) (by omega) hAt7 (by omega) (by omega) (by omega) (Nat.lt_of_le_of_lt (Nat.le_trans rd_lim_le hlim) hlimit) r5
                        rw [show ((mid + 1 : Nat) : Int) = (mid : Int) + 1 by omega, hs4] at hih
                        obtain ⟨pL, sL⟩ := pdq_sorts ltInt hO d4 (mid + 1) b' (rd ltInt dk a' b' lim wb wp).lim true true (by omega) (by omega) r5
                        go_wp2_with (go_at_call 41; refine hih.mono ?_; rintro e w8 ⟨rfl, hw8⟩)
                        go_roundg (mid - a')
                        case measure => omega
                        case rel =>
                          refine ⟨a', mid, (rd ltInt dk a' b' lim wb wp).lim, decide (b' - mid ≥ (b' - a') / 8), ap, pdq ltInt d4 (mid + 1) b' (rd ltInt dk a' b' lim wb wp).lim true true, rfl, rfl, rfl, ?_, rfl, by omega, by omega, Nat.le_refl _, by omega, Nat.le_trans rd_lim_le hlim, by rw [pL.1, hs4], (r7 _ pL sL).1, hw8, ?_⟩
                          · exact congrArg Value.bool (eighth (by omega) (by omega))
                          · rw [← A.out, pdq_right h12 hl0 hp2 h87 (by rw [hx]; exact ⟨r1, r2⟩) (by rw [hx]; exact h4), hx]
end Go.Proofs.YtajeaefpapnkbaaGreatDoor.BS
