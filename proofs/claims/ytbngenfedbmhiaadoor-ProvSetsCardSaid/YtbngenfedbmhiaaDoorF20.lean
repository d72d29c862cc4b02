-- WRITTEN FOR THIS CLAIM BY A PROGRAM OF THIS SESSION (wip/tools), which turns the lines of the kit's print
import Derived.Test.YtbngenfedbmhiaaDoor0
import Derived.Test.YtbngenfedbmhiaaDoorSA
import Derived.Test.YtbngenfedbmhiaaDoorSV
import Derived.Test.YtbngenfedbmhiaaDoorF29
import Derived.Test.YtbngenfedbmhiaaDoorF62
import Derived.Test.YtbngenfedbmhiaaDoorF52
import Derived.Test.YtbngenfedbmhiaaDoorF31
import Derived.Shelf.Strings.SlTrimAscii
import Derived.Test.YtbngenfedbmhiaaDoorShelf
namespace Go.Proofs.YtbngenfedbmhiaaDoor.P
open Go.RowKit Go.Proofs.YtbngenfedbmhiaaDoorW.PrintWords Go.Proofs.YtbngenfedbmhiaaDoorW.PrintLast Go.Proofs.YtbngenfedbmhiaaDoorW.PrintMore
attribute [local go_sem] max2_int min2_int max_two min_two max_three min_three max_four min_four   -- for this text's walks alone
set_option linter.unusedVariables false
set_option linter.unusedSimpArgs false

/-! ### prov_isProduct: function 20 -/
-- IMPORTS Derived.Shelf.Strings.SlTrimAscii Derived.Test.YtbngenfedbmhiaaDoorShelf
/-- '[]byte(s)': new memory with the bytes. -/
theorem conv_any {P : Program} {src dst e : TypeId} {u : TypeDesc} (hs : P.underlying src = some u) (hd : P.underlying dst = some (.slice e)) (he : P.underlying e = some (.int .u8)) (W : World) (s : ByteArray) (hsz : s.size ≤ 9223372036854775807) :
    ∃ (c : Nat) (W1 : World), (convert src dst (.string s)).run P W = .ok (.slice (some ⟨W.heap.size, 0, none⟩) s.size c) W1 ∧ s.size ≤ c ∧ Below W.heap.size W W1 ∧ W1.heap.size = W.heap.size + 1 ∧ Kd.C (Kd.int .u8) W1 (some ⟨W.heap.size, 0, none⟩) (bytesOf s).length (bytesOf s) := by
  refine ⟨_, _, Lib.run_convert_string_bytes W src dst e s hs hd he, ?_, bytes_below (Below.refl _ _) (Nat.le_refl _) e s, Lib.bytesWorld_size _ _ _, ?_⟩
  · exact grownCap_ge _ _ _ _
  · rw [bytesOf_length]; exact Kd.C_of_reads (d := (0 : Int)) (h1 := fun _ => rfl) (bytes_reads W e s hsz)
def trimB (s : ByteArray) : ByteArray := ⟨(Lib.trimS s.data.toList [97, 98, 99, 100, 101, 102, 103, 104]).toArray⟩
def srtAt (s : ByteArray) (j : Nat) : Bool := j == 0 || decide (bt s ((j : Int) - 1) ≤ bt s j)
def sortedB (s : ByteArray) : Bool := (List.range s.size).all (srtAt s)
theorem cs_contains (b : UInt8) : ([97, 98, 99, 100, 101, 102, 103, 104] : List UInt8).contains b = (decide (97 ≤ b.toNat) && decide (b.toNat < 105)) := by
  rw [Bool.eq_iff_iff]
  simp [← UInt8.toNat_inj]
  omega
theorem dropWhile_nil {α : Type} (p : α → Bool) (l : List α) : l.dropWhile p = [] ↔ ∀ x ∈ l, p x = true := by
  induction l with
  | nil => simp
  | cons a l ih =>
    rw [List.dropWhile_cons]
    split
    · rw [ih]; simp [*]
    · simp [*]
theorem trim_nil (l cs : List UInt8) : (Lib.trimS l cs).isEmpty = l.all (cs.contains ·) := by
  rw [Bool.eq_iff_iff, List.isEmpty_iff, List.all_eq_true]
  unfold Lib.trimS Lib.trimLeftS Lib.trimRightS
  rw [dropWhile_nil]
  constructor
  · intro h x hx
    have hx' : x ∈ l.reverse := by simpa using hx
    rw [← List.takeWhile_append_dropWhile (p := (cs.contains ·)) (l := l.reverse), List.mem_append] at hx'
    rcases hx' with h1 | h1
    · have := List.all_takeWhile (p := (cs.contains ·)) (l := l.reverse)
      rw [List.all_eq_true] at this
      exact this x h1
    · exact h x (by simpa using h1)
  · intro h x hx
    have h1 : x ∈ l.reverse.dropWhile (cs.contains ·) := by simpa using hx
    exact h x (by have := (List.dropWhile_sublist (cs.contains ·) (l := l.reverse)).subset h1; simpa using this)
theorem trimB_empty (s : ByteArray) : (trimB s).toList.isEmpty = (List.range s.size).all fun j => decide (97 ≤ bt s (j : Nat)) && decide (bt s (j : Nat) < 105) := by
  have e0 : (trimB s).toList = Lib.trimS s.data.toList [97, 98, 99, 100, 101, 102, 103, 104] := by
    rw [show (trimB s).toList = (trimB s).data.toList from by simp [ByteArray.toList_eq]]
    rfl
  rw [e0, trim_nil, Bool.eq_iff_iff, List.all_eq_true, List.all_eq_true]
  constructor
  · intro h j hj
    have hj : j < s.size := by simpa using hj
    have hj' : j < s.data.toList.length := by rw [← ByteArray_size]; exact hj
    have := h _ (getD_mem 0 hj')
    rw [cs_contains] at this
    rw [bt_lt s hj]
    simp at this ⊢
    omega
  · intro h x hx
    obtain ⟨j, hj, rfl⟩ := List.getElem_of_mem hx
    have hj' : j < s.size := by rw [ByteArray_size]; exact hj
    have := h j (by simpa using hj')
    rw [bt_lt s hj', getD_lt 0 hj] at this
    rw [cs_contains]
    simp at this ⊢
    omega
theorem tokB_eq (s : ByteArray) : (decide (s.size ≤ 12) && ((trimB s).toList.isEmpty && sortedB s)) = tokB s := by
  rw [trimB_empty]
  unfold tokB sortedB tokTo
  rw [Bool.eq_iff_iff]
  simp only [Bool.and_eq_true, List.all_eq_true, List.mem_range, tokAt, srtAt]
  constructor
  · rintro ⟨h1, h2, h3⟩
    exact ⟨fun j hj => ⟨(h2 j hj).1, (h2 j hj).2, h3 j hj⟩, h1⟩
  · rintro ⟨h1, h2⟩
    exact ⟨h2, fun j hj => ⟨(h1 j hj).1, (h1 j hj).2.1⟩, fun j hj => (h1 j hj).2.2⟩
open Go.Shelf Go.Lib in
theorem trim_any (s : ByteArray) (w : World) (hs : s.size ≤ 140737488351232) :
    Calls Tryd.prog 30 #[.string s, .string ⟨#[97, 98, 99, 100, 101, 102, 103, 104]⟩] w fun e w' => e = .returned (.string (trimB s)) ∧ Below w.heap.size w w' :=
  Any.strings_Trim_laid Tryd.lays160 (by kernel_rfl) s ⟨#[97, 98, 99, 100, 101, 102, 103, 104]⟩ w (by omega) (by decide) (ascii_of_all (by decide))
theorem isSorted_l0 (s : ByteArray) (hs : s.size ≤ 140737488351232) (i : Nat) : ∀ k, i < s.size → i < k → (∀ j, i < j → j < s.size → srtAt s j = true) → slices_IsSorted_byte_byte.l0 k (bytesOf s) (i : Int) = some (sortedB s) := by
  induction i with
  | zero =>
    intro k hi hk h
    obtain ⟨k, rfl⟩ : ∃ m, k = m + 1 := ⟨k - 1, by omega⟩
    simp only [slices_IsSorted_byte_byte.l0]
    rw [if_neg (by omega)]
    congr 1; symm
    unfold sortedB
    rw [List.all_eq_true]
    intro j hj
    rcases Nat.eq_zero_or_pos j with rfl | h0
    · rfl
    · exact h j h0 (by simpa using hj)
  | succ i ih =>
    intro k hi hk h
    obtain ⟨k, rfl⟩ : ∃ m, k = m + 1 := ⟨k - 1, by omega⟩
    have hw : wrap64 (((i + 1 : Nat) : Int) - 1) = (i : Int) := by rw [wrap64_of (by omega) (by omega)]; omega
    have hl := bytesOf_length s
    simp only [slices_IsSorted_byte_byte.l0]
    rw [if_pos (by omega), if_pos (by omega), if_pos (by omega), hw, if_pos (by omega), if_pos (by omega), rd_bytesOf, rd_bytesOf]
    simp only [cmp_Less_byte.f, cmp_isNaN_byte.f, Option.bind_some, bne_self_eq_false, Bool.false_eq_true, if_false]
    by_cases c : bt s ((i + 1 : Nat) : Int) < bt s (i : Int)
    · rw [decide_eq_true c, if_pos rfl]
      congr 1; symm
      cases hb : sortedB s with
      | false => rfl
      | true =>
        unfold sortedB at hb
        rw [List.all_eq_true] at hb
        have := hb (i + 1) (by simpa using hi)
        unfold srtAt at this
        rw [show (((i + 1 : Nat) : Int) - 1) = (i : Int) from by omega] at this
        simp only [Bool.or_eq_true, beq_iff_eq, decide_eq_true_eq] at this
        omega
    · rw [decide_eq_false c, if_neg (by simp)]
      refine ih k (by omega) (by omega) fun j h1 h2 => ?_
      rcases Nat.lt_or_ge (i + 1) j with h3 | h3
      · exact h j h3 h2
      · obtain rfl : j = i + 1 := by omega
        unfold srtAt
        rw [show (((i + 1 : Nat) : Int) - 1) = (i : Int) from by omega]
        simp only [Bool.or_eq_true, beq_iff_eq, decide_eq_true_eq]
        omega
theorem isSorted_f (s : ByteArray) (hs : s.size ≤ 140737488351232) : slices_IsSorted_byte_byte.f (s.size + 1) (bytesOf s) = some (sortedB s) := by
  unfold slices_IsSorted_byte_byte.f
  rw [bytesOf_length]
  rcases Nat.eq_zero_or_pos s.size with h0 | h0
  · rw [h0]
    have hw : wrap64 (((0 : Nat) : Int) - 1) = -1 := by rw [wrap64_of (by omega) (by omega)]; omega
    rw [hw]
    simp only [slices_IsSorted_byte_byte.l0]
    rw [if_neg (by omega)]
    unfold sortedB; rw [h0]; rfl
  · have hw : wrap64 ((s.size : Int) - 1) = ((s.size - 1 : Nat) : Int) := by rw [wrap64_of (by omega) (by omega)]; omega
    rw [hw]
    exact isSorted_l0 s hs (s.size - 1) _ (by omega) (by omega) fun j h1 h2 => by omega
theorem sorted_any (A : Option Addr) (c : Nat) (s : ByteArray) (w : World) (hr : Kd.C (Kd.int .u8) w A (bytesOf s).length (bytesOf s)) (hs : s.size ≤ 140737488351232) (hc : s.size ≤ c) :
    Calls Tryd.prog 31 #[.slice A s.size c] w fun e w' => e = .returned (.bool (sortedB s)) ∧ Drawn0 w w' := by
  have h := slices_IsSorted_byte_byte.calls _ A c (bytesOf s) _ w hr (by rw [bytesOf_length]; exact hc) (isSorted_f s hs)
  rw [bytesOf_length] at h
  exact h
theorem between_any (a b c : Int) (w : World) : Calls Tryd.prog 29 #[.int .i64 a, .int .i64 b, .int .i64 c] w fun e w' => e = .returned (.bool (decide (a ≤ b) && decide (b ≤ c))) ∧ Drawn0 w w' :=
  prov_between.calls a b c _ w (by unfold prov_between.f; split <;> simp [*])
set_option maxHeartbeats 1000000 in
theorem isProduct_any (s : ByteArray) (n : Int) (w : World) (hs : s.size ≤ 140737488351232) :
    Calls Tryd.prog 20 #[.agg #[.string s, .int .i64 n]] w fun e w' => e = .returned (.bool (decide (s.size ≤ 12) && ((trimB s).toList.isEmpty && (sortedB s && (decide (1 ≤ n) && decide (n ≤ 100000)))))) ∧ Below w.heap.size w w' := by
  obtain ⟨c, W1, hrun, hc, hb0, hz, hC⟩ := conv_any (P := Tryd.prog) Tryd.underlying9 Tryd.underlying36 Tryd.underlying5 (w.alloc (.cells #[.string s, .int .i64 n] 31)) s (by omega)
  have hb : Below w.heap.size w W1 := ((Below.refl _ w).alloc (Nat.le_refl _) _).trans (hb0.mono (by simp))
  have k0 : W1.cell? ⟨w.heap.size, 0, none⟩ = some (.string s) := by rw [hb0.cell (by simp)]; go_simp
  have k1 : W1.cell? ⟨w.heap.size, 1, none⟩ = some (.int .i64 n) := by rw [hb0.cell (by simp)]; go_simp
  have HZ := Lib.hid hz; clear hz hb0
  rw [show (w.alloc (.cells #[.string s, .int .i64 n] 31)).heap.size = w.heap.size + 1 by simp] at hC hrun
  have HC := Lib.hid hC; clear hC
  have HT := Lib.hid (fun W => trim_any s W hs)
  by_cases h1 : s.size ≤ 12
  · have g1 : decide (s.size ≤ 12) = true := decide_eq_true h1
    have HN : Hid (∀ a b : Bool, (decide (s.size ≤ 12) && (a && b)) = (a && b)) := fun a b => by rw [g1]; rfl
    go_enter Tryd.func20, Tryd.ntmps20
    go_wp2_with fail
    ((with_reducible refine (HT.out _).mono ?_); rintro e w1 ⟨rfl, hb1⟩)
    cases h2 : (trimB s).toList.isEmpty with
    | true =>
      go_wp2_with fail
      ((with_reducible refine (sorted_any _ _ s _ (Kd.C_below HC.out hb1) hs hc).mono ?_); rintro e w2 ⟨rfl, ⟨m, rfl⟩⟩)
      have hb2 : Below w.heap.size w w1 := hb.trans (hb1.mono hb.size)
      have k2 : w1.cell? ⟨w.heap.size, 1, none⟩ = some (.int .i64 n) := by
        rw [hb1.cell (by have := HZ.out; simp at this ⊢; omega)]; exact k1
      cases h3 : sortedB s with
      | true =>
        go_wp2_with fail
        ((with_reducible refine (between_any _ _ _ _).mono ?_); rintro e w2 ⟨rfl, ⟨m1, rfl⟩⟩)
        go_wp2_with fail
        go_ret
        exact ⟨ret_bool (by first | rfl | (rw [HN.out, h2]; rfl) | (rw [HN.out, h2, h3]; rfl)), pw_below_drewN hb2 _⟩
      | false =>
        go_wp2_with fail
        go_ret
        exact ⟨ret_bool (by first | rfl | (rw [HN.out, h2]; rfl) | (rw [HN.out, h2, h3]; rfl)), pw_below_drewN hb2 _⟩
    | false =>
      go_wp2_with fail
      go_ret
      exact ⟨ret_bool (by first | rfl | (rw [HN.out, h2]; rfl) | (rw [HN.out, h2, h3]; rfl)), hb.trans (hb1.mono hb.size)⟩
  · have g1 : decide (s.size ≤ 12) = false := decide_eq_false h1
    have HN : Hid (∀ a : Bool, (decide (s.size ≤ 12) && a) = false) := fun a => by rw [g1]; rfl
    go_enter Tryd.func20, Tryd.ntmps20
    go_wp2_with fail
    go_ret
    exact ⟨ret_bool (by first | rfl | rw [HN.out]), hb⟩
def prov_isProduct.f (a0_0 : ByteArray) (a0_1 : Int) : Option Bool := if a0_0.size ≤ 140737488351232 then some (prodB ⟨a0_0, a0_1⟩) else none
theorem prov_isProduct.calls (a0_0 : ByteArray) (a0_1 : Int) (r : Bool) (w : World) (h : prov_isProduct.f a0_0 a0_1 = some r) :
    Calls Tryd.prog 20 #[.agg #[.string a0_0, .int .i64 a0_1]] w fun e w' => e = .returned (.bool r) ∧ Below w.heap.size w w' := by
  unfold prov_isProduct.f at h
  split at h
  · obtain rfl := Option.some.inj h
    have e0 : prodB (⟨a0_0, a0_1⟩ : S31) = (decide (a0_0.size ≤ 12) && ((trimB a0_0).toList.isEmpty && (sortedB a0_0 && (decide (1 ≤ a0_1) && decide (a0_1 ≤ 100000))))) := by
      unfold prodB
      rw [← tokB_eq]
      simp only [Bool.and_assoc]
    rw [e0]
    exact isProduct_any a0_0 a0_1 w ‹_›
  · cases h

end Go.Proofs.YtbngenfedbmhiaaDoor.P
