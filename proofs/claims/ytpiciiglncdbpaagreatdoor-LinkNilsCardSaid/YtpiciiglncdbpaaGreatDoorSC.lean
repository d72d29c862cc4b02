-- WRITTEN FOR THIS CLAIM BY A PROGRAM OF THIS SESSION (wip/tools), which turns the lines of the kit's print
import Derived.Test.YtpiciiglncdbpaaGreatDoor0
import Derived.Test.YtpiciiglncdbpaaGreatDoorSA
import Derived.Lib.OthersKept
namespace Go.Proofs.YtpiciiglncdbpaaGreatDoor.P
open Go.RowKit Go.Proofs.YtpiciiglncdbpaaGreatDoorW.PrintWords Go.Proofs.YtpiciiglncdbpaaGreatDoorW.PrintLast Go.Proofs.YtpiciiglncdbpaaGreatDoorW.PrintMore
attribute [local go_sem] max2_int min2_int max_two min_two max_three min_three max_four min_four   -- for this text's walks alone
set_option linter.unusedVariables false
set_option linter.unusedSimpArgs false

/-! ### shared C -/
-- IMPORTS Derived.Lib.OthersKept
/-! cuts of ASCII texts, plain -/
def asciiB (s : ByteArray) : Bool := s.data.toList.all fun c => c < 128
theorem asciiB_at {s : ByteArray} (h : asciiB s = true) {k : Nat} (hk : k < s.size) : (s[k]).toNat < 128 := by
  unfold asciiB at h
  rw [List.all_eq_true] at h
  have := h s[k] (by rw [ByteArray.getElem_eq_getElem_data]; simp)
  simpa [UInt8.lt_iff_toNat_lt] using this
def inTo (set : ByteArray) (q : Nat) (c : UInt8) : Bool := (set.data.toList.take q).any (· == c)
def inB (set : ByteArray) (c : UInt8) : Bool := set.data.toList.any (· == c)
theorem inTo_succ (set : ByteArray) (c : UInt8) {q : Nat} (hq : q < set.size) : inTo set (q + 1) c = (inTo set q c || (set[q] == c)) := by
  unfold inTo
  rw [List.take_succ_eq_append_getElem (by rw [← ByteArray_size]; exact hq), List.any_append]
  simp [ByteArray.getElem_eq_getElem_data]
theorem inTo_all (set : ByteArray) (c : UInt8) : inTo set set.size c = inB set c := by
  unfold inTo inB
  rw [List.take_of_length_le (by rw [← ByteArray_size]; exact Nat.le_refl _)]
theorem eq_i32 (a b : UInt8) : (((a.toNat : Int)) == (b.toNat : Int)) = (b == a) := by
  rw [Bool.eq_iff_iff]
  simp [← UInt8.toNat_inj]
  omega
/-- The bytes from k on. -/
def from_ (s : ByteArray) (k : Nat) : ByteArray := s.extract k s.size
theorem from_data (s : ByteArray) (k : Nat) : (from_ s k).data.toList = s.data.toList.drop k := by
  unfold from_
  rw [ByteArray.data_extract]
  simp [List.take_of_length_le]
theorem ba_ext {a b : ByteArray} (h : a.data.toList = b.data.toList) : a = b := by
  obtain ⟨⟨a⟩⟩ := a
  obtain ⟨⟨b⟩⟩ := b
  simp at h
  rw [h]
def cutIx (s set : ByteArray) : Nat := s.data.toList.findIdx fun c => !inB set c
def cutL (s set : ByteArray) : ByteArray := from_ s (cutIx s set)
theorem cutIx_at {s set : ByteArray} {k : Nat} (hk : k < s.size) (h : inB set s[k] = false) (hl : ∀ j (hj : j < s.size), j < k → inB set s[j] = true) : cutIx s set = k := by
  unfold cutIx
  rw [List.findIdx_eq (by rw [← ByteArray_size]; exact hk)]
  refine ⟨by simpa [ByteArray.getElem_eq_getElem_data] using h, fun j hj => ?_⟩
  have := hl j (by omega) hj
  simpa [ByteArray.getElem_eq_getElem_data] using this
theorem cutL_none {s set : ByteArray} (hl : ∀ j (hj : j < s.size), inB set s[j] = true) : cutL s set = ⟨#[]⟩ := by
  apply ba_ext
  unfold cutL
  rw [from_data]
  have e : cutIx s set = s.data.toList.length := by
    unfold cutIx
    rw [List.findIdx_eq_length]
    intro x hx
    obtain ⟨j, hj, rfl⟩ := List.getElem_of_mem hx
    have := hl j (by rw [ByteArray_size]; exact hj)
    simpa [ByteArray.getElem_eq_getElem_data] using this
  rw [e]
  simp
/-- The first k bytes. -/
def to_ (s : ByteArray) (k : Nat) : ByteArray := s.extract 0 k
theorem to_data (s : ByteArray) (k : Nat) : (to_ s k).data.toList = s.data.toList.take k := by
  unfold to_
  rw [ByteArray.data_extract]
  simp
theorem to_size (s : ByteArray) {k : Nat} (hk : k ≤ s.size) : (to_ s k).size = k := by
  rw [ByteArray_size, to_data, List.length_take, ← ByteArray_size]; omega
theorem to_at (s : ByteArray) {k j : Nat} (hk : k ≤ s.size) (hj : j < k) : (to_ s k)[j]'(by rw [to_size s hk]; exact hj) = s[j]'(by omega) := by
  have h : (to_ s k).data.toList[j]'(by rw [to_data, List.length_take, ← ByteArray_size]; omega) = s.data.toList[j]'(by rw [← ByteArray_size]; omega) := by
    simp only [to_data, List.getElem_take]
  simpa [ByteArray.getElem_eq_getElem_data] using h
/-- How many bytes stay. -/
def cutRx (s set : ByteArray) : Nat → Nat
  | 0 => 0
  | k + 1 => if h : k < s.size then (if inB set s[k] then cutRx s set k else k + 1) else cutRx s set k
def cutR (s set : ByteArray) : ByteArray := to_ s (cutRx s set s.size)
theorem to_all (s : ByteArray) : to_ s s.size = s := by
  apply ba_ext
  rw [to_data, List.take_of_length_le (by rw [← ByteArray_size]; exact Nat.le_refl _)]
theorem to_to (s : ByteArray) {k j : Nat} (hj : j ≤ k) : (to_ s k).extract 0 j = to_ s j := by
  show to_ (to_ s k) j = to_ s j
  apply ba_ext
  rw [to_data, to_data, to_data, List.take_take, Nat.min_eq_left hj]
theorem to_zero (s : ByteArray) : to_ s 0 = ⟨#[]⟩ := by
  apply ba_ext
  rw [to_data]
  rfl
theorem iterPos_at {w : World} {k : Nat} {s : ByteArray} {p : Nat} (h : w.heap[k]? = some (.stringIter s p)) : w.iterPos k = p := by simp [World.iterPos, h]

end Go.Proofs.YtpiciiglncdbpaaGreatDoor.P
