-- WRITTEN FOR THIS CLAIM BY A PROGRAM OF THIS SESSION (wip/tools), which turns the lines of the kit's print
import Derived.Test.YtbngenfedbmhiaaDoor0
import Derived.Test.YtbngenfedbmhiaaDoorSA
import Derived.Test.YtbngenfedbmhiaaDoorSW
import Derived.Test.YtbngenfedbmhiaaDoorShelf
import Derived.Shelf.SlicesE.Compact
import Derived.Lib.ConvBytes
namespace Go.Proofs.YtbngenfedbmhiaaDoor.P
open Go.RowKit Go.Proofs.YtbngenfedbmhiaaDoorW.PrintWords Go.Proofs.YtbngenfedbmhiaaDoorW.PrintLast Go.Proofs.YtbngenfedbmhiaaDoorW.PrintMore
attribute [local go_sem] max2_int min2_int max_two min_two max_three min_three max_four min_four   -- for this text's walks alone
set_option linter.unusedVariables false
set_option linter.unusedSimpArgs false

/-! ### slices_Compact_byte_byte: function 11 -/
-- IMPORTS Derived.Test.YtbngenfedbmhiaaDoorShelf Derived.Shelf.SlicesE.Compact Derived.Lib.ConvBytes
open Go.Shelf Go.Sort Go.Lib
theorem compactB_any (blk cap : Nat) (d : Array Int) (w : World) (hH : Holds (Value.int .u8) w blk 0 d) (hs : d.size ≤ 140737488351232) (hc : d.size ≤ cap) :
    Calls Tryd.prog 11 #[.slice (some ⟨blk, 0, none⟩) d.size cap] w fun e w' => e = .returned (.slice (some ⟨blk, 0, none⟩) (compactUpTo d d.size).length cap) ∧
      ∃ q, w' = putRow (Value.int .u8) (Sort.ahead w q) blk 0 (compactUpTo d d.size ++ List.replicate (d.size - (compactUpTo d d.size).length) 0).toArray :=
  AnyE.slices_Compact Tryd.compactB (Value.int .u8) (fun _ => rfl) (EqlAt.intD _ _ .u8) (NeqAt.intD _ _ .u8) 0 (fun _ => by kernel_rfl) blk 0 cap d w hH (by omega) hc
theorem compact_len (d : Array Int) : (compactUpTo d d.size).length ≤ d.size := by
  unfold compactUpTo
  rw [List.length_map]
  refine Nat.le_trans (List.length_filter_le _ _) ?_
  simp
/-- '[]byte(s)', its row known whole enough: the bytes, none of them frozen. -/
theorem conv_holds {P : Program} {src dst e : TypeId} {u : TypeDesc} (hs : P.underlying src = some u) (hd : P.underlying dst = some (.slice e)) (he : P.underlying e = some (.int .u8)) (W : World) (s : ByteArray) :
    ∃ (c : Nat) (W1 : World), (convert src dst (.string s)).run P W = .ok (.slice (some ⟨W.heap.size, 0, none⟩) s.size c) W1 ∧ s.size ≤ c ∧ Below W.heap.size W W1 ∧ W1.heap.size = W.heap.size + 1 ∧ Holds (Value.int .u8) W1 W.heap.size 0 (bytesOf s).toArray := by
  refine ⟨_, _, Lib.run_convert_string_bytes W src dst e s hs hd he, grownCap_ge _ _ _ _, bytes_below (Below.refl _ _) (Nat.le_refl _) e s, Lib.bytesWorld_size _ _ _, ?_⟩
  intro j hj
  have hj' : j < s.size := by simpa [bytesOf_length] using hj
  have hjl : j < s.data.toList.length := by rw [← ByteArray_size]; exact hj'
  have hb : (bytesOf s).toArray[j]! = ((s.data.toList.getD j 0).toNat : Int) := by
    rw [getElem!_pos _ j hj]
    simp only [bytesOf, List.getElem_toArray, List.getElem_map]
    rw [getD_lt 0 hjl]
  rw [Nat.zero_add, hb]
  refine ⟨Lib.bytesWorld_cell W e s j hj', ?_⟩
  unfold World.frozen?
  rw [Lib.bytesWorld_at_new]
  have : j < (Lib.bytesCells W e s).size := by
    unfold Lib.bytesCells
    simp
    have : s.data.size = s.size := rfl
    omega
  simp
  omega
set_option maxHeartbeats 1000000 in
/-- Behind slices.Compact: what stands in the row, and 'string(..)' of it. -/
theorem compact_once (blk cap : Nat) (s : ByteArray) (w : World) (hH : Holds (Value.int .u8) w blk 0 (bytesOf s).toArray) (hs : s.size ≤ 140737488351232) (hc : s.size ≤ cap) :
    Calls Tryd.prog 11 #[.slice (some ⟨blk, 0, none⟩) s.size cap] w fun e w' => ∃ n : Nat, e = .returned (.slice (some ⟨blk, 0, none⟩) n cap) ∧ Below blk w w' ∧ w'.heap.size = w.heap.size ∧
      ∀ W, Below w'.heap.size w' W → (convert 36 9 (.slice (some ⟨blk, 0, none⟩) n cap)).run Tryd.prog W = .ok (.string (onceB s)) W := by
  have hl : (bytesOf s).toArray.size = s.size := by simp [bytesOf_length]
  have h := compactB_any blk cap (bytesOf s).toArray w hH (by omega) (by omega)
  rw [hl] at h
  refine h.mono ?_
  rintro e w' ⟨rfl, q, rfl⟩
  have hlen := compact_len (bytesOf s).toArray
  rw [hl] at hlen
  refine ⟨_, rfl, ?_, by simp, ?_⟩
  · exact ⟨rfl, rfl, rfl, by simp, fun k hk => by
      unfold putRow mapBlock
      simp only [Array.getElem?_modify]
      rw [if_neg (by omega)]
      rfl⟩
  · intro W hW
    have hd : (compactUpTo (bytesOf s).toArray s.size ++ List.replicate (s.size - (compactUpTo (bytesOf s).toArray s.size).length) 0).toArray.size = (bytesOf s).toArray.size := by
      simp [bytesOf_length]
      omega
    have hx : runsB s = compactUpTo (bytesOf s).toArray s.size := by unfold runsB; rw [hl]
    rw [← hx] at hd hlen hW ⊢
    have hblk : (runsB s).length ≠ 0 → blk < w.heap.size := fun h0 => by
      have := (hH 0 (by rw [hl]; omega)).1
      exact World.block_lt_of_cell? w _ this
    have hC : (Kd.int .u8).C W (some ⟨blk, 0, none⟩) (runsB s).length (runsB s) := by
      refine Kd.C_of_reads (d := (0 : Int)) (h1 := fun _ => rfl) ⟨rfl, by omega, fun h0 => ⟨_, rfl, fun j hj => ?_⟩⟩
      have hb := hblk (by omega)
      have h1 : (⟨blk, 0, none⟩ : Addr).add j = ⟨blk, 0 + j, none⟩   := by simp [Addr.add]; exact fun h => h.symm
      rw [h1, hW.cell (by simp; exact hb), cell?_putRow (Value.int .u8) (Sort.ahead w q) blk 0 (bytesOf s).toArray _ (fun i hi => hH i hi) hd j (by rw [hd, hl]; omega)]
      congr 2
      rw [getElem!_pos _ j (by rw [hd, hl]; omega)]
      simp only [List.getElem_toArray]
      rw [List.getElem_append_left hj, getD_lt 0 hj]
    exact Kd.C_string Tryd.underlying36 Tryd.underlying5 Tryd.underlying9 hC

end Go.Proofs.YtbngenfedbmhiaaDoor.P
