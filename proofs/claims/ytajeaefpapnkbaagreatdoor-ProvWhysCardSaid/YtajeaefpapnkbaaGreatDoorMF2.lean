import Derived.Test.YtajeaefpapnkbaaGreatDoor0
import Derived.Test.YtajeaefpapnkbaaGreatDoorMS
import Derived.Test.YtajeaefpapnkbaaGreatDoorShelf
import Derived.Test.YtajeaefpapnkbaaGreatDoorMSort
import Derived.Sort.LotA
import Derived.Test.YtajeaefpapnkbaaGreatDoorMF
import Derived.Laws.AppendOwn
import Derived.OwnWalk
import Derived.Lib.AppendStr
import Derived.Lib.OwnBridge
import Derived.Lib.SmallJoins
import Derived.Lib.Bytealg
import Derived.Lib.SliceRun
import Derived.Lib.QuietBelow
-- WRITTEN FOR THIS CLAIM BY A PROGRAM OF THIS SESSION (wip/tools), which turns the lines of the kit's print
namespace Go.Proofs.YtajeaefpapnkbaaGreatDoor.P
open Go.RowKit Go.Proofs.YtajeaefpapnkbaaGreatDoorW.PrintWords Go.Proofs.YtajeaefpapnkbaaGreatDoorW.PrintLast Go.Proofs.YtajeaefpapnkbaaGreatDoorW.PrintMore
attribute [local go_sem] max2_int min2_int max_two min_two max_three min_three max_four min_four   -- for this text's walks alone
set_option linter.unusedVariables false
set_option linter.unusedSimpArgs false

/-! ### slices_Sort_byte_byte: function 26 -/
-- IMPORTS Derived.Test.YtajeaefpapnkbaaGreatDoorShelf Derived.Test.YtajeaefpapnkbaaGreatDoorSort9 Derived.Sort.LotA
open Go.Shelf Go.Sort Go.Lib
/-- The bytes of a text, sorted. -/
def srtB (s : ByteArray) : ByteArray := ⟨(s.data.toList.mergeSort fun x y => decide (x ≤ y)).toArray⟩
theorem srtB_list (s : ByteArray) : (srtB s).data.toList = s.data.toList.mergeSort fun x y => decide (x ≤ y) := rfl
theorem srtB_size (s : ByteArray) : (srtB s).size = s.size := by
  rw [ByteArray_size, srtB_list, List.length_mergeSort, ← ByteArray_size]
theorem bytesOf_srtB (s : ByteArray) : bytesOf (srtB s) = (bytesOf s).mergeSort fun x y => !Go.Sort.ltInt y x := by
  unfold bytesOf
  rw [srtB_list, List.map_mergeSort]
  intro a _ b _
  unfold Go.Sort.ltInt
  rw [Bool.eq_iff_iff]
  simp [UInt8.le_iff_toNat_le]
set_option maxHeartbeats 2000000 in
set_option maxRecDepth 100000 in
theorem sortRaw (g cap : Nat) (d : Array Int) (w : World) (hH : Holds BS.E w g 0 d) (hb : g < w.heap.size) (hsz : d.size < 4611686018427387904) :
    Calls Tryz.prog 26 #[.slice (some ⟨g, 0, none⟩) d.size cap] w fun e w' => e = .returned (.tuple #[]) ∧ ∃ n os, w' = sortWorld BS.E w g 0 n (d.toList.mergeSort fun x y => !Go.Sort.ltInt y x).toArray os := by
  have hlim : Lib.bitLen d.size < 4611686018427387904 := Nat.lt_of_le_of_lt (Lib.bitLen_le d.size 62 (by omega) (by omega)) (by omega)
  have hp := BS.pdqAll swo_ltInt cap ⟨fun _ => rfl, hH, hb⟩ (d.size + 1) 0 d.size (Lib.bitLen d.size) d w (by omega) rfl (SW.start hH) (Nat.zero_le _) (Nat.le_refl _) hsz hlim (Or.inl rfl)
  have hl : Calls Tryz.prog 35 #[.int .u64 (d.size : Int)] w fun e w' => e = .returned (.int .i64 (Lib.bitLen d.size : Nat)) ∧ w' = w := by
    have h := Tryz.bits_Len (d.size : Int) w (by omega) (by omega)
    rwa [Int.toNat_natCast] at h
  have wr : IntKind.u64.wrap (d.size : Int) = d.size := by simp [IntKind.wrap, IntKind.bits, IntKind.signed]; omega
  have hq : ∀ n os, sortWorld BS.E w g 0 n (pdq Go.Sort.ltInt d 0 d.size (Lib.bitLen d.size) true true) os = sortWorld BS.E w g 0 n (d.toList.mergeSort fun x y => !Go.Sort.ltInt y x).toArray os := fun n os => by
    have h := pdq_sorts Go.Sort.ltInt swo_ltInt d 0 d.size (Lib.bitLen d.size) true true (Nat.zero_le _) (Nat.le_refl _) (Or.inl rfl)
    rw [← sorted_unique_holds swo_ltInt (fun x y h1 h2 => by simp [Go.Sort.ltInt] at h1 h2; omega) d _ h.1 h.2]
  have HQ := Lib.hid hq
  clear hH hq
  go_enter Tryz.func26, Tryz.ntmps26
  go_wp2_with (first | (go_at_call 35; refine hl.mono ?_; rintro e w' ⟨rfl, rfl⟩) | (go_at_call 41; refine hp.mono ?_; rintro e w' ⟨rfl, n, os, rfl⟩))
  go_end0
  exact ⟨rfl, n, os, HQ.out n os⟩
/-- The row's bytes, told as a text's. -/
theorem sortB_any (g n cap : Nat) (s : ByteArray) (w : World) (hn : s.size = n) (hH : Holds (Value.int .u8) w g 0 (bytesOf s).toArray) (hb : g < w.heap.size) (hs : n ≤ 140737488351232) :
    Calls Tryz.prog 26 #[.slice (some ⟨g, 0, none⟩) n cap] w fun e w' => e = .returned (.tuple #[]) ∧ Below g w w' ∧ g < w'.heap.size ∧ Holds (Value.int .u8) w' g 0 (bytesOf (srtB s)).toArray := by
  have hl : (bytesOf s).toArray.size = n := by simp [bytesOf_length, hn]
  have h := sortRaw g cap (bytesOf s).toArray w hH hb (by omega)
  rw [hl] at h
  refine h.mono ?_
  rintro e w' ⟨rfl, m, os, rfl⟩
  have hz : ((bytesOf s).toArray.toList.mergeSort fun x y => !Go.Sort.ltInt y x).toArray.size = (bytesOf s).toArray.size := by simp
  rw [bytesOf_srtB]
  refine ⟨rfl, ?_, ?_, ?_⟩
  · refine ⟨rfl, rfl, rfl, ?_, fun k hk => ?_⟩
    · unfold sortWorld grow
      simp
    · unfold sortWorld
      rw [heap_grow_old _ os (by simp [Sort.ahead]; omega)]
      unfold putRow mapBlock
      simp only [Array.getElem?_modify]
      rw [if_neg (by omega)]
      rfl
  · unfold sortWorld grow
    simp [Sort.ahead]
    omega
  · exact (SW.holds (show SW BS.E w g 0 _ _ from ⟨m, os, rfl⟩) hb hH hz)
set_option maxHeartbeats 2000000 in
/-- Nothing to sort: nothing turns. -/
theorem sortB_none (p : Option Addr) (cap : Nat) (w : World) :
    Calls Tryz.prog 26 #[.slice p 0 cap] w fun e w' => e = .returned (.tuple #[]) ∧ w' = w := by
  have hi : ∀ W, Calls Tryz.prog 63 #[.slice p 0 cap, .int .i64 0, .int .i64 0] W fun e w' => e = .returned (.tuple #[]) ∧ w' = W := by
    intro W
    go_enter Tryz.func63, Tryz.ntmps63
    go_wp2
    refine wp_loop_rounds 1 ?_
    rw [rounds_succ]
    go_wp2
    go_end0
    exact ⟨rfl, rfl⟩
  have hp : ∀ W, Calls Tryz.prog 41 #[.slice p 0 cap, .int .i64 0, .int .i64 0, .int .i64 (Lib.bitLen 0 : Nat)] W fun e w' => e = .returned (.tuple #[]) ∧ w' = W := by
    intro W
    go_enter Tryz.func41, Tryz.ntmps41
    go_wp2
    refine wp_loop_rounds 1 ?_
    rw [rounds_succ]
    go_wp2_with (go_at_call 63; refine (hi _).mono ?_; rintro e w' ⟨rfl, rfl⟩)
    (try simp only [Exit.inBlock, Exit.then]); refine bodyPost_ret (results_none rfl _ _ _) rfl ?_
    exact ⟨rfl, rfl⟩
  have hl : ∀ W, Calls Tryz.prog 35 #[.int .u64 0] W fun e w' => e = .returned (.int .i64 (Lib.bitLen 0 : Nat)) ∧ w' = W := fun W => Tryz.bits_Len 0 W (by omega) (by omega)
  go_enter Tryz.func26, Tryz.ntmps26
  go_wp2_with (first | (go_at_call 35; refine (hl _).mono ?_; rintro e w' ⟨rfl, rfl⟩) | (go_at_call 41; refine (hp _).mono ?_; rintro e w' ⟨rfl, rfl⟩))
  go_end0
  exact ⟨rfl, rfl⟩

end Go.Proofs.YtajeaefpapnkbaaGreatDoor.P
-- WRITTEN FOR THIS CLAIM BY A PROGRAM OF THIS SESSION (wip/tools), which turns the lines of the kit's print
namespace Go.Proofs.YtajeaefpapnkbaaGreatDoor.P
open Go.RowKit Go.Proofs.YtajeaefpapnkbaaGreatDoorW.PrintWords Go.Proofs.YtajeaefpapnkbaaGreatDoorW.PrintLast Go.Proofs.YtajeaefpapnkbaaGreatDoorW.PrintMore
attribute [local go_sem] max2_int min2_int max_two min_two max_three min_three max_four min_four   -- for this text's walks alone
set_option linter.unusedVariables false
set_option linter.unusedSimpArgs false

/-! ### prov_Tokens: function 9 -/
-- IMPORTS Derived.Laws.AppendOwn Derived.OwnWalk Derived.Lib.AppendStr Derived.Lib.OwnBridge Derived.Lib.SmallJoins
open Go.Sort Go.Lib
/-- The tokens of all products of a sum, one behind the other. -/
def toksCat (l : List S37) : ByteArray := ⟨(l.flatMap fun x => x.f0.data.toList).toArray⟩
theorem toksCat_data (l : List S37) : (toksCat l).data.toList = l.flatMap fun x => x.f0.data.toList := rfl
def toksOf (l : List S37) : ByteArray := onceB (srtB (toksCat l))
theorem toksCat_take (l : List S37) {k : Nat} (hk : k < l.length) :
    (toksCat (l.take (k + 1))).data.toList = (toksCat (l.take k)).data.toList ++ (l.getD k z37).f0.data.toList := by
  rw [toksCat_data, toksCat_data, List.take_succ_eq_append_getElem hk, List.flatMap_append, getD_lt _ hk]
  simp
theorem toksCat_cells (l : List S37) {k : Nat} (hk : k < l.length) :
    strCells (toksCat (l.take (k + 1))) = strCells (toksCat (l.take k)) ++ strCells (l.getD k z37).f0 ∧ (toksCat (l.take (k + 1))).size = (toksCat (l.take k)).size + (l.getD k z37).f0.size := by
  have h := toksCat_take l hk
  refine ⟨?_, ?_⟩
  · unfold strCells
    rw [h, List.map_append]
  · rw [ByteArray_size, ByteArray_size, ByteArray_size, h, List.length_append]
theorem tok_size {l : List S37} (h : validB l = true) {k : Nat} (hk : k < l.length) : (l.getD k z37).f0.size ≤ 12 :=
  (tokB_ascii (prodB_tok (validB_mem h _ (getD_mem _ hk)))).2
theorem toksCat_size {l : List S37} (h : validB l = true) : ∀ k, k ≤ l.length → (toksCat (l.take k)).size ≤ 12 * k
  | 0, _ => by rw [List.take_zero]; exact Nat.le_refl _
  | k + 1, hk => by
    have := toksCat_size h k (by omega)
    have := (toksCat_cells l (show k < l.length by omega)).2
    have := tok_size h (show k < l.length by omega)
    omega
theorem strCells_bytes (s : ByteArray) : strCells s = (bytesOf s).map (Value.int .u8) := by
  unfold strCells bytesOf
  rw [List.map_map]
  rfl
theorem infoU8 : (Tryz.prog.info? 5).map (fun i => (i.zero, i.size, i.bytes)) = some (some (.int .u8 0), 1, 1) := by kernel_rfl
/-- Nothing to make compact: nothing turns. -/
theorem compact_none (p : Option Addr) (c : Nat) (w : World) :
    Calls Tryz.prog 16 #[.slice p 0 c] w fun e w' => e = .returned (.slice p 0 c) ∧ w' = w := by
  go_enter Tryz.func16, Tryz.ntmps16
  go_wp2
  go_ret
  exact ⟨rfl, rfl⟩
theorem conv_none (W : World) : (convert 41 9 (.slice none 0 0)).run Tryz.prog W = .ok (.string ⟨#[]⟩) W :=
  Kd.C_string Tryz.underlying41 Tryz.underlying5 Tryz.underlying9 (Kd.C_of_reads (enc := Value.int .u8) (d := (0 : Int)) (xs := []) (h1 := fun _ => rfl) ⟨rfl, by simp, fun h0 => absurd h0 (Nat.lt_irrefl _)⟩)
theorem toks_none {s : ByteArray} (h : s.size = 0) : onceB (srtB s) = ⟨#[]⟩ := by
  have e : s = ⟨#[]⟩ := by
    apply ba_ext
    rw [ByteArray_size] at h
    exact List.eq_nil_of_length_eq_zero h
  rw [e]
  have e2 : srtB ⟨#[]⟩ = ⟨#[]⟩ := by
    apply ba_ext
    rw [srtB_list]
    simp
  rw [e2]
  rfl
set_option maxHeartbeats 4000000 in
set_option maxRecDepth 100000 in
theorem tokens_any (A : Option Addr) (c : Nat) (l : List S37) (w : World) (hr : Kd.C k37 w A l.length l) (hc : l.length ≤ c) (hi : sumIn l = true) (hv : validB l = true) :
    Calls Tryz.prog 9 #[.slice A l.length c] w fun e w' => e = .returned (.tuple #[.string (toksOf l), .int .i64 0]) ∧ Below w.heap.size w w' := by
  obtain ⟨i0, hi0, hj0, hj1, hj2⟩ := info_parts infoU8
  have hval := validSum_any A c l w hr hc hi
  rw [hv] at hval
  have HVal := Lib.hid hval
  clear hval hi
  have h40 : l.length ≤ 40 := by unfold validB at hv; rw [Bool.and_eq_true, decide_eq_true_eq] at hv; exact hv.2
  have HV := Lib.hid hv; clear hv
  go_enter Tryz.func9, Tryz.ntmps9
  go_wp2_with (go_at_call 15; (refine HVal.out.mono ?_); rintro e w1 ⟨rfl, hb1⟩)
  go_loopw [4, 12] (fun v4 v12 wr => ∃ (k n : Nat) (xs : List Value), v12 = .int .i64 k ∧ k ≤ l.length ∧ wr.ownsRow w.heap.size 5 1 v4 n xs ∧ Hid (n = (toksCat (l.take k)).size ∧ xs = strCells (toksCat (l.take k))) ∧ Below w.heap.size w wr) (fun _ v _ => l.length - (intOf v).toNat)
  case atStart => exact ⟨0, 0, [], rfl, by omega, own_nil _ _ _ _, ⟨by rw [List.take_zero]; rfl, by rw [List.take_zero]; rfl⟩, hb1⟩
  case round =>
    obtain ⟨k, n, xs, rfl, hk, hown, HX, hb⟩ := hrel
    by_cases hlt : k < l.length
    · obtain ⟨ad, e1, c0, c1⟩ := at_T37 hr (k : Int) (by omega) (by omega)
      subst e1
      have hx : rd_T37 l (k : Int) = l.getD k z37 := rfl
      rw [hx] at c0 c1
      have hsx := tok_size HV.out hlt
      have hsn : n ≤ 12 * k := by have := toksCat_size HV.out k hk; have := HX.out.1; omega
      have HTK := Lib.hid (toksCat_cells l hlt)
      generalize l.getD k z37 = x at c0 c1 hsx HTK
      clear hx
      simp only [Int.toNat_natCast] at c0 c1
      replace c0 := cell_later hb c0
      replace c1 := cell_later hb c1
      go_wp2_with (at_builtin; refine wpList_append_own_string _ rfl _ _ 41 9 rfl w.heap.size 5 i0 Tryz.underlying41 Tryz.underlying9 hi0 hj0 hj1 hj2 _ _ _ rfl (hown.alloc _) x.f0 rfl ?c1 ?c2 ?c3 ?_)
      case c1 => unfold maxLen; omega
      case c2 => omega
      case c3 => simp; have := hb.size; omega
      intro v1 w3 hown3 hgrow _
      have hb4 : Below w.heap.size w w3 := (hb.alloc hb.size _).grown hgrow (by have := hb.size; simp; omega) (fun j hj => own_base hown j hj)
      clear hgrow
      go_wp2
      go_roundw
      case rel => exact ⟨k + 1, n + x.f0.size, xs ++ strCells x.f0, by go_num, by omega, hown3, ⟨by rw [HTK.out.2, HX.out.1], by rw [HTK.out.1, HX.out.2]⟩, hb4⟩
      case measure => simp [intOf]; omega
    · obtain rfl : k = l.length := by omega
      have hs480 : n ≤ 12 * l.length := by have := toksCat_size HV.out l.length (Nat.le_refl _); have := HX.out.1; omega
      have hall : l.take l.length = l := List.take_of_length_le (Nat.le_refl _)
      have hsn : (toksCat l).size = n := by have := HX.out.1; rw [hall] at this; exact this.symm
      have hxs : xs = (bytesOf (toksCat l)).map (Value.int .u8) := by have := HX.out.2; rw [hall, strCells_bytes] at this; exact this
      clear hall HX
      rcases Go.Joins.ownsRow_forms hown with ⟨rfl, rfl⟩ | ⟨g, cap, rfl⟩
      · have HT : Hid (toksOf l = ⟨#[]⟩) := toks_none hsn
        clear hown hxs hsn
        go_wp2_with (first | (go_at_call 26; refine (sortB_none none 0 _).mono ?_; rintro e w' ⟨rfl, rfl⟩) | (go_at_call 16; refine (compact_none none 0 _).mono ?_; rintro e w' ⟨rfl, rfl⟩))
        rw [conv_none]
        go_wp2
        go_ret2
        rw [HT.out]
        exact ⟨rfl, hb⟩
      · rw [hxs] at hown
        obtain ⟨g', cap', hg, hbase, hgl, hcap, _, _, hH⟩ := holds_of_ownsRow (enc := Value.int .u8) hown (by intro h; cases h)
        injection hg with e1 _ e2
        injection e1 with e1
        injection e1 with e1
        subst e1
        subst e2
        have HSort := Lib.hid (sortB_any g n cap (toksCat l) wr hsn hH hgl (by omega))
        have hsz2 : (srtB (toksCat l)).size = n := by rw [srtB_size, hsn]
        have HT : Hid (toksOf l = onceB (srtB (toksCat l))) := rfl
        have HComp : Hid (∀ w2, Holds (Value.int .u8) w2 g 0 (bytesOf (srtB (toksCat l))).toArray → Calls Tryz.prog 16 #[.slice (some ⟨g, 0, none⟩) n cap] w2 fun e w' => ∃ n : Nat, e = .returned (.slice (some ⟨g, 0, none⟩) n cap) ∧ Below g w2 w' ∧ w'.heap.size = w2.heap.size ∧
            ∀ W, Below w'.heap.size w' W → (convert 41 9 (.slice (some ⟨g, 0, none⟩) n cap)).run Tryz.prog W = .ok (.string (onceB (srtB (toksCat l)))) W) := fun w2 h2 => by
          have h := compact_once g cap (srtB (toksCat l)) w2 h2 (by omega) (by omega)
          rw [hsz2] at h
          exact h
        clear hown hxs hsn hH hsz2
        generalize onceB (srtB (toksCat l)) = out at HT HComp
        go_wp2_with (go_at_call 26; refine HSort.out.mono ?_; rintro e w2 ⟨rfl, hb2, _, hH2⟩)
        go_wp2_with (go_at_call 16; refine (HComp.out _ hH2).mono ?_; rintro e w3 ⟨n2, rfl, hb3, _, hconv0⟩)
        have hconv := hconv0 w3 (Below.refl _ _)
        clear hconv0
        rw [hconv]
        clear hconv
        go_wp2
        go_ret2
        rw [HT.out]
        exact ⟨rfl, hb.trans ((hb2.mono hbase).trans (hb3.mono hbase))⟩
theorem tokens_bad (A : Option Addr) (c : Nat) (l : List S37) (w : World) (hr : Kd.C k37 w A l.length l) (hc : l.length ≤ c) (hi : sumIn l = true) (hv : validB l = false) :
    Calls Tryz.prog 9 #[.slice A l.length c] w fun e w' => e = .returned (.tuple #[.string ⟨#[]⟩, .int .i64 92]) ∧ Below w.heap.size w w' := by
  have hval := validSum_any A c l w hr hc hi
  rw [hv] at hval
  have HVal := Lib.hid hval
  clear hval hi hv
  go_enter Tryz.func9, Tryz.ntmps9
  go_wp2_with (go_at_call 15; (refine HVal.out.mono ?_); rintro e w1 ⟨rfl, hb1⟩)
  go_ret2
  exact ⟨rfl, hb1⟩
def prov_Tokens.f (l0 : List S37) : Option (ByteArray × Int) := if sumIn l0 then (if validB l0 then some (toksOf l0, 0) else some (⟨#[]⟩, 92)) else none
theorem prov_Tokens.calls (A0 : Option Addr) (c0 : Nat) (l0 : List S37) (r1 : ByteArray) (r2 : Int) (w : World) (hr0 : Kd.C k37 w A0 l0.length l0) (hc0 : l0.length ≤ c0) (h : prov_Tokens.f l0 = some (r1, r2)) :
    Calls Tryz.prog 9 #[.slice A0 l0.length c0] w fun e w' => e = .returned (.tuple #[.string r1, .int .i64 r2]) ∧ Below w.heap.size w w' := by
  unfold prov_Tokens.f at h
  split at h
  · rename_i hi
    split at h
    · rename_i hv
      have h := Option.some.inj h
      rw [Prod.mk.injEq] at h
      obtain ⟨rfl, rfl⟩ := h
      exact tokens_any A0 c0 l0 w hr0 hc0 hi hv
    · rename_i hv
      have h := Option.some.inj h
      rw [Prod.mk.injEq] at h
      obtain ⟨rfl, rfl⟩ := h
      exact tokens_bad A0 c0 l0 w hr0 hc0 hi (by simpa using hv)
  · cases h

end Go.Proofs.YtajeaefpapnkbaaGreatDoor.P
-- WRITTEN FOR THIS CLAIM BY A PROGRAM OF THIS SESSION (wip/tools), which turns the lines of the kit's print
namespace Go.Proofs.YtajeaefpapnkbaaGreatDoor.P
open Go.RowKit Go.Proofs.YtajeaefpapnkbaaGreatDoorW.PrintWords Go.Proofs.YtajeaefpapnkbaaGreatDoorW.PrintLast Go.Proofs.YtajeaefpapnkbaaGreatDoorW.PrintMore
attribute [local go_sem] max2_int min2_int max_two min_two max_three min_three max_four min_four   -- for this text's walks alone
set_option linter.unusedVariables false
set_option linter.unusedSimpArgs false

/-! ### firnref09_spared: function 27 -/
mutual
def firnref09_spared.l0 : Nat → Int → List (S37) → List (S37) → Int → Int → Option ((List (S37)))
  | 0, _, _, _, _, _ => none
  | k + 1, x1, x5, x10, x11, x12 => if x12 < x11 then (if 0 ≤ x12 then (if x12 < (x10.length : Int) then (firnref09_spared.l1 k x1 x5 false x10 x11 x12 (((rd_T37 x10 x12).f0).size : Int) 0 ((rd_T37 x10 x12).f0) ((rd_T37 x10 x12).f1)) else (none)) else (none)) else (some x5)
def firnref09_spared.l1 : Nat → Int → List (S37) → Bool → List (S37) → Int → Int → Int → Int → ByteArray → Int → Option ((List (S37)))
  | 0, _, _, _, _, _, _, _, _, _, _ => none
  | k + 1, x1, x5, x8, x10, x11, x12, x18, x19, x128000, x128001 => if x19 < x18 then (if x8 = true then (firnref09_spared.l1 k x1 x5 true x10 x11 x12 x18 (wrap64 (x19 + 1)) x128000 x128001) else (if 0 ≤ x19 then (if x19 < (x128000.size : Int) then (firnref09_spared.l1 k x1 x5 ((bt x128000 x19) == x1) x10 x11 x12 x18 (wrap64 (x19 + 1)) x128000 x128001) else (none)) else (none))) else (if x8 = true then (firnref09_spared.l0 k x1 x5 x10 x11 (wrap64 (x12 + 1))) else (if x5.length < 5864062014805 then (firnref09_spared.l0 k x1 (x5 ++ [(⟨x128000, x128001⟩ : S37)]) x10 x11 (wrap64 (x12 + 1))) else (none)))
end
def firnref09_spared.f (k : Nat) (l0 : List (S37)) (a1 : Int) : Option ((List (S37))) := firnref09_spared.l0 k a1 ([] : List (S37)) l0 (l0.length : Int) 0
theorem firnref09_spared.mono_l : ∀ k, (∀ y0 y1 y2 y3 y4, LeO (firnref09_spared.l0 k y0 y1 y2 y3 y4) (firnref09_spared.l0 (k + 1) y0 y1 y2 y3 y4)) ∧ (∀ y0 y1 y2 y3 y4 y5 y6 y7 y8 y9, LeO (firnref09_spared.l1 k y0 y1 y2 y3 y4 y5 y6 y7 y8 y9) (firnref09_spared.l1 (k + 1) y0 y1 y2 y3 y4 y5 y6 y7 y8 y9))
  | 0 => ⟨fun _ _ _ _ _ r h => by simp [firnref09_spared.l0] at h, fun _ _ _ _ _ _ _ _ _ _ r h => by simp [firnref09_spared.l1] at h⟩
  | k + 1 => by
    obtain ⟨ih0, ih1⟩ := firnref09_spared.mono_l k
    refine ⟨?_, ?_⟩
    · intro y0 y1 y2 y3 y4
      unfold firnref09_spared.l0
      repeat' first
      | (with_reducible exact ih0 _ _ _ _ _)
      | (with_reducible exact ih1 _ _ _ _ _ _ _ _ _ _)
      | (with_reducible exact LeO.refl _)
      | (with_reducible exact LeO.none _)
      | (with_reducible refine LeO.ite ?_ ?_)
      | (with_reducible refine LeO.bind ?_ (fun _ => ?_))
      | exact ih0 _ _ _ _ _
      | exact ih1 _ _ _ _ _ _ _ _ _ _
      | exact LeO.none _
      | refine LeO.ite ?_ ?_
      | refine LeO.bind ?_ (fun _ => ?_)
    · intro y0 y1 y2 y3 y4 y5 y6 y7 y8 y9
      unfold firnref09_spared.l1
      repeat' first
      | (with_reducible exact ih0 _ _ _ _ _)
      | (with_reducible exact ih1 _ _ _ _ _ _ _ _ _ _)
      | (with_reducible exact LeO.refl _)
      | (with_reducible exact LeO.none _)
      | (with_reducible refine LeO.ite ?_ ?_)
      | (with_reducible refine LeO.bind ?_ (fun _ => ?_))
      | exact ih0 _ _ _ _ _
      | exact ih1 _ _ _ _ _ _ _ _ _ _
      | exact LeO.none _
      | refine LeO.ite ?_ ?_
      | refine LeO.bind ?_ (fun _ => ?_)
theorem firnref09_spared.mono : ∀ a0 a1 k, LeO (firnref09_spared.f k a0 a1) (firnref09_spared.f (k + 1) a0 a1) := by
  intro a0 a1 k
  obtain ⟨ih0, ih1⟩ := firnref09_spared.mono_l k
  unfold firnref09_spared.f
  repeat' first
      | (with_reducible exact ih0 _ _ _ _ _)
      | (with_reducible exact ih1 _ _ _ _ _ _ _ _ _ _)
      | (with_reducible exact LeO.refl _)
      | (with_reducible exact LeO.none _)
      | (with_reducible refine LeO.ite ?_ ?_)
      | (with_reducible refine LeO.bind ?_ (fun _ => ?_))
      | exact ih0 _ _ _ _ _
      | exact ih1 _ _ _ _ _ _ _ _ _ _
      | exact LeO.none _
      | refine LeO.ite ?_ ?_
      | refine LeO.bind ?_ (fun _ => ?_)
set_option maxHeartbeats 8000000 in
set_option maxRecDepth 100000 in
theorem firnref09_spared.calls (k : Nat) (A0 : Option Addr) (c0 : Nat) (l0 : List (S37)) (a1 : Int) (r : List (S37)) (w : World) (hr0 : Kd.C k37 w A0 l0.length l0) (hc0 : l0.length ≤ c0) (h : firnref09_spared.f k l0 a1 = some r) :
    Calls Tryz.prog 27 #[.slice A0 l0.length c0, .int .u8 a1] w fun e w' => ∃ v0_ : Value, e = .returned (v0_) ∧ Kd.R k37 37 w' w.heap.size (fun _ => True) v0_ r ∧ Below w.heap.size w w' := by
  have hu37 := Tryz.underlying37
  have HR0 := Aside0.mk hr0
  have HC0 := Aside0.mk hc0
  clear hr0 hc0
  have HB := Aside0.mk (Below.refl w.heap.size w)
  have H : (firnref09_spared.l0 k a1 ([] : List (S37)) l0 (l0.length : Int) 0) = some r := h
  clear h
  have H' := Aside0.mk H
  clear H
  go_enter Tryz.func27, Tryz.ntmps27
  go_wp2
  go_loopg [5, 12] k (fun kq v5 v12 w' => ∃ (x5_1 : List (S37)) (x12_1 : Int), v12 = .int .i64 x12_1 ∧ Aside0 (firnref09_spared.l0 kq a1 x5_1 l0 (l0.length : Int) x12_1 = some r) ∧ Aside0 (kq ≤ k) ∧ Aside0 (Kd.R k37 37 w' w.heap.size (fun _ => True) v5 x5_1) ∧ Aside0 (Below w.heap.size w w'))
  case atStart => exact ⟨(([] : List (S37))), (0), (by first | rfl | (simp; done) | (simp [*]; done)), H', ⟨Nat.le_refl _⟩, ⟨by first | exact Kd.R_nil _ _ _ _ _ | exact Kd.N_nil _ _ _ _ _ | exact Kd.V_nil _ _ _ _ _ | exact Kd.Q_nil _ _ _ _ _ | exact Kd.S_nil _ _ _ _ _⟩, ⟨by repeat (first | (with_reducible first | exact HB.out | apply below_alloc | apply pw_below_drewN | apply below_drew1) | exact HB.out)⟩⟩
  case round =>
    clear H'
    try clear c2
    try clear p2
    obtain ⟨x5_1, x12_1, rfl, HA, HK1, HO_5, HB⟩ := hrel
    cases gk with
    | zero => exact absurd HA.out (by simp [firnref09_spared.l0])
    | succ k1 =>
      have H := HA.out
      clear HA
      simp only [firnref09_spared.l0] at H
      by_cases c3 : x12_1 < (l0.length : Int)
      · rw [if_pos c3] at H
        have c3b0 : decide (x12_1 < (l0.length : Int)) = true := decide_eq_true c3
        clear c3
        by_cases c4 : 0 ≤ x12_1
        · rw [if_pos c4] at H
          have c4b0 : decide (0 ≤ x12_1) = true := decide_eq_true c4
          clear c4
          by_cases c5 : x12_1 < (l0.length : Int)
          · rw [if_pos c5] at H
            have c5b0 : decide (x12_1 < (l0.length : Int)) = true := decide_eq_true c5
            clear c5
            have H' := Aside0.mk H
            clear H
            have p126 : 0 ≤ (x12_1 : Int) := of_decide_eq_true (by first | (with_reducible assumption) | assumption)
            have q126 : x12_1 < (l0.length : Int) := of_decide_eq_true (by first | (with_reducible assumption) | assumption)
            obtain ⟨ad126, e126, hx126_0, hx126_1⟩ := at_T37 HR0.out x12_1 p126 q126
            cases e126
            replace hx126_0 := (HB.out.cell (World.block_lt_of_cell? w _ hx126_0)).trans hx126_0
            replace hx126_1 := (HB.out.cell (World.block_lt_of_cell? w _ hx126_1)).trans hx126_1
            replace p126 := eq_true p126
            replace q126 := eq_true q126
            go_wp2_with (first | ((with_reducible refine gate_dst (N := 7) rfl ?_); refine box_event ?hg (N := 7) ?hd (cs := #[.string (⟨#[]⟩ : ByteArray), .int .i64 0]) (t := 37) ?hr ?_; (case hd => rfl); (case hg => rfl); (case hr => first | (go_simp; done) | (go_simp; rfl)); intro gb127 hg w6 hbox hb; have n0_ := Aside0.mk (Kd.R_below (Kd.R_elderB (by (with_reducible repeat (first | apply Kd.R_alloc | apply Kd.R_drewN | apply Kd.R_drew)); exact HO_5.out) gb127 (Nat.le_of_eq hg.symm)) hb); have n1_ := Aside0.mk (below_step (by repeat (first | (with_reducible first | exact HB.out | apply below_alloc | apply pw_below_drewN | apply below_drew1) | exact HB.out)) hb); have n2_ := Aside0.mk (hbox); have n3_ := Aside0.mk ((by rw [hg]; exact (below_size (by repeat (first | (with_reducible first | exact HB.out | apply below_alloc | apply pw_below_drewN | apply below_drew1) | exact HB.out))) : w.heap.size ≤ gb127)); have n4_ := Aside0.mk ((by rw [hg]; exact (below_size (by repeat (first | (with_reducible first | exact HB.out | apply below_alloc | apply pw_below_drewN | apply below_drew1) | exact HB.out))) : w.heap.size ≤ gb127)); clear HO_5; clear HB; have HO_5 := n0_; have HB := n1_; have BK127 := n2_; have GW127 := n3_; have GE127 := n4_; clear n0_ n1_ n2_ n3_ n4_; clear hb hbox hg; have hcz7_0 : w6.cell? ⟨gb127, 0, none⟩ = some (.string (⟨#[]⟩ : ByteArray)) := (blk_cell BK127.out 0).trans rfl; have hcz7_1 : w6.cell? ⟨gb127, 1, none⟩ = some (.int .i64 0) := (blk_cell BK127.out 1).trans rfl; have hfz7_0 := blk_frozen BK127.out 0; have hfz7_1 := blk_frozen BK127.out 1))
            go_loopg [8, 19] k1 (fun kq v8 v19 w' => ∃ (x8_2 : Bool) (x19_2 : Int), v8 = .bool x8_2 ∧ v19 = .int .i64 x19_2 ∧ Aside0 (firnref09_spared.l1 kq a1 x5_1 x8_2 l0 (l0.length : Int) x12_1 (((rd_T37 l0 x12_1).f0).size : Int) x19_2 ((rd_T37 l0 x12_1).f0) ((rd_T37 l0 x12_1).f1) = some r) ∧ Aside0 (kq ≤ k1) ∧ Aside0 (Kd.R k37 37 w' w.heap.size (fun k_ => k_ ≠ gb127) u5 x5_1) ∧ Aside0 (w'.heap[gb127]? = some (.cells #[.string ((rd_T37 l0 x12_1).f0), .int .i64 ((rd_T37 l0 x12_1).f1)] 37 (0, 0))) ∧ Aside0 (Below w.heap.size w w'))
            case atStart => exact ⟨(false), (0), (by first | rfl | (simp; done) | (simp [*]; done)), (by first | rfl | (simp; done) | (simp [*]; done)), H', ⟨Nat.le_refl _⟩, ⟨by (with_reducible repeat (first | apply Kd.R_alloc | apply Kd.R_drewN | apply Kd.R_drew)); exact Kd.R_mono (Kd.R_far (p := ⟨gb127, 1, none⟩) (Kd.R_far (p := ⟨gb127, 0, none⟩) (Kd.R_mono HO_5.out (fun k_ hk => (⟨hk, hk.2⟩ : _ ∧ k_ ≠ gb127))) (fun _ hk => hk.2) (.string ((rd_T37 l0 x12_1).f0))) (fun _ hk => hk.2) (.int .i64 ((rd_T37 l0 x12_1).f1))) (fun _ hk => hk.1.2)⟩, ⟨by (with_reducible repeat (first | refine blk_drewN ?_ _ | refine blk_drew ?_ | refine blk_alloc ?_ _)); refine blk_put (cs := #[.string ((rd_T37 l0 x12_1).f0), .int .i64 0]) ?_ 1 _ rfl; (with_reducible repeat (first | refine blk_drewN ?_ _ | refine blk_drew ?_ | refine blk_alloc ?_ _)); refine blk_put (cs := #[.string (⟨#[]⟩ : ByteArray), .int .i64 0]) ?_ 0 _ rfl; (with_reducible repeat (first | refine blk_drewN ?_ _ | refine blk_drew ?_ | refine blk_alloc ?_ _)); exact BK127.out⟩, ⟨by repeat (first | (with_reducible first | exact HB.out | apply below_alloc | apply pw_below_drewN | apply below_drew1 | refine below_set ?_ GE127.out) | exact HB.out)⟩⟩
            case round =>
              clear H'
              try clear p1
              try clear q1
              try clear hx1
              try clear c2
              try clear p2
              try clear c3
              try clear c3b0
              try clear c4
              try clear c4b0
              try clear c5
              try clear c5b0
              try clear hcz7_0
              try clear hcz7_1
              try clear hfz7_0
              try clear hfz7_1
              try clear hx126_0
              try clear hx126_1
              try clear p126
              try clear p2
              try clear q126
              obtain ⟨x8_2, x19_2, rfl, rfl, HA, HK2, HO_5, BK127, HB⟩ := hrel
              cases gk with
              | zero => exact absurd HA.out (by simp [firnref09_spared.l1])
              | succ k2 =>
                have H := HA.out
                clear HA
                simp only [firnref09_spared.l1] at H
                by_cases c8 : x19_2 < (((rd_T37 l0 x12_1).f0).size : Int)
                · rw [if_pos c8] at H
                  have c8b0 : decide (x19_2 < (((rd_T37 l0 x12_1).f0).size : Int)) = true := decide_eq_true c8
                  clear c8
                  by_cases c9 : x8_2 = true
                  · subst c9
                    have H1 : (firnref09_spared.l1 k2 a1 x5_1 true l0 (l0.length : Int) x12_1 (((rd_T37 l0 x12_1).f0).size : Int) (wrap64 (x19_2 + 1)) ((rd_T37 l0 x12_1).f0) ((rd_T37 l0 x12_1).f1)) = some r := by rw [if_pos rfl] at H; exact H
                    clear H
                    have H := H1
                    clear H1
                    have H' := Aside0.mk H
                    clear H
                    go_wp2
                    go_roundg k2
                    case measure => have := HK1.out; have := HK2.out; omega
                    case rel => exact ⟨(true), (wrap64 (x19_2 + 1)), (by first | rfl | (simp; done) | (simp [*]; done)), (by first | rfl | (simp; done) | (simp [*]; done)), H', ⟨by have := HK1.out; have := HK2.out; omega⟩, ⟨by (with_reducible repeat (first | apply Kd.R_alloc | apply Kd.R_drewN | apply Kd.R_drew)); exact HO_5.out⟩, ⟨by (with_reducible repeat (first | refine blk_drewN ?_ _ | refine blk_drew ?_ | refine blk_alloc ?_ _)); exact BK127.out⟩, ⟨by repeat (first | (with_reducible first | exact HB.out | apply below_alloc | apply pw_below_drewN | apply below_drew1 | refine below_set ?_ GE127.out) | exact HB.out)⟩⟩
                  · replace c9 := Bool.eq_false_iff.mpr c9
                    subst c9
                    have H1 : (if 0 ≤ x19_2 then (if x19_2 < (((rd_T37 l0 x12_1).f0).size : Int) then (firnref09_spared.l1 k2 a1 x5_1 ((bt ((rd_T37 l0 x12_1).f0) x19_2) == a1) l0 (l0.length : Int) x12_1 (((rd_T37 l0 x12_1).f0).size : Int) (wrap64 (x19_2 + 1)) ((rd_T37 l0 x12_1).f0) ((rd_T37 l0 x12_1).f1)) else (none)) else (none)) = some r := by rw [if_neg (show ¬ (false = true) by decide)] at H; exact H
                    clear H
                    have H := H1
                    clear H1
                    by_cases c10 : 0 ≤ x19_2
                    · rw [if_pos c10] at H
                      have c10b0 : decide (0 ≤ x19_2) = true := decide_eq_true c10
                      clear c10
                      by_cases c11 : x19_2 < (((rd_T37 l0 x12_1).f0).size : Int)
                      · rw [if_pos c11] at H
                        have c11b0 : decide (x19_2 < (((rd_T37 l0 x12_1).f0).size : Int)) = true := decide_eq_true c11
                        clear c11
                        have H' := Aside0.mk H
                        clear H
                        have hcz13_0 : wr.cell? ⟨gb127, 0, none⟩ = some (.string ((rd_T37 l0 x12_1).f0)) := (blk_cell BK127.out 0).trans rfl
                        have hcz13_1 : wr.cell? ⟨gb127, 1, none⟩ = some (.int .i64 ((rd_T37 l0 x12_1).f1)) := (blk_cell BK127.out 1).trans rfl
                        have hfz13_0 := blk_frozen BK127.out 0
                        have hfz13_1 := blk_frozen BK127.out 1
                        have p12 : 0 ≤ (x19_2 : Int) := of_decide_eq_true (by first | (with_reducible assumption) | assumption)
                        have q12 : x19_2 < (((rd_T37 l0 x12_1).f0).size : Int) := of_decide_eq_true (by first | (with_reducible assumption) | assumption)
                        have hx12 := bt_at ((rd_T37 l0 x12_1).f0) x19_2
                        replace p12 := eq_true p12
                        replace q12 := eq_true q12
                        go_wp2
                        go_roundg k2
                        case measure => have := HK1.out; have := HK2.out; omega
                        case rel => exact ⟨(((bt ((rd_T37 l0 x12_1).f0) x19_2) == a1)), (wrap64 (x19_2 + 1)), (by first | rfl | (simp; done) | (simp [*]; done)), (by first | rfl | (simp; done) | (simp [*]; done)), H', ⟨by have := HK1.out; have := HK2.out; omega⟩, ⟨by (with_reducible repeat (first | apply Kd.R_alloc | apply Kd.R_drewN | apply Kd.R_drew)); exact HO_5.out⟩, ⟨by (with_reducible repeat (first | refine blk_drewN ?_ _ | refine blk_drew ?_ | refine blk_alloc ?_ _)); exact BK127.out⟩, ⟨by repeat (first | (with_reducible first | exact HB.out | apply below_alloc | apply pw_below_drewN | apply below_drew1 | refine below_set ?_ GE127.out) | exact HB.out)⟩⟩
                      · rw [if_neg c11] at H
                        exact absurd H (by simp)
                    · rw [if_neg c10] at H
                      exact absurd H (by simp)
                · rw [if_neg c8] at H
                  have c8b0 : decide (x19_2 < (((rd_T37 l0 x12_1).f0).size : Int)) = false := decide_eq_false c8
                  clear c8
                  by_cases c14 : x8_2 = true
                  · subst c14
                    have H1 : (firnref09_spared.l0 k2 a1 x5_1 l0 (l0.length : Int) (wrap64 (x12_1 + 1))) = some r := by rw [if_pos rfl] at H; exact H
                    clear H
                    have H := H1
                    clear H1
                    have H' := Aside0.mk H
                    clear H
                    go_wp2
                    go_roundg k2
                    case measure => have := HK1.out; have := HK2.out; omega
                    case rel => exact ⟨(x5_1), (wrap64 (x12_1 + 1)), (by first | rfl | (simp; done) | (simp [*]; done)), H', ⟨by have := HK1.out; have := HK2.out; omega⟩, ⟨by (with_reducible repeat (first | apply Kd.R_alloc | apply Kd.R_drewN | apply Kd.R_drew)); exact Kd.R_mono HO_5.out (fun _ hk => trivial)⟩, ⟨by repeat (first | (with_reducible first | exact HB.out | apply below_alloc | apply pw_below_drewN | apply below_drew1 | refine below_set ?_ GE127.out) | exact HB.out)⟩⟩
                  · replace c14 := Bool.eq_false_iff.mpr c14
                    subst c14
                    have H1 : (if x5_1.length < 5864062014805 then (firnref09_spared.l0 k2 a1 (x5_1 ++ [(⟨((rd_T37 l0 x12_1).f0), ((rd_T37 l0 x12_1).f1)⟩ : S37)]) l0 (l0.length : Int) (wrap64 (x12_1 + 1))) else (none)) = some r := by rw [if_neg (show ¬ (false = true) by decide)] at H; exact H
                    clear H
                    have H := H1
                    clear H1
                    by_cases c15 : x5_1.length < 5864062014805
                    · rw [if_pos c15] at H
                      have LMc15 := Aside0.mk c15
                      clear c15
                      obtain ⟨y128, hy128⟩ : ∃ y_ : List (S37), y_ = (x5_1 ++ [(⟨((rd_T37 l0 x12_1).f0), ((rd_T37 l0 x12_1).f1)⟩ : S37)]) := ⟨_, rfl⟩
                      replace H : (firnref09_spared.l0 k2 a1 y128 l0 (l0.length : Int) (wrap64 (x12_1 + 1))) = some r := by first | (rw [hy128]; with_reducible exact H) | (have H2_ := (Option.bind_some _ _).symm.trans H; rw [hy128]; with_reducible exact H2_) | (have H2_ := (Option.bind_some _ _).symm.trans H; with_reducible exact H2_) | with_reducible exact H | (rw [hy128]; exact H) | exact H
                      have Ny128 := Aside0.mk hy128
                      clear hy128
                      have H' := Aside0.mk H
                      clear H
                      have hcz16_0 : wr.cell? ⟨gb127, 0, none⟩ = some (.string ((rd_T37 l0 x12_1).f0)) := (blk_cell BK127.out 0).trans rfl
                      have hcz16_1 : wr.cell? ⟨gb127, 1, none⟩ = some (.int .i64 ((rd_T37 l0 x12_1).f1)) := (blk_cell BK127.out 1).trans rfl
                      have hfz16_0 := blk_frozen BK127.out 0
                      have hfz16_1 := blk_frozen BK127.out 1
                      go_wp2_with (first | ((with_reducible refine gate_builtin (b := .append) (xs := #[.tmp 34, .tmp 36]) rfl ?_); at_builtin; refine Kd.R_append k37 (w0 := w) w.heap.size rfl (.tmp 34) (.tmp 36) 22 37 (.agg #[(.string ⟨#[]⟩), (.int .i64 0)]) 24 rfl Tryz.underlying22 info37 rfl (by decide) (by omega) u5 x5_1 (⟨((rd_T37 l0 x12_1).f0), ((rd_T37 l0 x12_1).f1)⟩ : S37) [.string ((rd_T37 l0 x12_1).f0), .int .i64 ((rd_T37 l0 x12_1).f1)] (fun k_ => k_ ≠ gb127) (fun _ => False) rfl rfl ?aP (fun _ hk => hk.elim) ?aF ?aO ?aB ?aS ?aL ?_; (case aP => exact k37_mkM _ _ _ (⟨((rd_T37 l0 x12_1).f0), ((rd_T37 l0 x12_1).f1)⟩ : S37)); (case aB => exact (by repeat (first | (with_reducible first | exact HB.out | apply below_alloc | apply pw_below_drewN | apply below_drew1 | refine below_set ?_ GE127.out) | exact HB.out))); (case aF => exact (fun k_ hk => Kd.freshB (g := gb127) (o := .cells #[.string ((rd_T37 l0 x12_1).f0), .int .i64 ((rd_T37 l0 x12_1).f1)] 37 (0, 0)) (by (with_reducible repeat (first | refine blk_drewN ?_ _ | refine blk_drew ?_ | refine blk_alloc ?_ _)); exact BK127.out) k_ hk)); (case aO => exact (by (with_reducible repeat (first | apply Kd.R_alloc | apply Kd.R_drewN | apply Kd.R_drew)); exact HO_5.out)); (case aS => exact (below_size (by repeat (first | (with_reducible first | exact HB.out | apply below_alloc | apply pw_below_drewN | apply below_drew1 | refine below_set ?_ GE127.out) | exact HB.out)))); (case aL => have := LMc15.out; omega); intro v129 w17 ho hb hg hat; rw [← Ny128.out] at ho; have n0_ := Aside0.mk (blk_grown (g := gb127) (o := .cells #[.string ((rd_T37 l0 x12_1).f0), .int .i64 ((rd_T37 l0 x12_1).f1)] 37 (0, 0)) (by (with_reducible repeat (first | refine blk_drewN ?_ _ | refine blk_drew ?_ | refine blk_alloc ?_ _)); exact BK127.out) hg (Kd.R_away HO_5.out (fun _ hk => hk))); have n1_ := Aside0.mk (hb); have n2_ := Aside0.mk (ho); clear BK127; clear HB; clear HO_5; have BK127 := n0_; have HB := n1_; have HO130 := n2_; clear n0_ n1_ n2_; clear ho hb hg hat))
                      go_roundg k2
                      case measure => have := HK1.out; have := HK2.out; omega
                      case rel => exact ⟨(y128), (wrap64 (x12_1 + 1)), (by first | rfl | (simp; done) | (simp [*]; done)), H', ⟨by have := HK1.out; have := HK2.out; omega⟩, ⟨by (with_reducible repeat (first | apply Kd.R_alloc | apply Kd.R_drewN | apply Kd.R_drew)); exact Kd.R_mono HO130.out (fun _ hk => trivial)⟩, ⟨by repeat (first | (with_reducible first | exact HB.out | apply below_alloc | apply pw_below_drewN | apply below_drew1 | refine below_set ?_ GE127.out) | exact HB.out)⟩⟩
                    · rw [if_neg c15] at H
                      exact absurd H (by simp)
          · rw [if_neg c5] at H
            exact absurd H (by simp)
        · rw [if_neg c4] at H
          exact absurd H (by simp)
      · rw [if_neg c3] at H
        have c3b0 : decide (x12_1 < (l0.length : Int)) = false := decide_eq_false c3
        clear c3
        obtain rfl := Option.some.inj H
        go_wp2
        go_ret
        exact ⟨_, by first | rfl | (simp [errW_none, errW_some] <;> rfl) | (simp [*, errW_none, errW_some] <;> rfl), by (with_reducible repeat (first | apply Kd.R_alloc | apply Kd.R_drewN | apply Kd.R_drew)); exact HO_5.out, by repeat (first | (with_reducible first | exact HB.out | apply below_alloc | apply pw_below_drewN | apply below_drew1) | exact HB.out)⟩

end Go.Proofs.YtajeaefpapnkbaaGreatDoor.P
-- WRITTEN FOR THIS CLAIM BY A PROGRAM OF THIS SESSION (wip/tools), which turns the lines of the kit's print
namespace Go.Proofs.YtajeaefpapnkbaaGreatDoor.P
open Go.RowKit Go.Proofs.YtajeaefpapnkbaaGreatDoorW.PrintWords Go.Proofs.YtajeaefpapnkbaaGreatDoorW.PrintLast Go.Proofs.YtajeaefpapnkbaaGreatDoorW.PrintMore
attribute [local go_sem] max2_int min2_int max_two min_two max_three min_three max_four min_four   -- for this text's walks alone
set_option linter.unusedVariables false
set_option linter.unusedSimpArgs false

/-! ### firnref09_Tokens: function 10 -/
def firnref09_Tokens.l0 : Nat → List (S37) → ByteArray → Int → Option (ByteArray × Int)
  | 0, _, _, _ => none
  | k + 1, x0, x4, x5 => if x5 < 105 then ((firnref09_spared.f k x0 x5).bind fun t132 => (if (t132.length : Int) < (x0.length : Int) then ((some (([x5] : List Int) : List Int)).bind fun y135 => (if x4.size + (strOfNums y135).size ≤ 9223372036854775807 then (firnref09_Tokens.l0 k x0 (x4 ++ (strOfNums y135)) ((x5 + 1) % 256)) else (none))) else (firnref09_Tokens.l0 k x0 x4 ((x5 + 1) % 256)))) else (some (x4, 0))
def firnref09_Tokens.f (k : Nat) (l0 : List (S37)) : Option (ByteArray × Int) := (firnref09_ValidSum.f l0).bind fun t131 => (if t131 = true then (firnref09_Tokens.l0 k l0 (⟨#[]⟩ : ByteArray) 97) else (some ((⟨#[]⟩ : ByteArray), 92)))
theorem firnref09_Tokens.mono_l : ∀ k, (∀ y0 y1 y2, LeO (firnref09_Tokens.l0 k y0 y1 y2) (firnref09_Tokens.l0 (k + 1) y0 y1 y2))
  | 0 => fun _ _ _ r h => by simp [firnref09_Tokens.l0] at h
  | k + 1 => by
    have ih0 := firnref09_Tokens.mono_l k
    · intro y0 y1 y2
      unfold firnref09_Tokens.l0
      repeat' first
      | (with_reducible exact ih0 _ _ _)
      | (with_reducible exact firnref09_spared.mono _ _ _)
      | (with_reducible exact LeO.refl _)
      | (with_reducible exact LeO.none _)
      | (with_reducible refine LeO.ite ?_ ?_)
      | (with_reducible refine LeO.bind ?_ (fun _ => ?_))
      | exact ih0 _ _ _
      | exact firnref09_spared.mono _ _ _
      | exact LeO.none _
      | refine LeO.ite ?_ ?_
      | refine LeO.bind ?_ (fun _ => ?_)
theorem firnref09_Tokens.mono : ∀ a0 k, LeO (firnref09_Tokens.f k a0) (firnref09_Tokens.f (k + 1) a0) := by
  intro a0 k
  have ih0 := firnref09_Tokens.mono_l k
  unfold firnref09_Tokens.f
  repeat' first
      | (with_reducible exact ih0 _ _ _)
      | (with_reducible exact firnref09_spared.mono _ _ _)
      | (with_reducible exact LeO.refl _)
      | (with_reducible exact LeO.none _)
      | (with_reducible refine LeO.ite ?_ ?_)
      | (with_reducible refine LeO.bind ?_ (fun _ => ?_))
      | exact ih0 _ _ _
      | exact firnref09_spared.mono _ _ _
      | exact LeO.none _
      | refine LeO.ite ?_ ?_
      | refine LeO.bind ?_ (fun _ => ?_)
set_option maxHeartbeats 8000000 in
set_option maxRecDepth 100000 in
theorem firnref09_Tokens.calls (k : Nat) (A0 : Option Addr) (c0 : Nat) (l0 : List (S37)) (r1 : ByteArray) (r2 : Int) (w : World) (hr0 : Kd.C k37 w A0 l0.length l0) (hc0 : l0.length ≤ c0) (h : firnref09_Tokens.f k l0 = some (r1, r2)) :
    Calls Tryz.prog 10 #[.slice A0 l0.length c0] w fun e w' => e = .returned (.tuple #[.string r1, .int .i64 r2]) ∧ Below w.heap.size w w' := by
  have HR0 := Aside0.mk hr0
  have HC0 := Aside0.mk hc0
  clear hr0 hc0
  have HB := Aside0.mk (Below.refl w.heap.size w)
  have H : ((firnref09_ValidSum.f l0).bind fun t131 => (if t131 = true then (firnref09_Tokens.l0 k l0 (⟨#[]⟩ : ByteArray) 97) else (some ((⟨#[]⟩ : ByteArray), 92)))) = some (r1, r2) := h
  clear h
  replace H := Option.bind_eq_some_iff.mp H
  obtain ⟨t131, A20, H⟩ := H
  replace H : (if t131 = true then (firnref09_Tokens.l0 k l0 (⟨#[]⟩ : ByteArray) 97) else (some ((⟨#[]⟩ : ByteArray), 92))) = some (r1, r2) := H
  have A2 := Aside0.mk A20
  clear A20
  by_cases c3 : t131 = true
  · subst c3
    have H1 : (firnref09_Tokens.l0 k l0 (⟨#[]⟩ : ByteArray) 97) = some (r1, r2) := by rw [if_pos rfl] at H; exact H
    clear H
    have H := H1
    clear H1
    have H' := Aside0.mk H
    clear H
    go_enter Tryz.func10, Tryz.ntmps10
    go_wp2_with (first | ((with_reducible refine gate_callee (f := 23) rfl ?_); refine goesL_ (some 7) rfl rfl Tryz.func23 (by kernel_rfl) rfl #[.slice A0 l0.length c0] rfl (by (try simp only [List.map_toArray, List.map_cons, List.map_nil]); first | done | rfl | (simp only [List.length_drop, List.length_take]; rfl)) ?_; (with_reducible refine (firnref09_ValidSum.calls _ _ l0 true _ ?side1 ?side2 A2.out).mono ?_); (case side1 => repeat (first | exact HR0.out | (with_reducible refine Kd.C_alloc ?_ _) | (with_reducible refine Kd.C_drewN ?_ _) | (with_reducible refine Kd.C_drew ?_))); (case side2 => exact HC0.out); rintro e w4 ⟨rfl, hb⟩; refine ⟨_, rfl, ?_⟩; have n0_ := Aside0.mk (below_step (by repeat (first | (with_reducible first | exact HB.out | apply below_alloc | apply pw_below_drewN | apply below_drew1) | exact HB.out)) hb); clear HB; have HB := n0_; clear n0_; (try clear hb); (try clear hb2); (try clear hk); (try clear hi)))
    go_loopg [4, 5] k (fun kq v4 v5 w' => ∃ (x4_1 : ByteArray) (x5_1 : Int), v4 = .string x4_1 ∧ v5 = .int .u8 x5_1 ∧ Aside0 (firnref09_Tokens.l0 kq l0 x4_1 x5_1 = some (r1, r2)) ∧ Aside0 (kq ≤ k) ∧ Aside0 (Below w.heap.size w w'))
    case atStart => exact ⟨((⟨#[]⟩ : ByteArray)), (97), (by first | rfl | (simp; done) | (simp [*]; done)), (by first | rfl | (simp; done) | (simp [*]; done)), H', ⟨Nat.le_refl _⟩, ⟨by repeat (first | (with_reducible first | exact HB.out | apply below_alloc | apply pw_below_drewN | apply below_drew1) | exact HB.out)⟩⟩
    case round =>
      clear H'
      try clear c1
      try clear c2
      try clear p2
      try clear c3
      obtain ⟨x4_1, x5_1, rfl, rfl, HA, HK1, HB⟩ := hrel
      cases gk with
      | zero => exact absurd HA.out (by simp [firnref09_Tokens.l0])
      | succ k1 =>
        have H := HA.out
        clear HA
        simp only [firnref09_Tokens.l0] at H
        by_cases c5 : x5_1 < 105
        · rw [if_pos c5] at H
          have c5b0 : decide (x5_1 < 105) = true := decide_eq_true c5
          clear c5
          replace H := Option.bind_eq_some_iff.mp H
          obtain ⟨t132, A60, H⟩ := H
          replace H : (if (t132.length : Int) < (l0.length : Int) then ((some (([x5_1] : List Int) : List Int)).bind fun y135 => (if x4_1.size + (strOfNums y135).size ≤ 9223372036854775807 then (firnref09_Tokens.l0 k1 l0 (x4_1 ++ (strOfNums y135)) ((x5_1 + 1) % 256)) else (none))) else (firnref09_Tokens.l0 k1 l0 x4_1 ((x5_1 + 1) % 256))) = some (r1, r2) := H
          have A6 := Aside0.mk A60
          clear A60
          by_cases c7 : (t132.length : Int) < (l0.length : Int)
          · rw [if_pos c7] at H
            have c7b0 : decide ((t132.length : Int) < (l0.length : Int)) = true := decide_eq_true c7
            have c7b1 : decide (t132.length < l0.length) = true := decide_eq_true (Int.ofNat_lt.mp c7)
            clear c7
            obtain ⟨y135, hy135⟩ : ∃ y_ : List Int, y_ = (([x5_1] : List Int)) := ⟨_, rfl⟩
            replace H : (if x4_1.size + (strOfNums y135).size ≤ 9223372036854775807 then (firnref09_Tokens.l0 k1 l0 (x4_1 ++ (strOfNums y135)) ((x5_1 + 1) % 256)) else (none)) = some (r1, r2) := by first | (rw [hy135]; with_reducible exact H) | (have H2_ := (Option.bind_some _ _).symm.trans H; rw [hy135]; with_reducible exact H2_) | (have H2_ := (Option.bind_some _ _).symm.trans H; with_reducible exact H2_) | with_reducible exact H | (rw [hy135]; exact H) | exact H
            have Ny135 := Aside0.mk hy135
            clear hy135
            by_cases c8 : x4_1.size + (strOfNums y135).size ≤ 9223372036854775807
            · rw [if_pos c8] at H
              have c8b0 := eq_true c8
              have c8b1 : decide (x4_1.size + (strOfNums y135).size ≤ 9223372036854775807) = true := decide_eq_true c8
              try have c8b2 : (9223372036854775807 < x4_1.size + (strOfNums y135).size) = False := eq_false (Nat.not_lt.2 c8)
              have H' := Aside0.mk H
              clear H
              go_wp2_with (first | ((with_reducible refine gate_callee (f := 27) rfl ?_); refine goesL_ (some 15) rfl rfl Tryz.func27 (by kernel_rfl) rfl #[.slice A0 l0.length c0, .int .u8 x5_1] rfl (by (try simp only [List.map_toArray, List.map_cons, List.map_nil]); first | done | rfl | (simp only [List.length_drop, List.length_take]; rfl)) ?_; (with_reducible refine (firnref09_spared.calls k1 _ _ l0 x5_1 t132 _ ?side1 ?side2 A6.out).mono ?_); (case side1 => repeat (first | exact (Kd.C_below HR0.out HB.out) | (with_reducible refine Kd.C_alloc ?_ _) | (with_reducible refine Kd.C_drewN ?_ _) | (with_reducible refine Kd.C_drew ?_))); (case side2 => exact HC0.out); rintro e w9 ⟨v133, rfl, ho0, hb⟩; refine ⟨_, rfl, ?_⟩; have n0_ := Aside0.mk (Kd.R_lower ho0 (below_size (by repeat (first | (with_reducible first | exact HB.out | apply below_alloc | apply pw_below_drewN | apply below_drew1) | exact HB.out)))); have n1_ := Aside0.mk (below_step (by repeat (first | (with_reducible first | exact HB.out | apply below_alloc | apply pw_below_drewN | apply below_drew1) | exact HB.out)) hb); clear HB; have HO134 := n0_; have HB := n1_; clear n0_ n1_; (try clear hb); (try clear hb2); (try clear hk); (try clear hi); (try clear ho0); obtain ⟨Ao10, co10, eo10⟩ := Kd.R_slice HO134.out; subst eo10) | ((with_reducible refine gate_dst (N := 22) rfl ?_); refine Kd.R_lit (Kd.int .u8) _ 5 ?hg (N := 22) ?hd (xs := ([x5_1] : List Int)) (inner := [.int .u8 x5_1]) (ok := fun _ => True) (okp := fun _ => True) ?hr ?hp (fun _ hk => hk) trivial (Below.refl _ _) (Nat.le_refl _) (by simp) ?_; (case hd => rfl); (case hg => rfl); (case hr => first | (go_simp; done) | (go_simp; rfl)); (case hp => exact (Reps.one (show Kd.M (Kd.int .u8) _ _ _ x5_1 [.int .u8 x5_1] from rfl) (Reps.none _ _))); intro v136 w11 ho12 hb hg_ hnew_; clear hg_ hnew_; (first | rw [← Ny135.out] at ho12 | (simp only [Int.reduceToNat] at ho12; rw [← Ny135.out] at ho12)); have n0_ := Aside0.mk (Kd.R_below (by (with_reducible repeat (first | apply Kd.R_alloc | apply Kd.R_drewN | apply Kd.R_drew)); exact HO134.out) hb); have n1_ := Aside0.mk (Kd.R_lower ho12 (below_size (by repeat (first | (with_reducible first | exact HB.out | apply below_alloc | apply pw_below_drewN | apply below_drew1) | exact HB.out)))); have n2_ := Aside0.mk (below_step (by repeat (first | (with_reducible first | exact HB.out | apply below_alloc | apply pw_below_drewN | apply below_drew1) | exact HB.out)) hb); clear HO134; clear HB; have HO134 := n0_; have HO137 := n1_; have HB := n2_; clear n0_ n1_ n2_; clear hb ho12; have hcv13 := own_string (P := Tryz.prog) Tryz.underlying41 Tryz.underlying5 Tryz.underlying9 (Kd.own_of_R HO137.out)))
              go_roundg k1
              case measure => have := HK1.out; omega
              case rel => exact ⟨(x4_1 ++ (strOfNums y135)), ((x5_1 + 1) % 256), (by first | rfl | (simp; done) | (simp [*]; done)), (by first | rfl | (simp; done) | (simp [*]; done)), H', ⟨by have := HK1.out; omega⟩, ⟨by repeat (first | (with_reducible first | exact HB.out | apply below_alloc | apply pw_below_drewN | apply below_drew1) | exact HB.out)⟩⟩
            · rw [if_neg c8] at H
              exact absurd H (by simp)
          · rw [if_neg c7] at H
            have c7b0 : decide ((t132.length : Int) < (l0.length : Int)) = false := decide_eq_false c7
            have c7b1 : decide (t132.length < l0.length) = false := decide_eq_false (fun h => c7 (Int.ofNat_lt.mpr h))
            clear c7
            have H' := Aside0.mk H
            clear H
            go_wp2_with (first | ((with_reducible refine gate_callee (f := 27) rfl ?_); refine goesL_ (some 15) rfl rfl Tryz.func27 (by kernel_rfl) rfl #[.slice A0 l0.length c0, .int .u8 x5_1] rfl (by (try simp only [List.map_toArray, List.map_cons, List.map_nil]); first | done | rfl | (simp only [List.length_drop, List.length_take]; rfl)) ?_; (with_reducible refine (firnref09_spared.calls k1 _ _ l0 x5_1 t132 _ ?side1 ?side2 A6.out).mono ?_); (case side1 => repeat (first | exact (Kd.C_below HR0.out HB.out) | (with_reducible refine Kd.C_alloc ?_ _) | (with_reducible refine Kd.C_drewN ?_ _) | (with_reducible refine Kd.C_drew ?_))); (case side2 => exact HC0.out); rintro e w14 ⟨v133, rfl, ho0, hb⟩; refine ⟨_, rfl, ?_⟩; have n0_ := Aside0.mk (Kd.R_lower ho0 (below_size (by repeat (first | (with_reducible first | exact HB.out | apply below_alloc | apply pw_below_drewN | apply below_drew1) | exact HB.out)))); have n1_ := Aside0.mk (below_step (by repeat (first | (with_reducible first | exact HB.out | apply below_alloc | apply pw_below_drewN | apply below_drew1) | exact HB.out)) hb); clear HB; have HO134 := n0_; have HB := n1_; clear n0_ n1_; (try clear hb); (try clear hb2); (try clear hk); (try clear hi); (try clear ho0); obtain ⟨Ao15, co15, eo15⟩ := Kd.R_slice HO134.out; subst eo15))
            go_roundg k1
            case measure => have := HK1.out; omega
            case rel => exact ⟨(x4_1), ((x5_1 + 1) % 256), (by first | rfl | (simp; done) | (simp [*]; done)), (by first | rfl | (simp; done) | (simp [*]; done)), H', ⟨by have := HK1.out; omega⟩, ⟨by repeat (first | (with_reducible first | exact HB.out | apply below_alloc | apply pw_below_drewN | apply below_drew1) | exact HB.out)⟩⟩
        · rw [if_neg c5] at H
          have c5b0 : decide (x5_1 < 105) = false := decide_eq_false c5
          clear c5
          simp only [Option.some.injEq, Prod.mk.injEq] at H
          obtain ⟨rfl, rfl⟩ := H
          go_wp2
          go_ret2
          exact ⟨by first | rfl | (simp [errW_none, errW_some] <;> rfl) | (simp [*, errW_none, errW_some] <;> rfl), by repeat (first | (with_reducible first | exact HB.out | apply below_alloc | apply pw_below_drewN | apply below_drew1) | exact HB.out)⟩
  · replace c3 := Bool.eq_false_iff.mpr c3
    subst c3
    have H1 : (some ((⟨#[]⟩ : ByteArray), 92)) = some (r1, r2) := by rw [if_neg (show ¬ (false = true) by decide)] at H; exact H
    clear H
    have H := H1
    clear H1
    simp only [Option.some.injEq, Prod.mk.injEq] at H
    obtain ⟨rfl, rfl⟩ := H
    go_enter Tryz.func10, Tryz.ntmps10
    go_wp2_with (first | ((with_reducible refine gate_callee (f := 23) rfl ?_); refine goesL_ (some 7) rfl rfl Tryz.func23 (by kernel_rfl) rfl #[.slice A0 l0.length c0] rfl (by (try simp only [List.map_toArray, List.map_cons, List.map_nil]); first | done | rfl | (simp only [List.length_drop, List.length_take]; rfl)) ?_; (with_reducible refine (firnref09_ValidSum.calls _ _ l0 false _ ?side1 ?side2 A2.out).mono ?_); (case side1 => repeat (first | exact HR0.out | (with_reducible refine Kd.C_alloc ?_ _) | (with_reducible refine Kd.C_drewN ?_ _) | (with_reducible refine Kd.C_drew ?_))); (case side2 => exact HC0.out); rintro e w16 ⟨rfl, hb⟩; refine ⟨_, rfl, ?_⟩; have n0_ := Aside0.mk (below_step (by repeat (first | (with_reducible first | exact HB.out | apply below_alloc | apply pw_below_drewN | apply below_drew1) | exact HB.out)) hb); clear HB; have HB := n0_; clear n0_; (try clear hb); (try clear hb2); (try clear hk); (try clear hi)))
    go_ret2
    exact ⟨by first | rfl | (simp [errW_none, errW_some] <;> rfl) | (simp [*, errW_none, errW_some] <;> rfl), by repeat (first | (with_reducible first | exact HB.out | apply below_alloc | apply pw_below_drewN | apply below_drew1) | exact HB.out)⟩

end Go.Proofs.YtajeaefpapnkbaaGreatDoor.P
-- WRITTEN FOR THIS CLAIM BY A PROGRAM OF THIS SESSION (wip/tools), which turns the lines of the kit's print
namespace Go.Proofs.YtajeaefpapnkbaaGreatDoor.P
open Go.RowKit Go.Proofs.YtajeaefpapnkbaaGreatDoorW.PrintWords Go.Proofs.YtajeaefpapnkbaaGreatDoorW.PrintLast Go.Proofs.YtajeaefpapnkbaaGreatDoorW.PrintMore
attribute [local go_sem] max2_int min2_int max_two min_two max_three min_three max_four min_four   -- for this text's walks alone
set_option linter.unusedVariables false
set_option linter.unusedSimpArgs false

/-! ### prov_isToken: function 28 -/
-- IMPORTS Derived.Test.YtajeaefpapnkbaaGreatDoorShelf Derived.Lib.Bytealg
open Go.Lib
theorem indexByte_any (l : List UInt8) (c : UInt8) : decide (0 ≤ Lib.indexByte l c) = l.any (· == c) := by
  induction l with
  | nil => simp [Lib.indexByte]
  | cons b l ih =>
    have hg := Lib.indexByte_ge l c
    rw [Bool.eq_iff_iff] at ih ⊢
    simp only [decide_eq_true_eq, Lib.indexByte, List.any_cons, Bool.or_eq_true] at ih ⊢
    by_cases hb : (b == c) = true
    · simp [hb]
    · rw [← ih]
      simp only [hb]
      by_cases hi : (Lib.indexByte l c == -1) = true
      · have : Lib.indexByte l c = -1 := by simpa using hi
        simp [hi, this]
      · have h2 : Lib.indexByte l c ≠ -1 := by simpa using hi
        simp [hi]
        omega
theorem one_byte {s : ByteArray} (h : s.size = 1) : ∃ c, s = ⟨#[c]⟩ ∧ s.data.toList = [c] := by
  rw [ByteArray_size, List.length_eq_one_iff] at h
  obtain ⟨c, hc⟩ := h
  exact ⟨c, ba_ext (by rw [hc]), hc⟩
/-- The only byte of a token. -/
def tokC (s : ByteArray) : UInt8 := s.data.toList.headD 0
def isTokB (s : ByteArray) : Bool := s.size == 1 && ([97, 98, 99, 100, 101, 102, 103, 104] : List UInt8).any (· == tokC s)
set_option maxHeartbeats 1000000 in
theorem isToken_any (s : ByteArray) (w : World) : Calls Tryz.prog 28 #[.string s] w fun e w' => e = .returned (.bool (isTokB s)) ∧ Below w.heap.size w w' := by
  by_cases h : s.size = 1
  · obtain ⟨c, rfl, hc⟩ := one_byte h
    have hT : isTokB ⟨#[c]⟩ = ([97, 98, 99, 100, 101, 102, 103, 104] : List UInt8).any (· == c) := by unfold isTokB tokC; rw [hc]; rfl
    have hcon := fun w => Tryz.strings_Contains_one ⟨#[97, 98, 99, 100, 101, 102, 103, 104]⟩ c w
    rw [indexByte_any] at hcon
    rw [hT]
    have HC := Lib.hid hcon
    clear hcon hT hc
    generalize hg : ([97, 98, 99, 100, 101, 102, 103, 104] : List UInt8).any (· == c) = r at HC
    have g1 : ((ByteArray.mk #[c]).size : Int) = 1 := by omega
    have HG := Lib.hid hg
    clear hg h
    have HR : Hid (∀ w, Calls Tryz.prog 42 #[.string ⟨#[97, 98, 99, 100, 101, 102, 103, 104]⟩, .string ⟨#[c]⟩] w fun e w' => e = .returned (.bool r) ∧ w' = w) := HC.out
    clear HC
    go_enter Tryz.func28, Tryz.ntmps28
    go_wp2_with (go_at_call 42; (refine (HR.out _).mono ?_); rintro e w1 ⟨rfl, rfl⟩)
    go_ret
    exact ⟨by simp, Below.refl _ _⟩
  · have hT : isTokB s = false := by unfold isTokB; rw [beq_eq_false_iff_ne.2 h]; rfl
    rw [hT]
    have g1 : ((s.size : Int) == 1) = false := beq_eq_false_iff_ne.2 (by omega)
    clear hT h
    go_enter Tryz.func28, Tryz.ntmps28
    go_wp2
    go_ret
    exact ⟨by simp, Below.refl _ _⟩
def prov_isToken.f (a0 : ByteArray) : Option Bool := some (isTokB a0)
theorem prov_isToken.calls (a0 : ByteArray) (r : Bool) (w : World) (h : prov_isToken.f a0 = some r) :
    Calls Tryz.prog 28 #[.string a0] w fun e w' => e = .returned (.bool r) ∧ Below w.heap.size w w' := by
  obtain rfl := Option.some.inj h
  exact isToken_any a0 w

end Go.Proofs.YtajeaefpapnkbaaGreatDoor.P
-- WRITTEN FOR THIS CLAIM BY A PROGRAM OF THIS SESSION (wip/tools), which turns the lines of the kit's print
namespace Go.Proofs.YtajeaefpapnkbaaGreatDoor.P
open Go.RowKit Go.Proofs.YtajeaefpapnkbaaGreatDoorW.PrintWords Go.Proofs.YtajeaefpapnkbaaGreatDoorW.PrintLast Go.Proofs.YtajeaefpapnkbaaGreatDoorW.PrintMore
attribute [local go_sem] max2_int min2_int max_two min_two max_three min_three max_four min_four   -- for this text's walks alone
set_option linter.unusedVariables false
set_option linter.unusedSimpArgs false

/-! ### prov_spared: function 29 -/
-- IMPORTS Derived.Test.YtajeaefpapnkbaaGreatDoorShelf Derived.Lib.Bytealg Derived.Lib.SliceRun Derived.Lib.QuietBelow
open Go.Lib
/-- A product as a value. -/
def encP (x : S37) : Value := .agg #[.string x.f0, .int .i64 x.f1]
/-- Whether a product has a token. -/
def hasB (t : UInt8) (x : S37) : Bool := x.f0.data.toList.any (· == t)
theorem spared1_any (t : UInt8) (q : Addr) (x : S37) (W : World) (hq : W.cell? q = some (.string ⟨#[t]⟩)) :
    Calls Tryz.prog 45 #[encP x, .pointer (some q)] W fun e w' => e = .returned (.bool (hasB t x)) ∧ Below W.heap.size W w' := by
  have hcon := fun w => Tryz.strings_Contains_one x.f0 t w
  rw [indexByte_any] at hcon
  have HC : Hid (∀ w, Calls Tryz.prog 42 #[.string x.f0, .string ⟨#[t]⟩] w fun e w' => e = .returned (.bool (hasB t x)) ∧ w' = w) := hcon
  clear hcon
  have hq2 : (W.alloc (.cells #[.string x.f0, .int .i64 x.f1] 37)).cell? q = some (.string ⟨#[t]⟩) := Lib.cell?_alloc_some _ hq
  unfold encP
  generalize hasB t x = r at HC
  go_enter Tryz.func45, Tryz.ntmps45
  go_wp2_with (go_at_call 42; (refine (HC.out _).mono ?_); rintro e w1 ⟨rfl, rfl⟩)
  go_ret
  exact ⟨rfl, (Below.refl _ W).alloc (Nat.le_refl _) _⟩
set_option maxHeartbeats 1000000 in
theorem indexFunc_prod_any (g : Nat) (lb : Array Value) (p : S37 → Bool) (A : Option Addr) (c : Nat) (xs : List S37) (w : World) (hr : Kd.C k37 w A xs.length xs) (hn : xs.length ≤ 140737488351232)
    (eg : ∀ args W, (callFunc g args).run Tryz.prog W = .ok (.enter g args) W) (hp : PredB Tryz.prog g lb encP p xs w) :
    Calls Tryz.prog 73 #[.slice A xs.length c, .func (.func g) #[] lb] w fun e w' => e = .returned (.int .i64 (idxB p xs)) ∧ Below w.heap.size w w' := by
  have HP := Lib.hid hp; clear hp
  go_enter Tryz.func73, Tryz.ntmps73
  go_wp2
  go_loopw [8] (fun v wr => ∃ k : Nat, v = .int .i64 k ∧ k ≤ xs.length ∧ (∀ j, j < k → p (xs.getD j z37) = false) ∧ Below w.heap.size w wr) (fun v _ => xs.length - (intOf v).toNat)
  case atStart => exact ⟨0, rfl, by omega, fun j hj => by omega, Below.refl _ _⟩
  case round =>
    obtain ⟨k, rfl, hk, hv, hb⟩ := hrel
    have HV := Lib.hid hv; clear hv
    by_cases hlt : k < xs.length
    · obtain ⟨ad, e1, c0, c1⟩ := at_T37 hr (k : Int) (by omega) (by omega)
      subst e1
      have hx : rd_T37 xs (k : Int) = xs.getD k z37 := rfl
      rw [hx] at c0 c1
      simp only [Int.toNat_natCast] at c0 c1
      have HM : Hid (xs.getD k z37 ∈ xs) := Lib.hid (getD_mem _ hlt)
      have c0' := cell_later hb c0
      have c1' := cell_later hb c1
      have HC := Lib.hid (HP.out wr _ HM.out hb)
      have HI : Hid (p (xs.getD k z37) = true → idxB p xs = k) := fun h => idxB_at p _ xs hlt h HV.out
      have HN : Hid (p (xs.getD k z37) = false → ∀ j, j < k + 1 → p (xs.getD j z37) = false) := fun h j hj => by
        rcases Nat.lt_or_ge j k with h1 | h1
        · exact HV.out j h1
        · obtain rfl : j = k := by omega
          exact h
      clear c0 c1 HV HP hr hx
      generalize xs.getD k z37 = x at c0' c1' HC HI HN HM
      cases hpx : p x with
      | true =>
        rw [hpx] at HC
        have HX := Lib.hid hpx; clear hpx
        go_wp2_with (go_at_fn g; (refine HC.out.mono ?_); rintro e w1 ⟨rfl, hb1⟩)
        go_ret
        exact ⟨ret_int (HI.out HX.out).symm, hb.trans (hb1.mono hb.size)⟩
      | false =>
        rw [hpx] at HC
        have HX := Lib.hid hpx; clear hpx
        go_wp2_with (go_at_fn g; (refine HC.out.mono ?_); rintro e w1 ⟨rfl, hb1⟩)
        go_roundw
        case rel => exact ⟨k + 1, by go_num, by omega, HN.out HX.out, hb.trans (hb1.mono hb.size)⟩
        case measure => simp [intOf]; omega
    · obtain rfl : k = xs.length := by omega
      go_wp2
      go_ret
      exact ⟨ret_int (idxB_none p z37 xs HV.out).symm, hb⟩
theorem idxB_spec {α : Type} (p : α → Bool) (d : α) (xs : List α) : (idxB p xs = -1 ∧ xs.filter (fun x => !p x) = xs) ∨ ∃ k, k < xs.length ∧ idxB p xs = (k : Int) ∧ (xs.take (k + 1)).filter (fun x => !p x) = xs.take k := by
  unfold idxB
  by_cases h : xs.findIdx p < xs.length
  · right
    refine ⟨xs.findIdx p, h, by rw [if_pos h], ?_⟩
    have h1 := List.findIdx_getElem (w := h)
    rw [List.take_succ_eq_append_getElem h, List.filter_append, List.filter_cons, h1]
    simp only [Bool.not_true, Bool.false_eq_true, if_false, List.filter_nil, List.append_nil]
    rw [List.filter_eq_self]
    intro x hx
    obtain ⟨j, hj, rfl⟩ := List.getElem_of_mem hx
    rw [List.length_take] at hj
    rw [List.getElem_take]
    have := List.not_of_lt_findIdx (show j < xs.findIdx p by omega)
    simpa using this
  · left
    refine ⟨by rw [if_neg h], ?_⟩
    rw [List.filter_eq_self]
    intro x hx
    have := List.findIdx_eq_length (p := p) (xs := xs)
    have hle := List.findIdx_le_length (p := p) (xs := xs)
    have := this.1 (by omega) x hx
    simpa using this
/-- What a row's first elements are is not turned by what is written behind them. -/
theorem R_setCells {base g n cap : Nat} {ok : Nat → Prop} {ys : List S37} : ∀ (vs : List Value) (o : Nat) (W : World), n * 2 ≤ o → Kd.R k37 37 W base ok (.slice (some ⟨g, 0, none⟩) n cap) ys → Kd.R k37 37 (W.setCells g o vs) base ok (.slice (some ⟨g, 0, none⟩) n cap) ys
  | [], _, _, _, h => h
  | v :: vs, o, W, ho, h => by
    show Kd.R k37 37 ((W.setCell ⟨g, o, none⟩ v).setCells g (o + 1) vs) base ok _ ys
    refine R_setCells vs (o + 1) _ (by omega) ?_
    have hl := (Kd.R_reads' h).1
    obtain ⟨h0, inner, hown, hr⟩ := h
    rw [← hl] at hown
    have h2 := (hown.stored o v).1
    rw [List.set_eq_of_length_le (by have := hown.1; have : inner.length = n * 2 := this; omega)] at h2
    refine ⟨h0, inner, by rw [← hl]; exact h2, hr.imp_ fun x cs hx => ?_⟩
    obtain rfl := k37_openM hx
    exact k37_mkM _ _ _ x
theorem setCells_below {base g : Nat} (hg : base ≤ g) : ∀ (vs : List Value) (o : Nat) (w0 W : World), Below base w0 W → Below base w0 (W.setCells g o vs)
  | [], _, _, _, h => h
  | v :: vs, o, w0, W, h => setCells_below hg vs (o + 1) w0 _ (h.setCell hg v)
theorem zero37 (m : Nat) : ∀ u ∈ (Builtin.zeroCells (Value.agg #[.string ⟨#[]⟩, .int .i64 0]).cells m).toList, u.oneCell' = true := by
  intro u hu
  unfold Builtin.zeroCells at hu
  simp only [Array.toList_map, Array.toList_range, List.mem_map, List.mem_range] at hu
  obtain ⟨i, _, rfl⟩ := hu
  have : (Value.agg #[.string ⟨#[]⟩, .int .i64 0]).cells = #[.string ⟨#[]⟩, .int .i64 0] := rfl
  rw [this]
  have h2 : i % 2 = 0 ∨ i % 2 = 1 := by omega
  show ((#[Value.string ⟨#[]⟩, .int .i64 0] : Array Value)[i % 2]!).oneCell' = true
  rcases h2 with h | h <;> rw [h] <;> rfl
theorem zero37_len (m : Nat) : (Builtin.zeroCells (Value.agg #[.string ⟨#[]⟩, .int .i64 0]).cells m).toList.length = m * 2 := by
  unfold Builtin.zeroCells
  simp
  rfl
theorem filter_step {α : Type} (p : α → Bool) (xs : List α) {j : Nat} (hj : j < xs.length) (d : α) : (xs.take (j + 1)).filter (fun x => !p x) = if p (xs.getD j d) then (xs.take j).filter (fun x => !p x) else (xs.take j).filter (fun x => !p x) ++ [xs.getD j d] := by
  rw [List.take_succ_eq_append_getElem hj, List.filter_append, getD_lt d hj]
  cases h : p xs[j] <;> simp [h]
set_option maxHeartbeats 8000000 in
set_option maxRecDepth 100000 in
theorem deleteFunc_any (g : Nat) (lb : Array Value) (p : S37 → Bool) (A : Option Addr) (cap base : Nat) (xs : List S37) (w : World) (hR : Kd.R k37 37 w base (fun _ => True) (.slice A xs.length cap) xs) (hbw : base ≤ w.heap.size) (hn : xs.length ≤ 140737488351232)
    (eg : ∀ args W, (callFunc g args).run Tryz.prog W = .ok (.enter g args) W) (hp : ∀ (W : World) (x : S37), x ∈ xs → Below base w W → Calls Tryz.prog g (#[encP x] ++ lb) W fun e w' => e = .returned (.bool (p x)) ∧ Below W.heap.size W w') :
    Calls Tryz.prog 43 #[.slice A xs.length cap, .func (.func g) #[] lb] w fun e w' => ∃ v : Value, e = .returned v ∧ Kd.R k37 37 w' base (fun _ => True) v (xs.filter fun x => !p x) ∧ Below base w w' := by
  have hIF := indexFunc_prod_any g lb p A cap xs w (Kd.R_reads' hR).2.2 hn eg (fun W x hx hb => hp W x hx (hb.mono hbw))
  have HIF := Lib.hid hIF
  clear hIF
  rcases idxB_spec p z37 xs with ⟨e1, hall⟩ | ⟨k0, hk0, e1, hfil⟩
  · rw [e1] at HIF
    rw [hall]
    have HR := Lib.hid hR
    clear hR hp e1 hall
    go_enter Tryz.func43, Tryz.ntmps43
    go_wp2_with (go_at_call 73; (refine HIF.out.mono ?_); rintro e w1 ⟨rfl, hb1⟩)
    go_ret
    exact ⟨_, rfl, Kd.R_below HR.out hb1, hb1.mono hbw⟩
  · obtain ⟨gr, cap', hv, hbase, hgl, _⟩ := Kd.R_form hR (by omega)
    injection hv with ea _ ec
    subst ea
    subst ec
    have hcap := (Kd.R_reads' hR).2.1
    rw [e1] at HIF
    have HR := Lib.hid hR
    have HP := Lib.hid hp
    have HF := Lib.hid hfil
    have hne1 : ((k0 : Int) == -1) = false := beq_eq_false_iff_ne.2 (by omega)
    clear hR hp e1 hfil
    go_enter Tryz.func43, Tryz.ntmps43
    go_wp2_with (go_at_call 73; (refine HIF.out.mono ?_); rintro e w1 ⟨rfl, hb1⟩)
    go_loopw [5, 6] (fun v5 v6 wr => ∃ (i j : Nat) (ys : List S37), v5 = .int .i64 i ∧ v6 = .int .i64 j ∧ i < j ∧ j ≤ xs.length ∧ Hid (ys.take i = (xs.take j).filter (fun x => !p x) ∧ ys.drop j = xs.drop j) ∧ Hid (Kd.R k37 37 wr base (fun _ => True) (.slice (some ⟨gr, 0, none⟩) xs.length cap) ys) ∧ Hid (Below base w wr)) (fun _ v _ => xs.length - (intOf v).toNat)
    case atStart => exact ⟨k0, k0 + 1, xs, rfl, by go_num, by omega, by omega, ⟨HF.out.symm, rfl⟩, Kd.R_below HR.out hb1, hb1.mono hbw⟩
    case round =>
      obtain ⟨i, j, ys, rfl, rfl, hij, hj, HX, HY, HB⟩ := hrel
      clear HR HF hb1
      have hyl := Lib.hid (Kd.R_reads' HY.out).1
      by_cases hlt : j < xs.length
      · have hltz : (j : Int) < (xs.length : Int) := by omega
        obtain ⟨ad, e1, c0, c1⟩ := at_T37 (Kd.R_reads' HY.out).2.2 (j : Int) (by omega) (by have := hyl.out; omega)
        injection e1 with e1
        subst e1
        have hx : rd_T37 ys (j : Int) = xs.getD j z37 := by
          have h1 : (ys.drop j)[0]? = (xs.drop j)[0]? := by rw [HX.out.2]
          rw [List.getElem?_drop, List.getElem?_drop] at h1
          show ys.getD j z37 = _
          rw [List.getD_eq_getElem?_getD, List.getD_eq_getElem?_getD]
          simpa using congrArg (·.getD z37) h1
        rw [hx] at c0 c1
        simp only [Int.toNat_natCast] at c0 c1
        have ej : (⟨gr, 0, none⟩ : Addr).add (j * 2) = ⟨gr, j * 2, none⟩ := by rw [Addr.add_lit, Nat.zero_add]
        rw [ej] at c0 c1
        have HM : Hid (xs.getD j z37 ∈ xs) := Lib.hid (getD_mem _ hlt)
        have HS := Lib.hid (filter_step p xs hlt z37)
        have HC : Hid (∀ W, Below base wr W → Calls Tryz.prog g (#[encP (xs.getD j z37)] ++ lb) W fun e w' => e = .returned (.bool (p (xs.getD j z37))) ∧ Below W.heap.size W w') := fun W hW => HP.out W _ HM.out (HB.out.trans hW)
        have HD : Hid (∀ u, (ys.set i u).drop (j + 1) = xs.drop (j + 1)) := fun u => by
          rw [List.drop_set, if_pos (by omega)]
          have := congrArg (List.drop 1) HX.out.2
          rw [List.drop_drop, List.drop_drop] at this
          exact this
        have HD0 : Hid (ys.drop (j + 1) = xs.drop (j + 1)) := by
          have := congrArg (List.drop 1) HX.out.2
          rw [List.drop_drop, List.drop_drop] at this
          exact this
        clear hx HP
        generalize xs.getD j z37 = x at c0 c1 HM HS HC
        have hcall := HC.out _ ((Below.refl base wr).alloc (by have := HB.out.size; omega) (.cells #[.string x.f0, .int .i64 x.f1] 37))
        have HQ := Lib.hid hcall
        clear hcall HC
        cases hpx : p x with
        | true =>
          rw [hpx] at HQ HS
          go_wp2_with (go_at_fn g; (refine HQ.out.mono ?_); rintro e w2 ⟨rfl, hb2⟩)
          have hbb : Below wr.heap.size wr w2 := ((Below.refl _ wr).alloc (Nat.le_refl _) _).trans (hb2.mono (by simp))
          go_roundw
          case rel => exact ⟨i, j + 1, ys, rfl, by go_num, by omega, by omega, ⟨by rw [HX.out.1, HS.out]; rfl, HD0.out⟩, Kd.R_below HY.out hbb, HB.out.trans (hbb.mono (Nat.le_trans hbw HB.out.size))⟩
          case measure => simp [intOf]; omega
        | false =>
          rw [hpx] at HQ HS
          have HZ : Hid ((W1 : World) → W1 = wr.alloc (.cells #[.string x.f0, .int .i64 x.f1] 37) → ∀ w2, Below W1.heap.size W1 w2 → w2.cell? ⟨wr.heap.size, 0, none⟩ = some (.string x.f0) ∧ w2.cell? ⟨wr.heap.size, 1, none⟩ = some (.int .i64 x.f1) ∧ Below wr.heap.size wr w2) := fun W1 e1 w2 h2 => by
            subst e1
            exact ⟨by rw [h2.cell (by simp)]; go_simp, by rw [h2.cell (by simp)]; go_simp, ((Below.refl _ wr).alloc (Nat.le_refl _) _).trans (h2.mono (by simp))⟩
          go_wp2_with (first
            | (go_at_fn g
               refine HQ.out.mono ?_
               rintro e w2 ⟨rfl, hb2⟩
               obtain ⟨k0', k1', hbb⟩ := HZ.out _ rfl w2 hb2
               have HY2 := Lib.hid (Kd.R_below HY.out hbb)
               have HB2 := Lib.hid (HB.out.trans (hbb.mono (Nat.le_trans hbw HB.out.size)))
               clear hb2 hbb HZ HQ HY HB
               obtain ⟨cf, hcl, _, hcc, hfr⟩ := Kd.R_elem HY2.out z37 (i : Int) (by omega) (by omega)
               simp only [Int.toNat_natCast] at hcc hfr
               have HCC := Lib.hid hcc
               have HCL : Hid (cf.length = 2) := hcl
               clear hcc hcl)
            | ((with_reducible refine gate_store (t := 37) (p := 33) rfl ?_)
               refine Kd.R_store k37 (w0 := w) base rfl rfl 37 (.tmp 33) _ rfl 37 (i : Int) 0 ys x (.agg #[.string x.f0, .int .i64 x.f1]) [.string x.f0, .int .i64 x.f1] cf (fun _ => True) (fun k => k ≠ gr) rfl ?sOff rfl rfl ?sT ?s1 HY2.out ?s0 ?sI HCL.out ?sC ?sJ ?sM ?sK HB2.out ?_))
          case sOff => simp only [Int.toNat_natCast]; rfl
          case sT => kernel_rfl
          case s1 => intro q hq; simp at hq; rcases hq with rfl | rfl <;> rfl
          case s0 => omega
          case sI => omega
          case sC => intro j' u' h'; simp only [Int.toNat_natCast]; exact HCC.out j' u' h'
          case sJ => exact Nat.le_refl _
          case sM =>
            have : cf.drop (0 + [Value.string x.f0, .int .i64 x.f1].length) = [] := List.drop_eq_nil_of_le (by have := HCL.out; simp; omega)
            rw [this]
            exact k37_mkM _ _ _ x
          case sK => exact fun k hk => ⟨trivial, hk⟩
          intro w3 HY3 HB3 _
          simp only [Int.toNat_natCast] at HY3
          have HY3 := Lib.hid HY3
          have HB3 := Lib.hid HB3
          go_wp2
          go_roundw
          case rel => exact ⟨i + 1, j + 1, ys.set i x, by go_num, by go_num, by omega, by omega, ⟨by
            rw [HS.out, ← HX.out.1]
            simp only [Bool.false_eq_true, if_false]
            rw [List.take_succ_eq_append_getElem (by have := hyl.out; rw [List.length_set]; omega), List.take_set_of_le (Nat.le_refl _), List.getElem_set_self], HD.out x⟩, HY3.out, HB3.out⟩
          case measure => simp [intOf]; omega
      · obtain rfl : j = xs.length := by omega
        have hltz : ¬ ((xs.length : Int) < (xs.length : Int)) := by omega
        have hn0 : ¬ (xs.length - i = 0) := by omega
        have hown := Kd.R_own HY.out
        obtain ⟨inner, hown⟩ := hown
        rw [← hyl.out] at hown
        have hil : inner.length = xs.length * 2 := hown.1
        have hzl := zero37_len (xs.length - i)
        have hcl : ∀ ty, (Builtin.clear_ #[22] ty #[.slice (some ⟨gr, i * 2, none⟩) (xs.length - i) (cap - i)]).run Tryz.prog wr = .ok (.tuple #[]) (wr.setCells gr (i * 2) (Builtin.zeroCells (Value.agg #[.string ⟨#[]⟩, .int .i64 0]).cells (xs.length - i)).toList) := fun ty => by
          have hst := run_storeCells_cells (P := Tryz.prog) gr (i * 2) (Builtin.zeroCells (Value.agg #[.string ⟨#[]⟩, .int .i64 0]).cells (xs.length - i)).toList 0 wr (fun j hj => by
              rw [hzl] at hj
              rw [show i * 2 + 0 + j = i * 2 + j from rfl, hown.cellAt _ (by show _ < xs.length * 2; omega), List.getElem?_eq_getElem (by omega)]
              rfl) (fun j _ => hown.frozenAt _) (zero37 _)
          have hv : ∀ w, (zeroValue 37).run Tryz.prog w = .ok (Value.agg #[.string ⟨#[]⟩, .int .i64 0]) w := fun w => rfl
          generalize hm : xs.length - i = m at hst
          obtain ⟨m', rfl⟩ : ∃ m', m = m' + 1 := ⟨m - 1, by omega⟩
          simp only [Nat.add_zero] at hst
          simp [Builtin.clear_, run_underlying Tryz.underlying22, hv, hst]
        have HBZ := Lib.hid (setCells_below (base := base) hbase (Builtin.zeroCells (Value.agg #[.string ⟨#[]⟩, .int .i64 0]).cells (xs.length - i)).toList (i * 2) w wr HB.out)
        have HT := Kd.R_take (m := i) HY.out (by have := hyl.out; omega)
        have HRZ := Lib.hid (R_setCells (Builtin.zeroCells (Value.agg #[.string ⟨#[]⟩, .int .i64 0]).cells (xs.length - i)).toList (i * 2) wr (Nat.le_refl _) HT)
        have hf : ys.take i = xs.filter (fun x => !p x) := by rw [HX.out.1, List.take_of_length_le (Nat.le_refl _)]
        have HF := Lib.hid hf
        clear HT hf hown hil hzl
        generalize wr.setCells gr (i * 2) (Builtin.zeroCells (Value.agg #[.string ⟨#[]⟩, .int .i64 0]).cells (xs.length - i)).toList = wz at hcl HBZ HRZ
        go_wp2
        go_ret
        refine ⟨_, rfl, ?_, HBZ.out⟩
        rw [← HF.out]
        exact HRZ.out
theorem infoP : (Tryz.prog.info? 37).map (fun i => (i.zero, i.size, i.bytes)) = some (some (.agg #[(.string ⟨#[]⟩), (.int .i64 0)]), 2, 24) := by kernel_rfl
set_option maxHeartbeats 2000000 in
theorem clone_any (A : Option Addr) (c : Nat) (xs : List S37) (w : World) (hr : Kd.C k37 w A xs.length xs) (hc : xs.length ≤ c) (hn : xs.length ≤ 5000000000000) :
    Calls Tryz.prog 44 #[.slice A xs.length c] w fun e w' => ∃ (A' : Option Addr) (c' : Nat), e = .returned (.slice A' xs.length c') ∧ Kd.R k37 37 w' w.heap.size (fun _ => True) (.slice A' xs.length c') xs ∧ Below w.heap.size w w' := by
  have q22 : ∀ (w : World) (a : Option Addr) (n c n' c' : Nat), (binOp .eql 22 (.slice a n c) (.slice none n' c')).run Tryz.prog w = .ok (.bool a.isNone) w := fun w a n c n' c' => Lib.run_eql_slice_nil w _ _ a n c n' c' Tryz.underlying22
  cases A with
  | none =>
    have h0 : xs.length = 0 := by
      rcases Nat.eq_zero_or_pos xs.length with h | h
      · exact h
      · obtain ⟨ad, e, _⟩ := hr.2.2 h
        cases e
    obtain rfl : xs = [] := List.eq_nil_of_length_eq_zero h0
    go_enter Tryz.func44, Tryz.ntmps44
    go_wp2
    go_ret
    exact ⟨none, 0, rfl, Kd.R_nil _ _ _ _ _, Below.refl _ _⟩
  | some ad =>
    have HR := Lib.hid hr
    clear hr
    have HO : Hid (Kd.R k37 37 (w.alloc (.cells #[] 37)) w.heap.size (fun _ => True) (.slice (some ⟨w.heap.size, 0, none⟩) 0 0) []) :=
      ⟨fun _ _ => trivial, [], World.ownsRow_made w #[] 0 (Nat.le_refl _) (Nat.zero_le _) (by simp), Reps.none _ _⟩
    have HC : Hid (Kd.C k37 (w.alloc (.cells #[] 37)) (some ad) xs.length xs) := Kd.C_below HR.out ((Below.refl _ w).alloc (Nat.le_refl _) _)
    go_enter Tryz.func44, Tryz.ntmps44
    go_wp2_with (at_builtin; refine Kd.R_append_rows k37 (w0 := w) w.heap.size rfl _ _ 22 37 (.agg #[(.string ⟨#[]⟩), (.int .i64 0)]) 24 rfl Tryz.underlying22 infoP rfl (by decide) (by omega) _ [] xs (some ad) xs.length c (fun _ => True) (fun _ => False) rfl rfl HO.out HC.out ?cM (fun _ h => h.elim) (fun _ _ => trivial) ?cB ?cS ?cL ?_)
    case cM =>
      intro x cs h
      obtain rfl := k37_open h
      exact k37_mkM _ _ _ x
    case cB => exact (Below.refl _ w).alloc (Nat.le_refl _) _
    case cS => simp
    case cL => simp; omega
    intro v1 w1 HO1 HB1 _ _
    obtain ⟨A', c', hv⟩ := Kd.R_slice HO1
    subst hv
    have HO2 := Lib.hid HO1
    have HB2 := Lib.hid HB1
    clear HO1 HB1
    go_wp2
    go_ret
    exact ⟨A', c', rfl, HO2.out, HB2.out⟩
theorem spared_any (A : Option Addr) (c : Nat) (xs : List S37) (t : UInt8) (w : World) (hr : Kd.C k37 w A xs.length xs) (hc : xs.length ≤ c) (hn : xs.length ≤ 5000000000000) :
    Calls Tryz.prog 29 #[.slice A xs.length c, .string ⟨#[t]⟩] w fun e w' => ∃ v : Value, e = .returned v ∧ Kd.R k37 37 w' w.heap.size (fun _ => True) v (xs.filter fun x => !hasB t x) ∧ Below w.heap.size w w' := by
  have HCl := Lib.hid (clone_any A c xs (w.alloc (.cells #[.string ⟨#[t]⟩] 9)) (Kd.C_below hr ((Below.refl _ w).alloc (Nat.le_refl _) _)) hc hn)
  have hb0 : Below w.heap.size w (w.alloc (.cells #[.string ⟨#[t]⟩] 9)) := (Below.refl _ w).alloc (Nat.le_refl _) _
  have hq : (w.alloc (.cells #[.string ⟨#[t]⟩] 9)).cell? ⟨w.heap.size, 0, none⟩ = some (.string ⟨#[t]⟩) := by go_simp
  have hs : w.heap.size < (w.alloc (.cells #[.string ⟨#[t]⟩] 9)).heap.size := by simp
  have eg : ∀ args W, (callFunc 45 args).run Tryz.prog W = .ok (.enter 45 args) W := enters_of Tryz.func45 (by kernel_rfl) rfl
  have HB0 := Lib.hid hb0
  have HQ := Lib.hid hq
  have HD : Hid (∀ (A' : Option Addr) (c' : Nat) (w2 : World), Kd.R k37 37 w2 (w.alloc (.cells #[.string ⟨#[t]⟩] 9)).heap.size (fun _ => True) (.slice A' xs.length c') xs → Below (w.alloc (.cells #[.string ⟨#[t]⟩] 9)).heap.size (w.alloc (.cells #[.string ⟨#[t]⟩] 9)) w2 →
      Calls Tryz.prog 43 #[.slice A' xs.length c', .func (.func 45) #[] #[.pointer (some ⟨w.heap.size, 0, none⟩)]] w2 fun e w' => ∃ v : Value, e = .returned v ∧ Kd.R k37 37 w' w.heap.size (fun _ => True) v (xs.filter fun x => !hasB t x) ∧ Below w.heap.size w w') := fun A' c' w2 h2 hb2 => by
    refine Calls.mono (deleteFunc_any 45 #[.pointer (some ⟨w.heap.size, 0, none⟩)] (hasB t) A' c' _ xs w2 h2 hb2.size (by omega) eg (fun W x _ hW => spared1_any t _ x W (by rw [hW.cell (show w.heap.size < _ from hs), hb2.cell (show w.heap.size < _ from hs)]; exact HQ.out))) ?_
    rintro e w' ⟨v, rfl, h3, hb3⟩
    exact ⟨v, rfl, Kd.R_lower h3 (Nat.le_of_lt hs), HB0.out.trans ((hb2.trans hb3).mono (Nat.le_of_lt hs))⟩
  clear hr hb0 hq hs eg HB0 HQ
  go_enter Tryz.func29, Tryz.ntmps29
  go_wp2_with (first
    | (go_at_call 44; (refine HCl.out.mono ?_); rintro e w2 ⟨A', c', rfl, h2, hb2⟩)
    | (go_at_call 43; (refine (HD.out A' c' w2 h2 hb2).mono ?_); rintro e w3 ⟨v, rfl, h3, hb3⟩))
  go_ret
  exact ⟨v, rfl, h3, hb3⟩
def prov_spared.f (l0 : List S37) (a1 : ByteArray) : Option (List S37) := if l0.length ≤ 5000000000000 ∧ a1.size = 1 then some (l0.filter fun x => !hasB (tokC a1) x) else none
theorem prov_spared.calls (A0 : Option Addr) (c0 : Nat) (l0 : List S37) (a1 : ByteArray) (r : List S37) (w : World) (hr0 : Kd.C k37 w A0 l0.length l0) (hc0 : l0.length ≤ c0) (h : prov_spared.f l0 a1 = some r) :
    Calls Tryz.prog 29 #[.slice A0 l0.length c0, .string a1] w fun e w' => ∃ v0_ : Value, e = .returned (v0_) ∧ Kd.R k37 37 w' w.heap.size (fun _ => True) v0_ r ∧ Below w.heap.size w w' := by
  unfold prov_spared.f at h
  split at h
  · rename_i hi
    obtain rfl := Option.some.inj h
    obtain ⟨t, rfl, ht⟩ := one_byte hi.2
    have e : tokC ⟨#[t]⟩ = t := by unfold tokC; rw [ht]; rfl
    rw [e]
    exact spared_any A0 c0 l0 t w hr0 hc0 hi.1
  · cases h

end Go.Proofs.YtajeaefpapnkbaaGreatDoor.P
-- WRITTEN FOR THIS CLAIM BY A PROGRAM OF THIS SESSION (wip/tools), which turns the lines of the kit's print
namespace Go.Proofs.YtajeaefpapnkbaaGreatDoor.P
open Go.RowKit Go.Proofs.YtajeaefpapnkbaaGreatDoorW.PrintWords Go.Proofs.YtajeaefpapnkbaaGreatDoorW.PrintLast Go.Proofs.YtajeaefpapnkbaaGreatDoorW.PrintMore
attribute [local go_sem] max2_int min2_int max_two min_two max_three min_three max_four min_four   -- for this text's walks alone
set_option linter.unusedVariables false
set_option linter.unusedSimpArgs false

/-! ### prov_Spared: function 11 -/
def prov_Spared.f (l0 : List (S37)) (a1 : ByteArray) : Option ((List (S37)) × Int) := (prov_ValidSum.f l0).bind fun t138 => (if t138 = true then ((prov_isToken.f a1).bind fun t139 => (if t139 = true then ((prov_spared.f l0 a1).bind fun t140 => (some (t140, 0))) else (some (([] : List (S37)), 2)))) else (some (([] : List (S37)), 92)))
set_option maxHeartbeats 8000000 in
set_option maxRecDepth 100000 in
theorem prov_Spared.calls (A0 : Option Addr) (c0 : Nat) (l0 : List (S37)) (a1 : ByteArray) (r1 : List (S37)) (r2 : Int) (w : World) (hr0 : Kd.C k37 w A0 l0.length l0) (hc0 : l0.length ≤ c0) (h : prov_Spared.f l0 a1 = some (r1, r2)) :
    Calls Tryz.prog 11 #[.slice A0 l0.length c0, .string a1] w fun e w' => ∃ v0_ : Value, e = .returned (.tuple #[v0_, .int .i64 r2]) ∧ Kd.R k37 37 w' w.heap.size (fun _ => True) v0_ r1 ∧ Below w.heap.size w w' := by
  have HR0 := Aside0.mk hr0
  have HC0 := Aside0.mk hc0
  clear hr0 hc0
  have HB := Aside0.mk (Below.refl w.heap.size w)
  have H : ((prov_ValidSum.f l0).bind fun t138 => (if t138 = true then ((prov_isToken.f a1).bind fun t139 => (if t139 = true then ((prov_spared.f l0 a1).bind fun t140 => (some (t140, 0))) else (some (([] : List (S37)), 2)))) else (some (([] : List (S37)), 92)))) = some (r1, r2) := h
  clear h
  replace H := Option.bind_eq_some_iff.mp H
  obtain ⟨t138, A30, H⟩ := H
  replace H : (if t138 = true then ((prov_isToken.f a1).bind fun t139 => (if t139 = true then ((prov_spared.f l0 a1).bind fun t140 => (some (t140, 0))) else (some (([] : List (S37)), 2)))) else (some (([] : List (S37)), 92))) = some (r1, r2) := H
  have A3 := Aside0.mk A30
  clear A30
  by_cases c4 : t138 = true
  · subst c4
    have H1 : ((prov_isToken.f a1).bind fun t139 => (if t139 = true then ((prov_spared.f l0 a1).bind fun t140 => (some (t140, 0))) else (some (([] : List (S37)), 2)))) = some (r1, r2) := by rw [if_pos rfl] at H; exact H
    clear H
    have H := H1
    clear H1
    replace H := Option.bind_eq_some_iff.mp H
    obtain ⟨t139, A50, H⟩ := H
    replace H : (if t139 = true then ((prov_spared.f l0 a1).bind fun t140 => (some (t140, 0))) else (some (([] : List (S37)), 2))) = some (r1, r2) := H
    have A5 := Aside0.mk A50
    clear A50
    by_cases c6 : t139 = true
    · subst c6
      have H1 : ((prov_spared.f l0 a1).bind fun t140 => (some (t140, 0))) = some (r1, r2) := by rw [if_pos rfl] at H; exact H
      clear H
      have H := H1
      clear H1
      replace H := Option.bind_eq_some_iff.mp H
      obtain ⟨t140, A70, H⟩ := H
      replace H : (some (t140, 0)) = some (r1, r2) := H
      have A7 := Aside0.mk A70
      clear A70
      simp only [Option.some.injEq, Prod.mk.injEq] at H
      obtain ⟨rfl, rfl⟩ := H
      go_enter Tryz.func11, Tryz.ntmps11
      go_wp2_with (first | ((with_reducible refine gate_callee (f := 15) rfl ?_); refine goesL_ (some 8) rfl rfl Tryz.func15 (by kernel_rfl) rfl #[.slice A0 l0.length c0] rfl (by (try simp only [List.map_toArray, List.map_cons, List.map_nil]); first | done | rfl | (simp only [List.length_drop, List.length_take]; rfl)) ?_; (with_reducible refine (prov_ValidSum.calls _ _ l0 true _ ?side1 ?side2 A3.out).mono ?_); (case side1 => repeat (first | exact HR0.out | (with_reducible refine Kd.C_alloc ?_ _) | (with_reducible refine Kd.C_drewN ?_ _) | (with_reducible refine Kd.C_drew ?_))); (case side2 => exact HC0.out); rintro e w8 ⟨rfl, hb⟩; refine ⟨_, rfl, ?_⟩; have n0_ := Aside0.mk (below_step (by repeat (first | (with_reducible first | exact HB.out | apply below_alloc | apply pw_below_drewN | apply below_drew1) | exact HB.out)) hb); clear HB; have HB := n0_; clear n0_; (try clear hb); (try clear hb2); (try clear hk); (try clear hi)) | ((with_reducible refine gate_callee (f := 28) rfl ?_); refine goesL_ (some 12) rfl rfl Tryz.func28 (by kernel_rfl) rfl #[.string a1] rfl (by (try simp only [List.map_toArray, List.map_cons, List.map_nil]); first | done | rfl | (simp only [List.length_drop, List.length_take]; rfl)) ?_; (with_reducible refine (prov_isToken.calls a1 true _ A5.out).mono ?_); rintro e w9 ⟨rfl, hb⟩; refine ⟨_, rfl, ?_⟩; have n0_ := Aside0.mk (below_step (by repeat (first | (with_reducible first | exact HB.out | apply below_alloc | apply pw_below_drewN | apply below_drew1) | exact HB.out)) hb); clear HB; have HB := n0_; clear n0_; (try clear hb); (try clear hb2); (try clear hk); (try clear hi)) | ((with_reducible refine gate_callee (f := 29) rfl ?_); refine goesL_ (some 16) rfl rfl Tryz.func29 (by kernel_rfl) rfl #[.slice A0 l0.length c0, .string a1] rfl (by (try simp only [List.map_toArray, List.map_cons, List.map_nil]); first | done | rfl | (simp only [List.length_drop, List.length_take]; rfl)) ?_; (with_reducible refine (prov_spared.calls _ _ l0 a1 t140 _ ?side1 ?side2 A7.out).mono ?_); (case side1 => repeat (first | exact (Kd.C_below HR0.out HB.out) | (with_reducible refine Kd.C_alloc ?_ _) | (with_reducible refine Kd.C_drewN ?_ _) | (with_reducible refine Kd.C_drew ?_))); (case side2 => exact HC0.out); rintro e w10 ⟨v141, rfl, ho0, hb⟩; refine ⟨_, rfl, ?_⟩; have n0_ := Aside0.mk (Kd.R_lower ho0 (below_size (by repeat (first | (with_reducible first | exact HB.out | apply below_alloc | apply pw_below_drewN | apply below_drew1) | exact HB.out)))); have n1_ := Aside0.mk (below_step (by repeat (first | (with_reducible first | exact HB.out | apply below_alloc | apply pw_below_drewN | apply below_drew1) | exact HB.out)) hb); clear HB; have HO142 := n0_; have HB := n1_; clear n0_ n1_; (try clear hb); (try clear hb2); (try clear hk); (try clear hi); (try clear ho0)))
      go_ret2
      exact ⟨_, by first | rfl | (simp [errW_none, errW_some] <;> rfl) | (simp [*, errW_none, errW_some] <;> rfl), by (with_reducible repeat (first | apply Kd.R_alloc | apply Kd.R_drewN | apply Kd.R_drew)); exact HO142.out, by repeat (first | (with_reducible first | exact HB.out | apply below_alloc | apply pw_below_drewN | apply below_drew1) | exact HB.out)⟩
    · replace c6 := Bool.eq_false_iff.mpr c6
      subst c6
      have H1 : (some (([] : List (S37)), 2)) = some (r1, r2) := by rw [if_neg (show ¬ (false = true) by decide)] at H; exact H
      clear H
      have H := H1
      clear H1
      simp only [Option.some.injEq, Prod.mk.injEq] at H
      obtain ⟨rfl, rfl⟩ := H
      go_enter Tryz.func11, Tryz.ntmps11
      go_wp2_with (first | ((with_reducible refine gate_callee (f := 15) rfl ?_); refine goesL_ (some 8) rfl rfl Tryz.func15 (by kernel_rfl) rfl #[.slice A0 l0.length c0] rfl (by (try simp only [List.map_toArray, List.map_cons, List.map_nil]); first | done | rfl | (simp only [List.length_drop, List.length_take]; rfl)) ?_; (with_reducible refine (prov_ValidSum.calls _ _ l0 true _ ?side1 ?side2 A3.out).mono ?_); (case side1 => repeat (first | exact HR0.out | (with_reducible refine Kd.C_alloc ?_ _) | (with_reducible refine Kd.C_drewN ?_ _) | (with_reducible refine Kd.C_drew ?_))); (case side2 => exact HC0.out); rintro e w11 ⟨rfl, hb⟩; refine ⟨_, rfl, ?_⟩; have n0_ := Aside0.mk (below_step (by repeat (first | (with_reducible first | exact HB.out | apply below_alloc | apply pw_below_drewN | apply below_drew1) | exact HB.out)) hb); clear HB; have HB := n0_; clear n0_; (try clear hb); (try clear hb2); (try clear hk); (try clear hi)) | ((with_reducible refine gate_callee (f := 28) rfl ?_); refine goesL_ (some 12) rfl rfl Tryz.func28 (by kernel_rfl) rfl #[.string a1] rfl (by (try simp only [List.map_toArray, List.map_cons, List.map_nil]); first | done | rfl | (simp only [List.length_drop, List.length_take]; rfl)) ?_; (with_reducible refine (prov_isToken.calls a1 false _ A5.out).mono ?_); rintro e w12 ⟨rfl, hb⟩; refine ⟨_, rfl, ?_⟩; have n0_ := Aside0.mk (below_step (by repeat (first | (with_reducible first | exact HB.out | apply below_alloc | apply pw_below_drewN | apply below_drew1) | exact HB.out)) hb); clear HB; have HB := n0_; clear n0_; (try clear hb); (try clear hb2); (try clear hk); (try clear hi)))
      go_ret2
      exact ⟨_, by first | rfl | (simp [errW_none, errW_some] <;> rfl) | (simp [*, errW_none, errW_some] <;> rfl), by first | exact Kd.R_nil _ _ _ _ _ | exact Kd.N_nil _ _ _ _ _ | exact Kd.V_nil _ _ _ _ _ | exact Kd.Q_nil _ _ _ _ _ | exact Kd.S_nil _ _ _ _ _, by repeat (first | (with_reducible first | exact HB.out | apply below_alloc | apply pw_below_drewN | apply below_drew1) | exact HB.out)⟩
  · replace c4 := Bool.eq_false_iff.mpr c4
    subst c4
    have H1 : (some (([] : List (S37)), 92)) = some (r1, r2) := by rw [if_neg (show ¬ (false = true) by decide)] at H; exact H
    clear H
    have H := H1
    clear H1
    simp only [Option.some.injEq, Prod.mk.injEq] at H
    obtain ⟨rfl, rfl⟩ := H
    go_enter Tryz.func11, Tryz.ntmps11
    go_wp2_with (first | ((with_reducible refine gate_callee (f := 15) rfl ?_); refine goesL_ (some 8) rfl rfl Tryz.func15 (by kernel_rfl) rfl #[.slice A0 l0.length c0] rfl (by (try simp only [List.map_toArray, List.map_cons, List.map_nil]); first | done | rfl | (simp only [List.length_drop, List.length_take]; rfl)) ?_; (with_reducible refine (prov_ValidSum.calls _ _ l0 false _ ?side1 ?side2 A3.out).mono ?_); (case side1 => repeat (first | exact HR0.out | (with_reducible refine Kd.C_alloc ?_ _) | (with_reducible refine Kd.C_drewN ?_ _) | (with_reducible refine Kd.C_drew ?_))); (case side2 => exact HC0.out); rintro e w13 ⟨rfl, hb⟩; refine ⟨_, rfl, ?_⟩; have n0_ := Aside0.mk (below_step (by repeat (first | (with_reducible first | exact HB.out | apply below_alloc | apply pw_below_drewN | apply below_drew1) | exact HB.out)) hb); clear HB; have HB := n0_; clear n0_; (try clear hb); (try clear hb2); (try clear hk); (try clear hi)))
    go_ret2
    exact ⟨_, by first | rfl | (simp [errW_none, errW_some] <;> rfl) | (simp [*, errW_none, errW_some] <;> rfl), by first | exact Kd.R_nil _ _ _ _ _ | exact Kd.N_nil _ _ _ _ _ | exact Kd.V_nil _ _ _ _ _ | exact Kd.Q_nil _ _ _ _ _ | exact Kd.S_nil _ _ _ _ _, by repeat (first | (with_reducible first | exact HB.out | apply below_alloc | apply pw_below_drewN | apply below_drew1) | exact HB.out)⟩

end Go.Proofs.YtajeaefpapnkbaaGreatDoor.P
-- WRITTEN FOR THIS CLAIM BY A PROGRAM OF THIS SESSION (wip/tools), which turns the lines of the kit's print
namespace Go.Proofs.YtajeaefpapnkbaaGreatDoor.P
open Go.RowKit Go.Proofs.YtajeaefpapnkbaaGreatDoorW.PrintWords Go.Proofs.YtajeaefpapnkbaaGreatDoorW.PrintLast Go.Proofs.YtajeaefpapnkbaaGreatDoorW.PrintMore
attribute [local go_sem] max2_int min2_int max_two min_two max_three min_three max_four min_four   -- for this text's walks alone
set_option linter.unusedVariables false
set_option linter.unusedSimpArgs false

/-! ### firnref09_IsToken: function 30 -/
def firnref09_IsToken.f (k : Nat) (a0 : ByteArray) : Option (Bool) := if (a0.size : Int) = 1 then ((firnref09_isTokens.f k a0).bind fun t143 => (some t143)) else (some false)
theorem firnref09_IsToken.mono : ∀ a0 k, LeO (firnref09_IsToken.f k a0) (firnref09_IsToken.f (k + 1) a0) := by
  intro a0 k
  unfold firnref09_IsToken.f
  repeat' first
      | (with_reducible exact firnref09_isTokens.mono _ _)
      | (with_reducible exact LeO.refl _)
      | (with_reducible exact LeO.none _)
      | (with_reducible refine LeO.ite ?_ ?_)
      | (with_reducible refine LeO.bind ?_ (fun _ => ?_))
      | exact firnref09_isTokens.mono _ _
      | exact LeO.none _
      | refine LeO.ite ?_ ?_
      | refine LeO.bind ?_ (fun _ => ?_)
set_option maxHeartbeats 8000000 in
set_option maxRecDepth 100000 in
theorem firnref09_IsToken.calls (k : Nat) (a0 : ByteArray) (r : Bool) (w : World) (h : firnref09_IsToken.f k a0 = some r) :
    Calls Tryz.prog 30 #[.string a0] w fun e w' => e = .returned (.bool r) ∧ Drawn0 w w' := by
  have H : (if (a0.size : Int) = 1 then ((firnref09_isTokens.f k a0).bind fun t143 => (some t143)) else (some false)) = some r := h
  clear h
  by_cases c2 : (a0.size : Int) = 1
  · rw [if_pos c2] at H
    have c2b0 : ((a0.size : Int) == 1) = true := beq_iff_eq.mpr c2
    have c2b1 : ((a0.size : Int) != 1) = false := bne_eq_false_iff_eq.mpr c2
    clear c2
    replace H := Option.bind_eq_some_iff.mp H
    obtain ⟨t143, A30, H⟩ := H
    replace H : (some t143) = some r := H
    have A3 := Aside0.mk A30
    clear A30
    obtain rfl := Option.some.inj H
    go_enter Tryz.func30, Tryz.ntmps30
    go_wp2_with (first | (go_at_call 40; (with_reducible refine (firnref09_isTokens.calls k a0 t143 _ A3.out).mono ?_); rintro e w' ⟨rfl, ⟨nd, rfl⟩⟩))
    go_ret
    exact ⟨by first | rfl | (simp; done) | (simp [*]; done), by repeat (first | exact Drawn0.refl _ | apply Drawn0.step)⟩
  · rw [if_neg c2] at H
    have c2b0 : ((a0.size : Int) == 1) = false := beq_eq_false_iff_ne.mpr c2
    have c2b1 : ((a0.size : Int) != 1) = true := bne_iff_ne.mpr c2
    obtain rfl := Option.some.inj H
    go_enter Tryz.func30, Tryz.ntmps30
    go_wp2
    go_ret
    exact ⟨by first | rfl | (simp; done) | (simp [*]; done), by repeat (first | exact Drawn0.refl _ | apply Drawn0.step)⟩

end Go.Proofs.YtajeaefpapnkbaaGreatDoor.P
-- WRITTEN FOR THIS CLAIM BY A PROGRAM OF THIS SESSION (wip/tools), which turns the lines of the kit's print
namespace Go.Proofs.YtajeaefpapnkbaaGreatDoor.P
open Go.RowKit Go.Proofs.YtajeaefpapnkbaaGreatDoorW.PrintWords Go.Proofs.YtajeaefpapnkbaaGreatDoorW.PrintLast Go.Proofs.YtajeaefpapnkbaaGreatDoorW.PrintMore
attribute [local go_sem] max2_int min2_int max_two min_two max_three min_three max_four min_four   -- for this text's walks alone
set_option linter.unusedVariables false
set_option linter.unusedSimpArgs false

/-! ### firnref09_Spared: function 12 -/
def firnref09_Spared.f (k : Nat) (l0 : List (S37)) (a1 : ByteArray) : Option ((List (S37)) × Int) := (firnref09_ValidSum.f l0).bind fun t144 => (if t144 = true then ((firnref09_IsToken.f k a1).bind fun t145 => (if t145 = true then (if 0 < (a1.size : Int) then ((firnref09_spared.f k l0 (bt a1 0)).bind fun t146 => (some (t146, 0))) else (none)) else (some (([] : List (S37)), 2)))) else (some (([] : List (S37)), 92)))
theorem firnref09_Spared.mono : ∀ a0 a1 k, LeO (firnref09_Spared.f k a0 a1) (firnref09_Spared.f (k + 1) a0 a1) := by
  intro a0 a1 k
  unfold firnref09_Spared.f
  repeat' first
      | (with_reducible exact firnref09_IsToken.mono _ _)
      | (with_reducible exact firnref09_spared.mono _ _ _)
      | (with_reducible exact LeO.refl _)
      | (with_reducible exact LeO.none _)
      | (with_reducible refine LeO.ite ?_ ?_)
      | (with_reducible refine LeO.bind ?_ (fun _ => ?_))
      | exact firnref09_IsToken.mono _ _
      | exact firnref09_spared.mono _ _ _
      | exact LeO.none _
      | refine LeO.ite ?_ ?_
      | refine LeO.bind ?_ (fun _ => ?_)
set_option maxHeartbeats 8000000 in
set_option maxRecDepth 100000 in
theorem firnref09_Spared.calls (k : Nat) (A0 : Option Addr) (c0 : Nat) (l0 : List (S37)) (a1 : ByteArray) (r1 : List (S37)) (r2 : Int) (w : World) (hr0 : Kd.C k37 w A0 l0.length l0) (hc0 : l0.length ≤ c0) (h : firnref09_Spared.f k l0 a1 = some (r1, r2)) :
    Calls Tryz.prog 12 #[.slice A0 l0.length c0, .string a1] w fun e w' => ∃ v0_ : Value, e = .returned (.tuple #[v0_, .int .i64 r2]) ∧ Kd.R k37 37 w' w.heap.size (fun _ => True) v0_ r1 ∧ Below w.heap.size w w' := by
  have HR0 := Aside0.mk hr0
  have HC0 := Aside0.mk hc0
  clear hr0 hc0
  have HB := Aside0.mk (Below.refl w.heap.size w)
  have H : ((firnref09_ValidSum.f l0).bind fun t144 => (if t144 = true then ((firnref09_IsToken.f k a1).bind fun t145 => (if t145 = true then (if 0 < (a1.size : Int) then ((firnref09_spared.f k l0 (bt a1 0)).bind fun t146 => (some (t146, 0))) else (none)) else (some (([] : List (S37)), 2)))) else (some (([] : List (S37)), 92)))) = some (r1, r2) := h
  clear h
  replace H := Option.bind_eq_some_iff.mp H
  obtain ⟨t144, A30, H⟩ := H
  replace H : (if t144 = true then ((firnref09_IsToken.f k a1).bind fun t145 => (if t145 = true then (if 0 < (a1.size : Int) then ((firnref09_spared.f k l0 (bt a1 0)).bind fun t146 => (some (t146, 0))) else (none)) else (some (([] : List (S37)), 2)))) else (some (([] : List (S37)), 92))) = some (r1, r2) := H
  have A3 := Aside0.mk A30
  clear A30
  by_cases c4 : t144 = true
  · subst c4
    have H1 : ((firnref09_IsToken.f k a1).bind fun t145 => (if t145 = true then (if 0 < (a1.size : Int) then ((firnref09_spared.f k l0 (bt a1 0)).bind fun t146 => (some (t146, 0))) else (none)) else (some (([] : List (S37)), 2)))) = some (r1, r2) := by rw [if_pos rfl] at H; exact H
    clear H
    have H := H1
    clear H1
    replace H := Option.bind_eq_some_iff.mp H
    obtain ⟨t145, A50, H⟩ := H
    replace H : (if t145 = true then (if 0 < (a1.size : Int) then ((firnref09_spared.f k l0 (bt a1 0)).bind fun t146 => (some (t146, 0))) else (none)) else (some (([] : List (S37)), 2))) = some (r1, r2) := H
    have A5 := Aside0.mk A50
    clear A50
    by_cases c6 : t145 = true
    · subst c6
      have H1 : (if 0 < (a1.size : Int) then ((firnref09_spared.f k l0 (bt a1 0)).bind fun t146 => (some (t146, 0))) else (none)) = some (r1, r2) := by rw [if_pos rfl] at H; exact H
      clear H
      have H := H1
      clear H1
      by_cases c7 : 0 < (a1.size : Int)
      · rw [if_pos c7] at H
        have c7b0 : decide (0 < (a1.size : Int)) = true := decide_eq_true c7
        have c7b1 : decide (0 < a1.size) = true := decide_eq_true (by omega)
        clear c7
        replace H := Option.bind_eq_some_iff.mp H
        obtain ⟨t146, A90, H⟩ := H
        replace H : (some (t146, 0)) = some (r1, r2) := H
        have A9 := Aside0.mk A90
        clear A90
        simp only [Option.some.injEq, Prod.mk.injEq] at H
        obtain ⟨rfl, rfl⟩ := H
        go_enter Tryz.func12, Tryz.ntmps12
        go_wp2_with (first | ((with_reducible refine gate_callee (f := 23) rfl ?_); refine goesL_ (some 7) rfl rfl Tryz.func23 (by kernel_rfl) rfl #[.slice A0 l0.length c0] rfl (by (try simp only [List.map_toArray, List.map_cons, List.map_nil]); first | done | rfl | (simp only [List.length_drop, List.length_take]; rfl)) ?_; (with_reducible refine (firnref09_ValidSum.calls _ _ l0 true _ ?side1 ?side2 A3.out).mono ?_); (case side1 => repeat (first | exact HR0.out | (with_reducible refine Kd.C_alloc ?_ _) | (with_reducible refine Kd.C_drewN ?_ _) | (with_reducible refine Kd.C_drew ?_))); (case side2 => exact HC0.out); rintro e w10 ⟨rfl, hb⟩; refine ⟨_, rfl, ?_⟩; have n0_ := Aside0.mk (below_step (by repeat (first | (with_reducible first | exact HB.out | apply below_alloc | apply pw_below_drewN | apply below_drew1) | exact HB.out)) hb); clear HB; have HB := n0_; clear n0_; (try clear hb); (try clear hb2); (try clear hk); (try clear hi)) | ((with_reducible refine gate_callee (f := 30) rfl ?_); refine goesL_ (some 10) rfl rfl Tryz.func30 (by kernel_rfl) rfl #[.string a1] rfl (by (try simp only [List.map_toArray, List.map_cons, List.map_nil]); first | done | rfl | (simp only [List.length_drop, List.length_take]; rfl)) ?_; (with_reducible refine (firnref09_IsToken.calls k a1 true _ A5.out).mono ?_); rintro e w' ⟨rfl, ⟨nd, rfl⟩⟩; refine ⟨_, rfl, ?_⟩; have p8 : 0 ≤ (0 : Int) := (by omega); have q8 : 0 < a1.size := (by have : (0 : Int) < (a1.size : Int) := of_decide_eq_true (by first | (with_reducible assumption) | assumption); omega); have hx8 : ∀ h : 0 < a1.size, ((a1[0]'h).toNat : Int) = bt a1 0 := bt_at a1 0; clear p8; have qi8 : (0 < (a1.size : Int)) = True := eq_true (of_decide_eq_true (by first | (with_reducible assumption) | assumption)); replace q8 := eq_true q8) | ((with_reducible refine gate_callee (f := 27) rfl ?_); refine goesL_ (some 15) rfl rfl Tryz.func27 (by kernel_rfl) rfl #[.slice A0 l0.length c0, .int .u8 (bt a1 0)] rfl (by (try simp only [List.map_toArray, List.map_cons, List.map_nil]); first | done | rfl | (simp only [List.length_drop, List.length_take]; rfl)) ?_; (with_reducible refine (firnref09_spared.calls k _ _ l0 (bt a1 0) t146 _ ?side1 ?side2 A9.out).mono ?_); (case side1 => repeat (first | exact (Kd.C_below HR0.out (by repeat (first | (with_reducible first | exact HB.out | apply below_alloc | apply pw_below_drewN | apply below_drew1) | exact HB.out))) | (with_reducible refine Kd.C_alloc ?_ _) | (with_reducible refine Kd.C_drewN ?_ _) | (with_reducible refine Kd.C_drew ?_))); (case side2 => exact HC0.out); rintro e w11 ⟨v147, rfl, ho0, hb⟩; refine ⟨_, rfl, ?_⟩; have n0_ := Aside0.mk (Kd.R_lower ho0 (below_size (by repeat (first | (with_reducible first | exact HB.out | apply below_alloc | apply pw_below_drewN | apply below_drew1) | exact HB.out)))); have n1_ := Aside0.mk (below_step (by repeat (first | (with_reducible first | exact HB.out | apply below_alloc | apply pw_below_drewN | apply below_drew1) | exact HB.out)) hb); clear HB; have HO148 := n0_; have HB := n1_; clear n0_ n1_; (try clear hb); (try clear hb2); (try clear hk); (try clear hi); (try clear ho0)))
        go_ret2
        exact ⟨_, by first | rfl | (simp [errW_none, errW_some] <;> rfl) | (simp [*, errW_none, errW_some] <;> rfl), by (with_reducible repeat (first | apply Kd.R_alloc | apply Kd.R_drewN | apply Kd.R_drew)); exact HO148.out, by repeat (first | (with_reducible first | exact HB.out | apply below_alloc | apply pw_below_drewN | apply below_drew1) | exact HB.out)⟩
      · rw [if_neg c7] at H
        exact absurd H (by simp)
    · replace c6 := Bool.eq_false_iff.mpr c6
      subst c6
      have H1 : (some (([] : List (S37)), 2)) = some (r1, r2) := by rw [if_neg (show ¬ (false = true) by decide)] at H; exact H
      clear H
      have H := H1
      clear H1
      simp only [Option.some.injEq, Prod.mk.injEq] at H
      obtain ⟨rfl, rfl⟩ := H
      go_enter Tryz.func12, Tryz.ntmps12
      go_wp2_with (first | ((with_reducible refine gate_callee (f := 23) rfl ?_); refine goesL_ (some 7) rfl rfl Tryz.func23 (by kernel_rfl) rfl #[.slice A0 l0.length c0] rfl (by (try simp only [List.map_toArray, List.map_cons, List.map_nil]); first | done | rfl | (simp only [List.length_drop, List.length_take]; rfl)) ?_; (with_reducible refine (firnref09_ValidSum.calls _ _ l0 true _ ?side1 ?side2 A3.out).mono ?_); (case side1 => repeat (first | exact HR0.out | (with_reducible refine Kd.C_alloc ?_ _) | (with_reducible refine Kd.C_drewN ?_ _) | (with_reducible refine Kd.C_drew ?_))); (case side2 => exact HC0.out); rintro e w12 ⟨rfl, hb⟩; refine ⟨_, rfl, ?_⟩; have n0_ := Aside0.mk (below_step (by repeat (first | (with_reducible first | exact HB.out | apply below_alloc | apply pw_below_drewN | apply below_drew1) | exact HB.out)) hb); clear HB; have HB := n0_; clear n0_; (try clear hb); (try clear hb2); (try clear hk); (try clear hi)) | ((with_reducible refine gate_callee (f := 30) rfl ?_); refine goesL_ (some 10) rfl rfl Tryz.func30 (by kernel_rfl) rfl #[.string a1] rfl (by (try simp only [List.map_toArray, List.map_cons, List.map_nil]); first | done | rfl | (simp only [List.length_drop, List.length_take]; rfl)) ?_; (with_reducible refine (firnref09_IsToken.calls k a1 false _ A5.out).mono ?_); rintro e w' ⟨rfl, ⟨nd, rfl⟩⟩; refine ⟨_, rfl, ?_⟩))
      go_ret2
      exact ⟨_, by first | rfl | (simp [errW_none, errW_some] <;> rfl) | (simp [*, errW_none, errW_some] <;> rfl), by first | exact Kd.R_nil _ _ _ _ _ | exact Kd.N_nil _ _ _ _ _ | exact Kd.V_nil _ _ _ _ _ | exact Kd.Q_nil _ _ _ _ _ | exact Kd.S_nil _ _ _ _ _, by repeat (first | (with_reducible first | exact HB.out | apply below_alloc | apply pw_below_drewN | apply below_drew1) | exact HB.out)⟩
  · replace c4 := Bool.eq_false_iff.mpr c4
    subst c4
    have H1 : (some (([] : List (S37)), 92)) = some (r1, r2) := by rw [if_neg (show ¬ (false = true) by decide)] at H; exact H
    clear H
    have H := H1
    clear H1
    simp only [Option.some.injEq, Prod.mk.injEq] at H
    obtain ⟨rfl, rfl⟩ := H
    go_enter Tryz.func12, Tryz.ntmps12
    go_wp2_with (first | ((with_reducible refine gate_callee (f := 23) rfl ?_); refine goesL_ (some 7) rfl rfl Tryz.func23 (by kernel_rfl) rfl #[.slice A0 l0.length c0] rfl (by (try simp only [List.map_toArray, List.map_cons, List.map_nil]); first | done | rfl | (simp only [List.length_drop, List.length_take]; rfl)) ?_; (with_reducible refine (firnref09_ValidSum.calls _ _ l0 false _ ?side1 ?side2 A3.out).mono ?_); (case side1 => repeat (first | exact HR0.out | (with_reducible refine Kd.C_alloc ?_ _) | (with_reducible refine Kd.C_drewN ?_ _) | (with_reducible refine Kd.C_drew ?_))); (case side2 => exact HC0.out); rintro e w13 ⟨rfl, hb⟩; refine ⟨_, rfl, ?_⟩; have n0_ := Aside0.mk (below_step (by repeat (first | (with_reducible first | exact HB.out | apply below_alloc | apply pw_below_drewN | apply below_drew1) | exact HB.out)) hb); clear HB; have HB := n0_; clear n0_; (try clear hb); (try clear hb2); (try clear hk); (try clear hi)))
    go_ret2
    exact ⟨_, by first | rfl | (simp [errW_none, errW_some] <;> rfl) | (simp [*, errW_none, errW_some] <;> rfl), by first | exact Kd.R_nil _ _ _ _ _ | exact Kd.N_nil _ _ _ _ _ | exact Kd.V_nil _ _ _ _ _ | exact Kd.Q_nil _ _ _ _ _ | exact Kd.S_nil _ _ _ _ _, by repeat (first | (with_reducible first | exact HB.out | apply below_alloc | apply pw_below_drewN | apply below_drew1) | exact HB.out)⟩

end Go.Proofs.YtajeaefpapnkbaaGreatDoor.P
-- WRITTEN FOR THIS CLAIM BY A PROGRAM OF THIS SESSION (wip/tools), which turns the lines of the kit's print
namespace Go.Proofs.YtajeaefpapnkbaaGreatDoor.P
open Go.RowKit Go.Proofs.YtajeaefpapnkbaaGreatDoorW.PrintWords Go.Proofs.YtajeaefpapnkbaaGreatDoorW.PrintLast Go.Proofs.YtajeaefpapnkbaaGreatDoorW.PrintMore
attribute [local go_sem] max2_int min2_int max_two min_two max_three min_three max_four min_four   -- for this text's walks alone
set_option linter.unusedVariables false
set_option linter.unusedSimpArgs false

theorem eqA37 (d : Nat) (w : World) (x0 y0 : ByteArray) (x1 y1 : Int) :
    (Op.equalIn (d + 2) 37 (.agg #[.string x0, .int .i64 x1]) (.agg #[.string y0, .int .i64 y1])).run Tryz.prog w = .ok (x0.toList == y0.toList && (x1 == y1)) w := by
  refine eqA_of Tryz.underlying37 (by kernel_rfl) ?_
  refine eqf_cons (by rfl) (by go_simp; rfl) (by go_simp; rfl) (by go_simp) ?_
  exact eqf_last (by rfl) (by go_simp; rfl) (by go_simp; rfl) (by go_simp)
end Go.Proofs.YtajeaefpapnkbaaGreatDoor.P
-- WRITTEN FOR THIS CLAIM BY A PROGRAM OF THIS SESSION (wip/tools), which turns the lines of the kit's print
namespace Go.Proofs.YtajeaefpapnkbaaGreatDoor.P
open Go.RowKit Go.Proofs.YtajeaefpapnkbaaGreatDoorW.PrintWords Go.Proofs.YtajeaefpapnkbaaGreatDoorW.PrintLast Go.Proofs.YtajeaefpapnkbaaGreatDoorW.PrintMore
attribute [local go_sem] max2_int min2_int max_two min_two max_three min_three max_four min_four   -- for this text's walks alone
set_option linter.unusedVariables false
set_option linter.unusedSimpArgs false

attribute [local go_sem high] eqA37
/-! ### firnref09_SameSums: function 13 -/
def firnref09_SameSums.l0 : Nat → List (S37) → List (S37) → Int → Int → Option (Bool)
  | 0, _, _, _, _ => none
  | k + 1, x0, x1, x12, x13 => if x13 < x12 then (if 0 ≤ x13 then (if x13 < (x0.length : Int) then (if x13 < (x1.length : Int) then (if (!((((rd_T37 x0 x13).f0).toList) == (((rd_T37 x1 x13).f0).toList)) || (!(((rd_T37 x0 x13).f1) == ((rd_T37 x1 x13).f1)))) = true then (some false) else (firnref09_SameSums.l0 k x0 x1 x12 (wrap64 (x13 + 1)))) else (none)) else (none)) else (none)) else (some true)
def firnref09_SameSums.f (k : Nat) (l0 : List (S37)) (l1 : List (S37)) : Option (Bool) := if (l0.length : Int) = (l1.length : Int) then (firnref09_SameSums.l0 k l0 l1 (l0.length : Int) 0) else (some false)
theorem firnref09_SameSums.mono_l : ∀ k, (∀ y0 y1 y2 y3, LeO (firnref09_SameSums.l0 k y0 y1 y2 y3) (firnref09_SameSums.l0 (k + 1) y0 y1 y2 y3))
  | 0 => fun _ _ _ _ r h => by simp [firnref09_SameSums.l0] at h
  | k + 1 => by
    have ih0 := firnref09_SameSums.mono_l k
    · intro y0 y1 y2 y3
      unfold firnref09_SameSums.l0
      repeat' first
      | (with_reducible exact ih0 _ _ _ _)
      | (with_reducible exact LeO.refl _)
      | (with_reducible exact LeO.none _)
      | (with_reducible refine LeO.ite ?_ ?_)
      | (with_reducible refine LeO.bind ?_ (fun _ => ?_))
      | exact ih0 _ _ _ _
      | exact LeO.none _
      | refine LeO.ite ?_ ?_
      | refine LeO.bind ?_ (fun _ => ?_)
theorem firnref09_SameSums.mono : ∀ a0 a1 k, LeO (firnref09_SameSums.f k a0 a1) (firnref09_SameSums.f (k + 1) a0 a1) := by
  intro a0 a1 k
  have ih0 := firnref09_SameSums.mono_l k
  unfold firnref09_SameSums.f
  repeat' first
      | (with_reducible exact ih0 _ _ _ _)
      | (with_reducible exact LeO.refl _)
      | (with_reducible exact LeO.none _)
      | (with_reducible refine LeO.ite ?_ ?_)
      | (with_reducible refine LeO.bind ?_ (fun _ => ?_))
      | exact ih0 _ _ _ _
      | exact LeO.none _
      | refine LeO.ite ?_ ?_
      | refine LeO.bind ?_ (fun _ => ?_)
set_option maxHeartbeats 8000000 in
set_option maxRecDepth 100000 in
theorem firnref09_SameSums.calls (k : Nat) (A0 : Option Addr) (c0 : Nat) (l0 : List (S37)) (A1 : Option Addr) (c1 : Nat) (l1 : List (S37)) (r : Bool) (w : World) (hr0 : Kd.C k37 w A0 l0.length l0) (hc0 : l0.length ≤ c0) (hr1 : Kd.C k37 w A1 l1.length l1) (hc1 : l1.length ≤ c1) (h : firnref09_SameSums.f k l0 l1 = some r) :
    Calls Tryz.prog 13 #[.slice A0 l0.length c0, .slice A1 l1.length c1] w fun e w' => e = .returned (.bool r) ∧ Drawn0 w w' := by
  have hu37 := Tryz.underlying37
  have HR0 := Aside0.mk hr0
  have HC0 := Aside0.mk hc0
  clear hr0 hc0
  have HR1 := Aside0.mk hr1
  have HC1 := Aside0.mk hc1
  clear hr1 hc1
  have H : (if (l0.length : Int) = (l1.length : Int) then (firnref09_SameSums.l0 k l0 l1 (l0.length : Int) 0) else (some false)) = some r := h
  clear h
  by_cases c3 : (l0.length : Int) = (l1.length : Int)
  · rw [if_pos c3] at H
    have c3b0 : ((l0.length : Int) == (l1.length : Int)) = true := beq_iff_eq.mpr c3
    have c3b1 : ((l0.length : Int) != (l1.length : Int)) = false := bne_eq_false_iff_eq.mpr c3
    have c3b2 : (l0.length == l1.length) = true := by first | simpa using c3 | (simp at c3 ⊢; omega)
    clear c3
    have H' := Aside0.mk H
    clear H
    go_enter Tryz.func13, Tryz.ntmps13
    go_wp2
    repeat (go_quiet (fail); try go_wp2)
    go_loopg [13] k (fun kq v13 w' => ∃ (x13_1 : Int), v13 = .int .i64 x13_1 ∧ Aside0 (firnref09_SameSums.l0 kq l0 l1 (l0.length : Int) x13_1 = some r) ∧ Aside0 (kq ≤ k) ∧ Drawn0 w w')
    case atStart => exact ⟨(0), (by first | rfl | (simp; done) | (simp [*]; done)), H', ⟨Nat.le_refl _⟩, by repeat (first | exact Drawn0.refl _ | apply Drawn0.step)⟩
    case round =>
      clear H'
      try clear c1
      try clear p2
      try clear c3
      try clear c3b0
      try clear c3b1
      try clear c3b2
      obtain ⟨x13_1, rfl, HA, HK1, ⟨m1, rfl⟩⟩ := hrel
      cases gk with
      | zero => exact absurd HA.out (by simp [firnref09_SameSums.l0])
      | succ k1 =>
        have H := HA.out
        clear HA
        simp only [firnref09_SameSums.l0] at H
        by_cases c4 : x13_1 < (l0.length : Int)
        · rw [if_pos c4] at H
          have c4b0 : decide (x13_1 < (l0.length : Int)) = true := decide_eq_true c4
          clear c4
          by_cases c5 : 0 ≤ x13_1
          · rw [if_pos c5] at H
            have c5b0 : decide (0 ≤ x13_1) = true := decide_eq_true c5
            clear c5
            by_cases c6 : x13_1 < (l0.length : Int)
            · rw [if_pos c6] at H
              have c6b0 : decide (x13_1 < (l0.length : Int)) = true := decide_eq_true c6
              clear c6
              by_cases c7 : x13_1 < (l1.length : Int)
              · rw [if_pos c7] at H
                have c7b0 : decide (x13_1 < (l1.length : Int)) = true := decide_eq_true c7
                clear c7
                by_cases c8 : (!((((rd_T37 l0 x13_1).f0).toList) == (((rd_T37 l1 x13_1).f0).toList)) || (!(((rd_T37 l0 x13_1).f1) == ((rd_T37 l1 x13_1).f1)))) = true
                · rw [if_pos c8] at H
                  have c8b0 : (!((((rd_T37 l0 x13_1).f0).toList) == (((rd_T37 l1 x13_1).f0).toList)) || (!(((rd_T37 l0 x13_1).f1) == ((rd_T37 l1 x13_1).f1)))) = true := c8
                  clear c8
                  obtain rfl := Option.some.inj H
                  have p149 : 0 ≤ (x13_1 : Int) := of_decide_eq_true (by first | (with_reducible assumption) | assumption)
                  have q149 : x13_1 < (l0.length : Int) := of_decide_eq_true (by first | (with_reducible assumption) | assumption)
                  obtain ⟨ad149, e149, hx149_0, hx149_1⟩ := at_T37 HR0.out x13_1 p149 q149
                  cases e149
                  replace p149 := eq_true p149
                  replace q149 := eq_true q149
                  have p150 : 0 ≤ (x13_1 : Int) := of_decide_eq_true (by first | (with_reducible assumption) | assumption)
                  have q150 : x13_1 < (l1.length : Int) := of_decide_eq_true (by first | (with_reducible assumption) | assumption)
                  obtain ⟨ad150, e150, hx150_0, hx150_1⟩ := at_T37 HR1.out x13_1 p150 q150
                  cases e150
                  replace p150 := eq_true p150
                  replace q150 := eq_true q150
                  go_wp2
                  repeat (go_quiet (fail); try go_wp2)
                  go_ret
                  exact ⟨by first | rfl | (simp; done) | (simp [*]; done), by repeat (first | exact Drawn0.refl _ | apply Drawn0.step)⟩
                · rw [if_neg c8] at H
                  have c8b0 : (!((((rd_T37 l0 x13_1).f0).toList) == (((rd_T37 l1 x13_1).f0).toList)) || (!(((rd_T37 l0 x13_1).f1) == ((rd_T37 l1 x13_1).f1)))) = false := by simpa using c8
                  clear c8
                  have H' := Aside0.mk H
                  clear H
                  have p149 : 0 ≤ (x13_1 : Int) := of_decide_eq_true (by first | (with_reducible assumption) | assumption)
                  have q149 : x13_1 < (l0.length : Int) := of_decide_eq_true (by first | (with_reducible assumption) | assumption)
                  obtain ⟨ad149, e149, hx149_0, hx149_1⟩ := at_T37 HR0.out x13_1 p149 q149
                  cases e149
                  replace p149 := eq_true p149
                  replace q149 := eq_true q149
                  have p150 : 0 ≤ (x13_1 : Int) := of_decide_eq_true (by first | (with_reducible assumption) | assumption)
                  have q150 : x13_1 < (l1.length : Int) := of_decide_eq_true (by first | (with_reducible assumption) | assumption)
                  obtain ⟨ad150, e150, hx150_0, hx150_1⟩ := at_T37 HR1.out x13_1 p150 q150
                  cases e150
                  replace p150 := eq_true p150
                  replace q150 := eq_true q150
                  go_wp2
                  repeat (go_quiet (fail); try go_wp2)
                  go_roundg k1
                  case measure => have := HK1.out; omega
                  case rel => exact ⟨(wrap64 (x13_1 + 1)), (by first | rfl | (simp; done) | (simp [*]; done)), H', ⟨by have := HK1.out; omega⟩, by repeat (first | exact Drawn0.refl _ | apply Drawn0.step)⟩
              · rw [if_neg c7] at H
                exact absurd H (by simp)
            · rw [if_neg c6] at H
              exact absurd H (by simp)
          · rw [if_neg c5] at H
            exact absurd H (by simp)
        · rw [if_neg c4] at H
          have c4b0 : decide (x13_1 < (l0.length : Int)) = false := decide_eq_false c4
          clear c4
          obtain rfl := Option.some.inj H
          go_wp2
          repeat (go_quiet (fail); try go_wp2)
          go_ret
          exact ⟨by first | rfl | (simp; done) | (simp [*]; done), by repeat (first | exact Drawn0.refl _ | apply Drawn0.step)⟩
  · rw [if_neg c3] at H
    have c3b0 : ((l0.length : Int) == (l1.length : Int)) = false := beq_eq_false_iff_ne.mpr c3
    have c3b1 : ((l0.length : Int) != (l1.length : Int)) = true := bne_iff_ne.mpr c3
    have c3b2 : (l0.length == l1.length) = false := by first | simpa using c3 | (simp at c3 ⊢; omega)
    obtain rfl := Option.some.inj H
    go_enter Tryz.func13, Tryz.ntmps13
    go_wp2
    repeat (go_quiet (fail); try go_wp2)
    go_ret
    exact ⟨by first | rfl | (simp; done) | (simp [*]; done), by repeat (first | exact Drawn0.refl _ | apply Drawn0.step)⟩

end Go.Proofs.YtajeaefpapnkbaaGreatDoor.P
-- WRITTEN FOR THIS CLAIM BY A PROGRAM OF THIS SESSION (wip/tools), which turns the lines of the kit's print
namespace Go.Proofs.YtajeaefpapnkbaaGreatDoor.P
open Go.RowKit Go.Proofs.YtajeaefpapnkbaaGreatDoorW.PrintWords Go.Proofs.YtajeaefpapnkbaaGreatDoorW.PrintLast Go.Proofs.YtajeaefpapnkbaaGreatDoorW.PrintMore
attribute [local go_sem] max2_int min2_int max_two min_two max_three min_three max_four min_four   -- for this text's walks alone
set_option linter.unusedVariables false
set_option linter.unusedSimpArgs false

/-! ### firnlaw09_ProvWhys: function 3 -/
mutual
def firnlaw09_ProvWhys.j0 : Nat → List (S37) → ByteArray → Bool → Option (Bool)
  | 0, _, _, _ => none
  | k + 1, x0, x1, x21 => if x21 = true then ((firnlaw09_Awake.f k).bind fun t152 => (some t152)) else ((prov_Why.f x0).bind fun bt153 => ((firnref09_Why.f x0).bind fun bt157 => ((firnref09_SameTexts.f k bt153.1 bt157.1).bind fun t161 => (if t161 = true then (firnlaw09_ProvWhys.j1 k x0 x1 (bt153.2 != bt157.2)) else (firnlaw09_ProvWhys.j1 k x0 x1 true)))))
def firnlaw09_ProvWhys.j1 : Nat → List (S37) → ByteArray → Bool → Option (Bool)
  | 0, _, _, _ => none
  | k + 1, x0, x1, x41 => if x41 = true then (some false) else ((prov_Tokens.f x0).bind fun bt162 => ((firnref09_Tokens.f k x0).bind fun bt164 => ((prov_Spared.f x0 x1).bind fun bt166 => ((firnref09_Spared.f k x0 x1).bind fun bt170 => (if bt162.1.toList = bt164.1.toList then (if bt162.2 = bt164.2 then ((firnref09_SameSums.f k bt166.1 bt170.1).bind fun t174 => (if t174 = true then (if bt166.2 = bt170.2 then ((firnlaw09_Awake.f k).bind fun t175 => (some t175)) else (some false)) else (some false))) else (some false)) else (some false))))))
end
def firnlaw09_ProvWhys.f (k : Nat) (l0 : List (S37)) (a1 : ByteArray) : Option (Bool) := (firnlaw09_Long.f k l0).bind fun t151 => (if t151 = true then (firnlaw09_ProvWhys.j0 k l0 a1 true) else (firnlaw09_ProvWhys.j0 k l0 a1 (decide ((a1.size : Int) > 100))))
theorem firnlaw09_ProvWhys.mono_l : ∀ k, (∀ y0 y1 y2, LeO (firnlaw09_ProvWhys.j0 k y0 y1 y2) (firnlaw09_ProvWhys.j0 (k + 1) y0 y1 y2)) ∧ (∀ y0 y1 y2, LeO (firnlaw09_ProvWhys.j1 k y0 y1 y2) (firnlaw09_ProvWhys.j1 (k + 1) y0 y1 y2))
  | 0 => ⟨fun _ _ _ r h => by simp [firnlaw09_ProvWhys.j0] at h, fun _ _ _ r h => by simp [firnlaw09_ProvWhys.j1] at h⟩
  | k + 1 => by
    obtain ⟨ih0, ih1⟩ := firnlaw09_ProvWhys.mono_l k
    refine ⟨?_, ?_⟩
    · intro y0 y1 y2
      unfold firnlaw09_ProvWhys.j0
      repeat' first
      | (with_reducible exact ih0 _ _ _)
      | (with_reducible exact ih1 _ _ _)
      | (with_reducible exact firnlaw09_Awake.mono _)
      | (with_reducible exact firnlaw09_Long.mono _ _)
      | (with_reducible exact firnref09_SameSums.mono _ _ _)
      | (with_reducible exact firnref09_SameTexts.mono _ _ _)
      | (with_reducible exact firnref09_Spared.mono _ _ _)
      | (with_reducible exact firnref09_Tokens.mono _ _)
      | (with_reducible exact LeO.refl _)
      | (with_reducible exact LeO.none _)
      | (with_reducible refine LeO.ite ?_ ?_)
      | (with_reducible refine LeO.bind ?_ (fun _ => ?_))
      | exact ih0 _ _ _
      | exact ih1 _ _ _
      | exact firnlaw09_Awake.mono _
      | exact firnlaw09_Long.mono _ _
      | exact firnref09_SameSums.mono _ _ _
      | exact firnref09_SameTexts.mono _ _ _
      | exact firnref09_Spared.mono _ _ _
      | exact firnref09_Tokens.mono _ _
      | exact LeO.none _
      | refine LeO.ite ?_ ?_
      | refine LeO.bind ?_ (fun _ => ?_)
    · intro y0 y1 y2
      unfold firnlaw09_ProvWhys.j1
      repeat' first
      | (with_reducible exact ih0 _ _ _)
      | (with_reducible exact ih1 _ _ _)
      | (with_reducible exact firnlaw09_Awake.mono _)
      | (with_reducible exact firnlaw09_Long.mono _ _)
      | (with_reducible exact firnref09_SameSums.mono _ _ _)
      | (with_reducible exact firnref09_SameTexts.mono _ _ _)
      | (with_reducible exact firnref09_Spared.mono _ _ _)
      | (with_reducible exact firnref09_Tokens.mono _ _)
      | (with_reducible exact LeO.refl _)
      | (with_reducible exact LeO.none _)
      | (with_reducible refine LeO.ite ?_ ?_)
      | (with_reducible refine LeO.bind ?_ (fun _ => ?_))
      | exact ih0 _ _ _
      | exact ih1 _ _ _
      | exact firnlaw09_Awake.mono _
      | exact firnlaw09_Long.mono _ _
      | exact firnref09_SameSums.mono _ _ _
      | exact firnref09_SameTexts.mono _ _ _
      | exact firnref09_Spared.mono _ _ _
      | exact firnref09_Tokens.mono _ _
      | exact LeO.none _
      | refine LeO.ite ?_ ?_
      | refine LeO.bind ?_ (fun _ => ?_)
theorem firnlaw09_ProvWhys.mono : ∀ a0 a1 k, LeO (firnlaw09_ProvWhys.f k a0 a1) (firnlaw09_ProvWhys.f (k + 1) a0 a1) := by
  intro a0 a1 k
  obtain ⟨ih0, ih1⟩ := firnlaw09_ProvWhys.mono_l k
  unfold firnlaw09_ProvWhys.f
  repeat' first
      | (with_reducible exact ih0 _ _ _)
      | (with_reducible exact ih1 _ _ _)
      | (with_reducible exact firnlaw09_Awake.mono _)
      | (with_reducible exact firnlaw09_Long.mono _ _)
      | (with_reducible exact firnref09_SameSums.mono _ _ _)
      | (with_reducible exact firnref09_SameTexts.mono _ _ _)
      | (with_reducible exact firnref09_Spared.mono _ _ _)
      | (with_reducible exact firnref09_Tokens.mono _ _)
      | (with_reducible exact LeO.refl _)
      | (with_reducible exact LeO.none _)
      | (with_reducible refine LeO.ite ?_ ?_)
      | (with_reducible refine LeO.bind ?_ (fun _ => ?_))
      | exact ih0 _ _ _
      | exact ih1 _ _ _
      | exact firnlaw09_Awake.mono _
      | exact firnlaw09_Long.mono _ _
      | exact firnref09_SameSums.mono _ _ _
      | exact firnref09_SameTexts.mono _ _ _
      | exact firnref09_Spared.mono _ _ _
      | exact firnref09_Tokens.mono _ _
      | exact LeO.none _
      | refine LeO.ite ?_ ?_
      | refine LeO.bind ?_ (fun _ => ?_)
set_option maxHeartbeats 8000000 in
set_option maxRecDepth 100000 in
theorem firnlaw09_ProvWhys.calls (k : Nat) (A0 : Option Addr) (c0 : Nat) (l0 : List (S37)) (a1 : ByteArray) (r : Bool) (w : World) (hr0 : Kd.C k37 w A0 l0.length l0) (hc0 : l0.length ≤ c0) (h : firnlaw09_ProvWhys.f k l0 a1 = some r) :
    Calls Tryz.prog 3 #[.slice A0 l0.length c0, .string a1] w fun e w' => e = .returned (.bool r) ∧ Below w.heap.size w w' := by
  have HR0 := Aside0.mk hr0
  have HC0 := Aside0.mk hc0
  clear hr0 hc0
  have HB := Aside0.mk (Below.refl w.heap.size w)
  have H : ((firnlaw09_Long.f k l0).bind fun t151 => (if t151 = true then (firnlaw09_ProvWhys.j0 k l0 a1 true) else (firnlaw09_ProvWhys.j0 k l0 a1 (decide ((a1.size : Int) > 100))))) = some r := h
  clear h
  have HC3 := Aside0.mk H
  clear H
  go_enter Tryz.func3, Tryz.ntmps3
  go_upto_region 1 with (fail)
  go_cut [21] (fun v21 wc => ∃ (kq : Nat) (x21_2 : Bool), v21 = .bool x21_2 ∧ Aside0 (firnlaw09_ProvWhys.j0 kq l0 a1 x21_2 = some r) ∧ Aside0 (kq ≤ k) ∧ Aside0 (Below w.heap.size w wc))
  case first =>
    have H := HC3.out
    clear HC3
    replace H := Option.bind_eq_some_iff.mp H
    obtain ⟨t151, A40, H⟩ := H
    replace H : (if t151 = true then (firnlaw09_ProvWhys.j0 k l0 a1 true) else (firnlaw09_ProvWhys.j0 k l0 a1 (decide ((a1.size : Int) > 100)))) = some r := H
    have A4 := Aside0.mk A40
    clear A40
    by_cases c5 : t151 = true
    · subst c5
      have H1 : (firnlaw09_ProvWhys.j0 k l0 a1 true) = some r := by rw [if_pos rfl] at H; exact H
      clear H
      have H := H1
      clear H1
      have H' := Aside0.mk H
      clear H
      go_wp2_with (first | ((with_reducible refine gate_callee (f := 4) rfl ?_); refine goesL_ (some 16) rfl rfl Tryz.func4 (by kernel_rfl) rfl #[.slice A0 l0.length c0] rfl (by (try simp only [List.map_toArray, List.map_cons, List.map_nil]); first | done | rfl | (simp only [List.length_drop, List.length_take]; rfl)) ?_; (with_reducible refine (firnlaw09_Long.calls k _ _ l0 true _ ?side1 ?side2 A4.out).mono ?_); (case side1 => repeat (first | exact (Kd.C_below HR0.out HB.out) | (with_reducible refine Kd.C_alloc ?_ _) | (with_reducible refine Kd.C_drewN ?_ _) | (with_reducible refine Kd.C_drew ?_))); (case side2 => exact HC0.out); rintro e w6 ⟨rfl, hb⟩; refine ⟨_, rfl, ?_⟩; have n0_ := Aside0.mk (below_step (by repeat (first | (with_reducible first | exact HB.out | apply below_alloc | apply pw_below_drewN | apply below_drew1) | exact HB.out)) hb); clear HB; have HB := n0_; clear n0_; (try clear hb); (try clear hb2); (try clear hk); (try clear hi)))
      go_meet
      case rel => exact ⟨_, (true), (by first | rfl | (simp; done) | (simp [*]; done)), H', ⟨by first | omega | exact Nat.le_refl _⟩, ⟨by repeat (first | (with_reducible first | exact HB.out | apply below_alloc | apply pw_below_drewN | apply below_drew1) | exact HB.out)⟩⟩
    · replace c5 := Bool.eq_false_iff.mpr c5
      subst c5
      have H1 : (firnlaw09_ProvWhys.j0 k l0 a1 (decide ((a1.size : Int) > 100))) = some r := by rw [if_neg (show ¬ (false = true) by decide)] at H; exact H
      clear H
      have H := H1
      clear H1
      have H' := Aside0.mk H
      clear H
      go_wp2_with (first | ((with_reducible refine gate_callee (f := 4) rfl ?_); refine goesL_ (some 16) rfl rfl Tryz.func4 (by kernel_rfl) rfl #[.slice A0 l0.length c0] rfl (by (try simp only [List.map_toArray, List.map_cons, List.map_nil]); first | done | rfl | (simp only [List.length_drop, List.length_take]; rfl)) ?_; (with_reducible refine (firnlaw09_Long.calls k _ _ l0 false _ ?side1 ?side2 A4.out).mono ?_); (case side1 => repeat (first | exact (Kd.C_below HR0.out HB.out) | (with_reducible refine Kd.C_alloc ?_ _) | (with_reducible refine Kd.C_drewN ?_ _) | (with_reducible refine Kd.C_drew ?_))); (case side2 => exact HC0.out); rintro e w7 ⟨rfl, hb⟩; refine ⟨_, rfl, ?_⟩; have n0_ := Aside0.mk (below_step (by repeat (first | (with_reducible first | exact HB.out | apply below_alloc | apply pw_below_drewN | apply below_drew1) | exact HB.out)) hb); clear HB; have HB := n0_; clear n0_; (try clear hb); (try clear hb2); (try clear hk); (try clear hi)))
      go_meet
      case rel => exact ⟨_, (decide ((a1.size : Int) > 100)), (by first | rfl | (simp; done) | (simp [*]; done)), H', ⟨by first | omega | exact Nat.le_refl _⟩, ⟨by repeat (first | (with_reducible first | exact HB.out | apply below_alloc | apply pw_below_drewN | apply below_drew1) | exact HB.out)⟩⟩
  case rest =>
    clear HC3
    try clear p2
    try clear c3
    try clear c4
    try clear c5
    obtain ⟨kq, x21_2, rfl, HA, HJ2, HB⟩ := hcut
    cases kq with
    | zero => exact absurd HA.out (by simp [firnlaw09_ProvWhys.j0])
    | succ kj2 =>
      have H := HA.out
      clear HA
      simp only [firnlaw09_ProvWhys.j0] at H
      by_cases c8 : x21_2 = true
      · subst c8
        have H1 : ((firnlaw09_Awake.f kj2).bind fun t152 => (some t152)) = some r := by rw [if_pos rfl] at H; exact H
        clear H
        have H := H1
        clear H1
        replace H := Option.bind_eq_some_iff.mp H
        obtain ⟨t152, A90, H⟩ := H
        replace H : (some t152) = some r := H
        have A9 := Aside0.mk A90
        clear A90
        obtain rfl := Option.some.inj H
        go_wp2_with (first | ((with_reducible refine gate_callee (f := 5) rfl ?_); refine goesL_ (some 22) rfl rfl Tryz.func5 (by kernel_rfl) rfl #[] rfl (by (try simp only [List.map_toArray, List.map_cons, List.map_nil]); first | done | rfl | (simp only [List.length_drop, List.length_take]; rfl)) ?_; (with_reducible refine (firnlaw09_Awake.calls kj2  t152 _ A9.out).mono ?_); rintro e w10 ⟨rfl, hb⟩; refine ⟨_, rfl, ?_⟩; have n0_ := Aside0.mk (below_step (by repeat (first | (with_reducible first | exact HB.out | apply below_alloc | apply pw_below_drewN | apply below_drew1) | exact HB.out)) hb); clear HB; have HB := n0_; clear n0_; (try clear hb); (try clear hb2); (try clear hk); (try clear hi)))
        go_ret
        exact ⟨by first | rfl | (simp [errW_none, errW_some] <;> rfl) | (simp [*, errW_none, errW_some] <;> rfl), by repeat (first | (with_reducible first | exact HB.out | apply below_alloc | apply pw_below_drewN | apply below_drew1) | exact HB.out)⟩
      · replace c8 := Bool.eq_false_iff.mpr c8
        subst c8
        have H1 : ((prov_Why.f l0).bind fun bt153 => ((firnref09_Why.f l0).bind fun bt157 => ((firnref09_SameTexts.f kj2 bt153.1 bt157.1).bind fun t161 => (if t161 = true then (firnlaw09_ProvWhys.j1 kj2 l0 a1 (bt153.2 != bt157.2)) else (firnlaw09_ProvWhys.j1 kj2 l0 a1 true))))) = some r := by rw [if_neg (show ¬ (false = true) by decide)] at H; exact H
        clear H
        have H := H1
        clear H1
        replace H := Option.bind_eq_some_iff.mp H
        obtain ⟨⟨t153, t154⟩, A110, H⟩ := H
        replace H : ((firnref09_Why.f l0).bind fun bt157 => ((firnref09_SameTexts.f kj2 t153 bt157.1).bind fun t161 => (if t161 = true then (firnlaw09_ProvWhys.j1 kj2 l0 a1 (t154 != bt157.2)) else (firnlaw09_ProvWhys.j1 kj2 l0 a1 true)))) = some r := H
        have A11 := Aside0.mk A110
        clear A110
        replace H := Option.bind_eq_some_iff.mp H
        obtain ⟨⟨t157, t158⟩, A120, H⟩ := H
        replace H : ((firnref09_SameTexts.f kj2 t153 t157).bind fun t161 => (if t161 = true then (firnlaw09_ProvWhys.j1 kj2 l0 a1 (t154 != t158)) else (firnlaw09_ProvWhys.j1 kj2 l0 a1 true))) = some r := H
        have A12 := Aside0.mk A120
        clear A120
        have HC13 := Aside0.mk H
        clear H
        go_upto_region 5 with (first | ((with_reducible refine gate_callee (f := 6) rfl ?_); refine goesL_ (some 25) rfl rfl Tryz.func6 (by kernel_rfl) rfl #[.slice A0 l0.length c0] rfl (by (try simp only [List.map_toArray, List.map_cons, List.map_nil]); first | done | rfl | (simp only [List.length_drop, List.length_take]; rfl)) ?_; (with_reducible refine (prov_Why.calls _ _ l0 t153 t154 _ ?side1 ?side2 A11.out).mono ?_); (case side1 => repeat (first | exact (Kd.C_below HR0.out HB.out) | (with_reducible refine Kd.C_alloc ?_ _) | (with_reducible refine Kd.C_drewN ?_ _) | (with_reducible refine Kd.C_drew ?_))); (case side2 => exact HC0.out); rintro e w14 ⟨v155, rfl, ho0, hb⟩; refine ⟨_, rfl, ?_⟩; have n0_ := Aside0.mk (Kd.R_lower ho0 (below_size (by repeat (first | (with_reducible first | exact HB.out | apply below_alloc | apply pw_below_drewN | apply below_drew1) | exact HB.out)))); have n1_ := Aside0.mk (below_step (by repeat (first | (with_reducible first | exact HB.out | apply below_alloc | apply pw_below_drewN | apply below_drew1) | exact HB.out)) hb); clear HB; have HO156 := n0_; have HB := n1_; clear n0_ n1_; (try clear hb); (try clear hb2); (try clear hk); (try clear hi); (try clear ho0)) | ((with_reducible refine gate_callee (f := 7) rfl ?_); refine goesL_ (some 30) rfl rfl Tryz.func7 (by kernel_rfl) rfl #[.slice A0 l0.length c0] rfl (by (try simp only [List.map_toArray, List.map_cons, List.map_nil]); first | done | rfl | (simp only [List.length_drop, List.length_take]; rfl)) ?_; (with_reducible refine (firnref09_Why.calls _ _ l0 t157 t158 _ ?side1 ?side2 A12.out).mono ?_); (case side1 => repeat (first | exact (Kd.C_below HR0.out HB.out) | (with_reducible refine Kd.C_alloc ?_ _) | (with_reducible refine Kd.C_drewN ?_ _) | (with_reducible refine Kd.C_drew ?_))); (case side2 => exact HC0.out); rintro e w15 ⟨v159, rfl, ho0, hb⟩; refine ⟨_, rfl, ?_⟩; have n0_ := Aside0.mk (Kd.R_elder' (by (with_reducible repeat (first | apply Kd.R_alloc | apply Kd.R_drewN | apply Kd.R_drew)); exact HO156.out) (Kd.R_base ho0) hb); have n1_ := Aside0.mk (Kd.R_lower (Kd.R_new' ho0 (Kd.R_lt (by (with_reducible repeat (first | apply Kd.R_alloc | apply Kd.R_drewN | apply Kd.R_drew)); exact HO156.out))) (below_size (by repeat (first | (with_reducible first | exact HB.out | apply below_alloc | apply pw_below_drewN | apply below_drew1) | exact HB.out)))); have n2_ := Aside0.mk (below_step (by repeat (first | (with_reducible first | exact HB.out | apply below_alloc | apply pw_below_drewN | apply below_drew1) | exact HB.out)) hb); clear HO156; clear HB; have HO156 := n0_; have HO160 := n1_; have HB := n2_; clear n0_ n1_ n2_; (try clear hb); (try clear hb2); (try clear hk); (try clear hi); (try clear ho0)))
        (try simp only [Act.put, List.setIfInBounds_toArray, List.set_cons_zero, List.set_cons_succ])
        go_cut [41] (fun v41 wc => ∃ (kq : Nat) (x41_12 : Bool), v41 = .bool x41_12 ∧ Aside0 (firnlaw09_ProvWhys.j1 kq l0 a1 x41_12 = some r) ∧ Aside0 (kq ≤ kj2) ∧ Aside0 (Below w.heap.size w wc))
        case first =>
          have H := HC13.out
          clear HC13
          replace H := Option.bind_eq_some_iff.mp H
          obtain ⟨t161, A160, H⟩ := H
          replace H : (if t161 = true then (firnlaw09_ProvWhys.j1 kj2 l0 a1 (t154 != t158)) else (firnlaw09_ProvWhys.j1 kj2 l0 a1 true)) = some r := H
          have A16 := Aside0.mk A160
          clear A160
          by_cases c17 : t161 = true
          · subst c17
            have H1 : (firnlaw09_ProvWhys.j1 kj2 l0 a1 (t154 != t158)) = some r := by rw [if_pos rfl] at H; exact H
            clear H
            have H := H1
            clear H1
            have H' := Aside0.mk H
            clear H
            obtain ⟨Ao18, co18, eo18⟩ := Kd.R_slice HO156.out
            subst eo18
            obtain ⟨Ao19, co19, eo19⟩ := Kd.R_slice HO160.out
            subst eo19
            go_wp2_with (first | ((with_reducible refine gate_callee (f := 8) rfl ?_); refine goesL_ (some 35) rfl rfl Tryz.func8 (by kernel_rfl) rfl #[.slice Ao18 t153.length co18, .slice Ao19 t157.length co19] rfl (by (try simp only [List.map_toArray, List.map_cons, List.map_nil]); first | done | rfl | (simp only [List.length_drop, List.length_take]; rfl)) ?_; (with_reducible refine (firnref09_SameTexts.calls kj2 _ _ t153 _ _ t157 true _ ?side1 ?side2 ?side3 ?side4 A16.out).mono ?_); (case side1 => repeat (first | exact (Kd.R_reads' HO156.out).2.2 | (with_reducible refine Kd.C_alloc ?_ _) | (with_reducible refine Kd.C_drewN ?_ _) | (with_reducible refine Kd.C_drew ?_))); (case side2 => exact (Kd.R_reads' HO156.out).2.1); (case side3 => repeat (first | exact (Kd.R_reads' HO160.out).2.2 | (with_reducible refine Kd.C_alloc ?_ _) | (with_reducible refine Kd.C_drewN ?_ _) | (with_reducible refine Kd.C_drew ?_))); (case side4 => exact (Kd.R_reads' HO160.out).2.1); rintro e w' ⟨rfl, ⟨nd, rfl⟩⟩; refine ⟨_, rfl, ?_⟩))
            go_meet
            case rel => exact ⟨_, ((t154 != t158)), (by first | rfl | (simp; done) | (simp [*]; done)), H', ⟨by have := HJ2.out; first | omega | exact Nat.le_refl _⟩, ⟨by repeat (first | (with_reducible first | exact HB.out | apply below_alloc | apply pw_below_drewN | apply below_drew1) | exact HB.out)⟩⟩
          · replace c17 := Bool.eq_false_iff.mpr c17
            subst c17
            have H1 : (firnlaw09_ProvWhys.j1 kj2 l0 a1 true) = some r := by rw [if_neg (show ¬ (false = true) by decide)] at H; exact H
            clear H
            have H := H1
            clear H1
            have H' := Aside0.mk H
            clear H
            obtain ⟨Ao20, co20, eo20⟩ := Kd.R_slice HO156.out
            subst eo20
            obtain ⟨Ao21, co21, eo21⟩ := Kd.R_slice HO160.out
            subst eo21
            go_wp2_with (first | ((with_reducible refine gate_callee (f := 8) rfl ?_); refine goesL_ (some 35) rfl rfl Tryz.func8 (by kernel_rfl) rfl #[.slice Ao20 t153.length co20, .slice Ao21 t157.length co21] rfl (by (try simp only [List.map_toArray, List.map_cons, List.map_nil]); first | done | rfl | (simp only [List.length_drop, List.length_take]; rfl)) ?_; (with_reducible refine (firnref09_SameTexts.calls kj2 _ _ t153 _ _ t157 false _ ?side1 ?side2 ?side3 ?side4 A16.out).mono ?_); (case side1 => repeat (first | exact (Kd.R_reads' HO156.out).2.2 | (with_reducible refine Kd.C_alloc ?_ _) | (with_reducible refine Kd.C_drewN ?_ _) | (with_reducible refine Kd.C_drew ?_))); (case side2 => exact (Kd.R_reads' HO156.out).2.1); (case side3 => repeat (first | exact (Kd.R_reads' HO160.out).2.2 | (with_reducible refine Kd.C_alloc ?_ _) | (with_reducible refine Kd.C_drewN ?_ _) | (with_reducible refine Kd.C_drew ?_))); (case side4 => exact (Kd.R_reads' HO160.out).2.1); rintro e w' ⟨rfl, ⟨nd, rfl⟩⟩; refine ⟨_, rfl, ?_⟩))
            go_meet
            case rel => exact ⟨_, (true), (by first | rfl | (simp; done) | (simp [*]; done)), H', ⟨by have := HJ2.out; first | omega | exact Nat.le_refl _⟩, ⟨by repeat (first | (with_reducible first | exact HB.out | apply below_alloc | apply pw_below_drewN | apply below_drew1) | exact HB.out)⟩⟩
        case rest =>
          clear HC13
          try clear c1
          try clear p2
          try clear c3
          try clear c4
          try clear c5
          try clear c6
          try clear c7
          try clear c8
          try clear c17
          try clear p2
          obtain ⟨kq, x41_12, rfl, HA, HJ12, HB⟩ := hcut
          cases kq with
          | zero => exact absurd HA.out (by simp [firnlaw09_ProvWhys.j1])
          | succ kj12 =>
            have H := HA.out
            clear HA
            simp only [firnlaw09_ProvWhys.j1] at H
            by_cases c22 : x41_12 = true
            · subst c22
              have H1 : (some false) = some r := by rw [if_pos rfl] at H; exact H
              clear H
              have H := H1
              clear H1
              obtain rfl := Option.some.inj H
              go_wp2
              go_ret
              exact ⟨by first | rfl | (simp [errW_none, errW_some] <;> rfl) | (simp [*, errW_none, errW_some] <;> rfl), by repeat (first | (with_reducible first | exact HB.out | apply below_alloc | apply pw_below_drewN | apply below_drew1) | exact HB.out)⟩
            · replace c22 := Bool.eq_false_iff.mpr c22
              subst c22
              have H1 : ((prov_Tokens.f l0).bind fun bt162 => ((firnref09_Tokens.f kj12 l0).bind fun bt164 => ((prov_Spared.f l0 a1).bind fun bt166 => ((firnref09_Spared.f kj12 l0 a1).bind fun bt170 => (if bt162.1.toList = bt164.1.toList then (if bt162.2 = bt164.2 then ((firnref09_SameSums.f kj12 bt166.1 bt170.1).bind fun t174 => (if t174 = true then (if bt166.2 = bt170.2 then ((firnlaw09_Awake.f kj12).bind fun t175 => (some t175)) else (some false)) else (some false))) else (some false)) else (some false)))))) = some r := by rw [if_neg (show ¬ (false = true) by decide)] at H; exact H
              clear H
              have H := H1
              clear H1
              replace H := Option.bind_eq_some_iff.mp H
              obtain ⟨⟨t162, t163⟩, A230, H⟩ := H
              replace H : ((firnref09_Tokens.f kj12 l0).bind fun bt164 => ((prov_Spared.f l0 a1).bind fun bt166 => ((firnref09_Spared.f kj12 l0 a1).bind fun bt170 => (if t162.toList = bt164.1.toList then (if t163 = bt164.2 then ((firnref09_SameSums.f kj12 bt166.1 bt170.1).bind fun t174 => (if t174 = true then (if bt166.2 = bt170.2 then ((firnlaw09_Awake.f kj12).bind fun t175 => (some t175)) else (some false)) else (some false))) else (some false)) else (some false))))) = some r := H
              have A23 := Aside0.mk A230
              clear A230
              replace H := Option.bind_eq_some_iff.mp H
              obtain ⟨⟨t164, t165⟩, A240, H⟩ := H
              replace H : ((prov_Spared.f l0 a1).bind fun bt166 => ((firnref09_Spared.f kj12 l0 a1).bind fun bt170 => (if t162.toList = t164.toList then (if t163 = t165 then ((firnref09_SameSums.f kj12 bt166.1 bt170.1).bind fun t174 => (if t174 = true then (if bt166.2 = bt170.2 then ((firnlaw09_Awake.f kj12).bind fun t175 => (some t175)) else (some false)) else (some false))) else (some false)) else (some false)))) = some r := H
              have A24 := Aside0.mk A240
              clear A240
              replace H := Option.bind_eq_some_iff.mp H
              obtain ⟨⟨t166, t167⟩, A250, H⟩ := H
              replace H : ((firnref09_Spared.f kj12 l0 a1).bind fun bt170 => (if t162.toList = t164.toList then (if t163 = t165 then ((firnref09_SameSums.f kj12 t166 bt170.1).bind fun t174 => (if t174 = true then (if t167 = bt170.2 then ((firnlaw09_Awake.f kj12).bind fun t175 => (some t175)) else (some false)) else (some false))) else (some false)) else (some false))) = some r := H
              have A25 := Aside0.mk A250
              clear A250
              replace H := Option.bind_eq_some_iff.mp H
              obtain ⟨⟨t170, t171⟩, A260, H⟩ := H
              replace H : (if t162.toList = t164.toList then (if t163 = t165 then ((firnref09_SameSums.f kj12 t166 t170).bind fun t174 => (if t174 = true then (if t167 = t171 then ((firnlaw09_Awake.f kj12).bind fun t175 => (some t175)) else (some false)) else (some false))) else (some false)) else (some false)) = some r := H
              have A26 := Aside0.mk A260
              clear A260
              by_cases c27 : t162.toList = t164.toList
              · rw [if_pos c27] at H
                have c27b0 : (t162.toList == t164.toList) = true := beq_iff_eq.mpr c27
                have c27b1 : (t162.toList != t164.toList) = false := bne_eq_false_iff_eq.mpr c27
                clear c27
                by_cases c28 : t163 = t165
                · rw [if_pos c28] at H
                  have c28b0 : (t163 == t165) = true := beq_iff_eq.mpr c28
                  have c28b1 : (t163 != t165) = false := bne_eq_false_iff_eq.mpr c28
                  clear c28
                  replace H := Option.bind_eq_some_iff.mp H
                  obtain ⟨t174, A290, H⟩ := H
                  replace H : (if t174 = true then (if t167 = t171 then ((firnlaw09_Awake.f kj12).bind fun t175 => (some t175)) else (some false)) else (some false)) = some r := H
                  have A29 := Aside0.mk A290
                  clear A290
                  by_cases c30 : t174 = true
                  · subst c30
                    have H1 : (if t167 = t171 then ((firnlaw09_Awake.f kj12).bind fun t175 => (some t175)) else (some false)) = some r := by rw [if_pos rfl] at H; exact H
                    clear H
                    have H := H1
                    clear H1
                    by_cases c31 : t167 = t171
                    · rw [if_pos c31] at H
                      have c31b0 : (t167 == t171) = true := beq_iff_eq.mpr c31
                      have c31b1 : (t167 != t171) = false := bne_eq_false_iff_eq.mpr c31
                      clear c31
                      replace H := Option.bind_eq_some_iff.mp H
                      obtain ⟨t175, A320, H⟩ := H
                      replace H : (some t175) = some r := H
                      have A32 := Aside0.mk A320
                      clear A320
                      obtain rfl := Option.some.inj H
                      go_wp2_with (first | ((with_reducible refine gate_callee (f := 9) rfl ?_); refine goesL_ (some 44) rfl rfl Tryz.func9 (by kernel_rfl) rfl #[.slice A0 l0.length c0] rfl (by (try simp only [List.map_toArray, List.map_cons, List.map_nil]); first | done | rfl | (simp only [List.length_drop, List.length_take]; rfl)) ?_; (with_reducible refine (prov_Tokens.calls _ _ l0 t162 t163 _ ?side1 ?side2 A23.out).mono ?_); (case side1 => repeat (first | exact (Kd.C_below HR0.out HB.out) | (with_reducible refine Kd.C_alloc ?_ _) | (with_reducible refine Kd.C_drewN ?_ _) | (with_reducible refine Kd.C_drew ?_))); (case side2 => exact HC0.out); rintro e w33 ⟨rfl, hb⟩; refine ⟨_, rfl, ?_⟩; have n0_ := Aside0.mk (below_step (by repeat (first | (with_reducible first | exact HB.out | apply below_alloc | apply pw_below_drewN | apply below_drew1) | exact HB.out)) hb); clear HB; have HB := n0_; clear n0_; (try clear hb); (try clear hb2); (try clear hk); (try clear hi)) | ((with_reducible refine gate_callee (f := 10) rfl ?_); refine goesL_ (some 49) rfl rfl Tryz.func10 (by kernel_rfl) rfl #[.slice A0 l0.length c0] rfl (by (try simp only [List.map_toArray, List.map_cons, List.map_nil]); first | done | rfl | (simp only [List.length_drop, List.length_take]; rfl)) ?_; (with_reducible refine (firnref09_Tokens.calls kj12 _ _ l0 t164 t165 _ ?side1 ?side2 A24.out).mono ?_); (case side1 => repeat (first | exact (Kd.C_below HR0.out HB.out) | (with_reducible refine Kd.C_alloc ?_ _) | (with_reducible refine Kd.C_drewN ?_ _) | (with_reducible refine Kd.C_drew ?_))); (case side2 => exact HC0.out); rintro e w34 ⟨rfl, hb⟩; refine ⟨_, rfl, ?_⟩; have n0_ := Aside0.mk (below_step (by repeat (first | (with_reducible first | exact HB.out | apply below_alloc | apply pw_below_drewN | apply below_drew1) | exact HB.out)) hb); clear HB; have HB := n0_; clear n0_; (try clear hb); (try clear hb2); (try clear hk); (try clear hi)) | ((with_reducible refine gate_callee (f := 11) rfl ?_); refine goesL_ (some 55) rfl rfl Tryz.func11 (by kernel_rfl) rfl #[.slice A0 l0.length c0, .string a1] rfl (by (try simp only [List.map_toArray, List.map_cons, List.map_nil]); first | done | rfl | (simp only [List.length_drop, List.length_take]; rfl)) ?_; (with_reducible refine (prov_Spared.calls _ _ l0 a1 t166 t167 _ ?side1 ?side2 A25.out).mono ?_); (case side1 => repeat (first | exact (Kd.C_below HR0.out HB.out) | (with_reducible refine Kd.C_alloc ?_ _) | (with_reducible refine Kd.C_drewN ?_ _) | (with_reducible refine Kd.C_drew ?_))); (case side2 => exact HC0.out); rintro e w35 ⟨v168, rfl, ho0, hb⟩; refine ⟨_, rfl, ?_⟩; have n0_ := Aside0.mk (Kd.R_lower ho0 (below_size (by repeat (first | (with_reducible first | exact HB.out | apply below_alloc | apply pw_below_drewN | apply below_drew1) | exact HB.out)))); have n1_ := Aside0.mk (below_step (by repeat (first | (with_reducible first | exact HB.out | apply below_alloc | apply pw_below_drewN | apply below_drew1) | exact HB.out)) hb); clear HB; have HO169 := n0_; have HB := n1_; clear n0_ n1_; (try clear hb); (try clear hb2); (try clear hk); (try clear hi); (try clear ho0)) | ((with_reducible refine gate_callee (f := 12) rfl ?_); refine goesL_ (some 61) rfl rfl Tryz.func12 (by kernel_rfl) rfl #[.slice A0 l0.length c0, .string a1] rfl (by (try simp only [List.map_toArray, List.map_cons, List.map_nil]); first | done | rfl | (simp only [List.length_drop, List.length_take]; rfl)) ?_; (with_reducible refine (firnref09_Spared.calls kj12 _ _ l0 a1 t170 t171 _ ?side1 ?side2 A26.out).mono ?_); (case side1 => repeat (first | exact (Kd.C_below HR0.out HB.out) | (with_reducible refine Kd.C_alloc ?_ _) | (with_reducible refine Kd.C_drewN ?_ _) | (with_reducible refine Kd.C_drew ?_))); (case side2 => exact HC0.out); rintro e w36 ⟨v172, rfl, ho0, hb⟩; refine ⟨_, rfl, ?_⟩; have n0_ := Aside0.mk (Kd.R_elder' (by (with_reducible repeat (first | apply Kd.R_alloc | apply Kd.R_drewN | apply Kd.R_drew)); exact HO169.out) (Kd.R_base ho0) hb); have n1_ := Aside0.mk (Kd.R_lower (Kd.R_new' ho0 (Kd.R_lt (by (with_reducible repeat (first | apply Kd.R_alloc | apply Kd.R_drewN | apply Kd.R_drew)); exact HO169.out))) (below_size (by repeat (first | (with_reducible first | exact HB.out | apply below_alloc | apply pw_below_drewN | apply below_drew1) | exact HB.out)))); have n2_ := Aside0.mk (below_step (by repeat (first | (with_reducible first | exact HB.out | apply below_alloc | apply pw_below_drewN | apply below_drew1) | exact HB.out)) hb); clear HO169; clear HB; have HO169 := n0_; have HO173 := n1_; have HB := n2_; clear n0_ n1_ n2_; (try clear hb); (try clear hb2); (try clear hk); (try clear hi); (try clear ho0); obtain ⟨Ao37, co37, eo37⟩ := Kd.R_slice HO169.out; subst eo37; obtain ⟨Ao38, co38, eo38⟩ := Kd.R_slice HO173.out; subst eo38) | (go_at_call 13; (with_reducible refine (firnref09_SameSums.calls kj12 _ _ t166 _ _ t170 true _ ?side1 ?side2 ?side3 ?side4 A29.out).mono ?_); (case side1 => repeat (first | exact (Kd.R_reads' HO169.out).2.2 | (with_reducible refine Kd.C_alloc ?_ _) | (with_reducible refine Kd.C_drewN ?_ _) | (with_reducible refine Kd.C_drew ?_))); (case side2 => exact (Kd.R_reads' HO169.out).2.1); (case side3 => repeat (first | exact (Kd.R_reads' HO173.out).2.2 | (with_reducible refine Kd.C_alloc ?_ _) | (with_reducible refine Kd.C_drewN ?_ _) | (with_reducible refine Kd.C_drew ?_))); (case side4 => exact (Kd.R_reads' HO173.out).2.1); rintro e w' ⟨rfl, ⟨nd, rfl⟩⟩) | (go_at_call 5; (with_reducible refine (firnlaw09_Awake.calls kj12  t175 _ A32.out).mono ?_); rintro e w39 ⟨rfl, hb⟩; have n0_ := Aside0.mk (Kd.R_below (by (with_reducible repeat (first | apply Kd.R_alloc | apply Kd.R_drewN | apply Kd.R_drew)); exact HO169.out) hb); have n1_ := Aside0.mk (Kd.R_below (by (with_reducible repeat (first | apply Kd.R_alloc | apply Kd.R_drewN | apply Kd.R_drew)); exact HO173.out) hb); have n2_ := Aside0.mk (below_step (by repeat (first | (with_reducible first | exact HB.out | apply below_alloc | apply pw_below_drewN | apply below_drew1) | exact HB.out)) hb); clear HO169; clear HO173; clear HB; have HO169 := n0_; have HO173 := n1_; have HB := n2_; clear n0_ n1_ n2_; (try clear hb); (try clear hb2); (try clear hk); (try clear hi)))
                      go_ret
                      exact ⟨by first | rfl | (simp [errW_none, errW_some] <;> rfl) | (simp [*, errW_none, errW_some] <;> rfl), by repeat (first | (with_reducible first | exact HB.out | apply below_alloc | apply pw_below_drewN | apply below_drew1) | exact HB.out)⟩
                    · rw [if_neg c31] at H
                      have c31b0 : (t167 == t171) = false := beq_eq_false_iff_ne.mpr c31
                      have c31b1 : (t167 != t171) = true := bne_iff_ne.mpr c31
                      obtain rfl := Option.some.inj H
                      go_wp2_with (first | ((with_reducible refine gate_callee (f := 9) rfl ?_); refine goesL_ (some 44) rfl rfl Tryz.func9 (by kernel_rfl) rfl #[.slice A0 l0.length c0] rfl (by (try simp only [List.map_toArray, List.map_cons, List.map_nil]); first | done | rfl | (simp only [List.length_drop, List.length_take]; rfl)) ?_; (with_reducible refine (prov_Tokens.calls _ _ l0 t162 t163 _ ?side1 ?side2 A23.out).mono ?_); (case side1 => repeat (first | exact (Kd.C_below HR0.out HB.out) | (with_reducible refine Kd.C_alloc ?_ _) | (with_reducible refine Kd.C_drewN ?_ _) | (with_reducible refine Kd.C_drew ?_))); (case side2 => exact HC0.out); rintro e w40 ⟨rfl, hb⟩; refine ⟨_, rfl, ?_⟩; have n0_ := Aside0.mk (below_step (by repeat (first | (with_reducible first | exact HB.out | apply below_alloc | apply pw_below_drewN | apply below_drew1) | exact HB.out)) hb); clear HB; have HB := n0_; clear n0_; (try clear hb); (try clear hb2); (try clear hk); (try clear hi)) | ((with_reducible refine gate_callee (f := 10) rfl ?_); refine goesL_ (some 49) rfl rfl Tryz.func10 (by kernel_rfl) rfl #[.slice A0 l0.length c0] rfl (by (try simp only [List.map_toArray, List.map_cons, List.map_nil]); first | done | rfl | (simp only [List.length_drop, List.length_take]; rfl)) ?_; (with_reducible refine (firnref09_Tokens.calls kj12 _ _ l0 t164 t165 _ ?side1 ?side2 A24.out).mono ?_); (case side1 => repeat (first | exact (Kd.C_below HR0.out HB.out) | (with_reducible refine Kd.C_alloc ?_ _) | (with_reducible refine Kd.C_drewN ?_ _) | (with_reducible refine Kd.C_drew ?_))); (case side2 => exact HC0.out); rintro e w41 ⟨rfl, hb⟩; refine ⟨_, rfl, ?_⟩; have n0_ := Aside0.mk (below_step (by repeat (first | (with_reducible first | exact HB.out | apply below_alloc | apply pw_below_drewN | apply below_drew1) | exact HB.out)) hb); clear HB; have HB := n0_; clear n0_; (try clear hb); (try clear hb2); (try clear hk); (try clear hi)) | ((with_reducible refine gate_callee (f := 11) rfl ?_); refine goesL_ (some 55) rfl rfl Tryz.func11 (by kernel_rfl) rfl #[.slice A0 l0.length c0, .string a1] rfl (by (try simp only [List.map_toArray, List.map_cons, List.map_nil]); first | done | rfl | (simp only [List.length_drop, List.length_take]; rfl)) ?_; (with_reducible refine (prov_Spared.calls _ _ l0 a1 t166 t167 _ ?side1 ?side2 A25.out).mono ?_); (case side1 => repeat (first | exact (Kd.C_below HR0.out HB.out) | (with_reducible refine Kd.C_alloc ?_ _) | (with_reducible refine Kd.C_drewN ?_ _) | (with_reducible refine Kd.C_drew ?_))); (case side2 => exact HC0.out); rintro e w42 ⟨v168, rfl, ho0, hb⟩; refine ⟨_, rfl, ?_⟩; have n0_ := Aside0.mk (Kd.R_lower ho0 (below_size (by repeat (first | (with_reducible first | exact HB.out | apply below_alloc | apply pw_below_drewN | apply below_drew1) | exact HB.out)))); have n1_ := Aside0.mk (below_step (by repeat (first | (with_reducible first | exact HB.out | apply below_alloc | apply pw_below_drewN | apply below_drew1) | exact HB.out)) hb); clear HB; have HO169 := n0_; have HB := n1_; clear n0_ n1_; (try clear hb); (try clear hb2); (try clear hk); (try clear hi); (try clear ho0)) | ((with_reducible refine gate_callee (f := 12) rfl ?_); refine goesL_ (some 61) rfl rfl Tryz.func12 (by kernel_rfl) rfl #[.slice A0 l0.length c0, .string a1] rfl (by (try simp only [List.map_toArray, List.map_cons, List.map_nil]); first | done | rfl | (simp only [List.length_drop, List.length_take]; rfl)) ?_; (with_reducible refine (firnref09_Spared.calls kj12 _ _ l0 a1 t170 t171 _ ?side1 ?side2 A26.out).mono ?_); (case side1 => repeat (first | exact (Kd.C_below HR0.out HB.out) | (with_reducible refine Kd.C_alloc ?_ _) | (with_reducible refine Kd.C_drewN ?_ _) | (with_reducible refine Kd.C_drew ?_))); (case side2 => exact HC0.out); rintro e w43 ⟨v172, rfl, ho0, hb⟩; refine ⟨_, rfl, ?_⟩; have n0_ := Aside0.mk (Kd.R_elder' (by (with_reducible repeat (first | apply Kd.R_alloc | apply Kd.R_drewN | apply Kd.R_drew)); exact HO169.out) (Kd.R_base ho0) hb); have n1_ := Aside0.mk (Kd.R_lower (Kd.R_new' ho0 (Kd.R_lt (by (with_reducible repeat (first | apply Kd.R_alloc | apply Kd.R_drewN | apply Kd.R_drew)); exact HO169.out))) (below_size (by repeat (first | (with_reducible first | exact HB.out | apply below_alloc | apply pw_below_drewN | apply below_drew1) | exact HB.out)))); have n2_ := Aside0.mk (below_step (by repeat (first | (with_reducible first | exact HB.out | apply below_alloc | apply pw_below_drewN | apply below_drew1) | exact HB.out)) hb); clear HO169; clear HB; have HO169 := n0_; have HO173 := n1_; have HB := n2_; clear n0_ n1_ n2_; (try clear hb); (try clear hb2); (try clear hk); (try clear hi); (try clear ho0); obtain ⟨Ao44, co44, eo44⟩ := Kd.R_slice HO169.out; subst eo44; obtain ⟨Ao45, co45, eo45⟩ := Kd.R_slice HO173.out; subst eo45) | (go_at_call 13; (with_reducible refine (firnref09_SameSums.calls kj12 _ _ t166 _ _ t170 true _ ?side1 ?side2 ?side3 ?side4 A29.out).mono ?_); (case side1 => repeat (first | exact (Kd.R_reads' HO169.out).2.2 | (with_reducible refine Kd.C_alloc ?_ _) | (with_reducible refine Kd.C_drewN ?_ _) | (with_reducible refine Kd.C_drew ?_))); (case side2 => exact (Kd.R_reads' HO169.out).2.1); (case side3 => repeat (first | exact (Kd.R_reads' HO173.out).2.2 | (with_reducible refine Kd.C_alloc ?_ _) | (with_reducible refine Kd.C_drewN ?_ _) | (with_reducible refine Kd.C_drew ?_))); (case side4 => exact (Kd.R_reads' HO173.out).2.1); rintro e w' ⟨rfl, ⟨nd, rfl⟩⟩))
                      go_ret
                      exact ⟨by first | rfl | (simp [errW_none, errW_some] <;> rfl) | (simp [*, errW_none, errW_some] <;> rfl), by repeat (first | (with_reducible first | exact HB.out | apply below_alloc | apply pw_below_drewN | apply below_drew1) | exact HB.out)⟩
                  · replace c30 := Bool.eq_false_iff.mpr c30
                    subst c30
                    have H1 : (some false) = some r := by rw [if_neg (show ¬ (false = true) by decide)] at H; exact H
                    clear H
                    have H := H1
                    clear H1
                    obtain rfl := Option.some.inj H
                    go_wp2_with (first | ((with_reducible refine gate_callee (f := 9) rfl ?_); refine goesL_ (some 44) rfl rfl Tryz.func9 (by kernel_rfl) rfl #[.slice A0 l0.length c0] rfl (by (try simp only [List.map_toArray, List.map_cons, List.map_nil]); first | done | rfl | (simp only [List.length_drop, List.length_take]; rfl)) ?_; (with_reducible refine (prov_Tokens.calls _ _ l0 t162 t163 _ ?side1 ?side2 A23.out).mono ?_); (case side1 => repeat (first | exact (Kd.C_below HR0.out HB.out) | (with_reducible refine Kd.C_alloc ?_ _) | (with_reducible refine Kd.C_drewN ?_ _) | (with_reducible refine Kd.C_drew ?_))); (case side2 => exact HC0.out); rintro e w46 ⟨rfl, hb⟩; refine ⟨_, rfl, ?_⟩; have n0_ := Aside0.mk (below_step (by repeat (first | (with_reducible first | exact HB.out | apply below_alloc | apply pw_below_drewN | apply below_drew1) | exact HB.out)) hb); clear HB; have HB := n0_; clear n0_; (try clear hb); (try clear hb2); (try clear hk); (try clear hi)) | ((with_reducible refine gate_callee (f := 10) rfl ?_); refine goesL_ (some 49) rfl rfl Tryz.func10 (by kernel_rfl) rfl #[.slice A0 l0.length c0] rfl (by (try simp only [List.map_toArray, List.map_cons, List.map_nil]); first | done | rfl | (simp only [List.length_drop, List.length_take]; rfl)) ?_; (with_reducible refine (firnref09_Tokens.calls kj12 _ _ l0 t164 t165 _ ?side1 ?side2 A24.out).mono ?_); (case side1 => repeat (first | exact (Kd.C_below HR0.out HB.out) | (with_reducible refine Kd.C_alloc ?_ _) | (with_reducible refine Kd.C_drewN ?_ _) | (with_reducible refine Kd.C_drew ?_))); (case side2 => exact HC0.out); rintro e w47 ⟨rfl, hb⟩; refine ⟨_, rfl, ?_⟩; have n0_ := Aside0.mk (below_step (by repeat (first | (with_reducible first | exact HB.out | apply below_alloc | apply pw_below_drewN | apply below_drew1) | exact HB.out)) hb); clear HB; have HB := n0_; clear n0_; (try clear hb); (try clear hb2); (try clear hk); (try clear hi)) | ((with_reducible refine gate_callee (f := 11) rfl ?_); refine goesL_ (some 55) rfl rfl Tryz.func11 (by kernel_rfl) rfl #[.slice A0 l0.length c0, .string a1] rfl (by (try simp only [List.map_toArray, List.map_cons, List.map_nil]); first | done | rfl | (simp only [List.length_drop, List.length_take]; rfl)) ?_; (with_reducible refine (prov_Spared.calls _ _ l0 a1 t166 t167 _ ?side1 ?side2 A25.out).mono ?_); (case side1 => repeat (first | exact (Kd.C_below HR0.out HB.out) | (with_reducible refine Kd.C_alloc ?_ _) | (with_reducible refine Kd.C_drewN ?_ _) | (with_reducible refine Kd.C_drew ?_))); (case side2 => exact HC0.out); rintro e w48 ⟨v168, rfl, ho0, hb⟩; refine ⟨_, rfl, ?_⟩; have n0_ := Aside0.mk (Kd.R_lower ho0 (below_size (by repeat (first | (with_reducible first | exact HB.out | apply below_alloc | apply pw_below_drewN | apply below_drew1) | exact HB.out)))); have n1_ := Aside0.mk (below_step (by repeat (first | (with_reducible first | exact HB.out | apply below_alloc | apply pw_below_drewN | apply below_drew1) | exact HB.out)) hb); clear HB; have HO169 := n0_; have HB := n1_; clear n0_ n1_; (try clear hb); (try clear hb2); (try clear hk); (try clear hi); (try clear ho0)) | ((with_reducible refine gate_callee (f := 12) rfl ?_); refine goesL_ (some 61) rfl rfl Tryz.func12 (by kernel_rfl) rfl #[.slice A0 l0.length c0, .string a1] rfl (by (try simp only [List.map_toArray, List.map_cons, List.map_nil]); first | done | rfl | (simp only [List.length_drop, List.length_take]; rfl)) ?_; (with_reducible refine (firnref09_Spared.calls kj12 _ _ l0 a1 t170 t171 _ ?side1 ?side2 A26.out).mono ?_); (case side1 => repeat (first | exact (Kd.C_below HR0.out HB.out) | (with_reducible refine Kd.C_alloc ?_ _) | (with_reducible refine Kd.C_drewN ?_ _) | (with_reducible refine Kd.C_drew ?_))); (case side2 => exact HC0.out); rintro e w49 ⟨v172, rfl, ho0, hb⟩; refine ⟨_, rfl, ?_⟩; have n0_ := Aside0.mk (Kd.R_elder' (by (with_reducible repeat (first | apply Kd.R_alloc | apply Kd.R_drewN | apply Kd.R_drew)); exact HO169.out) (Kd.R_base ho0) hb); have n1_ := Aside0.mk (Kd.R_lower (Kd.R_new' ho0 (Kd.R_lt (by (with_reducible repeat (first | apply Kd.R_alloc | apply Kd.R_drewN | apply Kd.R_drew)); exact HO169.out))) (below_size (by repeat (first | (with_reducible first | exact HB.out | apply below_alloc | apply pw_below_drewN | apply below_drew1) | exact HB.out)))); have n2_ := Aside0.mk (below_step (by repeat (first | (with_reducible first | exact HB.out | apply below_alloc | apply pw_below_drewN | apply below_drew1) | exact HB.out)) hb); clear HO169; clear HB; have HO169 := n0_; have HO173 := n1_; have HB := n2_; clear n0_ n1_ n2_; (try clear hb); (try clear hb2); (try clear hk); (try clear hi); (try clear ho0); obtain ⟨Ao50, co50, eo50⟩ := Kd.R_slice HO169.out; subst eo50; obtain ⟨Ao51, co51, eo51⟩ := Kd.R_slice HO173.out; subst eo51) | (go_at_call 13; (with_reducible refine (firnref09_SameSums.calls kj12 _ _ t166 _ _ t170 false _ ?side1 ?side2 ?side3 ?side4 A29.out).mono ?_); (case side1 => repeat (first | exact (Kd.R_reads' HO169.out).2.2 | (with_reducible refine Kd.C_alloc ?_ _) | (with_reducible refine Kd.C_drewN ?_ _) | (with_reducible refine Kd.C_drew ?_))); (case side2 => exact (Kd.R_reads' HO169.out).2.1); (case side3 => repeat (first | exact (Kd.R_reads' HO173.out).2.2 | (with_reducible refine Kd.C_alloc ?_ _) | (with_reducible refine Kd.C_drewN ?_ _) | (with_reducible refine Kd.C_drew ?_))); (case side4 => exact (Kd.R_reads' HO173.out).2.1); rintro e w' ⟨rfl, ⟨nd, rfl⟩⟩))
                    go_ret
                    exact ⟨by first | rfl | (simp [errW_none, errW_some] <;> rfl) | (simp [*, errW_none, errW_some] <;> rfl), by repeat (first | (with_reducible first | exact HB.out | apply below_alloc | apply pw_below_drewN | apply below_drew1) | exact HB.out)⟩
                · rw [if_neg c28] at H
                  have c28b0 : (t163 == t165) = false := beq_eq_false_iff_ne.mpr c28
                  have c28b1 : (t163 != t165) = true := bne_iff_ne.mpr c28
                  obtain rfl := Option.some.inj H
                  go_wp2_with (first | ((with_reducible refine gate_callee (f := 9) rfl ?_); refine goesL_ (some 44) rfl rfl Tryz.func9 (by kernel_rfl) rfl #[.slice A0 l0.length c0] rfl (by (try simp only [List.map_toArray, List.map_cons, List.map_nil]); first | done | rfl | (simp only [List.length_drop, List.length_take]; rfl)) ?_; (with_reducible refine (prov_Tokens.calls _ _ l0 t162 t163 _ ?side1 ?side2 A23.out).mono ?_); (case side1 => repeat (first | exact (Kd.C_below HR0.out HB.out) | (with_reducible refine Kd.C_alloc ?_ _) | (with_reducible refine Kd.C_drewN ?_ _) | (with_reducible refine Kd.C_drew ?_))); (case side2 => exact HC0.out); rintro e w52 ⟨rfl, hb⟩; refine ⟨_, rfl, ?_⟩; have n0_ := Aside0.mk (below_step (by repeat (first | (with_reducible first | exact HB.out | apply below_alloc | apply pw_below_drewN | apply below_drew1) | exact HB.out)) hb); clear HB; have HB := n0_; clear n0_; (try clear hb); (try clear hb2); (try clear hk); (try clear hi)) | ((with_reducible refine gate_callee (f := 10) rfl ?_); refine goesL_ (some 49) rfl rfl Tryz.func10 (by kernel_rfl) rfl #[.slice A0 l0.length c0] rfl (by (try simp only [List.map_toArray, List.map_cons, List.map_nil]); first | done | rfl | (simp only [List.length_drop, List.length_take]; rfl)) ?_; (with_reducible refine (firnref09_Tokens.calls kj12 _ _ l0 t164 t165 _ ?side1 ?side2 A24.out).mono ?_); (case side1 => repeat (first | exact (Kd.C_below HR0.out HB.out) | (with_reducible refine Kd.C_alloc ?_ _) | (with_reducible refine Kd.C_drewN ?_ _) | (with_reducible refine Kd.C_drew ?_))); (case side2 => exact HC0.out); rintro e w53 ⟨rfl, hb⟩; refine ⟨_, rfl, ?_⟩; have n0_ := Aside0.mk (below_step (by repeat (first | (with_reducible first | exact HB.out | apply below_alloc | apply pw_below_drewN | apply below_drew1) | exact HB.out)) hb); clear HB; have HB := n0_; clear n0_; (try clear hb); (try clear hb2); (try clear hk); (try clear hi)) | ((with_reducible refine gate_callee (f := 11) rfl ?_); refine goesL_ (some 55) rfl rfl Tryz.func11 (by kernel_rfl) rfl #[.slice A0 l0.length c0, .string a1] rfl (by (try simp only [List.map_toArray, List.map_cons, List.map_nil]); first | done | rfl | (simp only [List.length_drop, List.length_take]; rfl)) ?_; (with_reducible refine (prov_Spared.calls _ _ l0 a1 t166 t167 _ ?side1 ?side2 A25.out).mono ?_); (case side1 => repeat (first | exact (Kd.C_below HR0.out HB.out) | (with_reducible refine Kd.C_alloc ?_ _) | (with_reducible refine Kd.C_drewN ?_ _) | (with_reducible refine Kd.C_drew ?_))); (case side2 => exact HC0.out); rintro e w54 ⟨v168, rfl, ho0, hb⟩; refine ⟨_, rfl, ?_⟩; have n0_ := Aside0.mk (Kd.R_lower ho0 (below_size (by repeat (first | (with_reducible first | exact HB.out | apply below_alloc | apply pw_below_drewN | apply below_drew1) | exact HB.out)))); have n1_ := Aside0.mk (below_step (by repeat (first | (with_reducible first | exact HB.out | apply below_alloc | apply pw_below_drewN | apply below_drew1) | exact HB.out)) hb); clear HB; have HO169 := n0_; have HB := n1_; clear n0_ n1_; (try clear hb); (try clear hb2); (try clear hk); (try clear hi); (try clear ho0)) | ((with_reducible refine gate_callee (f := 12) rfl ?_); refine goesL_ (some 61) rfl rfl Tryz.func12 (by kernel_rfl) rfl #[.slice A0 l0.length c0, .string a1] rfl (by (try simp only [List.map_toArray, List.map_cons, List.map_nil]); first | done | rfl | (simp only [List.length_drop, List.length_take]; rfl)) ?_; (with_reducible refine (firnref09_Spared.calls kj12 _ _ l0 a1 t170 t171 _ ?side1 ?side2 A26.out).mono ?_); (case side1 => repeat (first | exact (Kd.C_below HR0.out HB.out) | (with_reducible refine Kd.C_alloc ?_ _) | (with_reducible refine Kd.C_drewN ?_ _) | (with_reducible refine Kd.C_drew ?_))); (case side2 => exact HC0.out); rintro e w55 ⟨v172, rfl, ho0, hb⟩; refine ⟨_, rfl, ?_⟩; have n0_ := Aside0.mk (Kd.R_elder' (by (with_reducible repeat (first | apply Kd.R_alloc | apply Kd.R_drewN | apply Kd.R_drew)); exact HO169.out) (Kd.R_base ho0) hb); have n1_ := Aside0.mk (Kd.R_lower (Kd.R_new' ho0 (Kd.R_lt (by (with_reducible repeat (first | apply Kd.R_alloc | apply Kd.R_drewN | apply Kd.R_drew)); exact HO169.out))) (below_size (by repeat (first | (with_reducible first | exact HB.out | apply below_alloc | apply pw_below_drewN | apply below_drew1) | exact HB.out)))); have n2_ := Aside0.mk (below_step (by repeat (first | (with_reducible first | exact HB.out | apply below_alloc | apply pw_below_drewN | apply below_drew1) | exact HB.out)) hb); clear HO169; clear HB; have HO169 := n0_; have HO173 := n1_; have HB := n2_; clear n0_ n1_ n2_; (try clear hb); (try clear hb2); (try clear hk); (try clear hi); (try clear ho0)))
                  go_ret
                  exact ⟨by first | rfl | (simp [errW_none, errW_some] <;> rfl) | (simp [*, errW_none, errW_some] <;> rfl), by repeat (first | (with_reducible first | exact HB.out | apply below_alloc | apply pw_below_drewN | apply below_drew1) | exact HB.out)⟩
              · rw [if_neg c27] at H
                have c27b0 : (t162.toList == t164.toList) = false := beq_eq_false_iff_ne.mpr c27
                have c27b1 : (t162.toList != t164.toList) = true := bne_iff_ne.mpr c27
                obtain rfl := Option.some.inj H
                go_wp2_with (first | ((with_reducible refine gate_callee (f := 9) rfl ?_); refine goesL_ (some 44) rfl rfl Tryz.func9 (by kernel_rfl) rfl #[.slice A0 l0.length c0] rfl (by (try simp only [List.map_toArray, List.map_cons, List.map_nil]); first | done | rfl | (simp only [List.length_drop, List.length_take]; rfl)) ?_; (with_reducible refine (prov_Tokens.calls _ _ l0 t162 t163 _ ?side1 ?side2 A23.out).mono ?_); (case side1 => repeat (first | exact (Kd.C_below HR0.out HB.out) | (with_reducible refine Kd.C_alloc ?_ _) | (with_reducible refine Kd.C_drewN ?_ _) | (with_reducible refine Kd.C_drew ?_))); (case side2 => exact HC0.out); rintro e w56 ⟨rfl, hb⟩; refine ⟨_, rfl, ?_⟩; have n0_ := Aside0.mk (below_step (by repeat (first | (with_reducible first | exact HB.out | apply below_alloc | apply pw_below_drewN | apply below_drew1) | exact HB.out)) hb); clear HB; have HB := n0_; clear n0_; (try clear hb); (try clear hb2); (try clear hk); (try clear hi)) | ((with_reducible refine gate_callee (f := 10) rfl ?_); refine goesL_ (some 49) rfl rfl Tryz.func10 (by kernel_rfl) rfl #[.slice A0 l0.length c0] rfl (by (try simp only [List.map_toArray, List.map_cons, List.map_nil]); first | done | rfl | (simp only [List.length_drop, List.length_take]; rfl)) ?_; (with_reducible refine (firnref09_Tokens.calls kj12 _ _ l0 t164 t165 _ ?side1 ?side2 A24.out).mono ?_); (case side1 => repeat (first | exact (Kd.C_below HR0.out HB.out) | (with_reducible refine Kd.C_alloc ?_ _) | (with_reducible refine Kd.C_drewN ?_ _) | (with_reducible refine Kd.C_drew ?_))); (case side2 => exact HC0.out); rintro e w57 ⟨rfl, hb⟩; refine ⟨_, rfl, ?_⟩; have n0_ := Aside0.mk (below_step (by repeat (first | (with_reducible first | exact HB.out | apply below_alloc | apply pw_below_drewN | apply below_drew1) | exact HB.out)) hb); clear HB; have HB := n0_; clear n0_; (try clear hb); (try clear hb2); (try clear hk); (try clear hi)) | ((with_reducible refine gate_callee (f := 11) rfl ?_); refine goesL_ (some 55) rfl rfl Tryz.func11 (by kernel_rfl) rfl #[.slice A0 l0.length c0, .string a1] rfl (by (try simp only [List.map_toArray, List.map_cons, List.map_nil]); first | done | rfl | (simp only [List.length_drop, List.length_take]; rfl)) ?_; (with_reducible refine (prov_Spared.calls _ _ l0 a1 t166 t167 _ ?side1 ?side2 A25.out).mono ?_); (case side1 => repeat (first | exact (Kd.C_below HR0.out HB.out) | (with_reducible refine Kd.C_alloc ?_ _) | (with_reducible refine Kd.C_drewN ?_ _) | (with_reducible refine Kd.C_drew ?_))); (case side2 => exact HC0.out); rintro e w58 ⟨v168, rfl, ho0, hb⟩; refine ⟨_, rfl, ?_⟩; have n0_ := Aside0.mk (Kd.R_lower ho0 (below_size (by repeat (first | (with_reducible first | exact HB.out | apply below_alloc | apply pw_below_drewN | apply below_drew1) | exact HB.out)))); have n1_ := Aside0.mk (below_step (by repeat (first | (with_reducible first | exact HB.out | apply below_alloc | apply pw_below_drewN | apply below_drew1) | exact HB.out)) hb); clear HB; have HO169 := n0_; have HB := n1_; clear n0_ n1_; (try clear hb); (try clear hb2); (try clear hk); (try clear hi); (try clear ho0)) | ((with_reducible refine gate_callee (f := 12) rfl ?_); refine goesL_ (some 61) rfl rfl Tryz.func12 (by kernel_rfl) rfl #[.slice A0 l0.length c0, .string a1] rfl (by (try simp only [List.map_toArray, List.map_cons, List.map_nil]); first | done | rfl | (simp only [List.length_drop, List.length_take]; rfl)) ?_; (with_reducible refine (firnref09_Spared.calls kj12 _ _ l0 a1 t170 t171 _ ?side1 ?side2 A26.out).mono ?_); (case side1 => repeat (first | exact (Kd.C_below HR0.out HB.out) | (with_reducible refine Kd.C_alloc ?_ _) | (with_reducible refine Kd.C_drewN ?_ _) | (with_reducible refine Kd.C_drew ?_))); (case side2 => exact HC0.out); rintro e w59 ⟨v172, rfl, ho0, hb⟩; refine ⟨_, rfl, ?_⟩; have n0_ := Aside0.mk (Kd.R_elder' (by (with_reducible repeat (first | apply Kd.R_alloc | apply Kd.R_drewN | apply Kd.R_drew)); exact HO169.out) (Kd.R_base ho0) hb); have n1_ := Aside0.mk (Kd.R_lower (Kd.R_new' ho0 (Kd.R_lt (by (with_reducible repeat (first | apply Kd.R_alloc | apply Kd.R_drewN | apply Kd.R_drew)); exact HO169.out))) (below_size (by repeat (first | (with_reducible first | exact HB.out | apply below_alloc | apply pw_below_drewN | apply below_drew1) | exact HB.out)))); have n2_ := Aside0.mk (below_step (by repeat (first | (with_reducible first | exact HB.out | apply below_alloc | apply pw_below_drewN | apply below_drew1) | exact HB.out)) hb); clear HO169; clear HB; have HO169 := n0_; have HO173 := n1_; have HB := n2_; clear n0_ n1_ n2_; (try clear hb); (try clear hb2); (try clear hk); (try clear hi); (try clear ho0)))
                go_ret
                exact ⟨by first | rfl | (simp [errW_none, errW_some] <;> rfl) | (simp [*, errW_none, errW_some] <;> rfl), by repeat (first | (with_reducible first | exact HB.out | apply below_alloc | apply pw_below_drewN | apply below_drew1) | exact HB.out)⟩

end Go.Proofs.YtajeaefpapnkbaaGreatDoor.P
