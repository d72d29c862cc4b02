import Derived.Test.YtajeaefpapnkbaaGreatDoor0
import Derived.Deep.Slices
import Derived.Deep.Fields
import Derived.ChangeSame
import Derived.SizedLaws
import Derived.ProofKit
import Derived.OpenShut
import Derived.Lib.OthersKept
import Derived.Lib.Bytealg
import Derived.Lib.SlicesCompact
import Derived.Shelf.SlSortCmp.Insertion
-- WRITTEN FOR THIS CLAIM BY A PROGRAM OF THIS SESSION (wip/tools), which turns the lines of the kit's print
namespace Go.Proofs.YtajeaefpapnkbaaGreatDoor.P
open Go.RowKit Go.Proofs.YtajeaefpapnkbaaGreatDoorW.PrintWords Go.Proofs.YtajeaefpapnkbaaGreatDoorW.PrintLast Go.Proofs.YtajeaefpapnkbaaGreatDoorW.PrintMore
attribute [local go_sem] max2_int min2_int max_two min_two max_three min_three max_four min_four   -- for this text's walks alone
set_option linter.unusedVariables false
set_option linter.unusedSimpArgs false

/-! ### shared A -/
/-! small words of this session -/
theorem ret_bool {a b : Bool} (h : a = b) : Ending.returned (.bool a) = .returned (.bool b) := by rw [h]
theorem ret_int {k : IntKind} {a b : Int} (h : a = b) : Ending.returned (.int k a) = .returned (.int k b) := by rw [h]
theorem ret_str {a b : ByteArray} (h : a = b) : Ending.returned (.string a) = .returned (.string b) := by rw [h]
theorem getD_mem {α : Type} {l : List α} {k : Nat} (d : α) (h : k < l.length) : l.getD k d ∈ l := by
  rw [List.getD_eq_getElem?_getD, List.getElem?_eq_getElem h]; exact List.getElem_mem h
theorem getD_lt {α : Type} {l : List α} {k : Nat} (d : α) (h : k < l.length) : l.getD k d = l[k] := by
  rw [List.getD_eq_getElem?_getD, List.getElem?_eq_getElem h]; rfl
theorem wrap64_of {x : Int} (h0 : -9223372036854775808 ≤ x) (h1 : x ≤ 9223372036854775807) : wrap64 x = x := by
  unfold wrap64; omega
/-- A contract that draws only, as a quiet region wants it. -/
theorem quiet0 {P : Program} {f : FuncId} {args : Array Value} {w : World} {v : Value} (h : Calls P f args w fun e w' => e = .returned v ∧ Drawn0 w w') :
    Calls P f args w fun e w' => e = .returned v ∧ ∃ n, w' = w.drewN n := h.mono fun _ _ ⟨he, hd⟩ => ⟨he, hd.out⟩
theorem drawn_below {w w' : World} (h : Drawn0 w w') (B : Nat) : Below B w w' := by
  obtain ⟨n, rfl⟩ := h.out
  exact pw_below_drewN (Below.refl B w) n
theorem ByteArray_size (s : ByteArray) : s.size = s.data.toList.length := Array.length_toList.symm
theorem bt_lt (s : ByteArray) {i : Nat} (h : i < s.size) : bt s (i : Int) = (s.data.toList.getD i 0).toNat := by
  have h' : i < s.data.toList.length := by rw [← ByteArray_size]; exact h
  rw [getD_lt 0 h']
  unfold bt
  rw [dif_pos (show (i : Int).toNat < s.size from h)]
  rfl
theorem bt_nonneg (s : ByteArray) (i : Int) : 0 ≤ bt s i := by unfold bt; split <;> omega
theorem bt_le (s : ByteArray) (i : Int) : bt s i ≤ 255 := by
  unfold bt; split
  · have := UInt8.toNat_lt (s[i.toNat]); omega
  · omega
theorem less_or_eq : ∀ a b : List UInt8, (Op.bytesLess a b || a == b) = !(Op.bytesLess b a)
  | [], [] => rfl
  | [], _ :: _ => rfl
  | _ :: _, [] => rfl
  | a :: x, b :: y => by
    have ih := less_or_eq x y
    simp only [Op.bytesLess, List.cons_beq_cons]
    by_cases h1 : a < b
    · have h2 : ¬ b < a := by rw [UInt8.lt_iff_toNat_lt] at *; omega
      have h3 : (b == a) = false := by rw [beq_eq_false_iff_ne]; rintro rfl; exact h2 h1
      simp [h1, h2, h3]
    · by_cases h2 : b < a
      · have h3 : (a == b) = false := by rw [beq_eq_false_iff_ne]; rintro rfl; exact h1 h2
        simp [h1, h2, h3]
      · have h3 : a = b := by rw [UInt8.lt_iff_toNat_lt] at *; exact UInt8.toNat_inj.1 (by omega)
        subst h3
        simpa [UInt8.lt_irrefl] using ih
@[go_sem] theorem binOp_leq_str (t : TypeId) (a b : ByteArray) : binOp .leq t (.string a) (.string b) = pure (.bool (!(Op.bytesLess b.toList a.toList))) := by
  rw [← less_or_eq]; simp [binOp, Op.stringOp]
@[go_sem] theorem binOp_gtr_str (t : TypeId) (a b : ByteArray) : binOp .gtr t (.string a) (.string b) = pure (.bool (Op.bytesLess b.toList a.toList)) := by
  have h := less_or_eq a.toList b.toList
  have : Op.bytesLess b.toList a.toList = !(Op.bytesLess a.toList b.toList || a.toList == b.toList) := by rw [h]; simp
  rw [this]; simp [binOp, Op.stringOp]
@[go_sem] theorem binOp_geq_str (t : TypeId) (a b : ByteArray) : binOp .geq t (.string a) (.string b) = pure (.bool (!(Op.bytesLess a.toList b.toList))) := by
  simp [binOp, Op.stringOp]

end Go.Proofs.YtajeaefpapnkbaaGreatDoor.P
-- WRITTEN FOR THIS CLAIM BY A PROGRAM OF THIS SESSION (wip/tools), which turns the lines of the kit's print
namespace Go.Proofs.YtajeaefpapnkbaaGreatDoor.P
open Go.RowKit Go.Proofs.YtajeaefpapnkbaaGreatDoorW.PrintWords Go.Proofs.YtajeaefpapnkbaaGreatDoorW.PrintLast Go.Proofs.YtajeaefpapnkbaaGreatDoorW.PrintMore
attribute [local go_sem] max2_int min2_int max_two min_two max_three min_three max_four min_four   -- for this text's walks alone
set_option linter.unusedVariables false
set_option linter.unusedSimpArgs false

/-! ### shared V -/
/-! what a token list, a product and a sum are: plain -/
def tokAt (s : ByteArray) (j : Nat) : Bool := decide (97 ≤ bt s j) && (decide (bt s j < 105) && (j == 0 || decide (bt s ((j : Int) - 1) ≤ bt s j)))
def tokTo (s : ByteArray) (k : Nat) : Bool := (List.range k).all (tokAt s)
def tokB (s : ByteArray) : Bool := tokTo s s.size && decide (s.size ≤ 12)
def leqB (a b : ByteArray) : Bool := !(Op.bytesLess b.toList a.toList)
def prodB (x : S37) : Bool := tokB x.f0 && (decide (1 ≤ x.f1) && decide (x.f1 ≤ 100000))
def stepB (l : List S37) (j : Nat) : Bool := prodB (l.getD j z37) && (j == 0 || !leqB (l.getD j z37).f0 (l.getD (j - 1) z37).f0)
def validTo (l : List S37) (k : Nat) : Bool := (List.range k).all (stepB l)
def validB (l : List S37) : Bool := validTo l l.length && decide (l.length ≤ 40)
theorem tokTo_succ (s : ByteArray) (k : Nat) : tokTo s (k + 1) = (tokTo s k && tokAt s k) := by simp [tokTo, List.range_succ]
theorem tokTo_ge {s : ByteArray} {k n : Nat} (h : tokTo s n = true) (hk : k < n) : tokAt s k = true := by
  simp only [tokTo, List.all_eq_true, List.mem_range] at h
  exact h k hk
theorem tokB_false {s : ByteArray} {k : Nat} (hk : k < s.size) (h : tokAt s k = false) : tokB s = false := by
  cases hv : tokTo s s.size with
  | false => simp [tokB, hv]
  | true => have := tokTo_ge hv hk; rw [h] at this; cases this
theorem validTo_succ (l : List S37) (k : Nat) : validTo l (k + 1) = (validTo l k && stepB l k) := by simp [validTo, List.range_succ]
theorem validTo_ge {l : List S37} {k n : Nat} (h : validTo l n = true) (hk : k < n) : stepB l k = true := by
  simp only [validTo, List.all_eq_true, List.mem_range] at h
  exact h k hk
theorem validB_false {l : List S37} {k : Nat} (hk : k < l.length) (h : stepB l k = false) : validB l = false := by
  cases hv : validTo l l.length with
  | false => simp [validB, hv]
  | true => have := validTo_ge hv hk; rw [h] at this; cases this
theorem pl_false {l : List S37} {k : Nat} {x : S37} (hk : k < l.length) (hx : Hid (l.getD k z37 = x)) (h : prodB x = false) : Ending.returned (.bool false) = .returned (.bool (validB l)) :=
  ret_bool (validB_false hk (by unfold stepB; rw [hx.out, h]; rfl)).symm
theorem pl_false2 {l : List S37} {k : Nat} {x y : S37} (hk : k < l.length) (h0 : 0 < k) (hx : Hid (l.getD k z37 = x)) (hy : Hid (l.getD (k - 1) z37 = y)) (h : leqB x.f0 y.f0 = true) : Ending.returned (.bool false) = .returned (.bool (validB l)) :=
  ret_bool (validB_false hk (by
    unfold stepB; rw [hx.out, hy.out, h, show (k == 0) = false from beq_eq_false_iff_ne.2 (by omega)]
    simp)).symm
theorem pl_next {l : List S37} {k : Nat} (hv : Hid (validTo l k = true)) (h : stepB l k = true) : validTo l (k + 1) = true := by
  rw [validTo_succ, hv.out, h]; rfl
theorem stepB_zero {l : List S37} {k : Nat} {x : S37} (h0 : Hid (k = 0)) (hx : Hid (l.getD k z37 = x)) (h : prodB x = true) : stepB l k = true := by
  unfold stepB; rw [hx.out, h, h0.out]; rfl
theorem stepB_pos {l : List S37} {k : Nat} {x y : S37} (hx : Hid (l.getD k z37 = x)) (hy : Hid (l.getD (k - 1) z37 = y)) (h : prodB x = true) (hl : leqB x.f0 y.f0 = false) : stepB l k = true := by
  unfold stepB; rw [hx.out, hy.out, h, hl]; simp
theorem leqB_true {a b : ByteArray} (h : (!Op.bytesLess b.toList a.toList) = true) : leqB a b = true := h
theorem leqB_false {a b : ByteArray} (h : (!Op.bytesLess b.toList a.toList) = false) : leqB a b = false := h
theorem prodB_mk {x : S37} (h1 : tokB x.f0 = true) (h2 : ¬ x.f1 < 1) (h3 : ¬ 100000 < x.f1) : prodB x = true := by
  unfold prodB; rw [h1]; simp; omega
/-- What a sum as a list in memory may be, for a contract. -/
def sumIn (l : List S37) : Bool := decide (l.length ≤ 140737488351232) && l.all fun x => decide (x.f0.size ≤ 140737488351232)
theorem sumIn_len {l : List S37} (h : sumIn l = true) : l.length ≤ 140737488351232 := by simp [sumIn] at h; exact h.1
theorem sumIn_mem {l : List S37} (h : sumIn l = true) : ∀ x ∈ l, x.f0.size ≤ 140737488351232 := by simp [sumIn] at h; exact h.2

end Go.Proofs.YtajeaefpapnkbaaGreatDoor.P
/- Opening an argument that is a list of products: the cells that it lies in, as a plain list. -/
namespace Go.Proofs.YtajeaefpapnkbaaGreatDoor.P
open Go.ChangeShapes Go.WideShapes Go.Deep Go.RowKit Go.Proofs.YtajeaefpapnkbaaGreatDoorW.PrintWords
section
variable {H : Type} {enc : TypeId × Value → H} {P : Program} {w : World} {base : Nat} {spare : Nat → Bool} {held : Bool}
theorem open_slice_fields {t e : TypeId} {fs : Array Field} {fuel : Nat} {cs : List Value} {x : DataW H × List MemPlace} (ht : P.underlying t = some (.slice e)) (he : P.underlying e = some (.struct fs))
    (hone : oneCellFields P fs = true) (hC : P.cellsOf e = fs.size) (h : DataW.trod enc P w base spare held fuel t cs = some x) :
    (cs = [.slice none 0 0] ∧ x = (.nil, [])) ∨
    ∃ (a : Addr) (len cap m : Nat) (D : Nat → DataW H) (Pl : Nat → List MemPlace), cs = [.slice (some a) len cap] ∧ base ≤ a.block ∧ len ≤ cap ∧ cap ≤ maxLen ∧ m = (if spare a.block then cap else len) ∧
      x = (.slice ((List.range len).map D) ((List.range (m - len)).map fun j => D (len + j)), MemPlace.row a (m * fs.size) ++ (List.range m).flatMap Pl) ∧
      ∀ i, i < m → ∃ (ys : List (DataW H × List MemPlace)) (n : Nat), D i = .agg (ys.map (·.1)) ∧ Pl i = ys.flatMap (·.2) ∧ ys.length = fs.size ∧
        ∀ (j : Nat) (f : Field), fs[j]? = some f → ∃ (v : Value) (y : DataW H × List MemPlace), w.cell? (a.add (i * fs.size + j)) = some v ∧ ys[j]? = some y ∧ DataW.trod enc P w base spare held n f.type [v] = some y := by
  rcases open_slice ht h with h0 | ⟨a, len, cap, m, n, D, Pl, hcs, hb, hl, hm, hmm, hx, hi⟩
  · exact .inl h0
  · refine .inr ⟨a, len, cap, m, D, Pl, hcs, hb, hl, hm, hmm, by rw [hC] at hx; exact hx, fun i him => ?_⟩
    obtain ⟨cs', hc, ht'⟩ := hi i him
    rw [hC] at hc
    obtain ⟨ys, n', hn', hy, hlen, hyl, hf⟩ := DataW.trod_struct he ht'
    obtain ⟨_, hcl, hat⟩ := World.cells?_some hc
    simp only [Prod.mk.injEq] at hy
    refine ⟨ys, n', hy.1, hy.2, hyl, fun j f hj => ?_⟩
    obtain ⟨ho, hk⟩ := hone_of hone j f hj
    have hjl : j < fs.size := (Array.getElem?_eq_some_iff.1 hj).1
    have hcell := hat j hjl
    have hv : cs'[j]? = some (cs'[j]'(by omega)) := List.getElem?_eq_getElem (by omega)
    have h1 := hf j f hj
    rw [ho, hk] at h1
    have hone' : (cs'.drop j).take 1 = [cs'[j]'(by omega)] := by
      rw [List.drop_eq_getElem_cons (by omega)]
      rfl
    rw [hone'] at h1
    have hys : ys[j]? = some (ys[j]'(by omega)) := List.getElem?_eq_getElem (by omega)
    refine ⟨_, _, ?_, hys, h1.trans hys⟩
    rw [← Go.Deep.add_add, hcell, hv]
end

theorem cellsProduct : Tryz.prog.cellsOf 37 = 2 := by kernel_rfl
theorem bytesProduct : Tryz.prog.bytesOf 37 = 24 := by kernel_rfl
theorem weightsAll_mem {H : Type} {P : Program} {e : TypeId} : ∀ {ds : List (DataW H)} {d : DataW H}, d ∈ ds → ∀ n ∈ d.weights P e, n ∈ DataW.weightsAll P e ds
  | _ :: _, _, h, n, hn => by
    rw [DataW.weightsAll, List.mem_append]
    rcases List.mem_cons.1 h with rfl | h
    · exact .inl hn
    · exact .inr (weightsAll_mem h n hn)
set_option maxRecDepth 100000 in
theorem open_sum {H : Type} {enc : TypeId × Value → H} {W : World} {base : Nat} {held : Bool} {A : Option Addr} {len cap : Nat} {d : DataW H} {p : List MemPlace} {ts : List TypeId} {ds : List (DataW H)} {j : Nat}
    (h : DataW.Trod enc Tryz.prog W base (fun _ => true) held 22 (.slice A len cap) d p) (ht : ts[j]? = some 22) (hd : ds[j]? = some d)
    (hsz : (DataW.weightsEach Tryz.prog ts ds).all (· ≤ reachBytes) = true) :
    ∃ l : List S37, l.length = len ∧ len ≤ cap ∧ Kd.C k37 W A len l ∧ sumIn l = true := by
  obtain ⟨fuel, hf⟩ := h
  have hu := Tryz.underlying22
  rcases open_slice_fields hu Tryz.underlying37 (by kernel_rfl) cellsProduct hf with ⟨hcs, hx⟩ | ⟨a, len', cap', m, D, Pl, hcs, _, hl, hm, hmm, hx, hi⟩
  · have hcs' : (Value.slice A len cap) = .slice none 0 0 := by simpa [Value.cells] using hcs
    injection hcs' with e1 e2 e3
    subst e1 e2 e3
    exact ⟨[], rfl, by omega, ⟨rfl, by omega, fun h => absurd h (by omega)⟩, rfl⟩
  · have hcs' : (Value.slice A len cap) = .slice (some a) len' cap' := by simpa [Value.cells] using hcs
    injection hcs' with e1 e2 e3
    subst e1 e2 e3
    simp only [if_true] at hmm
    subst hmm
    have hd' : d = .slice ((List.range len).map D) ((List.range (m - len)).map fun j => D (len + j)) := by
      have := congrArg Prod.fst hx
      exact this
    have hcap : m * 24 ≤ 140737488351232 := by
      have h1 := sized_slice hsz ht (by rw [hd, hd']) hu
      rw [bytesProduct] at h1
      simp at h1
      have h2 : reachBytes = 140737488351232 := rfl
      omega
    have key : ∀ i, ∃ x : S37, i < len → W.cell? (a.add (i * 2 + 0)) = some (.string x.f0) ∧ W.cell? (a.add (i * 2 + 1)) = some (.int .i64 x.f1) ∧ x.f0.size ≤ 140737488351232 := by
      intro i
      by_cases hil : i < len
      · obtain ⟨ys, n, hD, _, _, hfld⟩ := hi i (by omega)
        obtain ⟨v0, y0, hc0, hy0, ht0⟩ := hfld 0 _ rfl
        obtain ⟨v1, y1, hc1, hy1, ht1⟩ := hfld 1 _ rfl
        obtain ⟨s, es, rfl, _⟩ := DataW.trod_string Tryz.underlying9 ht0
        obtain ⟨q, eq, rfl, _⟩ := DataW.trod_int Tryz.underlying3 ht1
        obtain rfl : v0 = .string s := by simpa using es
        obtain rfl : v1 = .int .i64 q := by simpa using eq
        refine ⟨⟨s, q⟩, fun _ => ⟨hc0, hc1, ?_⟩⟩
        have hys : (ys.map (·.1))[0]? = some (.lit (.string s.data.toList)) := by rw [List.getElem?_map, hy0]; rfl
        have hw1 : s.data.toList.length ∈ (D i).weights Tryz.prog 37 := by
          rw [hD]
          simp only [DataW.weights, Tryz.underlying37]
          exact DataW.weights_mem_each (j := 0) rfl hys _ (by simp [DataW.weights])
        have hw2 : s.data.toList.length ∈ d.weights Tryz.prog 22 := by
          rw [hd']
          simp only [DataW.weights, hu]
          refine List.mem_cons_of_mem _ (List.mem_append_left _ (weightsAll_mem (d := D i) ?_ _ hw1))
          rw [List.mem_map]
          exact ⟨i, by simpa using hil, rfl⟩
        have := List.all_eq_true.1 hsz _ (DataW.weights_mem_each ht hd _ hw2)
        rw [ByteArray_size]
        exact of_decide_eq_true this
      · exact ⟨z37, fun h => absurd h hil⟩
    obtain ⟨f, hf⟩ := Classical.axiomOfChoice key
    have hlen : ((List.range len).map f).length = len := by simp
    refine ⟨(List.range len).map f, hlen, hl, ⟨hlen, by omega, fun _ => ⟨a, rfl, fun j p hj => ?_⟩⟩, ?_⟩
    · have hjl : j < len := by
        have := (List.getElem?_eq_some_iff.1 hj).1
        rwa [hlen] at this
      have hp : f j = p := by
        rw [List.getElem?_map, List.getElem?_range hjl] at hj
        simpa using hj
      subst hp
      obtain ⟨h0, h1, _⟩ := hf j hjl
      refine ⟨[.string (f j).f0, .int .i64 (f j).f1], rfl, k37_mk W (f j), fun i u hu => ?_⟩
      match i, hu with
      | 0, hu => cases hu; exact h0
      | 1, hu => cases hu; exact h1
      | i + 2, hu => simp at hu
    · unfold sumIn
      rw [Bool.and_eq_true, decide_eq_true_eq, List.all_eq_true]
      refine ⟨by rw [hlen]; omega, fun x hx => ?_⟩
      rw [List.mem_map] at hx
      obtain ⟨i, hi, rfl⟩ := hx
      exact decide_eq_true (hf i (by simpa using hi)).2.2
end Go.Proofs.YtajeaefpapnkbaaGreatDoor.P
-- WRITTEN FOR THIS CLAIM BY A PROGRAM OF THIS SESSION (wip/tools), which turns the lines of the kit's print
namespace Go.Proofs.YtajeaefpapnkbaaGreatDoor.P
open Go.RowKit Go.Proofs.YtajeaefpapnkbaaGreatDoorW.PrintWords Go.Proofs.YtajeaefpapnkbaaGreatDoorW.PrintLast Go.Proofs.YtajeaefpapnkbaaGreatDoorW.PrintMore
attribute [local go_sem] max2_int min2_int max_two min_two max_three min_three max_four min_four   -- for this text's walks alone
set_option linter.unusedVariables false
set_option linter.unusedSimpArgs false

/-! ### shared C -/
-- IMPORTS Derived.Lib.OthersKept
/-! cuts of ASCII texts, plain -/
def asciiB (s : ByteArray) : Bool := s.data.toList.all fun c => c < 128
theorem asciiB_at {s : ByteArray} (h : asciiB s = true) {k : Nat} (hk : k < s.size) : (s[k]).toNat < 128 := by
  unfold asciiB at h
  rw [List.all_eq_true] at h
  have := h s[k] (by rw [ByteArray.getElem_eq_getElem_data]; simp)
  simpa [UInt8.lt_iff_toNat_lt] using this
def inTo (set : ByteArray) (q : Nat) (c : UInt8) : Bool := (set.data.toList.take q).any (· == c)
def inB (set : ByteArray) (c : UInt8) : Bool := set.data.toList.any (· == c)
theorem inTo_succ (set : ByteArray) (c : UInt8) {q : Nat} (hq : q < set.size) : inTo set (q + 1) c = (inTo set q c || (set[q] == c)) := by
  unfold inTo
  rw [List.take_succ_eq_append_getElem (by rw [← ByteArray_size]; exact hq), List.any_append]
  simp [ByteArray.getElem_eq_getElem_data]
theorem inTo_all (set : ByteArray) (c : UInt8) : inTo set set.size c = inB set c := by
  unfold inTo inB
  rw [List.take_of_length_le (by rw [← ByteArray_size]; exact Nat.le_refl _)]
theorem eq_i32 (a b : UInt8) : (((a.toNat : Int)) == (b.toNat : Int)) = (b == a) := by
  rw [Bool.eq_iff_iff]
  simp [← UInt8.toNat_inj]
  omega
/-- The bytes from k on. -/
def from_ (s : ByteArray) (k : Nat) : ByteArray := s.extract k s.size
theorem from_data (s : ByteArray) (k : Nat) : (from_ s k).data.toList = s.data.toList.drop k := by
  unfold from_
  rw [ByteArray.data_extract]
  simp [List.take_of_length_le]
theorem ba_ext {a b : ByteArray} (h : a.data.toList = b.data.toList) : a = b := by
  obtain ⟨⟨a⟩⟩ := a
  obtain ⟨⟨b⟩⟩ := b
  simp at h
  rw [h]
def cutIx (s set : ByteArray) : Nat := s.data.toList.findIdx fun c => !inB set c
def cutL (s set : ByteArray) : ByteArray := from_ s (cutIx s set)
theorem cutIx_at {s set : ByteArray} {k : Nat} (hk : k < s.size) (h : inB set s[k] = false) (hl : ∀ j (hj : j < s.size), j < k → inB set s[j] = true) : cutIx s set = k := by
  unfold cutIx
  rw [List.findIdx_eq (by rw [← ByteArray_size]; exact hk)]
  refine ⟨by simpa [ByteArray.getElem_eq_getElem_data] using h, fun j hj => ?_⟩
  have := hl j (by omega) hj
  simpa [ByteArray.getElem_eq_getElem_data] using this
theorem cutL_none {s set : ByteArray} (hl : ∀ j (hj : j < s.size), inB set s[j] = true) : cutL s set = ⟨#[]⟩ := by
  apply ba_ext
  unfold cutL
  rw [from_data]
  have e : cutIx s set = s.data.toList.length := by
    unfold cutIx
    rw [List.findIdx_eq_length]
    intro x hx
    obtain ⟨j, hj, rfl⟩ := List.getElem_of_mem hx
    have := hl j (by rw [ByteArray_size]; exact hj)
    simpa [ByteArray.getElem_eq_getElem_data] using this
  rw [e]
  simp
/-- The first k bytes. -/
def to_ (s : ByteArray) (k : Nat) : ByteArray := s.extract 0 k
theorem to_data (s : ByteArray) (k : Nat) : (to_ s k).data.toList = s.data.toList.take k := by
  unfold to_
  rw [ByteArray.data_extract]
  simp
theorem to_size (s : ByteArray) {k : Nat} (hk : k ≤ s.size) : (to_ s k).size = k := by
  rw [ByteArray_size, to_data, List.length_take, ← ByteArray_size]; omega
theorem to_at (s : ByteArray) {k j : Nat} (hk : k ≤ s.size) (hj : j < k) : (to_ s k)[j]'(by rw [to_size s hk]; exact hj) = s[j]'(by omega) := by
  have h : (to_ s k).data.toList[j]'(by rw [to_data, List.length_take, ← ByteArray_size]; omega) = s.data.toList[j]'(by rw [← ByteArray_size]; omega) := by
    simp only [to_data, List.getElem_take]
  simpa [ByteArray.getElem_eq_getElem_data] using h
/-- How many bytes stay. -/
def cutRx (s set : ByteArray) : Nat → Nat
  | 0 => 0
  | k + 1 => if h : k < s.size then (if inB set s[k] then cutRx s set k else k + 1) else cutRx s set k
def cutR (s set : ByteArray) : ByteArray := to_ s (cutRx s set s.size)
theorem to_all (s : ByteArray) : to_ s s.size = s := by
  apply ba_ext
  rw [to_data, List.take_of_length_le (by rw [← ByteArray_size]; exact Nat.le_refl _)]
theorem to_to (s : ByteArray) {k j : Nat} (hj : j ≤ k) : (to_ s k).extract 0 j = to_ s j := by
  show to_ (to_ s k) j = to_ s j
  apply ba_ext
  rw [to_data, to_data, to_data, List.take_take, Nat.min_eq_left hj]
theorem to_zero (s : ByteArray) : to_ s 0 = ⟨#[]⟩ := by
  apply ba_ext
  rw [to_data]
  rfl
theorem iterPos_at {w : World} {k : Nat} {s : ByteArray} {p : Nat} (h : w.heap[k]? = some (.stringIter s p)) : w.iterPos k = p := by simp [World.iterPos, h]

end Go.Proofs.YtajeaefpapnkbaaGreatDoor.P
-- WRITTEN FOR THIS CLAIM BY A PROGRAM OF THIS SESSION (wip/tools), which turns the lines of the kit's print
namespace Go.Proofs.YtajeaefpapnkbaaGreatDoor.P
open Go.RowKit Go.Proofs.YtajeaefpapnkbaaGreatDoorW.PrintWords Go.Proofs.YtajeaefpapnkbaaGreatDoorW.PrintLast Go.Proofs.YtajeaefpapnkbaaGreatDoorW.PrintMore
attribute [local go_sem] max2_int min2_int max_two min_two max_three min_three max_four min_four   -- for this text's walks alone
set_option linter.unusedVariables false
set_option linter.unusedSimpArgs false

/-! ### shared W -/
-- IMPORTS Derived.Lib.Bytealg Derived.Lib.SlicesCompact Derived.Shelf.SlSortCmp.Insertion
/-! the order of sets (by length, then byte by byte), the least ones: plain -/
theorem cb_flip : ∀ a b : List UInt8, Lib.compareBytes b a = - Lib.compareBytes a b
  | [], [] => rfl
  | [], _ :: _ => rfl
  | _ :: _, [] => rfl
  | a :: xs, b :: ys => by
    simp only [Lib.compareBytes]
    have := cb_flip xs ys
    by_cases h1 : a < b
    · have h2 : ¬ b < a := by rw [UInt8.lt_iff_toNat_lt] at *; omega
      simp [h1, h2]
    · by_cases h2 : b < a
      · simp [h1, h2]
      · simp [h1, h2, this]
theorem cb_zero : ∀ a b : List UInt8, Lib.compareBytes a b = 0 → a = b
  | [], [] => fun _ => rfl
  | [], _ :: _ => fun h => by simp [Lib.compareBytes] at h
  | _ :: _, [] => fun h => by simp [Lib.compareBytes] at h
  | a :: xs, b :: ys => fun h => by
    simp only [Lib.compareBytes] at h
    split at h
    · omega
    · split at h
      · omega
      · rename_i h1 h2
        have e : a = b := by
          rw [UInt8.lt_iff_toNat_lt] at h1 h2
          exact UInt8.toNat_inj.1 (by omega)
        rw [e, cb_zero xs ys h]
theorem cb_self : ∀ a : List UInt8, Lib.compareBytes a a = 0
  | [] => rfl
  | a :: xs => by simp [Lib.compareBytes, cb_self xs, UInt8.lt_irrefl]
theorem cb_trans : ∀ a b c : List UInt8, Lib.compareBytes a b ≤ 0 → Lib.compareBytes b c ≤ 0 → Lib.compareBytes a c ≤ 0 ∧ (Lib.compareBytes a b < 0 ∨ Lib.compareBytes b c < 0 → Lib.compareBytes a c < 0)
  | [], b, [] => fun h1 h2 => ⟨by simp [Lib.compareBytes], by
      rintro (h | h)
      · cases b <;> simp [Lib.compareBytes] at h h2
      · cases b <;> simp [Lib.compareBytes] at h⟩
  | [], b, c :: zs => fun _ _ => by simp [Lib.compareBytes]
  | a :: xs, [], c => fun h1 _ => by simp [Lib.compareBytes] at h1
  | a :: xs, b :: ys, [] => fun _ h2 => by simp [Lib.compareBytes] at h2
  | a :: xs, b :: ys, c :: zs => fun h1 h2 => by
    have ih := cb_trans xs ys zs
    simp only [Lib.compareBytes, UInt8.lt_iff_toNat_lt] at *
    by_cases g1 : a.toNat < b.toNat
    · by_cases g2 : b.toNat < c.toNat
      · rw [if_pos (by omega)]; exact ⟨by omega, fun _ => by omega⟩
      · by_cases g3 : c.toNat < b.toNat
        · rw [if_neg g2, if_pos g3] at h2; omega
        · rw [if_pos (by omega)]; exact ⟨by omega, fun _ => by omega⟩
    · by_cases g1' : b.toNat < a.toNat
      · rw [if_neg g1, if_pos g1'] at h1; omega
      · rw [if_neg g1, if_neg g1'] at h1 ⊢
        by_cases g2 : b.toNat < c.toNat
        · rw [if_pos (show a.toNat < c.toNat by omega)]; exact ⟨by omega, fun _ => by omega⟩
        · by_cases g3 : c.toNat < b.toNat
          · rw [if_neg g2, if_pos g3] at h2; omega
          · rw [if_neg g2, if_neg g3] at h2 ⊢
            rw [if_neg (show ¬ a.toNat < c.toNat by omega), if_neg (show ¬ c.toNat < a.toNat by omega)]
            exact ih h1 h2
/-- How two sets are compared. -/
def cmpS (a b : ByteArray) : Int := if a.size = b.size then Lib.compareBytes a.data.toList b.data.toList else (a.size : Int) - b.size
theorem cmpS_flip (a b : ByteArray) : cmpS b a = - cmpS a b := by
  unfold cmpS
  by_cases h : a.size = b.size
  · rw [if_pos h, if_pos h.symm, cb_flip]
  · rw [if_neg h, if_neg (fun e => h e.symm)]; omega
theorem cmpS_zero {a b : ByteArray} (h : cmpS a b = 0) : a = b := by
  unfold cmpS at h
  split at h
  · exact ba_ext (cb_zero _ _ h)
  · omega
theorem cmpS_self (a : ByteArray) : cmpS a a = 0 := by unfold cmpS; rw [if_pos rfl, cb_self]
theorem cmpS_trans {a b c : ByteArray} (h1 : cmpS a b ≤ 0) (h2 : cmpS b c ≤ 0) : cmpS a c ≤ 0 ∧ (cmpS a b < 0 ∨ cmpS b c < 0 → cmpS a c < 0) := by
  unfold cmpS at *
  by_cases g1 : a.size = b.size
  · by_cases g2 : b.size = c.size
    · rw [if_pos g1] at h1 ⊢
      rw [if_pos g2] at h2 ⊢
      rw [if_pos (g1.trans g2)]
      exact cb_trans _ _ _ h1 h2
    · rw [if_neg g2] at h2
      rw [if_neg (by omega)]
      exact ⟨by omega, fun _ => by omega⟩
  · rw [if_neg g1] at h1
    by_cases g2 : b.size = c.size
    · rw [if_neg (by omega)]
      exact ⟨by omega, fun _ => by omega⟩
    · rw [if_neg g2] at h2
      rw [if_neg (by omega)]
      exact ⟨by omega, fun _ => by omega⟩
theorem swoS : Go.Sort.SWO (ltOf cmpS) where
  irrefl x := by unfold ltOf; rw [cmpS_self]; rfl
  trans x y z h1 h2 := by
    unfold ltOf at *
    simp only [decide_eq_true_eq] at *
    exact (cmpS_trans (by omega) (by omega)).2 (.inl h1)
  ntrans x y z h1 h2 := by
    unfold ltOf at *
    simp only [decide_eq_false_iff_not] at *
    have e1 := cmpS_flip x y
    have e2 := cmpS_flip y z
    have e3 := cmpS_flip x z
    have := (cmpS_trans (a := z) (b := y) (c := x) (by omega) (by omega)).1
    omega
def leS (a b : ByteArray) : Bool := decide (cmpS a b ≤ 0)
def srtS (l : List ByteArray) : List ByteArray := l.mergeSort leS
theorem leS_trans (a b c : ByteArray) (h1 : leS a b = true) (h2 : leS b c = true) : leS a c = true := by
  unfold leS at *
  simp only [decide_eq_true_eq] at *
  exact (cmpS_trans h1 h2).1
theorem leS_total (a b : ByteArray) : (leS a b || leS b a) = true := by
  unfold leS
  have := cmpS_flip a b
  simp only [Bool.or_eq_true, decide_eq_true_eq]
  omega
theorem srtS_perm (l : List ByteArray) : (srtS l).Perm l := List.mergeSort_perm l leS
theorem srtS_sorted (l : List ByteArray) : (srtS l).Pairwise fun a b => leS a b = true := List.pairwise_mergeSort leS_trans leS_total l
theorem srtS_eq {l m : List ByteArray} (hp : m.Perm l) (hs : m.Pairwise fun a b => leS a b = true) : m = srtS l :=
  List.Perm.eq_of_pairwise (fun a b _ _ h1 h2 => cmpS_zero (by
    unfold leS at h1 h2
    simp only [decide_eq_true_eq] at h1 h2
    have := cmpS_flip a b
    omega)) hs (srtS_sorted l) (hp.trans (srtS_perm l).symm)
/-- The bytes of a text, each run once. -/
def runsB (s : ByteArray) : List Int := Lib.compactUpTo (bytesOf s).toArray (bytesOf s).toArray.size
def onceB (s : ByteArray) : ByteArray := strOfNums (runsB s)
def partB (a b : ByteArray) : Bool := (cutR (cutL a b) b).toList.isEmpty || a.toList.isEmpty
def keepMin (out : List ByteArray) (a : ByteArray) : List ByteArray := if out.any (fun b => partB b a) then out else out ++ [a]
/-- What every set of a valid sum is. -/
def okS (s : ByteArray) : Prop := asciiB s = true ∧ s.size ≤ 140737488351232
theorem runsB_mem {s : ByteArray} {n : Int} (h : n ∈ runsB s) : n ∈ bytesOf s := by
  unfold runsB Lib.compactUpTo at h
  rw [List.mem_map] at h
  obtain ⟨j, hj, rfl⟩ := h
  have hj' : j < (bytesOf s).toArray.size := by
    have := (List.mem_filter.1 hj).1
    simpa using this
  rw [getElem!_pos _ j hj']
  simp
theorem runsB_len (s : ByteArray) : (runsB s).length ≤ s.size := by
  unfold runsB Lib.compactUpTo
  rw [List.length_map]
  refine Nat.le_trans (List.length_filter_le _ _) ?_
  simp [bytesOf_length]
theorem onceB_mem {s : ByteArray} {c : UInt8} (h : c ∈ (onceB s).data.toList) : c ∈ s.data.toList := by
  have h1 : c ∈ (runsB s).map fun n => UInt8.ofNat n.toNat := by
    have : (onceB s).data.toList = (runsB s).map fun n => UInt8.ofNat n.toNat := by unfold onceB strOfNums; simp
    rw [this] at h
    exact h
  rw [List.mem_map] at h1
  obtain ⟨n, hn, rfl⟩ := h1
  have h2 := runsB_mem hn
  unfold bytesOf at h2
  rw [List.mem_map] at h2
  obtain ⟨b, hb, rfl⟩ := h2
  rw [show UInt8.ofNat ((b.toNat : Int)).toNat = b by simp]
  exact hb
theorem onceB_size (s : ByteArray) : (onceB s).size ≤ s.size := by
  have : (onceB s).data.toList = (runsB s).map fun n => UInt8.ofNat n.toNat := by unfold onceB strOfNums; simp
  rw [ByteArray_size, this, List.length_map]
  exact runsB_len s
theorem onceB_ok {s : ByteArray} (h : asciiB s = true) (hz : s.size ≤ 140737488351232) : okS (onceB s) := by
  refine ⟨?_, Nat.le_trans (onceB_size s) hz⟩
  unfold asciiB at *
  rw [List.all_eq_true] at *
  exact fun x hx => h x (onceB_mem hx)
theorem tokB_ascii {s : ByteArray} (h : tokB s = true) : asciiB s = true ∧ s.size ≤ 12 := by
  unfold tokB at h
  rw [Bool.and_eq_true, decide_eq_true_eq] at h
  refine ⟨?_, h.2⟩
  unfold asciiB
  rw [List.all_eq_true]
  intro x hx
  obtain ⟨j, hj, rfl⟩ := List.getElem_of_mem hx
  have hj' : j < s.size := by rw [ByteArray_size]; exact hj
  have := tokTo_ge h.1 hj'
  unfold tokAt at this
  rw [bt_lt s hj', getD_lt 0 hj] at this
  simp only [Bool.and_eq_true, decide_eq_true_eq] at this
  rw [decide_eq_true_eq, UInt8.lt_iff_toNat_lt]
  have := this.2.1
  have : (128 : UInt8).toNat = 128 := rfl
  omega
theorem validB_len {l : List S37} (h : validB l = true) : l.length ≤ 40 := by
  unfold validB at h
  rw [Bool.and_eq_true, decide_eq_true_eq] at h
  exact h.2
theorem validB_prod {l : List S37} (h : validB l = true) {k : Nat} (hk : k < l.length) : prodB (l.getD k z37) = true := by
  unfold validB at h
  rw [Bool.and_eq_true] at h
  have := validTo_ge h.1 hk
  unfold stepB at this
  rw [Bool.and_eq_true] at this
  exact this.1
theorem validB_mem {l : List S37} (h : validB l = true) : ∀ x ∈ l, prodB x = true := by
  intro x hx
  obtain ⟨j, hj, rfl⟩ := List.getElem_of_mem hx
  rw [← getD_lt z37 hj]
  exact validB_prod h hj
theorem prodB_tok {x : S37} (h : prodB x = true) : tokB x.f0 = true := by
  unfold prodB at h
  rw [Bool.and_eq_true] at h
  exact h.1
def setsOf (l : List S37) : List ByteArray := l.map fun x => onceB x.f0
def whyOf (l : List S37) : List ByteArray := (srtS (setsOf l)).foldl keepMin []
theorem setsOf_ok {l : List S37} (h : validB l = true) : ∀ s ∈ setsOf l, okS s := by
  intro s hs
  unfold setsOf at hs
  rw [List.mem_map] at hs
  obtain ⟨x, hx, rfl⟩ := hs
  have := tokB_ascii (prodB_tok (validB_mem h x hx))
  exact onceB_ok this.1 (by omega)
theorem keepMin_mem {out : List ByteArray} {a x : ByteArray} (h : x ∈ keepMin out a) : x ∈ out ∨ x = a := by
  unfold keepMin at h
  split at h
  · exact .inl h
  · simpa using h
theorem keepMin_len (out : List ByteArray) (a : ByteArray) : (keepMin out a).length ≤ out.length + 1 := by
  unfold keepMin
  split
  · omega
  · simp
theorem foldMin_mem (l : List ByteArray) : ∀ (out : List ByteArray) (x : ByteArray), x ∈ l.foldl keepMin out → x ∈ out ∨ x ∈ l := by
  induction l with
  | nil => exact fun out x h => .inl h
  | cons a l ih =>
    intro out x h
    rcases ih _ _ h with h1 | h1
    · rcases keepMin_mem h1 with h2 | h2
      · exact .inl h2
      · exact .inr (by rw [h2]; exact List.mem_cons_self)
    · exact .inr (List.mem_cons_of_mem _ h1)
theorem foldMin_len (l : List ByteArray) : ∀ (out : List ByteArray), (l.foldl keepMin out).length ≤ out.length + l.length := by
  induction l with
  | nil => exact fun out => by simp
  | cons a l ih =>
    intro out
    have h1 := ih (keepMin out a)
    have h2 := keepMin_len out a
    simp only [List.foldl_cons, List.length_cons]
    omega
theorem foldMin_take (l : List ByteArray) {k : Nat} (hk : k < l.length) : (l.take (k + 1)).foldl keepMin [] = keepMin ((l.take k).foldl keepMin []) (l.getD k ByteArray.empty) := by
  rw [List.take_succ_eq_append_getElem hk, List.foldl_append, getD_lt _ hk]
  rfl

end Go.Proofs.YtajeaefpapnkbaaGreatDoor.P
/- Plain facts on sets of bytes: a part, the least ones, each run once. -/
namespace Go.Proofs.YtajeaefpapnkbaaGreatDoor.P
open Go.RowKit Go.Proofs.YtajeaefpapnkbaaGreatDoorW.PrintWords Go.Proofs.YtajeaefpapnkbaaGreatDoorW.PrintLast Go.Proofs.YtajeaefpapnkbaaGreatDoorW.PrintMore
def subB (a b : ByteArray) : Bool := a.data.toList.all fun c => inB b c
theorem inB_iff (b : ByteArray) (c : UInt8) : inB b c = true ↔ c ∈ b.data.toList := by
  unfold inB
  rw [List.any_eq_true]
  constructor
  · rintro ⟨x, hx, h⟩
    rw [← eq_of_beq h]; exact hx
  · exact fun h => ⟨c, h, beq_self_eq_true c⟩
theorem subB_iff (a b : ByteArray) : subB a b = true ↔ ∀ c ∈ a.data.toList, c ∈ b.data.toList := by
  unfold subB
  rw [List.all_eq_true]
  exact ⟨fun h c hc => (inB_iff b c).1 (h c hc), fun h c hc => (inB_iff b c).2 (h c hc)⟩
theorem subB_self (a : ByteArray) : subB a a = true := (subB_iff a a).2 fun _ h => h
theorem subB_trans {a b c : ByteArray} (h1 : subB a b = true) (h2 : subB b c = true) : subB a c = true :=
  (subB_iff a c).2 fun x hx => (subB_iff b c).1 h2 x ((subB_iff a b).1 h1 x hx)
theorem at_mem (s : ByteArray) {j : Nat} (hj : j < s.size) : s[j] ∈ s.data.toList := by
  rw [ByteArray.getElem_eq_getElem_data]; simp
theorem mem_at {s : ByteArray} {c : UInt8} (h : c ∈ s.data.toList) : ∃ j, ∃ hj : j < s.size, s[j] = c := by
  obtain ⟨j, hj, rfl⟩ := List.getElem_of_mem h
  exact ⟨j, by rw [ByteArray_size]; exact hj, by simp [ByteArray.getElem_eq_getElem_data]⟩
theorem toList_data (s : ByteArray) : s.toList = s.data.toList := by simp [ByteArray.toList_eq]
theorem cutRx_pos (s set : ByteArray) (h0 : 0 < s.size) (h : inB set s[0] = false) : ∀ k, 0 < k → 0 < cutRx s set k
  | 0, hk => by omega
  | 1, _ => by rw [cutRx, dif_pos h0, h]; simp
  | k + 2, _ => by
    have ih := cutRx_pos s set h0 h (k + 1) (by omega)
    rw [cutRx]
    split
    · split
      · exact ih
      · omega
    · exact ih
theorem partB_eq (a b : ByteArray) : partB a b = subB a b := by
  cases h : subB a b with
  | true =>
    have hall := (subB_iff a b).1 h
    have e : cutL a b = ⟨#[]⟩ := cutL_none fun j hj => (inB_iff b _).2 (hall _ (at_mem a hj))
    unfold partB
    rw [e]
    have e2 : cutR ⟨#[]⟩ b = ⟨#[]⟩ := by
      unfold cutR
      exact to_zero _
    rw [e2, toList_data]
    rfl
  | false =>
    have hex : ∃ k, ∃ hk : k < a.size, inB b a[k] = false ∧ ∀ j (hj : j < a.size), j < k → inB b a[j] = true := by
      apply Classical.byContradiction
      intro hno
      have : ∀ k (hk : k < a.size), inB b a[k] = true := by
        intro k
        induction k using Nat.strongRecOn with
        | _ k ih =>
          intro hk
          cases hc : inB b a[k] with
          | true => rfl
          | false => exact absurd ⟨k, hk, hc, fun j hj hlt => ih j hlt hj⟩ hno
      have h2 : subB a b = true := (subB_iff a b).2 fun c hc => by
        obtain ⟨j, hj, rfl⟩ := mem_at hc
        exact (inB_iff b _).1 (this j hj)
      rw [h] at h2
      cases h2
    obtain ⟨k, hk, hc, hl⟩ := hex
    have e : cutIx a b = k := cutIx_at hk hc hl
    have hsz : (cutL a b).size = a.size - k := by
      unfold cutL
      rw [ByteArray_size, from_data, e, List.length_drop, ← ByteArray_size]
    have h0 : 0 < (cutL a b).size := by omega
    have hx : (cutL a b)[0] = a[k] := by
      have h1 : (cutL a b).data.toList[0]? = a.data.toList[k]? := by
        unfold cutL
        rw [from_data, e, List.getElem?_drop]
        simp
      rw [List.getElem?_eq_getElem (by rw [← ByteArray_size]; exact h0), List.getElem?_eq_getElem (by rw [← ByteArray_size]; exact hk)] at h1
      simpa [ByteArray.getElem_eq_getElem_data] using h1
    have hr := cutRx_pos (cutL a b) b h0 (by rw [hx]; exact hc) _ h0
    have hr2 : cutRx (cutL a b) b (cutL a b).size ≤ (cutL a b).size := by
      have : ∀ (s set : ByteArray) k, cutRx s set k ≤ k := by
        intro s set k
        induction k with
        | zero => exact Nat.le_refl _
        | succ k ih =>
          rw [cutRx]
          split
          · split
            · omega
            · omega
          · omega
      exact this _ _ _
    unfold partB
    rw [toList_data, toList_data]
    have l1 : (cutR (cutL a b) b).data.toList ≠ [] := by
      intro hn
      have h1 : (cutR (cutL a b) b).size = 0 := by rw [ByteArray_size, hn]; rfl
      have h2 : (cutR (cutL a b) b).size = cutRx (cutL a b) b (cutL a b).size := to_size _ hr2
      rw [h2] at h1
      exact Nat.lt_irrefl _ (h1 ▸ hr)
    have l2 : a.data.toList ≠ [] := by
      intro hn
      have h1 : a.size = 0 := by rw [ByteArray_size, hn]; rfl
      omega
    rw [Bool.or_eq_false_iff]
    exact ⟨by simpa using l1, by simpa using l2⟩
theorem keepMin_eq (out : List ByteArray) (a : ByteArray) : keepMin out a = if out.any (fun b => subB b a) then out else out ++ [a] := by
  unfold keepMin
  have : (fun b => partB b a) = fun b => subB b a := by funext b; exact partB_eq b a
  rw [this]
theorem fold_sub (L : List ByteArray) : ∀ (out : List ByteArray) (b : ByteArray), b ∈ out → b ∈ L.foldl keepMin out := by
  induction L with
  | nil => exact fun out b h => h
  | cons a L ih =>
    intro out b h
    refine ih _ b ?_
    unfold keepMin
    split
    · exact h
    · exact List.mem_append_left _ h
theorem fold_cov (L : List ByteArray) : ∀ (out : List ByteArray) (a : ByteArray), a ∈ L → ∃ b ∈ L.foldl keepMin out, subB b a = true := by
  induction L with
  | nil => exact fun out a h => absurd h (List.not_mem_nil)
  | cons c L ih =>
    intro out a h
    rcases List.mem_cons.1 h with rfl | h
    · rw [List.foldl_cons]
      have : ∃ b ∈ keepMin out a, subB b a = true := by
        rw [keepMin_eq]
        split
        · rename_i hany
          rw [List.any_eq_true] at hany
          exact hany
        · exact ⟨a, by simp, subB_self a⟩
      obtain ⟨b, hb, hs⟩ := this
      exact ⟨b, fold_sub L _ b hb, hs⟩
    · exact ih _ a h
theorem fold_apart (L : List ByteArray) : ∀ (out : List ByteArray), (out.Pairwise fun x y => subB x y = false) → (L.foldl keepMin out).Pairwise fun x y => subB x y = false := by
  induction L with
  | nil => exact fun out h => h
  | cons c L ih =>
    intro out h
    refine ih _ ?_
    rw [keepMin_eq]
    split
    · exact h
    · rename_i hany
      rw [List.pairwise_append]
      refine ⟨h, List.pairwise_singleton _ _, fun x hx y hy => ?_⟩
      rw [List.mem_singleton.1 hy]
      cases hs : subB x c with
      | false => rfl
      | true => exact absurd (List.any_eq_true.2 ⟨x, hx, hs⟩) hany
theorem fold_sorted (L : List ByteArray) : ∀ (out : List ByteArray), ((out ++ L).Pairwise fun a b => leS a b = true) → (L.foldl keepMin out).Pairwise fun a b => leS a b = true := by
  induction L with
  | nil => intro out h; simpa using h
  | cons c L ih =>
    intro out h
    refine ih _ ?_
    unfold keepMin
    split
    · exact h.sublist (List.Sublist.append_left (List.sublist_cons_self c L) out)
    · simpa using h
theorem nodup_sub_len {α : Type} [DecidableEq α] : ∀ {X Y : List α}, X.Nodup → (∀ x ∈ X, x ∈ Y) → X.length ≤ Y.length
  | [], _, _, _ => Nat.zero_le _
  | x :: X, Y, hn, hs => by
    have hxY : x ∈ Y := hs x List.mem_cons_self
    obtain ⟨hx, hX⟩ := List.nodup_cons.1 hn
    have := nodup_sub_len (X := X) (Y := Y.erase x) hX fun z hz => by
      refine (List.mem_erase_of_ne ?_).2 (hs z (List.mem_cons_of_mem _ hz))
      rintro rfl
      exact hx hz
    rw [List.length_erase_of_mem hxY] at this
    have hp : 0 < Y.length := List.length_pos_of_mem hxY
    simp
    omega
theorem nodup_sub_back {α : Type} [DecidableEq α] {X Y : List α} (hX : X.Nodup) (hs : ∀ x ∈ X, x ∈ Y) (hl : Y.length ≤ X.length) : ∀ y ∈ Y, y ∈ X := by
  intro y hy
  apply Classical.byContradiction
  intro hn
  have := nodup_sub_len (X := X) (Y := Y.erase y) hX fun z hz => (List.mem_erase_of_ne (by rintro rfl; exact hn hz)).2 (hs z hz)
  rw [List.length_erase_of_mem hy] at this
  have hp : 0 < Y.length := List.length_pos_of_mem hy
  omega
/-- The bytes of a token list rise. -/
theorem tok_mono {s : ByteArray} (h : tokB s = true) : ∀ (j i : Nat), i ≤ j → j < s.size → bt s (i : Int) ≤ bt s (j : Int)
  | 0, i, hi, _ => by obtain rfl : i = 0 := by omega
                      exact Int.le_refl _
  | j + 1, i, hi, hj => by
    rcases Nat.lt_or_ge i (j + 1) with hlt | hge
    · have ih := tok_mono h j i (by omega) (by omega)
      unfold tokB at h
      rw [Bool.and_eq_true] at h
      have := tokTo_ge h.1 hj
      unfold tokAt at this
      rw [show (((j + 1 : Nat) : Int) - 1) = (j : Int) from by omega, show ((j + 1) == 0) = false from rfl] at this
      simp only [Bool.and_eq_true, Bool.false_or, decide_eq_true_eq] at this
      have := this.2.2
      omega
    · obtain rfl : i = j + 1 := by omega
      exact Int.le_refl _
theorem runs_at (s : ByteArray) {j : Nat} (hj : j < s.size) : (bytesOf s).toArray[j]! = bt s (j : Int) := by
  have hj' : j < (bytesOf s).toArray.size := by simpa [bytesOf_length] using hj
  rw [getElem!_pos _ j hj', ← rd_bytesOf]
  unfold rd
  rw [show ((j : Int)).toNat = j from rfl, getD_lt 0 (by simpa using hj')]
  simp
theorem runs_size (s : ByteArray) : (bytesOf s).toArray.size = s.size := by simp [bytesOf_length]
theorem runs_rise {s : ByteArray} (h : tokB s = true) : (runsB s).Pairwise (· < ·) := by
  unfold runsB Lib.compactUpTo
  rw [List.pairwise_map, List.pairwise_filter, runs_size]
  refine (List.pairwise_lt_range).imp_of_mem ?_
  intro i j hi hj hlt _ hkeep
  have hj' : j < s.size := by simpa using hj
  unfold Lib.keeps at hkeep
  rw [decide_eq_true_eq] at hkeep
  rcases hkeep with h0 | hne
  · omega
  · rw [runs_at s (by omega), runs_at s hj'] 
    rw [runs_at s hj', runs_at s (by omega)] at hne
    have e : ((j - 1 : Nat) : Int) = (j : Int) - 1 := by omega
    have h1 := tok_mono h (j - 1) i (by omega) (by omega)
    have h2 := tok_mono h j (j - 1) (by omega) hj'
    omega
theorem runs_cover (s : ByteArray) : ∀ j, j < s.size → bt s (j : Int) ∈ runsB s := by
  intro j
  induction j with
  | zero =>
    intro hj
    unfold runsB Lib.compactUpTo
    rw [List.mem_map]
    exact ⟨0, List.mem_filter.2 ⟨by rw [runs_size]; simpa using hj, by simp [Lib.keeps]⟩, runs_at s hj⟩
  | succ j ih =>
    intro hj
    by_cases he : bt s ((j + 1 : Nat) : Int) = bt s (j : Int)
    · rw [he]; exact ih (by omega)
    · unfold runsB Lib.compactUpTo
      rw [List.mem_map]
      refine ⟨j + 1, List.mem_filter.2 ⟨by rw [runs_size]; simpa using hj, ?_⟩, runs_at s hj⟩
      unfold Lib.keeps
      rw [decide_eq_true_eq]
      refine .inr ?_
      rw [runs_at s hj, show j + 1 - 1 = j from rfl, runs_at s (by omega)]
      exact he
theorem once_list (s : ByteArray) : (onceB s).data.toList = (runsB s).map fun n => UInt8.ofNat n.toNat := by unfold onceB strOfNums; simp
theorem once_cover (s : ByteArray) : ∀ c ∈ s.data.toList, c ∈ (onceB s).data.toList := by
  intro c hc
  obtain ⟨j, hj, rfl⟩ := mem_at hc
  rw [once_list, List.mem_map]
  refine ⟨bt s (j : Int), runs_cover s j hj, ?_⟩
  have hjl : j < s.data.toList.length := by rw [← ByteArray_size]; exact hj
  rw [bt_lt s hj, getD_lt 0 hjl]
  simp [ByteArray.getElem_eq_getElem_data]
theorem once_nodup {s : ByteArray} (h : tokB s = true) : (onceB s).data.toList.Nodup := by
  rw [once_list]
  unfold List.Nodup
  rw [List.pairwise_map]
  refine (runs_rise h).imp_of_mem ?_
  intro a b ha hb hlt he
  have hr : ∀ n ∈ runsB s, 0 ≤ n ∧ n ≤ 255 := fun n hn => by
    have := runsB_mem hn
    unfold bytesOf at this
    rw [List.mem_map] at this
    obtain ⟨c, _, rfl⟩ := this
    have := UInt8.toNat_lt c
    omega
  have h1 := hr a ha
  have h2 := hr b hb
  have := congrArg UInt8.toNat he
  rw [UInt8.toNat_ofNat', UInt8.toNat_ofNat'] at this
  omega
end Go.Proofs.YtajeaefpapnkbaaGreatDoor.P
-- WRITTEN FOR THIS CLAIM BY A PROGRAM OF THIS SESSION (wip/tools), which turns the lines of the kit's print
namespace Go.Proofs.YtajeaefpapnkbaaGreatDoor.P
open Go.RowKit Go.Proofs.YtajeaefpapnkbaaGreatDoorW.PrintWords Go.Proofs.YtajeaefpapnkbaaGreatDoorW.PrintLast Go.Proofs.YtajeaefpapnkbaaGreatDoorW.PrintMore
attribute [local go_sem] max2_int min2_int max_two min_two max_three min_three max_four min_four   -- for this text's walks alone
set_option linter.unusedVariables false
set_option linter.unusedSimpArgs false

/-! ### shared F -/
/-! predicates as function values: what is asked of one -/
def PredB {α : Type} (P : Program) (g : Nat) (lb : Array Value) (enc : α → Value) (p : α → Bool) (xs : List α) (w : World) : Prop :=
  ∀ (W : World) (x : α), x ∈ xs → Below w.heap.size w W → Calls P g (#[enc x] ++ lb) W fun e w' => e = .returned (.bool (p x)) ∧ Below W.heap.size W w'
def idxB {α : Type} (p : α → Bool) (xs : List α) : Int := if xs.findIdx p < xs.length then (xs.findIdx p : Int) else -1
theorem idxB_at {α : Type} (p : α → Bool) (d : α) (xs : List α) {k : Nat} (hk : k < xs.length) (h : p (xs.getD k d) = true) (hl : ∀ j, j < k → p (xs.getD j d) = false) : idxB p xs = k := by
  have e : xs.findIdx p = k := by
    rw [List.findIdx_eq hk]
    refine ⟨by rw [← getD_lt d hk]; exact h, fun j hj => ?_⟩
    rw [← getD_lt d (by omega)]
    exact hl j hj
  unfold idxB
  rw [e, if_pos hk]
theorem idxB_none {α : Type} (p : α → Bool) (d : α) (xs : List α) (hl : ∀ j, j < xs.length → p (xs.getD j d) = false) : idxB p xs = -1 := by
  have e : ¬ xs.findIdx p < xs.length := by
    intro h
    have h1 := List.findIdx_getElem (w := h)
    have h2 := hl _ h
    rw [getD_lt d h] at h2
    rw [h2] at h1
    cases h1
  unfold idxB
  rw [if_neg e]
theorem idxB_any {α : Type} (p : α → Bool) (xs : List α) : decide (0 ≤ idxB p xs) = xs.any p := by
  unfold idxB
  rw [Bool.eq_iff_iff, List.any_eq_true, decide_eq_true_eq]
  constructor
  · intro h
    split at h
    · rename_i hlt
      exact ⟨_, List.getElem_mem hlt, List.findIdx_getElem (w := hlt)⟩
    · omega
  · rintro ⟨x, hx, hp⟩
    rw [if_pos (List.findIdx_lt_length_of_exists ⟨x, hx, hp⟩)]
    omega
theorem C_at_sc {α : Type} {enc : α → Value} {h1 : ∀ x, (enc x).oneCell' = true} {w : World} {A : Option Addr} {xs : List α} (h : Kd.C (Kd.scalar enc h1) w A xs.length xs) (z : α) (k : Nat) (hk : k < xs.length) : ∃ ad, A = some ad ∧ w.cell? (ad.add k) = some (enc (xs.getD k z)) := by
  obtain ⟨ad, c, e, _, hK, hc⟩ := Kd.C_get h z (k : Int) (by omega) (by omega)
  have hK' : c = [enc (xs.getD k z)] := hK
  subst hK'
  have h0 := hc 0 _ rfl
  rw [show ((k : Int).toNat * (Kd.scalar enc h1).sz + 0) = k from by show ((k : Int).toNat * 1 + 0) = k; simp] at h0
  exact ⟨ad, e, h0⟩
theorem KC_at_int {w : World} {A : Option Addr} {xs : List Int} (h : Kd.C (Kd.int .i64) w A xs.length xs) (k : Nat) (hk : k < xs.length) : ∃ ad, A = some ad ∧ w.cell? (ad.add k) = some (.int .i64 (xs.getD k 0)) := C_at_sc h 0 k hk
theorem KC_at_str {w : World} {A : Option Addr} {xs : List ByteArray} (h : Kd.C Kd.string w A xs.length xs) (k : Nat) (hk : k < xs.length) : ∃ ad, A = some ad ∧ w.cell? (ad.add k) = some (.string (xs.getD k ByteArray.empty)) := C_at_sc h ByteArray.empty k hk

end Go.Proofs.YtajeaefpapnkbaaGreatDoor.P
