/- Opening an argument that is a list of products: the cells that it lies in, as a plain list. -/
import Derived.Deep.Slices
import Derived.Deep.Fields
import Derived.ChangeSame
import Derived.SizedLaws
import Derived.ProofKit
import Derived.OpenShut
import Derived.Test.YtbngenfedbmhiaaDoorSV
namespace Go.Proofs.YtbngenfedbmhiaaDoor.P
open Go.ChangeShapes Go.WideShapes Go.Deep Go.RowKit Go.Proofs.YtbngenfedbmhiaaDoorW.PrintWords
section
variable {H : Type} {enc : TypeId × Value → H} {P : Program} {w : World} {base : Nat} {spare : Nat → Bool} {held : Bool}
theorem open_slice_fields {t e : TypeId} {fs : Array Field} {fuel : Nat} {cs : List Value} {x : DataW H × List MemPlace} (ht : P.underlying t = some (.slice e)) (he : P.underlying e = some (.struct fs))
    (hone : oneCellFields P fs = true) (hC : P.cellsOf e = fs.size) (h : DataW.trod enc P w base spare held fuel t cs = some x) :
    (cs = [.slice none 0 0] ∧ x = (.nil, [])) ∨
    ∃ (a : Addr) (len cap m : Nat) (D : Nat → DataW H) (Pl : Nat → List MemPlace), cs = [.slice (some a) len cap] ∧ base ≤ a.block ∧ len ≤ cap ∧ cap ≤ maxLen ∧ m = (if spare a.block then cap else len) ∧
      x = (.slice ((List.range len).map D) ((List.range (m - len)).map fun j => D (len + j)), MemPlace.row a (m * fs.size) ++ (List.range m).flatMap Pl) ∧
      ∀ i, i < m → ∃ (ys : List (DataW H × List MemPlace)) (n : Nat), D i = .agg (ys.map (·.1)) ∧ Pl i = ys.flatMap (·.2) ∧ ys.length = fs.size ∧
        ∀ (j : Nat) (f : Field), fs[j]? = some f → ∃ (v : Value) (y : DataW H × List MemPlace), w.cell? (a.add (i * fs.size + j)) = some v ∧ ys[j]? = some y ∧ DataW.trod enc P w base spare held n f.type [v] = some y := by
  rcases open_slice ht h with h0 | ⟨a, len, cap, m, n, D, Pl, hcs, hb, hl, hm, hmm, hx, hi⟩
  · exact .inl h0
  · refine .inr ⟨a, len, cap, m, D, Pl, hcs, hb, hl, hm, hmm, by rw [hC] at hx; exact hx, fun i him => ?_⟩
    obtain ⟨cs', hc, ht'⟩ := hi i him
    rw [hC] at hc
    obtain ⟨ys, n', hn', hy, hlen, hyl, hf⟩ := DataW.trod_struct he ht'
    obtain ⟨_, hcl, hat⟩ := World.cells?_some hc
    simp only [Prod.mk.injEq] at hy
    refine ⟨ys, n', hy.1, hy.2, hyl, fun j f hj => ?_⟩
    obtain ⟨ho, hk⟩ := hone_of hone j f hj
    have hjl : j < fs.size := (Array.getElem?_eq_some_iff.1 hj).1
    have hcell := hat j hjl
    have hv : cs'[j]? = some (cs'[j]'(by omega)) := List.getElem?_eq_getElem (by omega)
    have h1 := hf j f hj
    rw [ho, hk] at h1
    have hone' : (cs'.drop j).take 1 = [cs'[j]'(by omega)] := by
      rw [List.drop_eq_getElem_cons (by omega)]
      rfl
    rw [hone'] at h1
    have hys : ys[j]? = some (ys[j]'(by omega)) := List.getElem?_eq_getElem (by omega)
    refine ⟨_, _, ?_, hys, h1.trans hys⟩
    rw [← Go.Deep.add_add, hcell, hv]
end

theorem cellsProduct : Tryd.prog.cellsOf 31 = 2 := by kernel_rfl
theorem bytesProduct : Tryd.prog.bytesOf 31 = 24 := by kernel_rfl
theorem weightsAll_mem {H : Type} {P : Program} {e : TypeId} : ∀ {ds : List (DataW H)} {d : DataW H}, d ∈ ds → ∀ n ∈ d.weights P e, n ∈ DataW.weightsAll P e ds
  | _ :: _, _, h, n, hn => by
    rw [DataW.weightsAll, List.mem_append]
    rcases List.mem_cons.1 h with rfl | h
    · exact .inl hn
    · exact .inr (weightsAll_mem h n hn)
set_option maxRecDepth 100000 in
theorem open_sum {H : Type} {enc : TypeId × Value → H} {W : World} {base : Nat} {held : Bool} {A : Option Addr} {len cap : Nat} {d : DataW H} {p : List MemPlace} {ts : List TypeId} {ds : List (DataW H)} {j : Nat}
    (h : DataW.Trod enc Tryd.prog W base (fun _ => true) held 22 (.slice A len cap) d p) (ht : ts[j]? = some 22) (hd : ds[j]? = some d)
    (hsz : (DataW.weightsEach Tryd.prog ts ds).all (· ≤ reachBytes) = true) :
    ∃ l : List S31, l.length = len ∧ len ≤ cap ∧ Kd.C k31 W A len l ∧ sumIn l = true := by
  obtain ⟨fuel, hf⟩ := h
  have hu := Tryd.underlying22
  rcases open_slice_fields hu Tryd.underlying31 (by kernel_rfl) cellsProduct hf with ⟨hcs, hx⟩ | ⟨a, len', cap', m, D, Pl, hcs, _, hl, hm, hmm, hx, hi⟩
  · have hcs' : (Value.slice A len cap) = .slice none 0 0 := by simpa [Value.cells] using hcs
    injection hcs' with e1 e2 e3
    subst e1 e2 e3
    exact ⟨[], rfl, by omega, ⟨rfl, by omega, fun h => absurd h (by omega)⟩, rfl⟩
  · have hcs' : (Value.slice A len cap) = .slice (some a) len' cap' := by simpa [Value.cells] using hcs
    injection hcs' with e1 e2 e3
    subst e1 e2 e3
    simp only [if_true] at hmm
    subst hmm
    have hd' : d = .slice ((List.range len).map D) ((List.range (m - len)).map fun j => D (len + j)) := by
      have := congrArg Prod.fst hx
      exact this
    have hcap : m * 24 ≤ 140737488351232 := by
      have h1 := sized_slice hsz ht (by rw [hd, hd']) hu
      rw [bytesProduct] at h1
      simp at h1
      have h2 : reachBytes = 140737488351232 := rfl
      omega
    have key : ∀ i, ∃ x : S31, i < len → W.cell? (a.add (i * 2 + 0)) = some (.string x.f0) ∧ W.cell? (a.add (i * 2 + 1)) = some (.int .i64 x.f1) ∧ x.f0.size ≤ 140737488351232 := by
      intro i
      by_cases hil : i < len
      · obtain ⟨ys, n, hD, _, _, hfld⟩ := hi i (by omega)
        obtain ⟨v0, y0, hc0, hy0, ht0⟩ := hfld 0 _ rfl
        obtain ⟨v1, y1, hc1, hy1, ht1⟩ := hfld 1 _ rfl
        obtain ⟨s, es, rfl, _⟩ := DataW.trod_string Tryd.underlying9 ht0
        obtain ⟨q, eq, rfl, _⟩ := DataW.trod_int Tryd.underlying3 ht1
        obtain rfl : v0 = .string s := by simpa using es
        obtain rfl : v1 = .int .i64 q := by simpa using eq
        refine ⟨⟨s, q⟩, fun _ => ⟨hc0, hc1, ?_⟩⟩
        have hys : (ys.map (·.1))[0]? = some (.lit (.string s.data.toList)) := by rw [List.getElem?_map, hy0]; rfl
        have hw1 : s.data.toList.length ∈ (D i).weights Tryd.prog 31 := by
          rw [hD]
          simp only [DataW.weights, Tryd.underlying31]
          exact DataW.weights_mem_each (j := 0) rfl hys _ (by simp [DataW.weights])
        have hw2 : s.data.toList.length ∈ d.weights Tryd.prog 22 := by
          rw [hd']
          simp only [DataW.weights, hu]
          refine List.mem_cons_of_mem _ (List.mem_append_left _ (weightsAll_mem (d := D i) ?_ _ hw1))
          rw [List.mem_map]
          exact ⟨i, by simpa using hil, rfl⟩
        have := List.all_eq_true.1 hsz _ (DataW.weights_mem_each ht hd _ hw2)
        rw [ByteArray_size]
        exact of_decide_eq_true this
      · exact ⟨z31, fun h => absurd h hil⟩
    obtain ⟨f, hf⟩ := Classical.axiomOfChoice key
    have hlen : ((List.range len).map f).length = len := by simp
    refine ⟨(List.range len).map f, hlen, hl, ⟨hlen, by omega, fun _ => ⟨a, rfl, fun j p hj => ?_⟩⟩, ?_⟩
    · have hjl : j < len := by
        have := (List.getElem?_eq_some_iff.1 hj).1
        rwa [hlen] at this
      have hp : f j = p := by
        rw [List.getElem?_map, List.getElem?_range hjl] at hj
        simpa using hj
      subst hp
      obtain ⟨h0, h1, _⟩ := hf j hjl
      refine ⟨[.string (f j).f0, .int .i64 (f j).f1], rfl, k31_mk W (f j), fun i u hu => ?_⟩
      match i, hu with
      | 0, hu => cases hu; exact h0
      | 1, hu => cases hu; exact h1
      | i + 2, hu => simp at hu
    · unfold sumIn
      rw [Bool.and_eq_true, decide_eq_true_eq, List.all_eq_true]
      refine ⟨by rw [hlen]; omega, fun x hx => ?_⟩
      rw [List.mem_map] at hx
      obtain ⟨i, hi, rfl⟩ := hx
      exact decide_eq_true (hf i (by simpa using hi)).2.2
end Go.Proofs.YtbngenfedbmhiaaDoor.P
