-- WRITTEN FOR THIS CLAIM BY A PROGRAM OF THIS SESSION (wip/tools), which turns the lines of the kit's print
import Derived.Test.YtbngenfedbmhiaaDoor0
import Derived.Test.YtbngenfedbmhiaaDoorSA
import Derived.Test.YtbngenfedbmhiaaDoorSW
import Derived.Test.YtbngenfedbmhiaaDoorF13
import Derived.Test.YtbngenfedbmhiaaDoorShelf
import Derived.Shelf.SlSortCmp.NoneTotal
namespace Go.Proofs.YtbngenfedbmhiaaDoor.P
open Go.RowKit Go.Proofs.YtbngenfedbmhiaaDoorW.PrintWords Go.Proofs.YtbngenfedbmhiaaDoorW.PrintLast Go.Proofs.YtbngenfedbmhiaaDoorW.PrintMore
attribute [local go_sem] max2_int min2_int max_two min_two max_three min_three max_four min_four   -- for this text's walks alone
set_option linter.unusedVariables false
set_option linter.unusedSimpArgs false

/-! ### slices_SortFunc_string_string: function 12 -/
-- IMPORTS Derived.Test.YtbngenfedbmhiaaDoorShelf Derived.Shelf.SlSortCmp.NoneTotal
open Go.Shelf Go.Sort Go.Lib
/-- A text that a slice may hold. -/
abbrev SmS : Type := { s : ByteArray // s.size ≤ 140737488351232 }
instance : Inhabited SmS := ⟨⟨ByteArray.empty, by decide⟩⟩
def encS (x : SmS) : Value := .string x.1
def cfS (x y : SmS) : Int := cmpS x.1 y.1
theorem swoSm : Go.Sort.SWO (ltOf cfS) where
  irrefl x := swoS.irrefl x.1
  trans x y z := swoS.trans x.1 y.1 z.1
  ntrans x y z := swoS.ntrans x.1 y.1 z.1
theorem sort_map (d : List SmS) : (d.mergeSort fun x y => !(ltOf cfS) y x).map (·.1) = srtS (d.map (·.1)) := by
  unfold srtS
  rw [List.map_mergeSort]
  intro a _ b _
  unfold ltOf cfS leS
  have := cmpS_flip a.1 b.1
  rw [Bool.eq_iff_iff]
  simp
  omega
theorem toSm (l : List ByteArray) (h : ∀ x ∈ l, x.size ≤ 140737488351232) : ∃ d : List SmS, d.map (·.1) = l := by
  induction l with
  | nil => exact ⟨[], rfl⟩
  | cons a l ih =>
    obtain ⟨d, hd⟩ := ih fun x hx => h x (List.mem_cons_of_mem _ hx)
    exact ⟨⟨a, h a List.mem_cons_self⟩ :: d, by rw [List.map_cons, hd]⟩
set_option maxHeartbeats 1000000 in
theorem sortS_any (g : Nat) (n cap : Nat) (l : List ByteArray) (w : World) (base : Nat) (hl : l.length = n) (hown : w.ownsRow base 9 1 (.slice (some ⟨g, 0, none⟩) n cap) n (pw_strs l)) (h0 : 0 < n) (hs : ∀ x ∈ l, x.size ≤ 140737488351232) (hn : n ≤ 140737488351232) :
    Calls Tryd.prog 12 #[.slice (some ⟨g, 0, none⟩) n cap, .func (.func 13) #[] #[]] w fun e w' =>
      e = .returned (.tuple #[]) ∧ Below g w w' ∧ Kd.C Kd.string w' (some ⟨g, 0, none⟩) n (srtS l) := by
  obtain ⟨d, hd⟩ := toSm l hs
  have hdl : d.length = n := by rw [← hl, ← hd, List.length_map]
  have hx : ∀ j (hj : j < n), (pw_strs l)[j]? = some (encS (d.getD j default)) := fun j hj => by
    unfold pw_strs
    rw [← hd, List.map_map, List.getElem?_map, List.getElem?_eq_getElem (by omega), getD_lt _ (by omega)]
    rfl
  have hb : g < w.heap.size := by
    have := hown.cellAt 0 (by omega)
    rw [hx 0 h0] at this
    exact World.block_lt_of_cell? w _ this
  have hH : Holds encS w g 0 d.toArray := fun j hj => by
    have hj' : j < n := by simpa [hdl] using hj
    rw [Nat.zero_add]
    refine ⟨?_, hown.frozenAt j⟩
    rw [hown.cellAt j (by omega), hx j hj', getElem!_pos _ j hj]
    rw [getD_lt _ (by omega)]
    rfl
  have eg : ∀ args W, (callFunc 13 args).run Tryd.prog W = .ok (.enter 13 args) W := enters_of Tryd.func13 (by kernel_rfl) rfl
  have hcmp : CmpReads Tryd.prog 13 #[] encS cfS g 0 d.toArray.size w := fun m os dk _ x y => cmp1_any x.1 y.1 _ x.2 y.2
  have hcon := Any.slices_SortFunc_total Tryd.sortFuncS encS (fun _ => rfl) cfS swoSm 13 #[] g 0 cap d.toArray w eg hcmp.lays hH hb (by simp; omega) (fun x y h1 h2 => by
    apply Subtype.ext
    unfold ltOf cfS at h1 h2
    simp only [decide_eq_false_iff_not] at h1 h2
    have := cmpS_flip x.1 y.1
    exact cmpS_zero (by omega))
  rw [show d.toArray.size = n from by simp [hdl]] at hcon
  refine Calls.mono hcon ?_
  rintro e w' ⟨rfl, m, os, rfl⟩
  have hsz : ((d.toArray.toList.mergeSort fun x y => !(ltOf cfS) y x).toArray).size = d.toArray.size := by simp
  refine ⟨rfl, ?_, ?_⟩
  · refine ⟨rfl, rfl, rfl, ?_, fun k hk => ?_⟩
    · unfold sortWorld grow
      simp
    · unfold sortWorld
      rw [heap_grow_old _ os (by simp [Sort.ahead]; omega)]
      unfold putRow mapBlock
      simp only [Array.getElem?_modify]
      rw [if_neg (by omega)]
      rfl
  · have hlen : (srtS l).length = n := by rw [(srtS_perm l).length_eq, hl]
    have hK : Kd.C Kd.string (sortWorld encS w g 0 m (d.toArray.toList.mergeSort fun x y => !(ltOf cfS) y x).toArray os) (some ⟨g, 0, none⟩) (srtS l).length (srtS l) := by
      refine Kd.C_of_reads (d := ByteArray.empty) (h1 := fun _ => rfl) ⟨rfl, by omega, fun h0 => ⟨_, rfl, fun j hj => ?_⟩⟩
      have h1 : (⟨g, 0, none⟩ : Addr).add j = ⟨g, 0 + j, none⟩ := by simp [Addr.add]; exact fun h => h.symm
      have hjs : j < ((d.toArray.toList.mergeSort fun x y => !(ltOf cfS) y x).toArray).size := by rw [hsz]; simp [hdl]; omega
      unfold sortWorld
      rw [h1, cell?_grow _ _ _ (by simp [Sort.ahead]; exact hb), cell?_putRow encS (Sort.ahead w m) g 0 d.toArray _ (fun i hi => hH i hi) hsz j hjs]
      congr 1
      rw [getElem!_pos _ j hjs]
      unfold encS
      congr 1
      have e1 := sort_map d
      rw [hd] at e1
      rw [← e1, getD_lt _ (by simpa using hjs)]
      simp
    rw [hlen] at hK
    exact hK
/-- .. of whatever row of the call's own, empty ones too. -/
theorem sortSets_any (v : Value) (n : Nat) (l : List ByteArray) (w : World) (base : Nat) (hl : l.length = n) (hown : w.ownsRow base 9 1 v n (pw_strs l)) (hs : ∀ x ∈ l, x.size ≤ 140737488351232) (hn : n ≤ 140737488351232) :
    ∃ A c, v = .slice A n c ∧ n ≤ c ∧ Calls Tryd.prog 12 #[v, .func (.func 13) #[] #[]] w fun e w' =>
      e = .returned (.tuple #[]) ∧ Below base w w' ∧ Kd.C Kd.string w' A n (srtS l) := by
  have hR : Kd.R Kd.string 9 w base (fun _ => True) v l := Kd.R_of_own (enc := Value.string) (h1 := fun _ => rfl) (by rw [hl]; exact hown) (fun _ _ => trivial)
  obtain ⟨A, c, hv, hc, _⟩ := Kd.R_reads hR
  rw [hl] at hv hc
  refine ⟨A, c, hv, hc, ?_⟩
  rcases Nat.eq_zero_or_pos n with h0 | h0
  · subst h0
    obtain rfl : l = [] := List.eq_nil_of_length_eq_zero hl
    rw [hv]
    refine Calls.mono (AnyF.slices_SortFunc_none Tryd.sortFunc0 A c (.func (.func 13) #[] #[]) w) ?_
    rintro e w' ⟨rfl, rfl⟩
    refine ⟨rfl, Below.refl _ _, ?_⟩
    rw [show srtS [] = [] from by unfold srtS; simp]
    exact Kd.C_of_reads (d := ByteArray.empty) (h1 := fun _ => rfl) ⟨rfl, by omega, fun h => by omega⟩
  · obtain ⟨g, cap, hv2, hg, _⟩ := hown.form h0
    rw [hv2] at hv
    injection hv with e1 e2 e3
    subst e1 e3
    rw [hv2]
    rw [hv2] at hown
    refine Calls.mono (sortS_any g n cap l w base hl hown h0 hs hn) ?_
    rintro e w' ⟨rfl, hb, hC⟩
    exact ⟨rfl, hb.mono (own_base hown g rfl), hC⟩

end Go.Proofs.YtbngenfedbmhiaaDoor.P
