-- WRITTEN FOR THIS CLAIM BY A PROGRAM OF THIS SESSION (wip/tools), which turns the lines of the kit's print
import Derived.Test.YtbngenfedbmhiaaDoor0
import Derived.Test.YtbngenfedbmhiaaDoorSA
import Derived.Test.YtbngenfedbmhiaaDoorF4
import Derived.Test.YtbngenfedbmhiaaDoorF5
import Derived.Test.YtbngenfedbmhiaaDoorF6
import Derived.Test.YtbngenfedbmhiaaDoorF7
namespace Go.Proofs.YtbngenfedbmhiaaDoor.P
open Go.RowKit Go.Proofs.YtbngenfedbmhiaaDoorW.PrintWords Go.Proofs.YtbngenfedbmhiaaDoorW.PrintLast Go.Proofs.YtbngenfedbmhiaaDoorW.PrintMore
attribute [local go_sem] max2_int min2_int max_two min_two max_three min_three max_four min_four   -- for this text's walks alone
set_option linter.unusedVariables false
set_option linter.unusedSimpArgs false

/-! ### firnlaw09_ProvSets: function 3 -/
mutual
def firnlaw09_ProvSets.j0 : Nat → List (S31) → List ByteArray → Bool → Option (Bool)
  | 0, _, _, _ => none
  | k + 1, x0, x3, x36 => if x36 = true then (some false) else (firnlaw09_ProvSets.l0 k x0 x3 x3 (x3.length : Int) 0)
def firnlaw09_ProvSets.l0 : Nat → List (S31) → List ByteArray → List ByteArray → Int → Int → Option (Bool)
  | 0, _, _, _, _, _ => none
  | k + 1, x0, x3, x37, x38, x39 => if x39 < x38 then (if 0 ≤ x39 then (if x39 < (x37.length : Int) then (if x39 > 0 then (if 0 ≤ (wrap64 (x39 - 1)) then (if (wrap64 (x39 - 1)) < (x3.length : Int) then (if ((rdOf ByteArray.empty x37 x39).size : Int) < ((rdOf ByteArray.empty x3 (wrap64 (x39 - 1))).size : Int) then (firnlaw09_ProvSets.j2 k x0 x3 x39 (rdOf ByteArray.empty x37 x39) x37 x38 x39 true) else (if ((rdOf ByteArray.empty x37 x39).size : Int) = ((rdOf ByteArray.empty x3 (wrap64 (x39 - 1))).size : Int) then (firnlaw09_ProvSets.j2 k x0 x3 x39 (rdOf ByteArray.empty x37 x39) x37 x38 x39 (!(Op.bytesLess ((rdOf ByteArray.empty x3 (wrap64 (x39 - 1))).toList) ((rdOf ByteArray.empty x37 x39).toList)))) else (firnlaw09_ProvSets.j2 k x0 x3 x39 (rdOf ByteArray.empty x37 x39) x37 x38 x39 false))) else (none)) else (none)) else (firnlaw09_ProvSets.j2 k x0 x3 x39 (rdOf ByteArray.empty x37 x39) x37 x38 x39 false)) else (none)) else (none)) else (firnlaw09_ProvSets.l3 k x3 x0 (x0.length : Int) 0)
def firnlaw09_ProvSets.j2 : Nat → List (S31) → List ByteArray → Int → ByteArray → List ByteArray → Int → Int → Bool → Option (Bool)
  | 0, _, _, _, _, _, _, _, _ => none
  | k + 1, x0, x3, x5, x6, x37, x38, x39, x76 => if x76 = true then (some false) else (firnlaw09_ProvSets.l1 k x0 x3 x5 x6 false x37 x38 x39 x3 (x3.length : Int) 0)
def firnlaw09_ProvSets.l1 : Nat → List (S31) → List ByteArray → Int → ByteArray → Bool → List ByteArray → Int → Int → List ByteArray → Int → Int → Option (Bool)
  | 0, _, _, _, _, _, _, _, _, _, _, _ => none
  | k + 1, x0, x3, x5, x6, x7, x37, x38, x39, x77, x78, x79 => if x79 < x78 then (if 0 ≤ x79 then (if x79 < (x77.length : Int) then (if x5 = x79 then (firnlaw09_ProvSets.l1 k x0 x3 x5 x6 x7 x37 x38 x39 x77 x78 (wrap64 (x79 + 1))) else ((firnref09_Part.f k x6 (rdOf ByteArray.empty x77 x79)).bind fun t133 => (if t133 = true then (some false) else (firnlaw09_ProvSets.l1 k x0 x3 x5 x6 x7 x37 x38 x39 x77 x78 (wrap64 (x79 + 1)))))) else (none)) else (none)) else (firnlaw09_ProvSets.l2 k x0 x3 x6 x7 x37 x38 x39 x0 (x0.length : Int) 0)
def firnlaw09_ProvSets.l2 : Nat → List (S31) → List ByteArray → ByteArray → Bool → List ByteArray → Int → Int → List (S31) → Int → Int → Option (Bool)
  | 0, _, _, _, _, _, _, _, _, _, _ => none
  | k + 1, x0, x3, x6, x7, x37, x38, x39, x93, x94, x95 => if x95 < x94 then (if 0 ≤ x95 then (if x95 < (x93.length : Int) then (if x7 = true then (firnlaw09_ProvSets.l2 k x0 x3 x6 true x37 x38 x39 x93 x94 (wrap64 (x95 + 1))) else ((firnref09_Part.f k x6 ((rd_T31 x93 x95).f0)).bind fun t136 => (if t136 = true then ((firnref09_Part.f k ((rd_T31 x93 x95).f0) x6).bind fun t137 => (firnlaw09_ProvSets.l2 k x0 x3 x6 t137 x37 x38 x39 x93 x94 (wrap64 (x95 + 1)))) else (firnlaw09_ProvSets.l2 k x0 x3 x6 false x37 x38 x39 x93 x94 (wrap64 (x95 + 1)))))) else (none)) else (none)) else (if x7 = true then (firnlaw09_ProvSets.l0 k x0 x3 x37 x38 (wrap64 (x39 + 1))) else (some false))
def firnlaw09_ProvSets.l3 : Nat → List ByteArray → List (S31) → Int → Int → Option (Bool)
  | 0, _, _, _, _ => none
  | k + 1, x3, x116, x117, x118 => if x118 < x117 then (if 0 ≤ x118 then (if x118 < (x116.length : Int) then (firnlaw09_ProvSets.l4 k x3 false x116 x117 x118 x3 (x3.length : Int) 0 ((rd_T31 x116 x118).f0) ((rd_T31 x116 x118).f1)) else (none)) else (none)) else ((firnlaw09_Awake.f k).bind fun t138 => (some t138))
def firnlaw09_ProvSets.l4 : Nat → List ByteArray → Bool → List (S31) → Int → Int → List ByteArray → Int → Int → ByteArray → Int → Option (Bool)
  | 0, _, _, _, _, _, _, _, _, _, _ => none
  | k + 1, x3, x14, x116, x117, x118, x122, x123, x124, x141000, x141001 => if x124 < x123 then (if 0 ≤ x124 then (if x124 < (x122.length : Int) then (if x14 = true then (firnlaw09_ProvSets.l4 k x3 true x116 x117 x118 x122 x123 (wrap64 (x124 + 1)) x141000 x141001) else ((firnref09_Part.f k (rdOf ByteArray.empty x122 x124) x141000).bind fun t142 => (firnlaw09_ProvSets.l4 k x3 t142 x116 x117 x118 x122 x123 (wrap64 (x124 + 1)) x141000 x141001))) else (none)) else (none)) else (if x14 = true then (firnlaw09_ProvSets.l3 k x3 x116 x117 (wrap64 (x118 + 1))) else (some false))
end
def firnlaw09_ProvSets.f (k : Nat) (l0 : List (S31)) : Option (Bool) := (firnref09_ValidSum.f l0).bind fun t122 => (if t122 = true then ((prov_Why.f l0).bind fun bt124 => (if bt124.2 = 0 then (firnlaw09_ProvSets.j0 k l0 bt124.1 (((bt124.1.length : Int) == 0) != ((l0.length : Int) == 0))) else (firnlaw09_ProvSets.j0 k l0 bt124.1 true))) else ((firnlaw09_Awake.f k).bind fun t123 => (some t123)))
theorem firnlaw09_ProvSets.mono_l : ∀ k, (∀ y0 y1 y2, LeO (firnlaw09_ProvSets.j0 k y0 y1 y2) (firnlaw09_ProvSets.j0 (k + 1) y0 y1 y2)) ∧ (∀ y0 y1 y2 y3 y4, LeO (firnlaw09_ProvSets.l0 k y0 y1 y2 y3 y4) (firnlaw09_ProvSets.l0 (k + 1) y0 y1 y2 y3 y4)) ∧ (∀ y0 y1 y2 y3 y4 y5 y6 y7, LeO (firnlaw09_ProvSets.j2 k y0 y1 y2 y3 y4 y5 y6 y7) (firnlaw09_ProvSets.j2 (k + 1) y0 y1 y2 y3 y4 y5 y6 y7)) ∧ (∀ y0 y1 y2 y3 y4 y5 y6 y7 y8 y9 y10, LeO (firnlaw09_ProvSets.l1 k y0 y1 y2 y3 y4 y5 y6 y7 y8 y9 y10) (firnlaw09_ProvSets.l1 (k + 1) y0 y1 y2 y3 y4 y5 y6 y7 y8 y9 y10)) ∧ (∀ y0 y1 y2 y3 y4 y5 y6 y7 y8 y9, LeO (firnlaw09_ProvSets.l2 k y0 y1 y2 y3 y4 y5 y6 y7 y8 y9) (firnlaw09_ProvSets.l2 (k + 1) y0 y1 y2 y3 y4 y5 y6 y7 y8 y9)) ∧ (∀ y0 y1 y2 y3, LeO (firnlaw09_ProvSets.l3 k y0 y1 y2 y3) (firnlaw09_ProvSets.l3 (k + 1) y0 y1 y2 y3)) ∧ (∀ y0 y1 y2 y3 y4 y5 y6 y7 y8 y9, LeO (firnlaw09_ProvSets.l4 k y0 y1 y2 y3 y4 y5 y6 y7 y8 y9) (firnlaw09_ProvSets.l4 (k + 1) y0 y1 y2 y3 y4 y5 y6 y7 y8 y9))
  | 0 => ⟨fun _ _ _ r h => by simp [firnlaw09_ProvSets.j0] at h, fun _ _ _ _ _ r h => by simp [firnlaw09_ProvSets.l0] at h, fun _ _ _ _ _ _ _ _ r h => by simp [firnlaw09_ProvSets.j2] at h, fun _ _ _ _ _ _ _ _ _ _ _ r h => by simp [firnlaw09_ProvSets.l1] at h, fun _ _ _ _ _ _ _ _ _ _ r h => by simp [firnlaw09_ProvSets.l2] at h, fun _ _ _ _ r h => by simp [firnlaw09_ProvSets.l3] at h, fun _ _ _ _ _ _ _ _ _ _ r h => by simp [firnlaw09_ProvSets.l4] at h⟩
  | k + 1 => by
    obtain ⟨ih0, ih1, ih2, ih3, ih4, ih5, ih6⟩ := firnlaw09_ProvSets.mono_l k
    refine ⟨?_, ?_, ?_, ?_, ?_, ?_, ?_⟩
    · intro y0 y1 y2
      unfold firnlaw09_ProvSets.j0
      repeat' first
      | (with_reducible exact ih0 _ _ _)
      | (with_reducible exact ih1 _ _ _ _ _)
      | (with_reducible exact ih2 _ _ _ _ _ _ _ _)
      | (with_reducible exact ih3 _ _ _ _ _ _ _ _ _ _ _)
      | (with_reducible exact ih4 _ _ _ _ _ _ _ _ _ _)
      | (with_reducible exact ih5 _ _ _ _)
      | (with_reducible exact ih6 _ _ _ _ _ _ _ _ _ _)
      | (with_reducible exact firnlaw09_Awake.mono _)
      | (with_reducible exact firnref09_Part.mono _ _ _)
      | (with_reducible exact LeO.refl _)
      | (with_reducible exact LeO.none _)
      | (with_reducible refine LeO.ite ?_ ?_)
      | (with_reducible refine LeO.bind ?_ (fun _ => ?_))
      | exact ih0 _ _ _
      | exact ih1 _ _ _ _ _
      | exact ih2 _ _ _ _ _ _ _ _
      | exact ih3 _ _ _ _ _ _ _ _ _ _ _
      | exact ih4 _ _ _ _ _ _ _ _ _ _
      | exact ih5 _ _ _ _
      | exact ih6 _ _ _ _ _ _ _ _ _ _
      | exact firnlaw09_Awake.mono _
      | exact firnref09_Part.mono _ _ _
      | exact LeO.none _
      | refine LeO.ite ?_ ?_
      | refine LeO.bind ?_ (fun _ => ?_)
    · intro y0 y1 y2 y3 y4
      unfold firnlaw09_ProvSets.l0
      repeat' first
      | (with_reducible exact ih0 _ _ _)
      | (with_reducible exact ih1 _ _ _ _ _)
      | (with_reducible exact ih2 _ _ _ _ _ _ _ _)
      | (with_reducible exact ih3 _ _ _ _ _ _ _ _ _ _ _)
      | (with_reducible exact ih4 _ _ _ _ _ _ _ _ _ _)
      | (with_reducible exact ih5 _ _ _ _)
      | (with_reducible exact ih6 _ _ _ _ _ _ _ _ _ _)
      | (with_reducible exact firnlaw09_Awake.mono _)
      | (with_reducible exact firnref09_Part.mono _ _ _)
      | (with_reducible exact LeO.refl _)
      | (with_reducible exact LeO.none _)
      | (with_reducible refine LeO.ite ?_ ?_)
      | (with_reducible refine LeO.bind ?_ (fun _ => ?_))
      | exact ih0 _ _ _
      | exact ih1 _ _ _ _ _
      | exact ih2 _ _ _ _ _ _ _ _
      | exact ih3 _ _ _ _ _ _ _ _ _ _ _
      | exact ih4 _ _ _ _ _ _ _ _ _ _
      | exact ih5 _ _ _ _
      | exact ih6 _ _ _ _ _ _ _ _ _ _
      | exact firnlaw09_Awake.mono _
      | exact firnref09_Part.mono _ _ _
      | exact LeO.none _
      | refine LeO.ite ?_ ?_
      | refine LeO.bind ?_ (fun _ => ?_)
    · intro y0 y1 y2 y3 y4 y5 y6 y7
      unfold firnlaw09_ProvSets.j2
      repeat' first
      | (with_reducible exact ih0 _ _ _)
      | (with_reducible exact ih1 _ _ _ _ _)
      | (with_reducible exact ih2 _ _ _ _ _ _ _ _)
      | (with_reducible exact ih3 _ _ _ _ _ _ _ _ _ _ _)
      | (with_reducible exact ih4 _ _ _ _ _ _ _ _ _ _)
      | (with_reducible exact ih5 _ _ _ _)
      | (with_reducible exact ih6 _ _ _ _ _ _ _ _ _ _)
      | (with_reducible exact firnlaw09_Awake.mono _)
      | (with_reducible exact firnref09_Part.mono _ _ _)
      | (with_reducible exact LeO.refl _)
      | (with_reducible exact LeO.none _)
      | (with_reducible refine LeO.ite ?_ ?_)
      | (with_reducible refine LeO.bind ?_ (fun _ => ?_))
      | exact ih0 _ _ _
      | exact ih1 _ _ _ _ _
      | exact ih2 _ _ _ _ _ _ _ _
      | exact ih3 _ _ _ _ _ _ _ _ _ _ _
      | exact ih4 _ _ _ _ _ _ _ _ _ _
      | exact ih5 _ _ _ _
      | exact ih6 _ _ _ _ _ _ _ _ _ _
      | exact firnlaw09_Awake.mono _
      | exact firnref09_Part.mono _ _ _
      | exact LeO.none _
      | refine LeO.ite ?_ ?_
      | refine LeO.bind ?_ (fun _ => ?_)
    · intro y0 y1 y2 y3 y4 y5 y6 y7 y8 y9 y10
      unfold firnlaw09_ProvSets.l1
      repeat' first
      | (with_reducible exact ih0 _ _ _)
      | (with_reducible exact ih1 _ _ _ _ _)
      | (with_reducible exact ih2 _ _ _ _ _ _ _ _)
      | (with_reducible exact ih3 _ _ _ _ _ _ _ _ _ _ _)
      | (with_reducible exact ih4 _ _ _ _ _ _ _ _ _ _)
      | (with_reducible exact ih5 _ _ _ _)
      | (with_reducible exact ih6 _ _ _ _ _ _ _ _ _ _)
      | (with_reducible exact firnlaw09_Awake.mono _)
      | (with_reducible exact firnref09_Part.mono _ _ _)
      | (with_reducible exact LeO.refl _)
      | (with_reducible exact LeO.none _)
      | (with_reducible refine LeO.ite ?_ ?_)
      | (with_reducible refine LeO.bind ?_ (fun _ => ?_))
      | exact ih0 _ _ _
      | exact ih1 _ _ _ _ _
      | exact ih2 _ _ _ _ _ _ _ _
      | exact ih3 _ _ _ _ _ _ _ _ _ _ _
      | exact ih4 _ _ _ _ _ _ _ _ _ _
      | exact ih5 _ _ _ _
      | exact ih6 _ _ _ _ _ _ _ _ _ _
      | exact firnlaw09_Awake.mono _
      | exact firnref09_Part.mono _ _ _
      | exact LeO.none _
      | refine LeO.ite ?_ ?_
      | refine LeO.bind ?_ (fun _ => ?_)
    · intro y0 y1 y2 y3 y4 y5 y6 y7 y8 y9
      unfold firnlaw09_ProvSets.l2
      repeat' first
      | (with_reducible exact ih0 _ _ _)
      | (with_reducible exact ih1 _ _ _ _ _)
      | (with_reducible exact ih2 _ _ _ _ _ _ _ _)
      | (with_reducible exact ih3 _ _ _ _ _ _ _ _ _ _ _)
      | (with_reducible exact ih4 _ _ _ _ _ _ _ _ _ _)
      | (with_reducible exact ih5 _ _ _ _)
      | (with_reducible exact ih6 _ _ _ _ _ _ _ _ _ _)
      | (with_reducible exact firnlaw09_Awake.mono _)
      | (with_reducible exact firnref09_Part.mono _ _ _)
      | (with_reducible exact LeO.refl _)
      | (with_reducible exact LeO.none _)
      | (with_reducible refine LeO.ite ?_ ?_)
      | (with_reducible refine LeO.bind ?_ (fun _ => ?_))
      | exact ih0 _ _ _
      | exact ih1 _ _ _ _ _
      | exact ih2 _ _ _ _ _ _ _ _
      | exact ih3 _ _ _ _ _ _ _ _ _ _ _
      | exact ih4 _ _ _ _ _ _ _ _ _ _
      | exact ih5 _ _ _ _
      | exact ih6 _ _ _ _ _ _ _ _ _ _
      | exact firnlaw09_Awake.mono _
      | exact firnref09_Part.mono _ _ _
      | exact LeO.none _
      | refine LeO.ite ?_ ?_
      | refine LeO.bind ?_ (fun _ => ?_)
    · intro y0 y1 y2 y3
      unfold firnlaw09_ProvSets.l3
      repeat' first
      | (with_reducible exact ih0 _ _ _)
      | (with_reducible exact ih1 _ _ _ _ _)
      | (with_reducible exact ih2 _ _ _ _ _ _ _ _)
      | (with_reducible exact ih3 _ _ _ _ _ _ _ _ _ _ _)
      | (with_reducible exact ih4 _ _ _ _ _ _ _ _ _ _)
      | (with_reducible exact ih5 _ _ _ _)
      | (with_reducible exact ih6 _ _ _ _ _ _ _ _ _ _)
      | (with_reducible exact firnlaw09_Awake.mono _)
      | (with_reducible exact firnref09_Part.mono _ _ _)
      | (with_reducible exact LeO.refl _)
      | (with_reducible exact LeO.none _)
      | (with_reducible refine LeO.ite ?_ ?_)
      | (with_reducible refine LeO.bind ?_ (fun _ => ?_))
      | exact ih0 _ _ _
      | exact ih1 _ _ _ _ _
      | exact ih2 _ _ _ _ _ _ _ _
      | exact ih3 _ _ _ _ _ _ _ _ _ _ _
      | exact ih4 _ _ _ _ _ _ _ _ _ _
      | exact ih5 _ _ _ _
      | exact ih6 _ _ _ _ _ _ _ _ _ _
      | exact firnlaw09_Awake.mono _
      | exact firnref09_Part.mono _ _ _
      | exact LeO.none _
      | refine LeO.ite ?_ ?_
      | refine LeO.bind ?_ (fun _ => ?_)
    · intro y0 y1 y2 y3 y4 y5 y6 y7 y8 y9
      unfold firnlaw09_ProvSets.l4
      repeat' first
      | (with_reducible exact ih0 _ _ _)
      | (with_reducible exact ih1 _ _ _ _ _)
      | (with_reducible exact ih2 _ _ _ _ _ _ _ _)
      | (with_reducible exact ih3 _ _ _ _ _ _ _ _ _ _ _)
      | (with_reducible exact ih4 _ _ _ _ _ _ _ _ _ _)
      | (with_reducible exact ih5 _ _ _ _)
      | (with_reducible exact ih6 _ _ _ _ _ _ _ _ _ _)
      | (with_reducible exact firnlaw09_Awake.mono _)
      | (with_reducible exact firnref09_Part.mono _ _ _)
      | (with_reducible exact LeO.refl _)
      | (with_reducible exact LeO.none _)
      | (with_reducible refine LeO.ite ?_ ?_)
      | (with_reducible refine LeO.bind ?_ (fun _ => ?_))
      | exact ih0 _ _ _
      | exact ih1 _ _ _ _ _
      | exact ih2 _ _ _ _ _ _ _ _
      | exact ih3 _ _ _ _ _ _ _ _ _ _ _
      | exact ih4 _ _ _ _ _ _ _ _ _ _
      | exact ih5 _ _ _ _
      | exact ih6 _ _ _ _ _ _ _ _ _ _
      | exact firnlaw09_Awake.mono _
      | exact firnref09_Part.mono _ _ _
      | exact LeO.none _
      | refine LeO.ite ?_ ?_
      | refine LeO.bind ?_ (fun _ => ?_)
theorem firnlaw09_ProvSets.mono : ∀ a0 k, LeO (firnlaw09_ProvSets.f k a0) (firnlaw09_ProvSets.f (k + 1) a0) := by
  intro a0 k
  obtain ⟨ih0, ih1, ih2, ih3, ih4, ih5, ih6⟩ := firnlaw09_ProvSets.mono_l k
  unfold firnlaw09_ProvSets.f
  repeat' first
      | (with_reducible exact ih0 _ _ _)
      | (with_reducible exact ih1 _ _ _ _ _)
      | (with_reducible exact ih2 _ _ _ _ _ _ _ _)
      | (with_reducible exact ih3 _ _ _ _ _ _ _ _ _ _ _)
      | (with_reducible exact ih4 _ _ _ _ _ _ _ _ _ _)
      | (with_reducible exact ih5 _ _ _ _)
      | (with_reducible exact ih6 _ _ _ _ _ _ _ _ _ _)
      | (with_reducible exact firnlaw09_Awake.mono _)
      | (with_reducible exact firnref09_Part.mono _ _ _)
      | (with_reducible exact LeO.refl _)
      | (with_reducible exact LeO.none _)
      | (with_reducible refine LeO.ite ?_ ?_)
      | (with_reducible refine LeO.bind ?_ (fun _ => ?_))
      | exact ih0 _ _ _
      | exact ih1 _ _ _ _ _
      | exact ih2 _ _ _ _ _ _ _ _
      | exact ih3 _ _ _ _ _ _ _ _ _ _ _
      | exact ih4 _ _ _ _ _ _ _ _ _ _
      | exact ih5 _ _ _ _
      | exact ih6 _ _ _ _ _ _ _ _ _ _
      | exact firnlaw09_Awake.mono _
      | exact firnref09_Part.mono _ _ _
      | exact LeO.none _
      | refine LeO.ite ?_ ?_
      | refine LeO.bind ?_ (fun _ => ?_)
set_option maxHeartbeats 8000000 in
set_option maxRecDepth 100000 in
theorem firnlaw09_ProvSets.calls (k : Nat) (A0 : Option Addr) (c0 : Nat) (l0 : List (S31)) (r : Bool) (w : World) (hr0 : Kd.C k31 w A0 l0.length l0) (hc0 : l0.length ≤ c0) (h : firnlaw09_ProvSets.f k l0 = some r) :
    Calls Tryd.prog 3 #[.slice A0 l0.length c0] w fun e w' => e = .returned (.bool r) ∧ Below w.heap.size w w' := by
  have hu31 := Tryd.underlying31
  have HR0 := Aside0.mk hr0
  have HC0 := Aside0.mk hc0
  clear hr0 hc0
  have HB := Aside0.mk (Below.refl w.heap.size w)
  have H : ((firnref09_ValidSum.f l0).bind fun t122 => (if t122 = true then ((prov_Why.f l0).bind fun bt124 => (if bt124.2 = 0 then (firnlaw09_ProvSets.j0 k l0 bt124.1 (((bt124.1.length : Int) == 0) != ((l0.length : Int) == 0))) else (firnlaw09_ProvSets.j0 k l0 bt124.1 true))) else ((firnlaw09_Awake.f k).bind fun t123 => (some t123)))) = some r := h
  clear h
  replace H := Option.bind_eq_some_iff.mp H
  obtain ⟨t122, A20, H⟩ := H
  replace H : (if t122 = true then ((prov_Why.f l0).bind fun bt124 => (if bt124.2 = 0 then (firnlaw09_ProvSets.j0 k l0 bt124.1 (((bt124.1.length : Int) == 0) != ((l0.length : Int) == 0))) else (firnlaw09_ProvSets.j0 k l0 bt124.1 true))) else ((firnlaw09_Awake.f k).bind fun t123 => (some t123))) = some r := H
  have A2 := Aside0.mk A20
  clear A20
  by_cases c3 : t122 = true
  · subst c3
    have H1 : ((prov_Why.f l0).bind fun bt124 => (if bt124.2 = 0 then (firnlaw09_ProvSets.j0 k l0 bt124.1 (((bt124.1.length : Int) == 0) != ((l0.length : Int) == 0))) else (firnlaw09_ProvSets.j0 k l0 bt124.1 true))) = some r := by rw [if_pos rfl] at H; exact H
    clear H
    have H := H1
    clear H1
    replace H := Option.bind_eq_some_iff.mp H
    obtain ⟨⟨t124, t125⟩, A40, H⟩ := H
    replace H : (if t125 = 0 then (firnlaw09_ProvSets.j0 k l0 t124 (((t124.length : Int) == 0) != ((l0.length : Int) == 0))) else (firnlaw09_ProvSets.j0 k l0 t124 true)) = some r := H
    have A4 := Aside0.mk A40
    clear A40
    have HC5 := Aside0.mk H
    clear H
    go_enter Tryd.func3, Tryd.ntmps3
    go_upto_region 4 with (first | ((with_reducible refine gate_callee (f := 4) rfl ?_); refine goesL_ (some 18) rfl rfl Tryd.func4 (by kernel_rfl) rfl #[.slice A0 l0.length c0] rfl (by (try simp only [List.map_toArray, List.map_cons, List.map_nil]); first | done | rfl | (simp only [List.length_drop, List.length_take]; rfl)) ?_; (with_reducible refine (firnref09_ValidSum.calls _ _ l0 true _ ?side1 ?side2 A2.out).mono ?_); (case side1 => repeat (first | exact HR0.out | (with_reducible refine Kd.C_alloc ?_ _) | (with_reducible refine Kd.C_drewN ?_ _) | (with_reducible refine Kd.C_drew ?_))); (case side2 => exact HC0.out); rintro e w6 ⟨rfl, hb⟩; refine ⟨_, rfl, ?_⟩; have n0_ := Aside0.mk (below_step (by repeat (first | (with_reducible first | exact HB.out | apply below_alloc | apply pw_below_drewN | apply below_drew1) | exact HB.out)) hb); clear HB; have HB := n0_; clear n0_; (try clear hb); (try clear hb2); (try clear hk); (try clear hi)) | ((with_reducible refine gate_callee (f := 6) rfl ?_); refine goesL_ (some 23) rfl rfl Tryd.func6 (by kernel_rfl) rfl #[.slice A0 l0.length c0] rfl (by (try simp only [List.map_toArray, List.map_cons, List.map_nil]); first | done | rfl | (simp only [List.length_drop, List.length_take]; rfl)) ?_; (with_reducible refine (prov_Why.calls _ _ l0 t124 t125 _ ?side1 ?side2 A4.out).mono ?_); (case side1 => repeat (first | exact (Kd.C_below HR0.out HB.out) | (with_reducible refine Kd.C_alloc ?_ _) | (with_reducible refine Kd.C_drewN ?_ _) | (with_reducible refine Kd.C_drew ?_))); (case side2 => exact HC0.out); rintro e w7 ⟨v126, rfl, ho0, hb⟩; refine ⟨_, rfl, ?_⟩; have n0_ := Aside0.mk (Kd.R_lower ho0 (below_size (by repeat (first | (with_reducible first | exact HB.out | apply below_alloc | apply pw_below_drewN | apply below_drew1) | exact HB.out)))); have n1_ := Aside0.mk (below_step (by repeat (first | (with_reducible first | exact HB.out | apply below_alloc | apply pw_below_drewN | apply below_drew1) | exact HB.out)) hb); clear HB; have HO127 := n0_; have HB := n1_; clear n0_ n1_; (try clear hb); (try clear hb2); (try clear hk); (try clear hi); (try clear ho0)))
    (try simp only [Act.put, List.setIfInBounds_toArray, List.set_cons_zero, List.set_cons_succ])
    go_cut [36] (fun v36 wc => ∃ (kq : Nat) (x36_4 : Bool), v36 = .bool x36_4 ∧ Aside0 (firnlaw09_ProvSets.j0 kq l0 t124 x36_4 = some r) ∧ Aside0 (kq ≤ k) ∧ Aside0 (Kd.R Kd.string 9 wc w.heap.size (fun _ => True) v126 t124) ∧ Aside0 (Below w.heap.size w wc))
    case first =>
      have H := HC5.out
      clear HC5
      by_cases c8 : t125 = 0
      · rw [if_pos c8] at H
        have c8b0 : (t125 == 0) = true := beq_iff_eq.mpr c8
        have c8b1 : (t125 != 0) = false := bne_eq_false_iff_eq.mpr c8
        clear c8
        (first | rw [c8b0] | (simp only [i64_w, i32_w]; rw [c8b0]) | skip)
        have H' := Aside0.mk H
        clear H
        obtain ⟨Ao9, co9, eo9⟩ := Kd.R_slice HO127.out
        subst eo9
        go_wp2
        go_meet
        case rel => exact ⟨_, ((((t124.length : Int) == 0) != ((l0.length : Int) == 0))), (by first | rfl | (simp; done) | (simp [*]; done)), H', ⟨by first | omega | exact Nat.le_refl _⟩, ⟨by (with_reducible repeat (first | apply Kd.R_alloc | apply Kd.R_drewN | apply Kd.R_drew)); exact HO127.out⟩, ⟨by repeat (first | (with_reducible first | exact HB.out | apply below_alloc | apply pw_below_drewN | apply below_drew1) | exact HB.out)⟩⟩
      · rw [if_neg c8] at H
        have c8b0 : (t125 == 0) = false := beq_eq_false_iff_ne.mpr c8
        have c8b1 : (t125 != 0) = true := bne_iff_ne.mpr c8
        (first | rw [c8b0] | (simp only [i64_w, i32_w]; rw [c8b0]) | skip)
        have H' := Aside0.mk H
        clear H
        go_wp2
        go_meet
        case rel => exact ⟨_, (true), (by first | rfl | (simp; done) | (simp [*]; done)), H', ⟨by first | omega | exact Nat.le_refl _⟩, ⟨by (with_reducible repeat (first | apply Kd.R_alloc | apply Kd.R_drewN | apply Kd.R_drew)); exact HO127.out⟩, ⟨by repeat (first | (with_reducible first | exact HB.out | apply below_alloc | apply pw_below_drewN | apply below_drew1) | exact HB.out)⟩⟩
    case rest =>
      clear HC5
      try clear p2
      try clear c3
      try clear c4
      try clear c6
      try clear c8
      try clear c8b0
      try clear c8b1
      obtain ⟨kq, x36_4, rfl, HA, HJ4, HO_3, HB⟩ := hcut
      cases kq with
      | zero => exact absurd HA.out (by simp [firnlaw09_ProvSets.j0])
      | succ kj4 =>
        have H := HA.out
        clear HA
        simp only [firnlaw09_ProvSets.j0] at H
        by_cases c10 : x36_4 = true
        · subst c10
          have H1 : (some false) = some r := by rw [if_pos rfl] at H; exact H
          clear H
          have H := H1
          clear H1
          obtain rfl := Option.some.inj H
          go_wp2
          go_ret
          exact ⟨by first | rfl | (simp [errW_none, errW_some] <;> rfl) | (simp [*, errW_none, errW_some] <;> rfl), by repeat (first | (with_reducible first | exact HB.out | apply below_alloc | apply pw_below_drewN | apply below_drew1) | exact HB.out)⟩
        · replace c10 := Bool.eq_false_iff.mpr c10
          subst c10
          have H1 : (firnlaw09_ProvSets.l0 kj4 l0 t124 t124 (t124.length : Int) 0) = some r := by rw [if_neg (show ¬ (false = true) by decide)] at H; exact H
          clear H
          have H := H1
          clear H1
          have H' := Aside0.mk H
          clear H
          obtain ⟨Ao11, co11, eo11⟩ := Kd.R_slice HO_3.out
          subst eo11
          go_wp2
          go_loopg [39] kj4 (fun kq v39 w' => ∃ (x39_2 : Int), v39 = .int .i64 x39_2 ∧ Aside0 (firnlaw09_ProvSets.l0 kq l0 t124 t124 (t124.length : Int) x39_2 = some r) ∧ Aside0 (kq ≤ kj4) ∧ Aside0 (Kd.R Kd.string 9 w' w.heap.size (fun _ => True) (.slice Ao11 t124.length co11) t124) ∧ Aside0 (Kd.R Kd.string 9 w' w.heap.size (fun _ => True) (.slice Ao11 t124.length co11) t124) ∧ Aside0 (Below w.heap.size w w'))
          case atStart => exact ⟨(0), (by first | rfl | (simp; done) | (simp [*]; done)), H', ⟨Nat.le_refl _⟩, ⟨by (with_reducible repeat (first | apply Kd.R_alloc | apply Kd.R_drewN | apply Kd.R_drew)); exact HO_3.out⟩, ⟨by (with_reducible repeat (first | apply Kd.R_alloc | apply Kd.R_drewN | apply Kd.R_drew)); exact HO_3.out⟩, ⟨by repeat (first | (with_reducible first | exact HB.out | apply below_alloc | apply pw_below_drewN | apply below_drew1) | exact HB.out)⟩⟩
          case round =>
            clear H'
            try clear c1
            try clear p2
            try clear c3
            try clear c4
            try clear c6
            try clear c8
            try clear c8b0
            try clear c8b1
            try clear c10
            try clear p2
            obtain ⟨x39_2, rfl, HA, HK2, HO_3, HO_37, HB⟩ := hrel
            cases gk with
            | zero => exact absurd HA.out (by simp [firnlaw09_ProvSets.l0])
            | succ k2 =>
              have H := HA.out
              clear HA
              simp only [firnlaw09_ProvSets.l0] at H
              by_cases c12 : x39_2 < (t124.length : Int)
              · rw [if_pos c12] at H
                have c12b0 : decide (x39_2 < (t124.length : Int)) = true := decide_eq_true c12
                clear c12
                by_cases c13 : 0 ≤ x39_2
                · rw [if_pos c13] at H
                  have c13b0 : decide (0 ≤ x39_2) = true := decide_eq_true c13
                  clear c13
                  by_cases c14 : x39_2 < (t124.length : Int)
                  · rw [if_pos c14] at H
                    have c14b0 : decide (x39_2 < (t124.length : Int)) = true := decide_eq_true c14
                    clear c14
                    have HC15 := Aside0.mk H
                    clear H
                    have p128 : 0 ≤ (x39_2 : Int) := of_decide_eq_true (by first | (with_reducible assumption) | assumption)
                    have q128 : x39_2 < (t124.length : Int) := of_decide_eq_true (by first | (with_reducible assumption) | assumption)
                    obtain ⟨ad128, e128, hx128_0⟩ := Kd.at_string (Kd.R_reads' HO_37.out).2.2 x39_2 p128 q128
                    cases e128
                    replace p128 := eq_true p128
                    replace q128 := eq_true q128
                    go_upto_region 9 with (fail)
                    go_cut [76] (fun v76 wc => ∃ (kq : Nat) (x76_14 : Bool), v76 = .bool x76_14 ∧ Aside0 (firnlaw09_ProvSets.j2 kq l0 t124 x39_2 (rdOf ByteArray.empty t124 x39_2) t124 (t124.length : Int) x39_2 x76_14 = some r) ∧ Aside0 (kq ≤ k2) ∧ Aside0 (Kd.R Kd.string 9 wc w.heap.size (fun _ => True) (.slice (some ad128) t124.length co11) t124) ∧ Aside0 (Kd.R Kd.string 9 wc w.heap.size (fun _ => True) (.slice (some ad128) t124.length co11) t124) ∧ Aside0 (Below w.heap.size w wc))
                    case first =>
                      have H := HC15.out
                      clear HC15
                      by_cases c16 : x39_2 > 0
                      · rw [if_pos c16] at H
                        have c16b0 : decide (0 < x39_2) = true := decide_eq_true c16
                        clear c16
                        (first | rw [c16b0] | (simp only [i64_w, i32_w]; rw [c16b0]) | skip)
                        obtain ⟨ji17, hji17⟩ : ∃ j_ : Int, (wrap64 (x39_2 - 1)) = j_ := ⟨_, rfl⟩
                        replace H : (if 0 ≤ (ji17) then (if (ji17) < (t124.length : Int) then (if ((rdOf ByteArray.empty t124 x39_2).size : Int) < ((rdOf ByteArray.empty t124 (ji17)).size : Int) then (firnlaw09_ProvSets.j2 k2 l0 t124 x39_2 (rdOf ByteArray.empty t124 x39_2) t124 (t124.length : Int) x39_2 true) else (if ((rdOf ByteArray.empty t124 x39_2).size : Int) = ((rdOf ByteArray.empty t124 (ji17)).size : Int) then (firnlaw09_ProvSets.j2 k2 l0 t124 x39_2 (rdOf ByteArray.empty t124 x39_2) t124 (t124.length : Int) x39_2 (!(Op.bytesLess ((rdOf ByteArray.empty t124 (ji17)).toList) ((rdOf ByteArray.empty t124 x39_2).toList)))) else (firnlaw09_ProvSets.j2 k2 l0 t124 x39_2 (rdOf ByteArray.empty t124 x39_2) t124 (t124.length : Int) x39_2 false))) else (none)) else (none)) = some r := by first | (rw [hji17] at H; exact H) | (simp only [hji17] at H ⊢; exact H)
                        have hji17w : (IntKind.i64.wrap (x39_2 - 1)) = ji17 := (i64_w _).trans hji17
                        by_cases c18 : 0 ≤ (ji17)
                        · rw [if_pos c18] at H
                          have c18b0 : decide (0 ≤ (ji17)) = true := decide_eq_true c18
                          clear c18
                          by_cases c19 : (ji17) < (t124.length : Int)
                          · rw [if_pos c19] at H
                            have c19b0 : decide ((ji17) < (t124.length : Int)) = true := decide_eq_true c19
                            clear c19
                            by_cases c20 : ((rdOf ByteArray.empty t124 x39_2).size : Int) < ((rdOf ByteArray.empty t124 (ji17)).size : Int)
                            · rw [if_pos c20] at H
                              have c20b0 : decide (((rdOf ByteArray.empty t124 x39_2).size : Int) < ((rdOf ByteArray.empty t124 (ji17)).size : Int)) = true := decide_eq_true c20
                              have c20b1 : decide ((rdOf ByteArray.empty t124 x39_2).size < (rdOf ByteArray.empty t124 (ji17)).size) = true := decide_eq_true (Int.ofNat_lt.mp c20)
                              clear c20
                              have H' := Aside0.mk H
                              clear H
                              have p129 : 0 ≤ ((ji17) : Int) := of_decide_eq_true (by first | (with_reducible assumption) | assumption)
                              have q129 : (ji17) < (t124.length : Int) := of_decide_eq_true (by first | (with_reducible assumption) | assumption)
                              obtain ⟨ad129, e129, hx129_0⟩ := Kd.at_string (Kd.R_reads' HO_3.out).2.2 (ji17) p129 q129
                              obtain rfl : ad128 = ad129 := (by injection e129)
                              replace p129 := eq_true p129
                              replace q129 := eq_true q129
                              go_wp2
                              go_meet
                              case rel => exact ⟨_, (true), (by first | rfl | (simp; done) | (simp [*]; done)), H', ⟨by have := HJ4.out; have := HK2.out; first | omega | exact Nat.le_refl _⟩, ⟨by (with_reducible repeat (first | apply Kd.R_alloc | apply Kd.R_drewN | apply Kd.R_drew)); exact HO_3.out⟩, ⟨by (with_reducible repeat (first | apply Kd.R_alloc | apply Kd.R_drewN | apply Kd.R_drew)); exact HO_37.out⟩, ⟨by repeat (first | (with_reducible first | exact HB.out | apply below_alloc | apply pw_below_drewN | apply below_drew1) | exact HB.out)⟩⟩
                            · rw [if_neg c20] at H
                              have c20b0 : decide (((rdOf ByteArray.empty t124 x39_2).size : Int) < ((rdOf ByteArray.empty t124 (ji17)).size : Int)) = false := decide_eq_false c20
                              have c20b1 : decide ((rdOf ByteArray.empty t124 x39_2).size < (rdOf ByteArray.empty t124 (ji17)).size) = false := decide_eq_false (fun h => c20 (Int.ofNat_lt.mpr h))
                              clear c20
                              by_cases c21 : ((rdOf ByteArray.empty t124 x39_2).size : Int) = ((rdOf ByteArray.empty t124 (ji17)).size : Int)
                              · rw [if_pos c21] at H
                                have c21b0 : (((rdOf ByteArray.empty t124 x39_2).size : Int) == ((rdOf ByteArray.empty t124 (ji17)).size : Int)) = true := beq_iff_eq.mpr c21
                                have c21b1 : (((rdOf ByteArray.empty t124 x39_2).size : Int) != ((rdOf ByteArray.empty t124 (ji17)).size : Int)) = false := bne_eq_false_iff_eq.mpr c21
                                have c21b2 : ((rdOf ByteArray.empty t124 x39_2).size == (rdOf ByteArray.empty t124 (ji17)).size) = true := by first | simpa using c21 | (simp at c21 ⊢; omega)
                                clear c21
                                have H' := Aside0.mk H
                                clear H
                                have p129 : 0 ≤ ((ji17) : Int) := of_decide_eq_true (by first | (with_reducible assumption) | assumption)
                                have q129 : (ji17) < (t124.length : Int) := of_decide_eq_true (by first | (with_reducible assumption) | assumption)
                                obtain ⟨ad129, e129, hx129_0⟩ := Kd.at_string (Kd.R_reads' HO_3.out).2.2 (ji17) p129 q129
                                obtain rfl : ad128 = ad129 := (by injection e129)
                                replace p129 := eq_true p129
                                replace q129 := eq_true q129
                                have p130 : 0 ≤ ((ji17) : Int) := of_decide_eq_true (by first | (with_reducible assumption) | assumption)
                                have q130 : (ji17) < (t124.length : Int) := of_decide_eq_true (by first | (with_reducible assumption) | assumption)
                                obtain ⟨ad130, e130, hx130_0⟩ := Kd.at_string (Kd.R_reads' HO_3.out).2.2 (ji17) p130 q130
                                obtain rfl : ad128 = ad130 := (by injection e130)
                                replace p130 := eq_true p130
                                replace q130 := eq_true q130
                                have p131 : 0 ≤ ((ji17) : Int) := of_decide_eq_true (by first | (with_reducible assumption) | assumption)
                                have q131 : (ji17) < (t124.length : Int) := of_decide_eq_true (by first | (with_reducible assumption) | assumption)
                                obtain ⟨ad131, e131, hx131_0⟩ := Kd.at_string (Kd.R_reads' HO_3.out).2.2 (ji17) p131 q131
                                obtain rfl : ad128 = ad131 := (by injection e131)
                                replace p131 := eq_true p131
                                replace q131 := eq_true q131
                                go_wp2
                                go_meet
                                case rel => exact ⟨_, (!(Op.bytesLess ((rdOf ByteArray.empty t124 (ji17)).toList) ((rdOf ByteArray.empty t124 x39_2).toList))), (by first | rfl | (simp; done) | (simp only [← hji17] <;> (first | rfl | simp)) | (simp [*]; done)), H', ⟨by have := HJ4.out; have := HK2.out; first | omega | exact Nat.le_refl _⟩, ⟨by (with_reducible repeat (first | apply Kd.R_alloc | apply Kd.R_drewN | apply Kd.R_drew)); exact HO_3.out⟩, ⟨by (with_reducible repeat (first | apply Kd.R_alloc | apply Kd.R_drewN | apply Kd.R_drew)); exact HO_37.out⟩, ⟨by repeat (first | (with_reducible first | exact HB.out | apply below_alloc | apply pw_below_drewN | apply below_drew1) | exact HB.out)⟩⟩
                              · rw [if_neg c21] at H
                                have c21b0 : (((rdOf ByteArray.empty t124 x39_2).size : Int) == ((rdOf ByteArray.empty t124 (ji17)).size : Int)) = false := beq_eq_false_iff_ne.mpr c21
                                have c21b1 : (((rdOf ByteArray.empty t124 x39_2).size : Int) != ((rdOf ByteArray.empty t124 (ji17)).size : Int)) = true := bne_iff_ne.mpr c21
                                have c21b2 : ((rdOf ByteArray.empty t124 x39_2).size == (rdOf ByteArray.empty t124 (ji17)).size) = false := by first | simpa using c21 | (simp at c21 ⊢; omega)
                                have H' := Aside0.mk H
                                clear H
                                have p129 : 0 ≤ ((ji17) : Int) := of_decide_eq_true (by first | (with_reducible assumption) | assumption)
                                have q129 : (ji17) < (t124.length : Int) := of_decide_eq_true (by first | (with_reducible assumption) | assumption)
                                obtain ⟨ad129, e129, hx129_0⟩ := Kd.at_string (Kd.R_reads' HO_3.out).2.2 (ji17) p129 q129
                                obtain rfl : ad128 = ad129 := (by injection e129)
                                replace p129 := eq_true p129
                                replace q129 := eq_true q129
                                have p130 : 0 ≤ ((ji17) : Int) := of_decide_eq_true (by first | (with_reducible assumption) | assumption)
                                have q130 : (ji17) < (t124.length : Int) := of_decide_eq_true (by first | (with_reducible assumption) | assumption)
                                obtain ⟨ad130, e130, hx130_0⟩ := Kd.at_string (Kd.R_reads' HO_3.out).2.2 (ji17) p130 q130
                                obtain rfl : ad128 = ad130 := (by injection e130)
                                replace p130 := eq_true p130
                                replace q130 := eq_true q130
                                go_wp2
                                go_meet
                                case rel => exact ⟨_, (false), (by first | rfl | (simp; done) | (simp [*]; done)), H', ⟨by have := HJ4.out; have := HK2.out; first | omega | exact Nat.le_refl _⟩, ⟨by (with_reducible repeat (first | apply Kd.R_alloc | apply Kd.R_drewN | apply Kd.R_drew)); exact HO_3.out⟩, ⟨by (with_reducible repeat (first | apply Kd.R_alloc | apply Kd.R_drewN | apply Kd.R_drew)); exact HO_37.out⟩, ⟨by repeat (first | (with_reducible first | exact HB.out | apply below_alloc | apply pw_below_drewN | apply below_drew1) | exact HB.out)⟩⟩
                          · rw [if_neg c19] at H
                            exact absurd H (by simp)
                        · rw [if_neg c18] at H
                          exact absurd H (by simp)
                      · rw [if_neg c16] at H
                        have c16b0 : decide (0 < x39_2) = false := decide_eq_false c16
                        clear c16
                        (first | rw [c16b0] | (simp only [i64_w, i32_w]; rw [c16b0]) | skip)
                        have H' := Aside0.mk H
                        clear H
                        go_wp2
                        go_meet
                        case rel => exact ⟨_, (false), (by first | rfl | (simp; done) | (simp [*]; done)), H', ⟨by have := HJ4.out; have := HK2.out; first | omega | exact Nat.le_refl _⟩, ⟨by (with_reducible repeat (first | apply Kd.R_alloc | apply Kd.R_drewN | apply Kd.R_drew)); exact HO_3.out⟩, ⟨by (with_reducible repeat (first | apply Kd.R_alloc | apply Kd.R_drewN | apply Kd.R_drew)); exact HO_37.out⟩, ⟨by repeat (first | (with_reducible first | exact HB.out | apply below_alloc | apply pw_below_drewN | apply below_drew1) | exact HB.out)⟩⟩
                    case rest =>
                      clear HC15
                      try clear c1
                      try clear p1
                      try clear q1
                      try clear hx1
                      try clear c2
                      try clear p2
                      try clear c3
                      try clear c4
                      try clear c6
                      try clear p6
                      try clear c8
                      try clear c8b0
                      try clear c8b1
                      try clear c10
                      try clear c12
                      try clear c12b0
                      try clear p12
                      try clear q12
                      try clear hx12
                      try clear c13
                      try clear c13b0
                      try clear p13
                      try clear q13
                      try clear hx13
                      try clear c14
                      try clear c14b0
                      try clear c16
                      try clear c16b0
                      try clear c18
                      try clear c18b0
                      try clear c19
                      try clear c19b0
                      try clear c20
                      try clear c20b0
                      try clear c20b1
                      try clear c21
                      try clear c21b0
                      try clear c21b1
                      try clear c21b2
                      try clear hx128_0
                      try clear hx129_0
                      try clear hx130_0
                      try clear hx131_0
                      try clear p128
                      try clear p129
                      try clear p130
                      try clear p131
                      try clear p2
                      try clear q128
                      try clear q129
                      try clear q130
                      try clear q131
                      obtain ⟨kq, x76_14, rfl, HA, HJ14, HO_3, HO_37, HB⟩ := hcut
                      cases kq with
                      | zero => exact absurd HA.out (by simp [firnlaw09_ProvSets.j2])
                      | succ kj14 =>
                        have H := HA.out
                        clear HA
                        simp only [firnlaw09_ProvSets.j2] at H
                        by_cases c22 : x76_14 = true
                        · subst c22
                          have H1 : (some false) = some r := by rw [if_pos rfl] at H; exact H
                          clear H
                          have H := H1
                          clear H1
                          obtain rfl := Option.some.inj H
                          go_wp2
                          go_ret
                          exact ⟨by first | rfl | (simp [errW_none, errW_some] <;> rfl) | (simp [*, errW_none, errW_some] <;> rfl), by repeat (first | (with_reducible first | exact HB.out | apply below_alloc | apply pw_below_drewN | apply below_drew1) | exact HB.out)⟩
                        · replace c22 := Bool.eq_false_iff.mpr c22
                          subst c22
                          have H1 : (firnlaw09_ProvSets.l1 kj14 l0 t124 x39_2 (rdOf ByteArray.empty t124 x39_2) false t124 (t124.length : Int) x39_2 t124 (t124.length : Int) 0) = some r := by rw [if_neg (show ¬ (false = true) by decide)] at H; exact H
                          clear H
                          have H := H1
                          clear H1
                          have H' := Aside0.mk H
                          clear H
                          go_wp2
                          go_loopg [79] kj14 (fun kq v79 w' => ∃ (x79_4 : Int), v79 = .int .i64 x79_4 ∧ Aside0 (firnlaw09_ProvSets.l1 kq l0 t124 x39_2 (rdOf ByteArray.empty t124 x39_2) false t124 (t124.length : Int) x39_2 t124 (t124.length : Int) x79_4 = some r) ∧ Aside0 (kq ≤ kj14) ∧ Aside0 (Kd.R Kd.string 9 w' w.heap.size (fun _ => True) (.slice (some ad128) t124.length co11) t124) ∧ Aside0 (Kd.R Kd.string 9 w' w.heap.size (fun _ => True) (.slice (some ad128) t124.length co11) t124) ∧ Aside0 (Kd.R Kd.string 9 w' w.heap.size (fun _ => True) (.slice (some ad128) t124.length co11) t124) ∧ Aside0 (Below w.heap.size w w'))
                          case atStart => exact ⟨(0), (by first | rfl | (simp; done) | (simp [*]; done)), H', ⟨Nat.le_refl _⟩, ⟨by (with_reducible repeat (first | apply Kd.R_alloc | apply Kd.R_drewN | apply Kd.R_drew)); exact HO_3.out⟩, ⟨by (with_reducible repeat (first | apply Kd.R_alloc | apply Kd.R_drewN | apply Kd.R_drew)); exact HO_37.out⟩, ⟨by (with_reducible repeat (first | apply Kd.R_alloc | apply Kd.R_drewN | apply Kd.R_drew)); exact HO_3.out⟩, ⟨by repeat (first | (with_reducible first | exact HB.out | apply below_alloc | apply pw_below_drewN | apply below_drew1) | exact HB.out)⟩⟩
                          case round =>
                            clear H'
                            try clear c1
                            try clear p1
                            try clear q1
                            try clear hx1
                            try clear c2
                            try clear p2
                            try clear c3
                            try clear c4
                            try clear c6
                            try clear p6
                            try clear c8
                            try clear c8b0
                            try clear c8b1
                            try clear c10
                            try clear c12
                            try clear c12b0
                            try clear p12
                            try clear q12
                            try clear hx12
                            try clear c13
                            try clear c13b0
                            try clear p13
                            try clear q13
                            try clear hx13
                            try clear c14
                            try clear c14b0
                            try clear c16
                            try clear c16b0
                            try clear c18
                            try clear c18b0
                            try clear c19
                            try clear c19b0
                            try clear c20
                            try clear c20b0
                            try clear c20b1
                            try clear c21
                            try clear c21b0
                            try clear c21b1
                            try clear c21b2
                            try clear c22
                            try clear hx128_0
                            try clear hx129_0
                            try clear hx130_0
                            try clear hx131_0
                            try clear p1
                            try clear p12
                            try clear p128
                            try clear p129
                            try clear p13
                            try clear p130
                            try clear p131
                            try clear p2
                            try clear p6
                            try clear q1
                            try clear q12
                            try clear q128
                            try clear q129
                            try clear q13
                            try clear q130
                            try clear q131
                            obtain ⟨x79_4, rfl, HA, HK4, HO_3, HO_37, HO_77, HB⟩ := hrel
                            cases gk with
                            | zero => exact absurd HA.out (by simp [firnlaw09_ProvSets.l1])
                            | succ k4 =>
                              have H := HA.out
                              clear HA
                              simp only [firnlaw09_ProvSets.l1] at H
                              by_cases c23 : x79_4 < (t124.length : Int)
                              · rw [if_pos c23] at H
                                have c23b0 : decide (x79_4 < (t124.length : Int)) = true := decide_eq_true c23
                                clear c23
                                by_cases c24 : 0 ≤ x79_4
                                · rw [if_pos c24] at H
                                  have c24b0 : decide (0 ≤ x79_4) = true := decide_eq_true c24
                                  clear c24
                                  by_cases c25 : x79_4 < (t124.length : Int)
                                  · rw [if_pos c25] at H
                                    have c25b0 : decide (x79_4 < (t124.length : Int)) = true := decide_eq_true c25
                                    clear c25
                                    by_cases c26 : x39_2 = x79_4
                                    · rw [if_pos c26] at H
                                      have c26b0 : (x39_2 == x79_4) = true := beq_iff_eq.mpr c26
                                      have c26b1 : (x39_2 != x79_4) = false := bne_eq_false_iff_eq.mpr c26
                                      clear c26
                                      have H' := Aside0.mk H
                                      clear H
                                      have p132 : 0 ≤ (x79_4 : Int) := of_decide_eq_true (by first | (with_reducible assumption) | assumption)
                                      have q132 : x79_4 < (t124.length : Int) := of_decide_eq_true (by first | (with_reducible assumption) | assumption)
                                      obtain ⟨ad132, e132, hx132_0⟩ := Kd.at_string (Kd.R_reads' HO_77.out).2.2 x79_4 p132 q132
                                      obtain rfl : ad128 = ad132 := (by injection e132)
                                      replace p132 := eq_true p132
                                      replace q132 := eq_true q132
                                      go_wp2
                                      go_roundg k4
                                      case measure => have := HJ4.out; have := HK2.out; have := HJ14.out; have := HK4.out; omega
                                      case rel => exact ⟨(wrap64 (x79_4 + 1)), (by first | rfl | (simp; done) | (simp [*]; done)), H', ⟨by have := HJ4.out; have := HK2.out; have := HJ14.out; have := HK4.out; omega⟩, ⟨by (with_reducible repeat (first | apply Kd.R_alloc | apply Kd.R_drewN | apply Kd.R_drew)); exact HO_3.out⟩, ⟨by (with_reducible repeat (first | apply Kd.R_alloc | apply Kd.R_drewN | apply Kd.R_drew)); exact HO_37.out⟩, ⟨by (with_reducible repeat (first | apply Kd.R_alloc | apply Kd.R_drewN | apply Kd.R_drew)); exact HO_77.out⟩, ⟨by repeat (first | (with_reducible first | exact HB.out | apply below_alloc | apply pw_below_drewN | apply below_drew1) | exact HB.out)⟩⟩
                                    · rw [if_neg c26] at H
                                      have c26b0 : (x39_2 == x79_4) = false := beq_eq_false_iff_ne.mpr c26
                                      have c26b1 : (x39_2 != x79_4) = true := bne_iff_ne.mpr c26
                                      replace H := Option.bind_eq_some_iff.mp H
                                      obtain ⟨t133, A270, H⟩ := H
                                      replace H : (if t133 = true then (some false) else (firnlaw09_ProvSets.l1 k4 l0 t124 x39_2 (rdOf ByteArray.empty t124 x39_2) false t124 (t124.length : Int) x39_2 t124 (t124.length : Int) (wrap64 (x79_4 + 1)))) = some r := H
                                      have A27 := Aside0.mk A270
                                      clear A270
                                      by_cases c28 : t133 = true
                                      · subst c28
                                        have H1 : (some false) = some r := by rw [if_pos rfl] at H; exact H
                                        clear H
                                        have H := H1
                                        clear H1
                                        obtain rfl := Option.some.inj H
                                        have p132 : 0 ≤ (x79_4 : Int) := of_decide_eq_true (by first | (with_reducible assumption) | assumption)
                                        have q132 : x79_4 < (t124.length : Int) := of_decide_eq_true (by first | (with_reducible assumption) | assumption)
                                        obtain ⟨ad132, e132, hx132_0⟩ := Kd.at_string (Kd.R_reads' HO_77.out).2.2 x79_4 p132 q132
                                        obtain rfl : ad128 = ad132 := (by injection e132)
                                        replace p132 := eq_true p132
                                        replace q132 := eq_true q132
                                        go_wp2_with (first | (go_at_call 7; (with_reducible refine (firnref09_Part.calls k4 (rdOf ByteArray.empty t124 x39_2) (rdOf ByteArray.empty t124 x79_4) true _ A27.out).mono ?_); rintro e w' ⟨rfl, ⟨nd, rfl⟩⟩))
                                        go_ret
                                        exact ⟨by first | rfl | (simp [errW_none, errW_some] <;> rfl) | (simp [*, errW_none, errW_some] <;> rfl), by repeat (first | (with_reducible first | exact HB.out | apply below_alloc | apply pw_below_drewN | apply below_drew1) | exact HB.out)⟩
                                      · replace c28 := Bool.eq_false_iff.mpr c28
                                        subst c28
                                        have H1 : (firnlaw09_ProvSets.l1 k4 l0 t124 x39_2 (rdOf ByteArray.empty t124 x39_2) false t124 (t124.length : Int) x39_2 t124 (t124.length : Int) (wrap64 (x79_4 + 1))) = some r := by rw [if_neg (show ¬ (false = true) by decide)] at H; exact H
                                        clear H
                                        have H := H1
                                        clear H1
                                        have H' := Aside0.mk H
                                        clear H
                                        have p132 : 0 ≤ (x79_4 : Int) := of_decide_eq_true (by first | (with_reducible assumption) | assumption)
                                        have q132 : x79_4 < (t124.length : Int) := of_decide_eq_true (by first | (with_reducible assumption) | assumption)
                                        obtain ⟨ad132, e132, hx132_0⟩ := Kd.at_string (Kd.R_reads' HO_77.out).2.2 x79_4 p132 q132
                                        obtain rfl : ad128 = ad132 := (by injection e132)
                                        replace p132 := eq_true p132
                                        replace q132 := eq_true q132
                                        go_wp2_with (first | (go_at_call 7; (with_reducible refine (firnref09_Part.calls k4 (rdOf ByteArray.empty t124 x39_2) (rdOf ByteArray.empty t124 x79_4) false _ A27.out).mono ?_); rintro e w' ⟨rfl, ⟨nd, rfl⟩⟩))
                                        go_roundg k4
                                        case measure => have := HJ4.out; have := HK2.out; have := HJ14.out; have := HK4.out; omega
                                        case rel => exact ⟨(wrap64 (x79_4 + 1)), (by first | rfl | (simp; done) | (simp [*]; done)), H', ⟨by have := HJ4.out; have := HK2.out; have := HJ14.out; have := HK4.out; omega⟩, ⟨by (with_reducible repeat (first | apply Kd.R_alloc | apply Kd.R_drewN | apply Kd.R_drew)); exact HO_3.out⟩, ⟨by (with_reducible repeat (first | apply Kd.R_alloc | apply Kd.R_drewN | apply Kd.R_drew)); exact HO_37.out⟩, ⟨by (with_reducible repeat (first | apply Kd.R_alloc | apply Kd.R_drewN | apply Kd.R_drew)); exact HO_77.out⟩, ⟨by repeat (first | (with_reducible first | exact HB.out | apply below_alloc | apply pw_below_drewN | apply below_drew1) | exact HB.out)⟩⟩
                                  · rw [if_neg c25] at H
                                    exact absurd H (by simp)
                                · rw [if_neg c24] at H
                                  exact absurd H (by simp)
                              · rw [if_neg c23] at H
                                have c23b0 : decide (x79_4 < (t124.length : Int)) = false := decide_eq_false c23
                                clear c23
                                have H' := Aside0.mk H
                                clear H
                                go_wp2
                                go_loopg [7, 95] k4 (fun kq v7 v95 w' => ∃ (x7_5 : Bool) (x95_5 : Int), v7 = .bool x7_5 ∧ v95 = .int .i64 x95_5 ∧ Aside0 (firnlaw09_ProvSets.l2 kq l0 t124 (rdOf ByteArray.empty t124 x39_2) x7_5 t124 (t124.length : Int) x39_2 l0 (l0.length : Int) x95_5 = some r) ∧ Aside0 (kq ≤ k4) ∧ Aside0 (Kd.R Kd.string 9 w' w.heap.size (fun _ => True) (.slice (some ad128) t124.length co11) t124) ∧ Aside0 (Kd.R Kd.string 9 w' w.heap.size (fun _ => True) (.slice (some ad128) t124.length co11) t124) ∧ Aside0 (Below w.heap.size w w'))
                                case atStart => exact ⟨(false), (0), (by first | rfl | (simp; done) | (simp [*]; done)), (by first | rfl | (simp; done) | (simp [*]; done)), H', ⟨Nat.le_refl _⟩, ⟨by (with_reducible repeat (first | apply Kd.R_alloc | apply Kd.R_drewN | apply Kd.R_drew)); exact HO_3.out⟩, ⟨by (with_reducible repeat (first | apply Kd.R_alloc | apply Kd.R_drewN | apply Kd.R_drew)); exact HO_37.out⟩, ⟨by repeat (first | (with_reducible first | exact HB.out | apply below_alloc | apply pw_below_drewN | apply below_drew1) | exact HB.out)⟩⟩
                                case round =>
                                  clear H'
                                  try clear c1
                                  try clear p1
                                  try clear q1
                                  try clear hx1
                                  try clear c2
                                  try clear p2
                                  try clear c3
                                  try clear c4
                                  try clear c6
                                  try clear p6
                                  try clear c8
                                  try clear c8b0
                                  try clear c8b1
                                  try clear c10
                                  try clear c12
                                  try clear c12b0
                                  try clear p12
                                  try clear q12
                                  try clear hx12
                                  try clear c13
                                  try clear c13b0
                                  try clear p13
                                  try clear q13
                                  try clear hx13
                                  try clear c14
                                  try clear c14b0
                                  try clear c16
                                  try clear c16b0
                                  try clear c18
                                  try clear c18b0
                                  try clear c19
                                  try clear c19b0
                                  try clear c20
                                  try clear c20b0
                                  try clear c20b1
                                  try clear c21
                                  try clear c21b0
                                  try clear c21b1
                                  try clear c21b2
                                  try clear c22
                                  try clear c23
                                  try clear c23b0
                                  try clear c24
                                  try clear c24b0
                                  try clear c25
                                  try clear c25b0
                                  try clear c26
                                  try clear c26b0
                                  try clear c26b1
                                  try clear c28
                                  try clear hx128_0
                                  try clear hx129_0
                                  try clear hx130_0
                                  try clear hx131_0
                                  try clear hx132_0
                                  try clear p1
                                  try clear p12
                                  try clear p128
                                  try clear p129
                                  try clear p13
                                  try clear p130
                                  try clear p131
                                  try clear p132
                                  try clear p2
                                  try clear p6
                                  try clear q1
                                  try clear q12
                                  try clear q128
                                  try clear q129
                                  try clear q13
                                  try clear q130
                                  try clear q131
                                  try clear q132
                                  obtain ⟨x7_5, x95_5, rfl, rfl, HA, HK5, HO_3, HO_37, HB⟩ := hrel
                                  cases gk with
                                  | zero => exact absurd HA.out (by simp [firnlaw09_ProvSets.l2])
                                  | succ k5 =>
                                    have H := HA.out
                                    clear HA
                                    simp only [firnlaw09_ProvSets.l2] at H
                                    by_cases c29 : x95_5 < (l0.length : Int)
                                    · rw [if_pos c29] at H
                                      have c29b0 : decide (x95_5 < (l0.length : Int)) = true := decide_eq_true c29
                                      clear c29
                                      by_cases c30 : 0 ≤ x95_5
                                      · rw [if_pos c30] at H
                                        have c30b0 : decide (0 ≤ x95_5) = true := decide_eq_true c30
                                        clear c30
                                        by_cases c31 : x95_5 < (l0.length : Int)
                                        · rw [if_pos c31] at H
                                          have c31b0 : decide (x95_5 < (l0.length : Int)) = true := decide_eq_true c31
                                          clear c31
                                          by_cases c32 : x7_5 = true
                                          · subst c32
                                            have H1 : (firnlaw09_ProvSets.l2 k5 l0 t124 (rdOf ByteArray.empty t124 x39_2) true t124 (t124.length : Int) x39_2 l0 (l0.length : Int) (wrap64 (x95_5 + 1))) = some r := by rw [if_pos rfl] at H; exact H
                                            clear H
                                            have H := H1
                                            clear H1
                                            have H' := Aside0.mk H
                                            clear H
                                            have p134 : 0 ≤ (x95_5 : Int) := of_decide_eq_true (by first | (with_reducible assumption) | assumption)
                                            have q134 : x95_5 < (l0.length : Int) := of_decide_eq_true (by first | (with_reducible assumption) | assumption)
                                            obtain ⟨ad134, e134, hx134_0, hx134_1⟩ := at_T31 HR0.out x95_5 p134 q134
                                            cases e134
                                            replace hx134_0 := (HB.out.cell (World.block_lt_of_cell? w _ hx134_0)).trans hx134_0
                                            replace hx134_1 := (HB.out.cell (World.block_lt_of_cell? w _ hx134_1)).trans hx134_1
                                            replace p134 := eq_true p134
                                            replace q134 := eq_true q134
                                            go_wp2_with (first | ((with_reducible refine gate_dst (N := 11) rfl ?_); refine box_event ?hg (N := 11) ?hd (cs := #[.string (⟨#[]⟩ : ByteArray), .int .i64 0]) (t := 31) ?hr ?_; (case hd => rfl); (case hg => rfl); (case hr => first | (go_simp; done) | (go_simp; rfl)); intro gb135 hg w33 hbox hb; have n0_ := Aside0.mk (Kd.R_below (by (with_reducible repeat (first | apply Kd.R_alloc | apply Kd.R_drewN | apply Kd.R_drew)); exact HO_3.out) hb); have n1_ := Aside0.mk (Kd.R_below (by (with_reducible repeat (first | apply Kd.R_alloc | apply Kd.R_drewN | apply Kd.R_drew)); exact HO_37.out) hb); have n2_ := Aside0.mk (below_step (by repeat (first | (with_reducible first | exact HB.out | apply below_alloc | apply pw_below_drewN | apply below_drew1) | exact HB.out)) hb); have n3_ := Aside0.mk (hbox); have n4_ := Aside0.mk ((by rw [hg]; exact (below_size (by repeat (first | (with_reducible first | exact HB.out | apply below_alloc | apply pw_below_drewN | apply below_drew1) | exact HB.out))) : w.heap.size ≤ gb135)); have n5_ := Aside0.mk ((by rw [hg]; exact (below_size (by repeat (first | (with_reducible first | exact HB.out | apply below_alloc | apply pw_below_drewN | apply below_drew1) | exact HB.out))) : w.heap.size ≤ gb135)); clear HO_3; clear HO_37; clear HB; have HO_3 := n0_; have HO_37 := n1_; have HB := n2_; have BK135 := n3_; have GW135 := n4_; have GE135 := n5_; clear n0_ n1_ n2_ n3_ n4_ n5_; clear hb hbox hg; have hcz34_0 : w33.cell? ⟨gb135, 0, none⟩ = some (.string (⟨#[]⟩ : ByteArray)) := (blk_cell BK135.out 0).trans rfl; have hcz34_1 : w33.cell? ⟨gb135, 1, none⟩ = some (.int .i64 0) := (blk_cell BK135.out 1).trans rfl; have hfz34_0 := blk_frozen BK135.out 0; have hfz34_1 := blk_frozen BK135.out 1))
                                            go_roundg k5
                                            case measure => have := HJ4.out; have := HK2.out; have := HJ14.out; have := HK4.out; have := HK5.out; omega
                                            case rel => exact ⟨(true), (wrap64 (x95_5 + 1)), (by first | rfl | (simp; done) | (simp [*]; done)), (by first | rfl | (simp; done) | (simp [*]; done)), H', ⟨by have := HJ4.out; have := HK2.out; have := HJ14.out; have := HK4.out; have := HK5.out; omega⟩, ⟨by (with_reducible repeat (first | apply Kd.R_alloc | apply Kd.R_drewN | apply Kd.R_drew)); exact Kd.R_mono (Kd.R_far (p := ⟨gb135, 1, none⟩) (Kd.R_far (p := ⟨gb135, 0, none⟩) (Kd.R_types HO_3.out BK135.out (by decide)) (fun _ hk => hk.2) (.string ((rd_T31 l0 x95_5).f0))) (fun _ hk => hk.2) (.int .i64 ((rd_T31 l0 x95_5).f1))) (fun _ hk => trivial)⟩, ⟨by (with_reducible repeat (first | apply Kd.R_alloc | apply Kd.R_drewN | apply Kd.R_drew)); exact Kd.R_mono (Kd.R_far (p := ⟨gb135, 1, none⟩) (Kd.R_far (p := ⟨gb135, 0, none⟩) (Kd.R_types HO_37.out BK135.out (by decide)) (fun _ hk => hk.2) (.string ((rd_T31 l0 x95_5).f0))) (fun _ hk => hk.2) (.int .i64 ((rd_T31 l0 x95_5).f1))) (fun _ hk => trivial)⟩, ⟨by repeat (first | (with_reducible first | exact HB.out | apply below_alloc | apply pw_below_drewN | apply below_drew1 | refine below_set ?_ GE135.out) | exact HB.out)⟩⟩
                                          · replace c32 := Bool.eq_false_iff.mpr c32
                                            subst c32
                                            have H1 : ((firnref09_Part.f k5 (rdOf ByteArray.empty t124 x39_2) ((rd_T31 l0 x95_5).f0)).bind fun t136 => (if t136 = true then ((firnref09_Part.f k5 ((rd_T31 l0 x95_5).f0) (rdOf ByteArray.empty t124 x39_2)).bind fun t137 => (firnlaw09_ProvSets.l2 k5 l0 t124 (rdOf ByteArray.empty t124 x39_2) t137 t124 (t124.length : Int) x39_2 l0 (l0.length : Int) (wrap64 (x95_5 + 1)))) else (firnlaw09_ProvSets.l2 k5 l0 t124 (rdOf ByteArray.empty t124 x39_2) false t124 (t124.length : Int) x39_2 l0 (l0.length : Int) (wrap64 (x95_5 + 1))))) = some r := by rw [if_neg (show ¬ (false = true) by decide)] at H; exact H
                                            clear H
                                            have H := H1
                                            clear H1
                                            replace H := Option.bind_eq_some_iff.mp H
                                            obtain ⟨t136, A350, H⟩ := H
                                            replace H : (if t136 = true then ((firnref09_Part.f k5 ((rd_T31 l0 x95_5).f0) (rdOf ByteArray.empty t124 x39_2)).bind fun t137 => (firnlaw09_ProvSets.l2 k5 l0 t124 (rdOf ByteArray.empty t124 x39_2) t137 t124 (t124.length : Int) x39_2 l0 (l0.length : Int) (wrap64 (x95_5 + 1)))) else (firnlaw09_ProvSets.l2 k5 l0 t124 (rdOf ByteArray.empty t124 x39_2) false t124 (t124.length : Int) x39_2 l0 (l0.length : Int) (wrap64 (x95_5 + 1)))) = some r := H
                                            have A35 := Aside0.mk A350
                                            clear A350
                                            by_cases c36 : t136 = true
                                            · subst c36
                                              have H1 : ((firnref09_Part.f k5 ((rd_T31 l0 x95_5).f0) (rdOf ByteArray.empty t124 x39_2)).bind fun t137 => (firnlaw09_ProvSets.l2 k5 l0 t124 (rdOf ByteArray.empty t124 x39_2) t137 t124 (t124.length : Int) x39_2 l0 (l0.length : Int) (wrap64 (x95_5 + 1)))) = some r := by rw [if_pos rfl] at H; exact H
                                              clear H
                                              have H := H1
                                              clear H1
                                              replace H := Option.bind_eq_some_iff.mp H
                                              obtain ⟨t137, A370, H⟩ := H
                                              replace H : (firnlaw09_ProvSets.l2 k5 l0 t124 (rdOf ByteArray.empty t124 x39_2) t137 t124 (t124.length : Int) x39_2 l0 (l0.length : Int) (wrap64 (x95_5 + 1))) = some r := H
                                              have A37 := Aside0.mk A370
                                              clear A370
                                              have H' := Aside0.mk H
                                              clear H
                                              have p134 : 0 ≤ (x95_5 : Int) := of_decide_eq_true (by first | (with_reducible assumption) | assumption)
                                              have q134 : x95_5 < (l0.length : Int) := of_decide_eq_true (by first | (with_reducible assumption) | assumption)
                                              obtain ⟨ad134, e134, hx134_0, hx134_1⟩ := at_T31 HR0.out x95_5 p134 q134
                                              cases e134
                                              replace hx134_0 := (HB.out.cell (World.block_lt_of_cell? w _ hx134_0)).trans hx134_0
                                              replace hx134_1 := (HB.out.cell (World.block_lt_of_cell? w _ hx134_1)).trans hx134_1
                                              replace p134 := eq_true p134
                                              replace q134 := eq_true q134
                                              go_wp2_with (first | ((with_reducible refine gate_dst (N := 11) rfl ?_); refine box_event ?hg (N := 11) ?hd (cs := #[.string (⟨#[]⟩ : ByteArray), .int .i64 0]) (t := 31) ?hr ?_; (case hd => rfl); (case hg => rfl); (case hr => first | (go_simp; done) | (go_simp; rfl)); intro gb135 hg w38 hbox hb; have n0_ := Aside0.mk (Kd.R_below (by (with_reducible repeat (first | apply Kd.R_alloc | apply Kd.R_drewN | apply Kd.R_drew)); exact HO_3.out) hb); have n1_ := Aside0.mk (Kd.R_below (by (with_reducible repeat (first | apply Kd.R_alloc | apply Kd.R_drewN | apply Kd.R_drew)); exact HO_37.out) hb); have n2_ := Aside0.mk (below_step (by repeat (first | (with_reducible first | exact HB.out | apply below_alloc | apply pw_below_drewN | apply below_drew1) | exact HB.out)) hb); have n3_ := Aside0.mk (hbox); have n4_ := Aside0.mk ((by rw [hg]; exact (below_size (by repeat (first | (with_reducible first | exact HB.out | apply below_alloc | apply pw_below_drewN | apply below_drew1) | exact HB.out))) : w.heap.size ≤ gb135)); have n5_ := Aside0.mk ((by rw [hg]; exact (below_size (by repeat (first | (with_reducible first | exact HB.out | apply below_alloc | apply pw_below_drewN | apply below_drew1) | exact HB.out))) : w.heap.size ≤ gb135)); clear HO_3; clear HO_37; clear HB; have HO_3 := n0_; have HO_37 := n1_; have HB := n2_; have BK135 := n3_; have GW135 := n4_; have GE135 := n5_; clear n0_ n1_ n2_ n3_ n4_ n5_; clear hb hbox hg; have hcz39_0 : w38.cell? ⟨gb135, 0, none⟩ = some (.string (⟨#[]⟩ : ByteArray)) := (blk_cell BK135.out 0).trans rfl; have hcz39_1 : w38.cell? ⟨gb135, 1, none⟩ = some (.int .i64 0) := (blk_cell BK135.out 1).trans rfl; have hfz39_0 := blk_frozen BK135.out 0; have hfz39_1 := blk_frozen BK135.out 1) | (go_at_call 7; (with_reducible refine (firnref09_Part.calls k5 (rdOf ByteArray.empty t124 x39_2) ((rd_T31 l0 x95_5).f0) true _ A35.out).mono ?_); rintro e w' ⟨rfl, ⟨nd, rfl⟩⟩) | (go_at_call 7; (with_reducible refine (firnref09_Part.calls k5 ((rd_T31 l0 x95_5).f0) (rdOf ByteArray.empty t124 x39_2) t137 _ A37.out).mono ?_); rintro e w' ⟨rfl, ⟨nd, rfl⟩⟩))
                                              go_roundg k5
                                              case measure => have := HJ4.out; have := HK2.out; have := HJ14.out; have := HK4.out; have := HK5.out; omega
                                              case rel => exact ⟨(t137), (wrap64 (x95_5 + 1)), (by first | rfl | (simp; done) | (simp [*]; done)), (by first | rfl | (simp; done) | (simp [*]; done)), H', ⟨by have := HJ4.out; have := HK2.out; have := HJ14.out; have := HK4.out; have := HK5.out; omega⟩, ⟨by (with_reducible repeat (first | apply Kd.R_alloc | apply Kd.R_drewN | apply Kd.R_drew)); exact Kd.R_mono (Kd.R_far (p := ⟨gb135, 1, none⟩) (Kd.R_far (p := ⟨gb135, 0, none⟩) (Kd.R_types HO_3.out BK135.out (by decide)) (fun _ hk => hk.2) (.string ((rd_T31 l0 x95_5).f0))) (fun _ hk => hk.2) (.int .i64 ((rd_T31 l0 x95_5).f1))) (fun _ hk => trivial)⟩, ⟨by (with_reducible repeat (first | apply Kd.R_alloc | apply Kd.R_drewN | apply Kd.R_drew)); exact Kd.R_mono (Kd.R_far (p := ⟨gb135, 1, none⟩) (Kd.R_far (p := ⟨gb135, 0, none⟩) (Kd.R_types HO_37.out BK135.out (by decide)) (fun _ hk => hk.2) (.string ((rd_T31 l0 x95_5).f0))) (fun _ hk => hk.2) (.int .i64 ((rd_T31 l0 x95_5).f1))) (fun _ hk => trivial)⟩, ⟨by repeat (first | (with_reducible first | exact HB.out | apply below_alloc | apply pw_below_drewN | apply below_drew1 | refine below_set ?_ GE135.out) | exact HB.out)⟩⟩
                                            · replace c36 := Bool.eq_false_iff.mpr c36
                                              subst c36
                                              have H1 : (firnlaw09_ProvSets.l2 k5 l0 t124 (rdOf ByteArray.empty t124 x39_2) false t124 (t124.length : Int) x39_2 l0 (l0.length : Int) (wrap64 (x95_5 + 1))) = some r := by rw [if_neg (show ¬ (false = true) by decide)] at H; exact H
                                              clear H
                                              have H := H1
                                              clear H1
                                              have H' := Aside0.mk H
                                              clear H
                                              have p134 : 0 ≤ (x95_5 : Int) := of_decide_eq_true (by first | (with_reducible assumption) | assumption)
                                              have q134 : x95_5 < (l0.length : Int) := of_decide_eq_true (by first | (with_reducible assumption) | assumption)
                                              obtain ⟨ad134, e134, hx134_0, hx134_1⟩ := at_T31 HR0.out x95_5 p134 q134
                                              cases e134
                                              replace hx134_0 := (HB.out.cell (World.block_lt_of_cell? w _ hx134_0)).trans hx134_0
                                              replace hx134_1 := (HB.out.cell (World.block_lt_of_cell? w _ hx134_1)).trans hx134_1
                                              replace p134 := eq_true p134
                                              replace q134 := eq_true q134
                                              go_wp2_with (first | ((with_reducible refine gate_dst (N := 11) rfl ?_); refine box_event ?hg (N := 11) ?hd (cs := #[.string (⟨#[]⟩ : ByteArray), .int .i64 0]) (t := 31) ?hr ?_; (case hd => rfl); (case hg => rfl); (case hr => first | (go_simp; done) | (go_simp; rfl)); intro gb135 hg w40 hbox hb; have n0_ := Aside0.mk (Kd.R_below (by (with_reducible repeat (first | apply Kd.R_alloc | apply Kd.R_drewN | apply Kd.R_drew)); exact HO_3.out) hb); have n1_ := Aside0.mk (Kd.R_below (by (with_reducible repeat (first | apply Kd.R_alloc | apply Kd.R_drewN | apply Kd.R_drew)); exact HO_37.out) hb); have n2_ := Aside0.mk (below_step (by repeat (first | (with_reducible first | exact HB.out | apply below_alloc | apply pw_below_drewN | apply below_drew1) | exact HB.out)) hb); have n3_ := Aside0.mk (hbox); have n4_ := Aside0.mk ((by rw [hg]; exact (below_size (by repeat (first | (with_reducible first | exact HB.out | apply below_alloc | apply pw_below_drewN | apply below_drew1) | exact HB.out))) : w.heap.size ≤ gb135)); have n5_ := Aside0.mk ((by rw [hg]; exact (below_size (by repeat (first | (with_reducible first | exact HB.out | apply below_alloc | apply pw_below_drewN | apply below_drew1) | exact HB.out))) : w.heap.size ≤ gb135)); clear HO_3; clear HO_37; clear HB; have HO_3 := n0_; have HO_37 := n1_; have HB := n2_; have BK135 := n3_; have GW135 := n4_; have GE135 := n5_; clear n0_ n1_ n2_ n3_ n4_ n5_; clear hb hbox hg; have hcz41_0 : w40.cell? ⟨gb135, 0, none⟩ = some (.string (⟨#[]⟩ : ByteArray)) := (blk_cell BK135.out 0).trans rfl; have hcz41_1 : w40.cell? ⟨gb135, 1, none⟩ = some (.int .i64 0) := (blk_cell BK135.out 1).trans rfl; have hfz41_0 := blk_frozen BK135.out 0; have hfz41_1 := blk_frozen BK135.out 1) | (go_at_call 7; (with_reducible refine (firnref09_Part.calls k5 (rdOf ByteArray.empty t124 x39_2) ((rd_T31 l0 x95_5).f0) false _ A35.out).mono ?_); rintro e w' ⟨rfl, ⟨nd, rfl⟩⟩))
                                              go_roundg k5
                                              case measure => have := HJ4.out; have := HK2.out; have := HJ14.out; have := HK4.out; have := HK5.out; omega
                                              case rel => exact ⟨(false), (wrap64 (x95_5 + 1)), (by first | rfl | (simp; done) | (simp [*]; done)), (by first | rfl | (simp; done) | (simp [*]; done)), H', ⟨by have := HJ4.out; have := HK2.out; have := HJ14.out; have := HK4.out; have := HK5.out; omega⟩, ⟨by (with_reducible repeat (first | apply Kd.R_alloc | apply Kd.R_drewN | apply Kd.R_drew)); exact Kd.R_mono (Kd.R_far (p := ⟨gb135, 1, none⟩) (Kd.R_far (p := ⟨gb135, 0, none⟩) (Kd.R_types HO_3.out BK135.out (by decide)) (fun _ hk => hk.2) (.string ((rd_T31 l0 x95_5).f0))) (fun _ hk => hk.2) (.int .i64 ((rd_T31 l0 x95_5).f1))) (fun _ hk => trivial)⟩, ⟨by (with_reducible repeat (first | apply Kd.R_alloc | apply Kd.R_drewN | apply Kd.R_drew)); exact Kd.R_mono (Kd.R_far (p := ⟨gb135, 1, none⟩) (Kd.R_far (p := ⟨gb135, 0, none⟩) (Kd.R_types HO_37.out BK135.out (by decide)) (fun _ hk => hk.2) (.string ((rd_T31 l0 x95_5).f0))) (fun _ hk => hk.2) (.int .i64 ((rd_T31 l0 x95_5).f1))) (fun _ hk => trivial)⟩, ⟨by repeat (first | (with_reducible first | exact HB.out | apply below_alloc | apply pw_below_drewN | apply below_drew1 | refine below_set ?_ GE135.out) | exact HB.out)⟩⟩
                                        · rw [if_neg c31] at H
                                          exact absurd H (by simp)
                                      · rw [if_neg c30] at H
                                        exact absurd H (by simp)
                                    · rw [if_neg c29] at H
                                      have c29b0 : decide (x95_5 < (l0.length : Int)) = false := decide_eq_false c29
                                      clear c29
                                      by_cases c42 : x7_5 = true
                                      · subst c42
                                        have H1 : (firnlaw09_ProvSets.l0 k5 l0 t124 t124 (t124.length : Int) (wrap64 (x39_2 + 1))) = some r := by rw [if_pos rfl] at H; exact H
                                        clear H
                                        have H := H1
                                        clear H1
                                        have H' := Aside0.mk H
                                        clear H
                                        go_wp2
                                        go_roundg k5
                                        case measure => have := HJ4.out; have := HK2.out; have := HJ14.out; have := HK4.out; have := HK5.out; omega
                                        case rel => exact ⟨(wrap64 (x39_2 + 1)), (by first | rfl | (simp; done) | (simp [*]; done)), H', ⟨by have := HJ4.out; have := HK2.out; have := HJ14.out; have := HK4.out; have := HK5.out; omega⟩, ⟨by (with_reducible repeat (first | apply Kd.R_alloc | apply Kd.R_drewN | apply Kd.R_drew)); exact HO_3.out⟩, ⟨by (with_reducible repeat (first | apply Kd.R_alloc | apply Kd.R_drewN | apply Kd.R_drew)); exact HO_37.out⟩, ⟨by repeat (first | (with_reducible first | exact HB.out | apply below_alloc | apply pw_below_drewN | apply below_drew1) | exact HB.out)⟩⟩
                                      · replace c42 := Bool.eq_false_iff.mpr c42
                                        subst c42
                                        have H1 : (some false) = some r := by rw [if_neg (show ¬ (false = true) by decide)] at H; exact H
                                        clear H
                                        have H := H1
                                        clear H1
                                        obtain rfl := Option.some.inj H
                                        go_wp2
                                        go_ret
                                        exact ⟨by first | rfl | (simp [errW_none, errW_some] <;> rfl) | (simp [*, errW_none, errW_some] <;> rfl), by repeat (first | (with_reducible first | exact HB.out | apply below_alloc | apply pw_below_drewN | apply below_drew1) | exact HB.out)⟩
                  · rw [if_neg c14] at H
                    exact absurd H (by simp)
                · rw [if_neg c13] at H
                  exact absurd H (by simp)
              · rw [if_neg c12] at H
                have c12b0 : decide (x39_2 < (t124.length : Int)) = false := decide_eq_false c12
                clear c12
                have H' := Aside0.mk H
                clear H
                go_wp2
                go_loopg [118] k2 (fun kq v118 w' => ∃ (x118_3 : Int), v118 = .int .i64 x118_3 ∧ Aside0 (firnlaw09_ProvSets.l3 kq t124 l0 (l0.length : Int) x118_3 = some r) ∧ Aside0 (kq ≤ k2) ∧ Aside0 (Kd.R Kd.string 9 w' w.heap.size (fun _ => True) (.slice Ao11 t124.length co11) t124) ∧ Aside0 (Below w.heap.size w w'))
                case atStart => exact ⟨(0), (by first | rfl | (simp; done) | (simp [*]; done)), H', ⟨Nat.le_refl _⟩, ⟨by (with_reducible repeat (first | apply Kd.R_alloc | apply Kd.R_drewN | apply Kd.R_drew)); exact HO_3.out⟩, ⟨by repeat (first | (with_reducible first | exact HB.out | apply below_alloc | apply pw_below_drewN | apply below_drew1) | exact HB.out)⟩⟩
                case round =>
                  clear H'
                  try clear c1
                  try clear p1
                  try clear q1
                  try clear hx1
                  try clear c2
                  try clear p2
                  try clear c3
                  try clear c4
                  try clear c6
                  try clear p6
                  try clear c8
                  try clear c8b0
                  try clear c8b1
                  try clear c10
                  try clear c12
                  try clear c12b0
                  try clear p12
                  try clear q12
                  try clear hx12
                  try clear c13
                  try clear c13b0
                  try clear p13
                  try clear q13
                  try clear hx13
                  try clear c14
                  try clear c14b0
                  try clear c16
                  try clear c16b0
                  try clear c18
                  try clear c18b0
                  try clear c19
                  try clear c19b0
                  try clear c20
                  try clear c20b0
                  try clear c20b1
                  try clear c21
                  try clear c21b0
                  try clear c21b1
                  try clear c21b2
                  try clear c22
                  try clear c23
                  try clear c23b0
                  try clear c24
                  try clear c24b0
                  try clear c25
                  try clear c25b0
                  try clear c26
                  try clear c26b0
                  try clear c26b1
                  try clear c28
                  try clear c29
                  try clear c29b0
                  try clear c30
                  try clear c30b0
                  try clear c31
                  try clear c31b0
                  try clear c32
                  try clear c36
                  try clear c42
                  try clear hcz34_0
                  try clear hcz34_1
                  try clear hcz39_0
                  try clear hcz39_1
                  try clear hcz41_0
                  try clear hcz41_1
                  try clear hfz34_0
                  try clear hfz34_1
                  try clear hfz39_0
                  try clear hfz39_1
                  try clear hfz41_0
                  try clear hfz41_1
                  try clear hx128_0
                  try clear hx129_0
                  try clear hx130_0
                  try clear hx131_0
                  try clear hx132_0
                  try clear hx134_0
                  try clear hx134_1
                  try clear p1
                  try clear p12
                  try clear p128
                  try clear p129
                  try clear p13
                  try clear p130
                  try clear p131
                  try clear p132
                  try clear p134
                  try clear p2
                  try clear p6
                  try clear q1
                  try clear q12
                  try clear q128
                  try clear q129
                  try clear q13
                  try clear q130
                  try clear q131
                  try clear q132
                  try clear q134
                  obtain ⟨x118_3, rfl, HA, HK3, HO_3, HB⟩ := hrel
                  cases gk with
                  | zero => exact absurd HA.out (by simp [firnlaw09_ProvSets.l3])
                  | succ k3 =>
                    have H := HA.out
                    clear HA
                    simp only [firnlaw09_ProvSets.l3] at H
                    by_cases c43 : x118_3 < (l0.length : Int)
                    · rw [if_pos c43] at H
                      have c43b0 : decide (x118_3 < (l0.length : Int)) = true := decide_eq_true c43
                      clear c43
                      by_cases c44 : 0 ≤ x118_3
                      · rw [if_pos c44] at H
                        have c44b0 : decide (0 ≤ x118_3) = true := decide_eq_true c44
                        clear c44
                        by_cases c45 : x118_3 < (l0.length : Int)
                        · rw [if_pos c45] at H
                          have c45b0 : decide (x118_3 < (l0.length : Int)) = true := decide_eq_true c45
                          clear c45
                          have H' := Aside0.mk H
                          clear H
                          have p139 : 0 ≤ (x118_3 : Int) := of_decide_eq_true (by first | (with_reducible assumption) | assumption)
                          have q139 : x118_3 < (l0.length : Int) := of_decide_eq_true (by first | (with_reducible assumption) | assumption)
                          obtain ⟨ad139, e139, hx139_0, hx139_1⟩ := at_T31 HR0.out x118_3 p139 q139
                          cases e139
                          replace hx139_0 := (HB.out.cell (World.block_lt_of_cell? w _ hx139_0)).trans hx139_0
                          replace hx139_1 := (HB.out.cell (World.block_lt_of_cell? w _ hx139_1)).trans hx139_1
                          replace p139 := eq_true p139
                          replace q139 := eq_true q139
                          go_wp2_with (first | ((with_reducible refine gate_dst (N := 13) rfl ?_); refine box_event ?hg (N := 13) ?hd (cs := #[.string (⟨#[]⟩ : ByteArray), .int .i64 0]) (t := 31) ?hr ?_; (case hd => rfl); (case hg => rfl); (case hr => first | (go_simp; done) | (go_simp; rfl)); intro gb140 hg w46 hbox hb; have n0_ := Aside0.mk (Kd.R_below (by (with_reducible repeat (first | apply Kd.R_alloc | apply Kd.R_drewN | apply Kd.R_drew)); exact HO_3.out) hb); have n1_ := Aside0.mk (below_step (by repeat (first | (with_reducible first | exact HB.out | apply below_alloc | apply pw_below_drewN | apply below_drew1) | exact HB.out)) hb); have n2_ := Aside0.mk (hbox); have n3_ := Aside0.mk ((by rw [hg]; exact (below_size (by repeat (first | (with_reducible first | exact HB.out | apply below_alloc | apply pw_below_drewN | apply below_drew1) | exact HB.out))) : w.heap.size ≤ gb140)); have n4_ := Aside0.mk ((by rw [hg]; exact (below_size (by repeat (first | (with_reducible first | exact HB.out | apply below_alloc | apply pw_below_drewN | apply below_drew1) | exact HB.out))) : w.heap.size ≤ gb140)); clear HO_3; clear HB; have HO_3 := n0_; have HB := n1_; have BK140 := n2_; have GW140 := n3_; have GE140 := n4_; clear n0_ n1_ n2_ n3_ n4_; clear hb hbox hg; have hcz47_0 : w46.cell? ⟨gb140, 0, none⟩ = some (.string (⟨#[]⟩ : ByteArray)) := (blk_cell BK140.out 0).trans rfl; have hcz47_1 : w46.cell? ⟨gb140, 1, none⟩ = some (.int .i64 0) := (blk_cell BK140.out 1).trans rfl; have hfz47_0 := blk_frozen BK140.out 0; have hfz47_1 := blk_frozen BK140.out 1))
                          go_loopg [14, 124] k3 (fun kq v14 v124 w' => ∃ (x14_4 : Bool) (x124_4 : Int), v14 = .bool x14_4 ∧ v124 = .int .i64 x124_4 ∧ Aside0 (firnlaw09_ProvSets.l4 kq t124 x14_4 l0 (l0.length : Int) x118_3 t124 (t124.length : Int) x124_4 ((rd_T31 l0 x118_3).f0) ((rd_T31 l0 x118_3).f1) = some r) ∧ Aside0 (kq ≤ k3) ∧ Aside0 (Kd.R Kd.string 9 w' w.heap.size (fun _ => True) (.slice Ao11 t124.length co11) t124) ∧ Aside0 (Kd.R Kd.string 9 w' w.heap.size (fun _ => True) (.slice Ao11 t124.length co11) t124) ∧ Aside0 (w'.heap[gb140]? = some (.cells #[.string ((rd_T31 l0 x118_3).f0), .int .i64 ((rd_T31 l0 x118_3).f1)] 31 (0, 0))) ∧ Aside0 (Below w.heap.size w w'))
                          case atStart => exact ⟨(false), (0), (by first | rfl | (simp; done) | (simp [*]; done)), (by first | rfl | (simp; done) | (simp [*]; done)), H', ⟨Nat.le_refl _⟩, ⟨by (with_reducible repeat (first | apply Kd.R_alloc | apply Kd.R_drewN | apply Kd.R_drew)); exact Kd.R_mono (Kd.R_far (p := ⟨gb140, 1, none⟩) (Kd.R_far (p := ⟨gb140, 0, none⟩) (Kd.R_types HO_3.out BK140.out (by decide)) (fun _ hk => hk.2) (.string ((rd_T31 l0 x118_3).f0))) (fun _ hk => hk.2) (.int .i64 ((rd_T31 l0 x118_3).f1))) (fun _ hk => trivial)⟩, ⟨by (with_reducible repeat (first | apply Kd.R_alloc | apply Kd.R_drewN | apply Kd.R_drew)); exact Kd.R_mono (Kd.R_far (p := ⟨gb140, 1, none⟩) (Kd.R_far (p := ⟨gb140, 0, none⟩) (Kd.R_types HO_3.out BK140.out (by decide)) (fun _ hk => hk.2) (.string ((rd_T31 l0 x118_3).f0))) (fun _ hk => hk.2) (.int .i64 ((rd_T31 l0 x118_3).f1))) (fun _ hk => trivial)⟩, ⟨by (with_reducible repeat (first | refine blk_drewN ?_ _ | refine blk_drew ?_ | refine blk_alloc ?_ _)); refine blk_put (cs := #[.string ((rd_T31 l0 x118_3).f0), .int .i64 0]) ?_ 1 _ rfl; (with_reducible repeat (first | refine blk_drewN ?_ _ | refine blk_drew ?_ | refine blk_alloc ?_ _)); refine blk_put (cs := #[.string (⟨#[]⟩ : ByteArray), .int .i64 0]) ?_ 0 _ rfl; (with_reducible repeat (first | refine blk_drewN ?_ _ | refine blk_drew ?_ | refine blk_alloc ?_ _)); exact BK140.out⟩, ⟨by repeat (first | (with_reducible first | exact HB.out | apply below_alloc | apply pw_below_drewN | apply below_drew1 | refine below_set ?_ GE140.out) | exact HB.out)⟩⟩
                          case round =>
                            clear H'
                            try clear c1
                            try clear p1
                            try clear q1
                            try clear hx1
                            try clear c2
                            try clear p2
                            try clear c3
                            try clear c4
                            try clear c6
                            try clear p6
                            try clear c8
                            try clear c8b0
                            try clear c8b1
                            try clear c10
                            try clear c12
                            try clear c12b0
                            try clear p12
                            try clear q12
                            try clear hx12
                            try clear c13
                            try clear c13b0
                            try clear p13
                            try clear q13
                            try clear hx13
                            try clear c14
                            try clear c14b0
                            try clear c16
                            try clear c16b0
                            try clear c18
                            try clear c18b0
                            try clear c19
                            try clear c19b0
                            try clear c20
                            try clear c20b0
                            try clear c20b1
                            try clear c21
                            try clear c21b0
                            try clear c21b1
                            try clear c21b2
                            try clear c22
                            try clear c23
                            try clear c23b0
                            try clear c24
                            try clear c24b0
                            try clear c25
                            try clear c25b0
                            try clear c26
                            try clear c26b0
                            try clear c26b1
                            try clear c28
                            try clear c29
                            try clear c29b0
                            try clear c30
                            try clear c30b0
                            try clear c31
                            try clear c31b0
                            try clear c32
                            try clear c36
                            try clear c42
                            try clear c43
                            try clear c43b0
                            try clear c44
                            try clear c44b0
                            try clear c45
                            try clear c45b0
                            try clear hcz34_0
                            try clear hcz34_1
                            try clear hcz39_0
                            try clear hcz39_1
                            try clear hcz41_0
                            try clear hcz41_1
                            try clear hcz47_0
                            try clear hcz47_1
                            try clear hfz34_0
                            try clear hfz34_1
                            try clear hfz39_0
                            try clear hfz39_1
                            try clear hfz41_0
                            try clear hfz41_1
                            try clear hfz47_0
                            try clear hfz47_1
                            try clear hx128_0
                            try clear hx129_0
                            try clear hx130_0
                            try clear hx131_0
                            try clear hx132_0
                            try clear hx134_0
                            try clear hx134_1
                            try clear hx139_0
                            try clear hx139_1
                            try clear p1
                            try clear p12
                            try clear p128
                            try clear p129
                            try clear p13
                            try clear p130
                            try clear p131
                            try clear p132
                            try clear p134
                            try clear p139
                            try clear p2
                            try clear p6
                            try clear q1
                            try clear q12
                            try clear q128
                            try clear q129
                            try clear q13
                            try clear q130
                            try clear q131
                            try clear q132
                            try clear q134
                            try clear q139
                            obtain ⟨x14_4, x124_4, rfl, rfl, HA, HK4, HO_3, HO_122, BK140, HB⟩ := hrel
                            cases gk with
                            | zero => exact absurd HA.out (by simp [firnlaw09_ProvSets.l4])
                            | succ k4 =>
                              have H := HA.out
                              clear HA
                              simp only [firnlaw09_ProvSets.l4] at H
                              by_cases c48 : x124_4 < (t124.length : Int)
                              · rw [if_pos c48] at H
                                have c48b0 : decide (x124_4 < (t124.length : Int)) = true := decide_eq_true c48
                                clear c48
                                by_cases c49 : 0 ≤ x124_4
                                · rw [if_pos c49] at H
                                  have c49b0 : decide (0 ≤ x124_4) = true := decide_eq_true c49
                                  clear c49
                                  by_cases c50 : x124_4 < (t124.length : Int)
                                  · rw [if_pos c50] at H
                                    have c50b0 : decide (x124_4 < (t124.length : Int)) = true := decide_eq_true c50
                                    clear c50
                                    by_cases c51 : x14_4 = true
                                    · subst c51
                                      have H1 : (firnlaw09_ProvSets.l4 k4 t124 true l0 (l0.length : Int) x118_3 t124 (t124.length : Int) (wrap64 (x124_4 + 1)) ((rd_T31 l0 x118_3).f0) ((rd_T31 l0 x118_3).f1)) = some r := by rw [if_pos rfl] at H; exact H
                                      clear H
                                      have H := H1
                                      clear H1
                                      have H' := Aside0.mk H
                                      clear H
                                      have p141 : 0 ≤ (x124_4 : Int) := of_decide_eq_true (by first | (with_reducible assumption) | assumption)
                                      have q141 : x124_4 < (t124.length : Int) := of_decide_eq_true (by first | (with_reducible assumption) | assumption)
                                      obtain ⟨ad141, e141, hx141_0⟩ := Kd.at_string (Kd.R_reads' HO_122.out).2.2 x124_4 p141 q141
                                      cases e141
                                      replace p141 := eq_true p141
                                      replace q141 := eq_true q141
                                      go_wp2
                                      go_roundg k4
                                      case measure => have := HJ4.out; have := HK2.out; have := HK3.out; have := HK4.out; omega
                                      case rel => exact ⟨(true), (wrap64 (x124_4 + 1)), (by first | rfl | (simp; done) | (simp [*]; done)), (by first | rfl | (simp; done) | (simp [*]; done)), H', ⟨by have := HJ4.out; have := HK2.out; have := HK3.out; have := HK4.out; omega⟩, ⟨by (with_reducible repeat (first | apply Kd.R_alloc | apply Kd.R_drewN | apply Kd.R_drew)); exact HO_3.out⟩, ⟨by (with_reducible repeat (first | apply Kd.R_alloc | apply Kd.R_drewN | apply Kd.R_drew)); exact HO_122.out⟩, ⟨by (with_reducible repeat (first | refine blk_drewN ?_ _ | refine blk_drew ?_ | refine blk_alloc ?_ _)); exact BK140.out⟩, ⟨by repeat (first | (with_reducible first | exact HB.out | apply below_alloc | apply pw_below_drewN | apply below_drew1 | refine below_set ?_ GE140.out) | exact HB.out)⟩⟩
                                    · replace c51 := Bool.eq_false_iff.mpr c51
                                      subst c51
                                      have H1 : ((firnref09_Part.f k4 (rdOf ByteArray.empty t124 x124_4) ((rd_T31 l0 x118_3).f0)).bind fun t142 => (firnlaw09_ProvSets.l4 k4 t124 t142 l0 (l0.length : Int) x118_3 t124 (t124.length : Int) (wrap64 (x124_4 + 1)) ((rd_T31 l0 x118_3).f0) ((rd_T31 l0 x118_3).f1))) = some r := by rw [if_neg (show ¬ (false = true) by decide)] at H; exact H
                                      clear H
                                      have H := H1
                                      clear H1
                                      replace H := Option.bind_eq_some_iff.mp H
                                      obtain ⟨t142, A520, H⟩ := H
                                      replace H : (firnlaw09_ProvSets.l4 k4 t124 t142 l0 (l0.length : Int) x118_3 t124 (t124.length : Int) (wrap64 (x124_4 + 1)) ((rd_T31 l0 x118_3).f0) ((rd_T31 l0 x118_3).f1)) = some r := H
                                      have A52 := Aside0.mk A520
                                      clear A520
                                      have H' := Aside0.mk H
                                      clear H
                                      have p141 : 0 ≤ (x124_4 : Int) := of_decide_eq_true (by first | (with_reducible assumption) | assumption)
                                      have q141 : x124_4 < (t124.length : Int) := of_decide_eq_true (by first | (with_reducible assumption) | assumption)
                                      obtain ⟨ad141, e141, hx141_0⟩ := Kd.at_string (Kd.R_reads' HO_122.out).2.2 x124_4 p141 q141
                                      cases e141
                                      replace p141 := eq_true p141
                                      replace q141 := eq_true q141
                                      have hcz53_0 : wr.cell? ⟨gb140, 0, none⟩ = some (.string ((rd_T31 l0 x118_3).f0)) := (blk_cell BK140.out 0).trans rfl
                                      have hcz53_1 : wr.cell? ⟨gb140, 1, none⟩ = some (.int .i64 ((rd_T31 l0 x118_3).f1)) := (blk_cell BK140.out 1).trans rfl
                                      have hfz53_0 := blk_frozen BK140.out 0
                                      have hfz53_1 := blk_frozen BK140.out 1
                                      go_wp2_with (first | (go_at_call 7; (with_reducible refine (firnref09_Part.calls k4 (rdOf ByteArray.empty t124 x124_4) ((rd_T31 l0 x118_3).f0) t142 _ A52.out).mono ?_); rintro e w' ⟨rfl, ⟨nd, rfl⟩⟩))
                                      go_roundg k4
                                      case measure => have := HJ4.out; have := HK2.out; have := HK3.out; have := HK4.out; omega
                                      case rel => exact ⟨(t142), (wrap64 (x124_4 + 1)), (by first | rfl | (simp; done) | (simp [*]; done)), (by first | rfl | (simp; done) | (simp [*]; done)), H', ⟨by have := HJ4.out; have := HK2.out; have := HK3.out; have := HK4.out; omega⟩, ⟨by (with_reducible repeat (first | apply Kd.R_alloc | apply Kd.R_drewN | apply Kd.R_drew)); exact HO_3.out⟩, ⟨by (with_reducible repeat (first | apply Kd.R_alloc | apply Kd.R_drewN | apply Kd.R_drew)); exact HO_122.out⟩, ⟨by (with_reducible repeat (first | refine blk_drewN ?_ _ | refine blk_drew ?_ | refine blk_alloc ?_ _)); exact BK140.out⟩, ⟨by repeat (first | (with_reducible first | exact HB.out | apply below_alloc | apply pw_below_drewN | apply below_drew1 | refine below_set ?_ GE140.out) | exact HB.out)⟩⟩
                                  · rw [if_neg c50] at H
                                    exact absurd H (by simp)
                                · rw [if_neg c49] at H
                                  exact absurd H (by simp)
                              · rw [if_neg c48] at H
                                have c48b0 : decide (x124_4 < (t124.length : Int)) = false := decide_eq_false c48
                                clear c48
                                by_cases c54 : x14_4 = true
                                · subst c54
                                  have H1 : (firnlaw09_ProvSets.l3 k4 t124 l0 (l0.length : Int) (wrap64 (x118_3 + 1))) = some r := by rw [if_pos rfl] at H; exact H
                                  clear H
                                  have H := H1
                                  clear H1
                                  have H' := Aside0.mk H
                                  clear H
                                  go_wp2
                                  go_roundg k4
                                  case measure => have := HJ4.out; have := HK2.out; have := HK3.out; have := HK4.out; omega
                                  case rel => exact ⟨(wrap64 (x118_3 + 1)), (by first | rfl | (simp; done) | (simp [*]; done)), H', ⟨by have := HJ4.out; have := HK2.out; have := HK3.out; have := HK4.out; omega⟩, ⟨by (with_reducible repeat (first | apply Kd.R_alloc | apply Kd.R_drewN | apply Kd.R_drew)); exact HO_3.out⟩, ⟨by repeat (first | (with_reducible first | exact HB.out | apply below_alloc | apply pw_below_drewN | apply below_drew1 | refine below_set ?_ GE140.out) | exact HB.out)⟩⟩
                                · replace c54 := Bool.eq_false_iff.mpr c54
                                  subst c54
                                  have H1 : (some false) = some r := by rw [if_neg (show ¬ (false = true) by decide)] at H; exact H
                                  clear H
                                  have H := H1
                                  clear H1
                                  obtain rfl := Option.some.inj H
                                  go_wp2
                                  go_ret
                                  exact ⟨by first | rfl | (simp [errW_none, errW_some] <;> rfl) | (simp [*, errW_none, errW_some] <;> rfl), by repeat (first | (with_reducible first | exact HB.out | apply below_alloc | apply pw_below_drewN | apply below_drew1 | refine below_set ?_ GE140.out) | exact HB.out)⟩
                        · rw [if_neg c45] at H
                          exact absurd H (by simp)
                      · rw [if_neg c44] at H
                        exact absurd H (by simp)
                    · rw [if_neg c43] at H
                      have c43b0 : decide (x118_3 < (l0.length : Int)) = false := decide_eq_false c43
                      clear c43
                      replace H := Option.bind_eq_some_iff.mp H
                      obtain ⟨t138, A550, H⟩ := H
                      replace H : (some t138) = some r := H
                      have A55 := Aside0.mk A550
                      clear A550
                      obtain rfl := Option.some.inj H
                      go_wp2_with (first | ((with_reducible refine gate_callee (f := 5) rfl ?_); refine goesL_ (some 139) rfl rfl Tryd.func5 (by kernel_rfl) rfl #[] rfl (by (try simp only [List.map_toArray, List.map_cons, List.map_nil]); first | done | rfl | (simp only [List.length_drop, List.length_take]; rfl)) ?_; (with_reducible refine (firnlaw09_Awake.calls k3  t138 _ A55.out).mono ?_); rintro e w56 ⟨rfl, hb⟩; refine ⟨_, rfl, ?_⟩; have n0_ := Aside0.mk (Kd.R_below (by (with_reducible repeat (first | apply Kd.R_alloc | apply Kd.R_drewN | apply Kd.R_drew)); exact HO_3.out) hb); have n1_ := Aside0.mk (below_step (by repeat (first | (with_reducible first | exact HB.out | apply below_alloc | apply pw_below_drewN | apply below_drew1) | exact HB.out)) hb); clear HO_3; clear HB; have HO_3 := n0_; have HB := n1_; clear n0_ n1_; (try clear hb); (try clear hb2); (try clear hk); (try clear hi)))
                      go_ret
                      exact ⟨by first | rfl | (simp [errW_none, errW_some] <;> rfl) | (simp [*, errW_none, errW_some] <;> rfl), by repeat (first | (with_reducible first | exact HB.out | apply below_alloc | apply pw_below_drewN | apply below_drew1) | exact HB.out)⟩
  · replace c3 := Bool.eq_false_iff.mpr c3
    subst c3
    have H1 : ((firnlaw09_Awake.f k).bind fun t123 => (some t123)) = some r := by rw [if_neg (show ¬ (false = true) by decide)] at H; exact H
    clear H
    have H := H1
    clear H1
    replace H := Option.bind_eq_some_iff.mp H
    obtain ⟨t123, A570, H⟩ := H
    replace H : (some t123) = some r := H
    have A57 := Aside0.mk A570
    clear A570
    obtain rfl := Option.some.inj H
    go_enter Tryd.func3, Tryd.ntmps3
    go_wp2_with (first | ((with_reducible refine gate_callee (f := 4) rfl ?_); refine goesL_ (some 18) rfl rfl Tryd.func4 (by kernel_rfl) rfl #[.slice A0 l0.length c0] rfl (by (try simp only [List.map_toArray, List.map_cons, List.map_nil]); first | done | rfl | (simp only [List.length_drop, List.length_take]; rfl)) ?_; (with_reducible refine (firnref09_ValidSum.calls _ _ l0 false _ ?side1 ?side2 A2.out).mono ?_); (case side1 => repeat (first | exact HR0.out | (with_reducible refine Kd.C_alloc ?_ _) | (with_reducible refine Kd.C_drewN ?_ _) | (with_reducible refine Kd.C_drew ?_))); (case side2 => exact HC0.out); rintro e w58 ⟨rfl, hb⟩; refine ⟨_, rfl, ?_⟩; have n0_ := Aside0.mk (below_step (by repeat (first | (with_reducible first | exact HB.out | apply below_alloc | apply pw_below_drewN | apply below_drew1) | exact HB.out)) hb); clear HB; have HB := n0_; clear n0_; (try clear hb); (try clear hb2); (try clear hk); (try clear hi)) | ((with_reducible refine gate_callee (f := 5) rfl ?_); refine goesL_ (some 20) rfl rfl Tryd.func5 (by kernel_rfl) rfl #[] rfl (by (try simp only [List.map_toArray, List.map_cons, List.map_nil]); first | done | rfl | (simp only [List.length_drop, List.length_take]; rfl)) ?_; (with_reducible refine (firnlaw09_Awake.calls k  t123 _ A57.out).mono ?_); rintro e w59 ⟨rfl, hb⟩; refine ⟨_, rfl, ?_⟩; have n0_ := Aside0.mk (below_step (by repeat (first | (with_reducible first | exact HB.out | apply below_alloc | apply pw_below_drewN | apply below_drew1) | exact HB.out)) hb); clear HB; have HB := n0_; clear n0_; (try clear hb); (try clear hb2); (try clear hk); (try clear hi)))
    go_ret
    exact ⟨by first | rfl | (simp [errW_none, errW_some] <;> rfl) | (simp [*, errW_none, errW_some] <;> rfl), by repeat (first | (with_reducible first | exact HB.out | apply below_alloc | apply pw_below_drewN | apply below_drew1) | exact HB.out)⟩

end Go.Proofs.YtbngenfedbmhiaaDoor.P
