-- WRITTEN FOR THIS CLAIM BY A PROGRAM OF THIS SESSION (wip/tools), which turns the lines of the kit's print
import Derived.Test.YtbngenfedbmhiaaDoor0
import Derived.Test.YtbngenfedbmhiaaDoorSA
import Derived.Test.YtbngenfedbmhiaaDoorSF
import Derived.Test.YtbngenfedbmhiaaDoorSV
import Derived.Test.YtbngenfedbmhiaaDoorSW
import Derived.Test.YtbngenfedbmhiaaDoorF10
import Derived.Test.YtbngenfedbmhiaaDoorF11
import Derived.Test.YtbngenfedbmhiaaDoorF12
import Derived.Test.YtbngenfedbmhiaaDoorF15
import Derived.Test.YtbngenfedbmhiaaDoorF16
import Derived.Laws.AppendOwn
import Derived.OwnWalk
namespace Go.Proofs.YtbngenfedbmhiaaDoor.P
open Go.RowKit Go.Proofs.YtbngenfedbmhiaaDoorW.PrintWords Go.Proofs.YtbngenfedbmhiaaDoorW.PrintLast Go.Proofs.YtbngenfedbmhiaaDoorW.PrintMore
attribute [local go_sem] max2_int min2_int max_two min_two max_three min_three max_four min_four   -- for this text's walks alone
set_option linter.unusedVariables false
set_option linter.unusedSimpArgs false

/-! ### prov_Why: function 6 -/
-- IMPORTS Derived.Laws.AppendOwn Derived.OwnWalk
open Go.Sort Go.Lib
theorem infoStr : (Tryd.prog.info? 9).map (fun i => (i.zero, i.size, i.bytes)) = some (some (.string ⟨#[]⟩), 1, 16) := by kernel_rfl
theorem validSum_any (A : Option Addr) (c : Nat) (l : List S31) (w : World) (hr : Kd.C k31 w A l.length l) (hc : l.length ≤ c) (h : sumIn l = true) :
    Calls Tryd.prog 10 #[.slice A l.length c] w fun e w' => e = .returned (.bool (validB l)) ∧ Below w.heap.size w w' :=
  prov_ValidSum.calls A c l _ w hr hc (by unfold prov_ValidSum.f; rw [if_pos h])
theorem setsOf_take (l : List S31) {k : Nat} (hk : k < l.length) : (setsOf l).take (k + 1) = (setsOf l).take k ++ [onceB (l.getD k z31).f0] := by
  unfold setsOf
  rw [List.take_succ_eq_append_getElem (by rw [List.length_map]; exact hk), List.getElem_map, getD_lt _ hk]
set_option maxHeartbeats 4000000 in
set_option maxRecDepth 100000 in
theorem why_any (A : Option Addr) (c : Nat) (l : List S31) (w : World) (hr : Kd.C k31 w A l.length l) (hc : l.length ≤ c) (hi : sumIn l = true) (hv : validB l = true) :
    Calls Tryd.prog 6 #[.slice A l.length c] w fun e w' => ∃ v0_ : Value, e = .returned (.tuple #[v0_, .int .i64 0]) ∧ Kd.R Kd.string 9 w' w.heap.size (fun _ => True) v0_ (whyOf l) ∧ Below w.heap.size w w' := by
  obtain ⟨i0, hi0, hj0, hj1, hj2⟩ := info_parts infoStr
  have hm := sumIn_len hi
  have hs := Lib.hid (sumIn_mem hi)
  have hval := validSum_any A c l w hr hc hi
  rw [hv] at hval
  have HVal := Lib.hid hval
  clear hval hi
  have h40 : l.length ≤ 40 := by unfold validB at hv; rw [Bool.and_eq_true, decide_eq_true_eq] at hv; exact hv.2
  have HV := Lib.hid hv; clear hv
  go_enter Tryd.func6, Tryd.ntmps6
  go_wp2_with (go_at_call 10; (refine HVal.out.mono ?_); rintro e w1 ⟨rfl, hb1⟩)
  go_loopw [4, 15] (fun v4 v15 wr => ∃ k : Nat, v15 = .int .i64 k ∧ k ≤ l.length ∧ wr.ownsRow w.heap.size 9 1 v4 k (pw_strs ((setsOf l).take k)) ∧ Below w.heap.size w wr) (fun _ v _ => l.length - (intOf v).toNat)
  case atStart => exact ⟨0, rfl, by omega, own_nil _ _ _ _, hb1⟩
  case round =>
    obtain ⟨k, rfl, hk, hown, hb⟩ := hrel
    by_cases hlt : k < l.length
    · obtain ⟨ad, e1, c0, c1⟩ := at_T31 hr (k : Int) (by omega) (by omega)
      subst e1
      have hx : rd_T31 l (k : Int) = l.getD k z31 := rfl
      rw [hx] at c0 c1
      have hsx := hs.out _ (getD_mem z31 hlt)
      have HTK := Lib.hid (setsOf_take l hlt)
      generalize l.getD k z31 = x at c0 c1 hsx HTK
      clear hx
      simp only [Int.toNat_natCast] at c0 c1
      replace c0 := cell_later hb c0
      replace c1 := cell_later hb c1
      obtain ⟨cc, W1, hrun, hcc, hB1, hZ1, hH1⟩ := conv_holds (P := Tryd.prog) Tryd.underlying9 Tryd.underlying36 Tryd.underlying5 (wr.alloc (.cells #[.string x.f0, .int .i64 x.f1] 31)) x.f0
      have hsz : (wr.alloc (.cells #[.string x.f0, .int .i64 x.f1] 31)).heap.size = wr.heap.size + 1 := by simp
      rw [hsz] at hrun hB1 hZ1 hH1
      have HC := Lib.hid (compact_once (wr.heap.size + 1) cc x.f0 W1 hH1 hsx hcc)
      clear hH1
      have HZ1 := Lib.hid hZ1; clear hZ1
      have HB1 := Lib.hid hB1; clear hB1
      clear hsz
      go_wp2_with (go_at_call 11; (refine HC.out.mono ?_); rintro e w2 ⟨n2, rfl, hb2, hz2, hconv0⟩)
      have hconv := hconv0 w2 (Below.refl _ _)
      clear hconv0
      have hchain : Below wr.heap.size wr w2 := ((Below.refl _ wr).alloc (Nat.le_refl _) _).trans ((HB1.out.mono (by omega)).trans (hb2.mono (by omega)))
      have hown2 := own_move hown (fun j hj => hchain.block j (own_lt hown j hj))
      have hb3 : Below w.heap.size w w2 := hb.trans (hchain.mono hb.size)
      have HZ2 := Lib.hid hz2; clear hz2
      clear hb2 hchain
      generalize onceB x.f0 = y at hconv HTK
      go_wp2_with fail
      rw [hconv]
      clear hconv
      go_wp2_with (at_builtin; refine wpList_append_own _ rfl _ _ 25 rfl w.heap.size 9 i0 (.string ⟨#[]⟩) 1 16 Tryd.underlying25 hi0 hj0 hj1 hj2 rfl (by decide) _ _ _ rfl (hown2.alloc _) ⟨w2.heap.size, 0, none⟩ 1 1 [.string y] rfl rfl ?c1 ?c2 ?c3 ?c4 ?c5 ?_)
      case c1 => exact cell_one_new _ _ _
      case c2 => intro u hu; rw [List.mem_singleton.1 hu]; rfl
      case c3 => unfold maxLen; omega
      case c4 => omega
      case c5 => simp; have := hb3.size; omega
      intro v1 w3 hown3 hgrow _
      have hb4 : Below w.heap.size w w3 := (hb3.alloc hb3.size _).grown hgrow (by have := hb3.size; simp; omega) (fun j hj => own_base hown2 j hj)
      have hown4 : w3.ownsRow w.heap.size 9 1 v1 (k + 1) (pw_strs ((setsOf l).take (k + 1))) := by
        rw [HTK.out]
        unfold pw_strs at *
        rw [List.map_append]
        exact hown3
      clear hown3 hgrow
      go_wp2
      go_roundw
      case rel => exact ⟨k + 1, by go_num, by omega, hown4, hb4⟩
      case measure => simp [intOf]; omega
    · obtain rfl : k = l.length := by omega
      have hset : (setsOf l).take l.length = setsOf l := List.take_of_length_le (by unfold setsOf; rw [List.length_map]; exact Nat.le_refl _)
      rw [hset] at hown
      clear hset
      have hsl : (setsOf l).length = l.length := by unfold setsOf; rw [List.length_map]
      have hok := setsOf_ok HV.out
      obtain ⟨A4, c4, rfl, hc4, HSort⟩ := sortSets_any u4 l.length (setsOf l) wr w.heap.size hsl hown (fun x hx => (hok x hx).2) (by omega)
      have HSo := Lib.hid HSort; clear HSort
      have hlen : (srtS (setsOf l)).length = l.length := by rw [(srtS_perm _).length_eq, hsl]
      have HW : Hid (whyOf l = (srtS (setsOf l)).foldl keepMin []) := rfl
      have hok2 : ∀ s ∈ srtS (setsOf l), okS s := fun s hs => hok s ((srtS_perm _).mem_iff.1 hs)
      have HOK := Lib.hid hok2
      generalize srtS (setsOf l) = ss at HSo hlen HW HOK
      have HLen := Lib.hid hlen
      clear hok hok2 hown hsl hlen
      go_wp2_with (go_at_call 12; (refine HSo.out.mono ?_); rintro e wa ⟨rfl, hba, hCa⟩)
      have hbA : Below w.heap.size w wa := hb.trans hba
      rw [← HLen.out] at hCa
      go_loopw [7, 32] (fun v7 v32 wq => ∃ k : Nat, v32 = .int .i64 k ∧ k ≤ l.length ∧ wq.ownsRow wa.heap.size 9 1 v7 ((ss.take k).foldl keepMin []).length (pw_strs ((ss.take k).foldl keepMin [])) ∧ Below wa.heap.size wa wq) (fun _ v _ => l.length - (intOf v).toNat)
      case atStart => exact ⟨0, rfl, by omega, own_nil _ _ _ _, Below.refl _ _⟩
      case round =>
        obtain ⟨k, rfl, hk2, hown, hbq⟩ := hrel
        by_cases hlt2 : k < l.length
        · have hks : k < ss.length := by rw [HLen.out]; exact hlt2
          obtain ⟨ad, e1, c0⟩ := KC_at_str hCa k hks
          subst e1
          have HA := Lib.hid (HOK.out _ (getD_mem ByteArray.empty hks))
          have HTK := Lib.hid (foldMin_take ss hks)
          have HOut : Hid ((∀ x ∈ (ss.take k).foldl keepMin [], okS x) ∧ ((ss.take k).foldl keepMin []).length ≤ k) := by
            refine ⟨fun x hx => ?_, ?_⟩
            · rcases foldMin_mem _ _ _ hx with h | h
              · simp at h
              · exact HOK.out x (List.mem_of_mem_take h)
            · have := foldMin_len (ss.take k) []
              rw [List.length_take] at this
              simp at this
              omega
          generalize ss.getD k ByteArray.empty = a at c0 HA HTK
          generalize (ss.take k).foldl keepMin [] = out at hown HTK HOut
          clear hks
          replace c0 := cell_later hbq c0
          have hb' := hbq.alloc hbq.size (.cells #[.string a] 9)
          have hownA := hown.alloc (.cells #[.string a] 9)
          obtain ⟨A7, c7, hv7, hc7, hC7⟩ := Kd.R_reads (Kd.R_of_own (enc := Value.string) (h1 := fun _ => rfl) (ok := fun _ => True) hownA (fun _ _ => trivial))
          subst hv7
          have eg : ∀ args W, (callFunc 16 args).run Tryd.prog W = .ok (.enter 16 args) W := enters_of Tryd.func16 (by kernel_rfl) rfl
          have hcon := containsFunc_str_any 16 #[.pointer (some ⟨wr.heap.size, 0, none⟩)] (fun b => partB b a) A7 c7 out (wr.alloc (.cells #[.string a] 9)) hC7 (by have := HOut.out.2; omega) eg
            (fun W x hx hbW => why2_any x a _ W (by rw [hbW.cell (by simp)]; go_simp) HA.out.1 (HOut.out.1 x hx).1 (HOut.out.1 x hx).2)
          have HK : Hid (∀ z, (out.any fun b => partB b a) = z → keepMin out a = if z then out else out ++ [a]) := fun z hz => by unfold keepMin; rw [hz]
          clear eg hC7
          generalize hzz : (out.any fun b => partB b a) = z at hcon
          have HZ := Lib.hid (HK.out z hzz)
          have HC := Lib.hid hcon
          clear hcon hzz HK
          have hol := HOut.out.2
          cases z with
          | true =>
            have HE : Hid ((ss.take (k + 1)).foldl keepMin [] = out) := by show _ = _; rw [HTK.out, HZ.out]; rfl
            clear HZ HTK
            go_wp2_with (go_at_call 15; (refine HC.out.mono ?_); rintro e wb ⟨rfl, hbb⟩)
            go_roundw
            case rel => exact ⟨k + 1, by go_num, by omega, by rw [HE.out]; exact own_move hownA (fun j hj => hbb.block j (own_lt hownA j hj)), hb'.trans (hbb.mono hb'.size)⟩
            case measure => simp [intOf]; omega
          | false =>
            have HE : Hid ((ss.take (k + 1)).foldl keepMin [] = out ++ [a]) := by show _ = _; rw [HTK.out, HZ.out]; rfl
            clear HZ HTK
            go_wp2_with fail
            ((with_reducible refine HC.out.mono ?_); rintro e wb ⟨rfl, hbb⟩)
            have cb : wb.cell? ⟨wr.heap.size, 0, none⟩ = some (.string a) := by rw [hbb.cell (by simp)]; go_simp
            have hownB := own_move hownA (fun j hj => hbb.block j (own_lt hownA j hj))
            have hbB := hb'.trans (hbb.mono hb'.size)
            clear hbb
            go_wp2_with (at_builtin; refine wpList_append_own _ rfl _ _ 25 rfl wa.heap.size 9 i0 (.string ⟨#[]⟩) 1 16 Tryd.underlying25 hi0 hj0 hj1 hj2 rfl (by decide) _ _ _ rfl (hownB.alloc _) ⟨wb.heap.size, 0, none⟩ 1 1 [.string a] rfl rfl ?c1 ?c2 ?c3 ?c4 ?c5 ?_)
            case c1 => exact cell_one_new _ _ _
            case c2 => intro u hu; rw [List.mem_singleton.1 hu]; rfl
            case c3 => unfold maxLen; omega
            case c4 => omega
            case c5 => simp; have := hbB.size; omega
            intro v1 w3 hown3 hgrow _
            have hb4 : Below wa.heap.size wa w3 := (hbB.alloc hbB.size _).grown hgrow (by have := hbB.size; simp; omega) (fun j hj => own_base hownB j hj)
            have hown4 : w3.ownsRow wa.heap.size 9 1 v1 ((ss.take (k + 1)).foldl keepMin []).length (pw_strs ((ss.take (k + 1)).foldl keepMin [])) := by
              rw [HE.out, List.length_append]
              unfold pw_strs at *
              rw [List.map_append]
              exact hown3
            clear hown3 hgrow
            go_wp2
            go_roundw
            case rel => exact ⟨k + 1, by go_num, by omega, hown4, hb4⟩
            case measure => simp [intOf]; omega
        · obtain rfl : k = l.length := by omega
          have e2 : ss.take l.length = ss := List.take_of_length_le (by rw [HLen.out]; exact Nat.le_refl _)
          rw [e2, ← HW.out] at hown
          clear e2
          have hRR := Kd.R_of_own (enc := Value.string) (h1 := fun _ => rfl) (ok := fun _ => True) hown (fun _ _ => trivial)
          have HR := Lib.hid (Kd.R_lower hRR hbA.size)
          clear hRR hown
          go_wp2
          go_ret2
          exact ⟨_, rfl, HR.out, hbA.trans (hbq.mono hbA.size)⟩
set_option maxHeartbeats 400000 in
theorem why_bad (A : Option Addr) (c : Nat) (l : List S31) (w : World) (hr : Kd.C k31 w A l.length l) (hc : l.length ≤ c) (hi : sumIn l = true) (hv : validB l = false) :
    Calls Tryd.prog 6 #[.slice A l.length c] w fun e w' => e = .returned (.tuple #[.slice none 0 0, .int .i64 92]) ∧ Below w.heap.size w w' := by
  have hval := validSum_any A c l w hr hc hi
  rw [hv] at hval
  have HVal := Lib.hid hval
  clear hval hi hv
  go_enter Tryd.func6, Tryd.ntmps6
  go_wp2_with (go_at_call 10; (refine HVal.out.mono ?_); rintro e w1 ⟨rfl, hb1⟩)
  go_ret2
  exact ⟨rfl, hb1⟩
def prov_Why.f (l0 : List S31) : Option (List ByteArray × Int) := if sumIn l0 then (if validB l0 then some (whyOf l0, 0) else some ([], 92)) else none
theorem prov_Why.calls (A0 : Option Addr) (c0 : Nat) (l0 : List S31) (r1 : List ByteArray) (r2 : Int) (w : World) (hr0 : Kd.C k31 w A0 l0.length l0) (hc0 : l0.length ≤ c0) (h : prov_Why.f l0 = some (r1, r2)) :
    Calls Tryd.prog 6 #[.slice A0 l0.length c0] w fun e w' => ∃ v0_ : Value, e = .returned (.tuple #[v0_, .int .i64 r2]) ∧ Kd.R Kd.string 9 w' w.heap.size (fun _ => True) v0_ r1 ∧ Below w.heap.size w w' := by
  unfold prov_Why.f at h
  split at h
  · rename_i hi
    split at h
    · rename_i hv
      have h := Option.some.inj h
      rw [Prod.mk.injEq] at h
      obtain ⟨rfl, rfl⟩ := h
      exact why_any A0 c0 l0 w hr0 hc0 hi hv
    · rename_i hv
      have h := Option.some.inj h
      rw [Prod.mk.injEq] at h
      obtain ⟨rfl, rfl⟩ := h
      refine (why_bad A0 c0 l0 w hr0 hc0 hi (by simpa using hv)).mono ?_
      rintro e w' ⟨rfl, hb⟩
      exact ⟨_, rfl, Kd.R_nil _ _ _ _ _, hb⟩
  · cases h

end Go.Proofs.YtbngenfedbmhiaaDoor.P
