/- Plain facts on sets of bytes: a part, the least ones, each run once. -/
import Derived.Test.YtbngenfedbmhiaaDoorSW
namespace Go.Proofs.YtbngenfedbmhiaaDoor.P
open Go.RowKit Go.Proofs.YtbngenfedbmhiaaDoorW.PrintWords Go.Proofs.YtbngenfedbmhiaaDoorW.PrintLast Go.Proofs.YtbngenfedbmhiaaDoorW.PrintMore
def subB (a b : ByteArray) : Bool := a.data.toList.all fun c => inB b c
theorem inB_iff (b : ByteArray) (c : UInt8) : inB b c = true ↔ c ∈ b.data.toList := by
  unfold inB
  rw [List.any_eq_true]
  constructor
  · rintro ⟨x, hx, h⟩
    rw [← eq_of_beq h]; exact hx
  · exact fun h => ⟨c, h, beq_self_eq_true c⟩
theorem subB_iff (a b : ByteArray) : subB a b = true ↔ ∀ c ∈ a.data.toList, c ∈ b.data.toList := by
  unfold subB
  rw [List.all_eq_true]
  exact ⟨fun h c hc => (inB_iff b c).1 (h c hc), fun h c hc => (inB_iff b c).2 (h c hc)⟩
theorem subB_self (a : ByteArray) : subB a a = true := (subB_iff a a).2 fun _ h => h
theorem subB_trans {a b c : ByteArray} (h1 : subB a b = true) (h2 : subB b c = true) : subB a c = true :=
  (subB_iff a c).2 fun x hx => (subB_iff b c).1 h2 x ((subB_iff a b).1 h1 x hx)
theorem at_mem (s : ByteArray) {j : Nat} (hj : j < s.size) : s[j] ∈ s.data.toList := by
  rw [ByteArray.getElem_eq_getElem_data]; simp
theorem mem_at {s : ByteArray} {c : UInt8} (h : c ∈ s.data.toList) : ∃ j, ∃ hj : j < s.size, s[j] = c := by
  obtain ⟨j, hj, rfl⟩ := List.getElem_of_mem h
  exact ⟨j, by rw [ByteArray_size]; exact hj, by simp [ByteArray.getElem_eq_getElem_data]⟩
theorem toList_data (s : ByteArray) : s.toList = s.data.toList := by simp [ByteArray.toList_eq]
theorem cutRx_pos (s set : ByteArray) (h0 : 0 < s.size) (h : inB set s[0] = false) : ∀ k, 0 < k → 0 < cutRx s set k
  | 0, hk => by omega
  | 1, _ => by rw [cutRx, dif_pos h0, h]; simp
  | k + 2, _ => by
    have ih := cutRx_pos s set h0 h (k + 1) (by omega)
    rw [cutRx]
    split
    · split
      · exact ih
      · omega
    · exact ih
theorem partB_eq (a b : ByteArray) : partB a b = subB a b := by
  cases h : subB a b with
  | true =>
    have hall := (subB_iff a b).1 h
    have e : cutL a b = ⟨#[]⟩ := cutL_none fun j hj => (inB_iff b _).2 (hall _ (at_mem a hj))
    unfold partB
    rw [e]
    have e2 : cutR ⟨#[]⟩ b = ⟨#[]⟩ := by
      unfold cutR
      exact to_zero _
    rw [e2, toList_data]
    rfl
  | false =>
    have hex : ∃ k, ∃ hk : k < a.size, inB b a[k] = false ∧ ∀ j (hj : j < a.size), j < k → inB b a[j] = true := by
      apply Classical.byContradiction
      intro hno
      have : ∀ k (hk : k < a.size), inB b a[k] = true := by
        intro k
        induction k using Nat.strongRecOn with
        | _ k ih =>
          intro hk
          cases hc : inB b a[k] with
          | true => rfl
          | false => exact absurd ⟨k, hk, hc, fun j hj hlt => ih j hlt hj⟩ hno
      have h2 : subB a b = true := (subB_iff a b).2 fun c hc => by
        obtain ⟨j, hj, rfl⟩ := mem_at hc
        exact (inB_iff b _).1 (this j hj)
      rw [h] at h2
      cases h2
    obtain ⟨k, hk, hc, hl⟩ := hex
    have e : cutIx a b = k := cutIx_at hk hc hl
    have hsz : (cutL a b).size = a.size - k := by
      unfold cutL
      rw [ByteArray_size, from_data, e, List.length_drop, ← ByteArray_size]
    have h0 : 0 < (cutL a b).size := by omega
    have hx : (cutL a b)[0] = a[k] := by
      have h1 : (cutL a b).data.toList[0]? = a.data.toList[k]? := by
        unfold cutL
        rw [from_data, e, List.getElem?_drop]
        simp
      rw [List.getElem?_eq_getElem (by rw [← ByteArray_size]; exact h0), List.getElem?_eq_getElem (by rw [← ByteArray_size]; exact hk)] at h1
      simpa [ByteArray.getElem_eq_getElem_data] using h1
    have hr := cutRx_pos (cutL a b) b h0 (by rw [hx]; exact hc) _ h0
    have hr2 : cutRx (cutL a b) b (cutL a b).size ≤ (cutL a b).size := by
      have : ∀ (s set : ByteArray) k, cutRx s set k ≤ k := by
        intro s set k
        induction k with
        | zero => exact Nat.le_refl _
        | succ k ih =>
          rw [cutRx]
          split
          · split
            · omega
            · omega
          · omega
      exact this _ _ _
    unfold partB
    rw [toList_data, toList_data]
    have l1 : (cutR (cutL a b) b).data.toList ≠ [] := by
      intro hn
      have h1 : (cutR (cutL a b) b).size = 0 := by rw [ByteArray_size, hn]; rfl
      have h2 : (cutR (cutL a b) b).size = cutRx (cutL a b) b (cutL a b).size := to_size _ hr2
      rw [h2] at h1
      exact Nat.lt_irrefl _ (h1 ▸ hr)
    have l2 : a.data.toList ≠ [] := by
      intro hn
      have h1 : a.size = 0 := by rw [ByteArray_size, hn]; rfl
      omega
    rw [Bool.or_eq_false_iff]
    exact ⟨by simpa using l1, by simpa using l2⟩
theorem keepMin_eq (out : List ByteArray) (a : ByteArray) : keepMin out a = if out.any (fun b => subB b a) then out else out ++ [a] := by
  unfold keepMin
  have : (fun b => partB b a) = fun b => subB b a := by funext b; exact partB_eq b a
  rw [this]
theorem fold_sub (L : List ByteArray) : ∀ (out : List ByteArray) (b : ByteArray), b ∈ out → b ∈ L.foldl keepMin out := by
  induction L with
  | nil => exact fun out b h => h
  | cons a L ih =>
    intro out b h
    refine ih _ b ?_
    unfold keepMin
    split
    · exact h
    · exact List.mem_append_left _ h
theorem fold_cov (L : List ByteArray) : ∀ (out : List ByteArray) (a : ByteArray), a ∈ L → ∃ b ∈ L.foldl keepMin out, subB b a = true := by
  induction L with
  | nil => exact fun out a h => absurd h (List.not_mem_nil)
  | cons c L ih =>
    intro out a h
    rcases List.mem_cons.1 h with rfl | h
    · rw [List.foldl_cons]
      have : ∃ b ∈ keepMin out a, subB b a = true := by
        rw [keepMin_eq]
        split
        · rename_i hany
          rw [List.any_eq_true] at hany
          exact hany
        · exact ⟨a, by simp, subB_self a⟩
      obtain ⟨b, hb, hs⟩ := this
      exact ⟨b, fold_sub L _ b hb, hs⟩
    · exact ih _ a h
theorem fold_apart (L : List ByteArray) : ∀ (out : List ByteArray), (out.Pairwise fun x y => subB x y = false) → (L.foldl keepMin out).Pairwise fun x y => subB x y = false := by
  induction L with
  | nil => exact fun out h => h
  | cons c L ih =>
    intro out h
    refine ih _ ?_
    rw [keepMin_eq]
    split
    · exact h
    · rename_i hany
      rw [List.pairwise_append]
      refine ⟨h, List.pairwise_singleton _ _, fun x hx y hy => ?_⟩
      rw [List.mem_singleton.1 hy]
      cases hs : subB x c with
      | false => rfl
      | true => exact absurd (List.any_eq_true.2 ⟨x, hx, hs⟩) hany
theorem fold_sorted (L : List ByteArray) : ∀ (out : List ByteArray), ((out ++ L).Pairwise fun a b => leS a b = true) → (L.foldl keepMin out).Pairwise fun a b => leS a b = true := by
  induction L with
  | nil => intro out h; simpa using h
  | cons c L ih =>
    intro out h
    refine ih _ ?_
    unfold keepMin
    split
    · exact h.sublist (List.Sublist.append_left (List.sublist_cons_self c L) out)
    · simpa using h
theorem nodup_sub_len {α : Type} [DecidableEq α] : ∀ {X Y : List α}, X.Nodup → (∀ x ∈ X, x ∈ Y) → X.length ≤ Y.length
  | [], _, _, _ => Nat.zero_le _
  | x :: X, Y, hn, hs => by
    have hxY : x ∈ Y := hs x List.mem_cons_self
    obtain ⟨hx, hX⟩ := List.nodup_cons.1 hn
    have := nodup_sub_len (X := X) (Y := Y.erase x) hX fun z hz => by
      refine (List.mem_erase_of_ne ?_).2 (hs z (List.mem_cons_of_mem _ hz))
      rintro rfl
      exact hx hz
    rw [List.length_erase_of_mem hxY] at this
    have hp : 0 < Y.length := List.length_pos_of_mem hxY
    simp
    omega
theorem nodup_sub_back {α : Type} [DecidableEq α] {X Y : List α} (hX : X.Nodup) (hs : ∀ x ∈ X, x ∈ Y) (hl : Y.length ≤ X.length) : ∀ y ∈ Y, y ∈ X := by
  intro y hy
  apply Classical.byContradiction
  intro hn
  have := nodup_sub_len (X := X) (Y := Y.erase y) hX fun z hz => (List.mem_erase_of_ne (by rintro rfl; exact hn hz)).2 (hs z hz)
  rw [List.length_erase_of_mem hy] at this
  have hp : 0 < Y.length := List.length_pos_of_mem hy
  omega
/-- The bytes of a token list rise. -/
theorem tok_mono {s : ByteArray} (h : tokB s = true) : ∀ (j i : Nat), i ≤ j → j < s.size → bt s (i : Int) ≤ bt s (j : Int)
  | 0, i, hi, _ => by obtain rfl : i = 0 := by omega
                      exact Int.le_refl _
  | j + 1, i, hi, hj => by
    rcases Nat.lt_or_ge i (j + 1) with hlt | hge
    · have ih := tok_mono h j i (by omega) (by omega)
      unfold tokB at h
      rw [Bool.and_eq_true] at h
      have := tokTo_ge h.1 hj
      unfold tokAt at this
      rw [show (((j + 1 : Nat) : Int) - 1) = (j : Int) from by omega, show ((j + 1) == 0) = false from rfl] at this
      simp only [Bool.and_eq_true, Bool.false_or, decide_eq_true_eq] at this
      have := this.2.2
      omega
    · obtain rfl : i = j + 1 := by omega
      exact Int.le_refl _
theorem runs_at (s : ByteArray) {j : Nat} (hj : j < s.size) : (bytesOf s).toArray[j]! = bt s (j : Int) := by
  have hj' : j < (bytesOf s).toArray.size := by simpa [bytesOf_length] using hj
  rw [getElem!_pos _ j hj', ← rd_bytesOf]
  unfold rd
  rw [show ((j : Int)).toNat = j from rfl, getD_lt 0 (by simpa using hj')]
  simp
theorem runs_size (s : ByteArray) : (bytesOf s).toArray.size = s.size := by simp [bytesOf_length]
theorem runs_rise {s : ByteArray} (h : tokB s = true) : (runsB s).Pairwise (· < ·) := by
  unfold runsB Lib.compactUpTo
  rw [List.pairwise_map, List.pairwise_filter, runs_size]
  refine (List.pairwise_lt_range).imp_of_mem ?_
  intro i j hi hj hlt _ hkeep
  have hj' : j < s.size := by simpa using hj
  unfold Lib.keeps at hkeep
  rw [decide_eq_true_eq] at hkeep
  rcases hkeep with h0 | hne
  · omega
  · rw [runs_at s (by omega), runs_at s hj'] 
    rw [runs_at s hj', runs_at s (by omega)] at hne
    have e : ((j - 1 : Nat) : Int) = (j : Int) - 1 := by omega
    have h1 := tok_mono h (j - 1) i (by omega) (by omega)
    have h2 := tok_mono h j (j - 1) (by omega) hj'
    omega
theorem runs_cover (s : ByteArray) : ∀ j, j < s.size → bt s (j : Int) ∈ runsB s := by
  intro j
  induction j with
  | zero =>
    intro hj
    unfold runsB Lib.compactUpTo
    rw [List.mem_map]
    exact ⟨0, List.mem_filter.2 ⟨by rw [runs_size]; simpa using hj, by simp [Lib.keeps]⟩, runs_at s hj⟩
  | succ j ih =>
    intro hj
    by_cases he : bt s ((j + 1 : Nat) : Int) = bt s (j : Int)
    · rw [he]; exact ih (by omega)
    · unfold runsB Lib.compactUpTo
      rw [List.mem_map]
      refine ⟨j + 1, List.mem_filter.2 ⟨by rw [runs_size]; simpa using hj, ?_⟩, runs_at s hj⟩
      unfold Lib.keeps
      rw [decide_eq_true_eq]
      refine .inr ?_
      rw [runs_at s hj, show j + 1 - 1 = j from rfl, runs_at s (by omega)]
      exact he
theorem once_list (s : ByteArray) : (onceB s).data.toList = (runsB s).map fun n => UInt8.ofNat n.toNat := by unfold onceB strOfNums; simp
theorem once_cover (s : ByteArray) : ∀ c ∈ s.data.toList, c ∈ (onceB s).data.toList := by
  intro c hc
  obtain ⟨j, hj, rfl⟩ := mem_at hc
  rw [once_list, List.mem_map]
  refine ⟨bt s (j : Int), runs_cover s j hj, ?_⟩
  have hjl : j < s.data.toList.length := by rw [← ByteArray_size]; exact hj
  rw [bt_lt s hj, getD_lt 0 hjl]
  simp [ByteArray.getElem_eq_getElem_data]
theorem once_nodup {s : ByteArray} (h : tokB s = true) : (onceB s).data.toList.Nodup := by
  rw [once_list]
  unfold List.Nodup
  rw [List.pairwise_map]
  refine (runs_rise h).imp_of_mem ?_
  intro a b ha hb hlt he
  have hr : ∀ n ∈ runsB s, 0 ≤ n ∧ n ≤ 255 := fun n hn => by
    have := runsB_mem hn
    unfold bytesOf at this
    rw [List.mem_map] at this
    obtain ⟨c, _, rfl⟩ := this
    have := UInt8.toNat_lt c
    omega
  have h1 := hr a ha
  have h2 := hr b hb
  have := congrArg UInt8.toNat he
  rw [UInt8.toNat_ofNat', UInt8.toNat_ofNat'] at this
  omega
end Go.Proofs.YtbngenfedbmhiaaDoor.P
