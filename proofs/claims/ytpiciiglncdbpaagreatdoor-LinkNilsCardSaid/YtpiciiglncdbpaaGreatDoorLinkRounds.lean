/- What a pass does, in plain; come at whatever number; the sent numbers grow. -/
import Derived.Test.YtpiciiglncdbpaaGreatDoorLinkNots
import Derived.Test.YtpiciiglncdbpaaGreatDoorF24
namespace Go.Proofs.YtpiciiglncdbpaaGreatDoor.LK
open Go.RowKit Go.Proofs.YtpiciiglncdbpaaGreatDoorW.PrintWords Go.Proofs.YtpiciiglncdbpaaGreatDoor.P
variable {B : Nat} {F : Nat → Prop} {W : World} {b : Nat} {win seen : Int} {vp vn vs : Value} {pole north : List ByteArray} {sent : List Int}
/-- Blocks of others have turned. -/
theorem LinkAt.moved {W' : World} (h : LinkAt B F W b win seen vp vn vs pole north sent) (hz : W.heap.size ≤ W'.heap.size) (hb : ∀ k, F k → W'.heap[k]? = W.heap[k]?) : LinkAt B F W' b win seen vp vn vs pole north sent where
  at_ := by rw [hb b h.own]; exact h.at_
  own := h.own
  lt k hk := ⟨(h.lt k hk).1, Nat.lt_of_lt_of_le (h.lt k hk).2 hz⟩
  pole := own_move h.pole (fun k hk => hb k (h.fp k hk))
  north := own_move h.north (fun k hk => hb k (h.fn k hk))
  sent := own_move h.sent (fun k hk => hb k (h.fs k hk))
  fp := h.fp
  fn := h.fn
  fs := h.fs
  pn := h.pn
/-- The sent numbers have new rows; the link's cell says so. -/
theorem LinkAt.newSent {W1 : World} {v1 : Value} {sent' : List Int} (h : LinkAt B F W b win seen vp vn vs pole north sent) (hB : B ≤ W.heap.size)
    (hown : W1.ownsRow B 3 1 v1 sent'.length (nums .i64 sent')) (hg : W.grownBy W1 vs.ownBlock) (hat : v1.ownBlock = vs.ownBlock ∨ ∃ g, v1.ownBlock = some g ∧ W.heap.size ≤ g) :
    LinkAt B (fun k => F k ∨ (W.heap.size ≤ k ∧ k < W1.heap.size)) (W1.setCell ⟨b, 4, none⟩ v1) b win seen vp vn v1 pole north sent' ∧ Keeps F W (W1.setCell ⟨b, 4, none⟩ v1) := by
  have hbp : vs.ownBlock ≠ some b := fun he => by
    obtain ⟨cells, hc⟩ := own_typed h.sent b he
    rw [h.at_] at hc
    cases hc
  have hb1 : W1.heap[b]? = W.heap[b]? := hg.block b (h.lt b h.own).2 (fun he => hbp he.symm)
  have hv1b : v1.ownBlock ≠ some b := fun he => by
    rcases hat with h1 | ⟨g, h1, h2⟩
    · exact hbp (h1 ▸ he)
    · rw [he] at h1
      injection h1 with h1
      have := (h.lt b h.own).2
      omega
  have hother : ∀ k, k ≠ b → (W1.setCell ⟨b, 4, none⟩ v1).heap[k]? = W1.heap[k]? := fun k hk => Below.heap_setCell W1 ⟨b, 4, none⟩ v1 k hk
  have hsz : (W1.setCell ⟨b, 4, none⟩ v1).heap.size = W1.heap.size := by simp
  have hnb : vp.ownBlock ≠ some b := fun he => by
    obtain ⟨cells, hc⟩ := own_typed h.pole b he
    rw [h.at_] at hc
    cases hc
  have hsb : vn.ownBlock ≠ some b := fun he => by
    obtain ⟨cells, hc⟩ := own_typed h.north b he
    rw [h.at_] at hc
    cases hc
  have hsp : ∀ g, vp.ownBlock = some g → vs.ownBlock ≠ some g := fun g hs he => by
    obtain ⟨cells, hc⟩ := own_typed h.pole g hs
    obtain ⟨cells', hc'⟩ := own_typed h.sent g he
    rw [hc] at hc'
    cases hc'
  have hsn : ∀ g, vn.ownBlock = some g → vs.ownBlock ≠ some g := fun g hs he => by
    obtain ⟨cells, hc⟩ := own_typed h.north g hs
    obtain ⟨cells', hc'⟩ := own_typed h.sent g he
    rw [hc] at hc'
    cases hc'
  refine ⟨?_, ?_⟩
  · constructor
    · have := heap_setCell_same W1 b 4 #[.int .i64 win, vp, vn, .int .i64 seen, vs] 32 v1 (by rw [hb1]; exact h.at_)
      rw [this]
      rfl
    · exact .inl h.own
    · intro k hk
      rw [hsz]
      rcases hk with hk | hk
      · exact ⟨(h.lt k hk).1, Nat.lt_of_lt_of_le (h.lt k hk).2 hg.size⟩
      · exact ⟨by omega, hk.2⟩
    · exact own_move h.pole (fun k hk => (hother k (fun e => hnb (e ▸ hk))).trans (hg.block k (h.lt k (h.fp k hk)).2 (fun e => hsp k hk e.symm)))
    · exact own_move h.north (fun k hk => (hother k (fun e => hsb (e ▸ hk))).trans (hg.block k (h.lt k (h.fn k hk)).2 (fun e => hsn k hk e.symm)))
    · exact own_move hown (fun k hk => hother k (fun e => hv1b (e ▸ hk)))
    · exact fun g hgo => .inl (h.fp g hgo)
    · exact fun g hgo => .inl (h.fn g hgo)
    · intro g hgo
      rcases hat with h1 | ⟨g', h1, h2⟩
      · exact .inl (h.fs g (by rw [← h1]; exact hgo))
      · rw [hgo] at h1
        injection h1 with h1
        refine .inr ⟨by omega, ?_⟩
        exact (own_lt hown g hgo)
    · exact h.pn
  · have hz := (Below.refl 0 W1).setCell (p := ⟨b, 4, none⟩) (Nat.zero_le _) v1
    exact ⟨hz.os.trans hg.os, hz.tape.trans hg.tape, hz.output.trans hg.output, by rw [hsz]; exact hg.size, fun k hk hF => by
      rw [hother k (fun e => hF (e ▸ h.own))]
      exact hg.block k hk (fun e => hF (h.fs k e.symm))⟩
/-! what a pass does, in plain -/
def north1 (pole north : List ByteArray) (n : Int) : List ByteArray := if n = (north.length : Int) + 1 then north ++ [pole.getD north.length ByteArray.empty] else north
def northK (pole north : List ByteArray) (ns : List Int) : List ByteArray := ns.foldl (north1 pole) north
def outK (pole north : List ByteArray) : List Int → List Int
  | [] => []
  | n :: ns => ((north1 pole north n).length : Int) :: outK pole (north1 pole north n) ns
def hearK (out : List Int) (seen : Int) (up : List Int) : Int := up.foldl (fun s n => max s (out.getD n.toNat 0)) seen
theorem northK_snoc (pole north : List ByteArray) (ns : List Int) (n : Int) : northK pole north (ns ++ [n]) = north1 pole (northK pole north ns) n := by simp [northK]
theorem outK_snoc (pole : List ByteArray) : ∀ (north : List ByteArray) (ns : List Int) (n : Int), outK pole north (ns ++ [n]) = outK pole north ns ++ [((northK pole north (ns ++ [n])).length : Int)]
  | _, [], _ => rfl
  | north, a :: ns, n => by
    show ((north1 pole north a).length : Int) :: outK pole (north1 pole north a) (ns ++ [n]) = _
    rw [outK_snoc pole (north1 pole north a) ns n]
    rfl
theorem outK_length (pole : List ByteArray) : ∀ (north : List ByteArray) (ns : List Int), (outK pole north ns).length = ns.length
  | _, [] => rfl
  | north, a :: ns => by show (outK pole (north1 pole north a) ns).length + 1 = _; rw [outK_length]; rfl
theorem hearK_snoc (out : List Int) (seen : Int) (up : List Int) (n : Int) : hearK out seen (up ++ [n]) = max (hearK out seen up) (out.getD n.toNat 0) := by simp [hearK]
theorem north1_len (pole north : List ByteArray) (n : Int) (hl : north.length ≤ pole.length) (hn : n ≤ pole.length) : (north1 pole north n).length ≤ pole.length := by
  unfold north1
  split
  · simp only [List.length_append, List.length_singleton]; omega
  · exact hl
theorem northK_len (pole : List ByteArray) : ∀ (north : List ByteArray) (ns : List Int) (_ : north.length ≤ pole.length) (_ : ∀ n ∈ ns, n ≤ (pole.length : Int)), (northK pole north ns).length ≤ pole.length
  | _, [], hl, _ => hl
  | north, a :: ns, hl, hn => northK_len pole (north1 pole north a) ns (north1_len _ _ _ hl (hn a (by simp))) (fun n h => hn n (by simp [h]))
/-- come, whatever number comes. -/
theorem come_any (n : Int) (h : LinkAt B F W b win seen vp vn vs pole north sent) (hB : B ≤ W.heap.size) (hl : north.length ≤ pole.length) (hl2 : pole.length ≤ 60) (hn : n ≤ pole.length) :
    Calls Tryz.prog 30 #[.pointer (some ⟨b, 0, none⟩), .int .i64 n] W fun e w' => e = .returned (.int .i64 ((north1 pole north n).length : Int)) ∧
      ∃ F' v1, LinkAt B F' w' b win seen vp v1 vs pole (north1 pole north n) sent ∧ Keeps F W w' ∧ ∀ k, F' k → F k ∨ W.heap.size ≤ k := by
  by_cases hc : n = (north.length : Int) + 1
  · subst hc
    have e : north1 pole north ((north.length : Int) + 1) = north ++ [pole.getD north.length ByteArray.empty] := by unfold north1; rw [if_pos rfl]
    rw [e]
    refine (come_yes _ h hB (by omega) hl2 rfl).mono fun e w' ⟨he, hr⟩ => ⟨by rw [he]; simp, hr⟩
  · have e : north1 pole north n = north := by unfold north1; rw [if_neg hc]
    rw [e]
    refine (come_no n h hc (by omega)).mono fun e w' ⟨he, hr⟩ => ⟨he, ?_⟩
    obtain rfl : W = w' := hr.symm
    exact ⟨F, vn, h, Keeps.refl _ _, fun k hk => .inl hk⟩
end Go.Proofs.YtpiciiglncdbpaaGreatDoor.LK
