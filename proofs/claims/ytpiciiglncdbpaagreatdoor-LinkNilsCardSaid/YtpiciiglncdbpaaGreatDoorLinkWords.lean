/- Words on a link that stands in memory of the call's own: what it holds, what it owns, what a step leaves alone. -/
import Derived.Test.YtpiciiglncdbpaaGreatDoorLinkNone
import Derived.Test.YtpiciiglncdbpaaGreatDoor0
import Derived.Test.YtpiciiglncdbpaaGreatDoorSA
import Derived.Lib.SmallJoins
import Derived.Lib.SliceRun
import Derived.Laws.OwnMore
namespace Go.Proofs.YtpiciiglncdbpaaGreatDoor.LK
open Go.RowKit Go.Proofs.YtpiciiglncdbpaaGreatDoorW.PrintWords
/-- What a step leaves alone: all that is not in F. -/
structure Keeps (F : Nat → Prop) (W W' : World) : Prop where
  os : W'.os = W.os
  tape : W'.tape = W.tape
  output : W'.output = W.output
  size : W.heap.size ≤ W'.heap.size
  block : ∀ k, k < W.heap.size → ¬ F k → W'.heap[k]? = W.heap[k]?
theorem Keeps.refl (F : Nat → Prop) (W : World) : Keeps F W W := ⟨rfl, rfl, rfl, Nat.le_refl _, fun _ _ _ => rfl⟩
theorem Keeps.of_below {F : Nat → Prop} {W W' : World} (h : Below W.heap.size W W') : Keeps F W W' := ⟨h.os, h.tape, h.output, h.size, fun k hk _ => h.block k hk⟩
theorem Keeps.trans {F G : Nat → Prop} {W W1 W2 : World} (h1 : Keeps F W W1) (h2 : Keeps G W1 W2) (hG : ∀ k, G k → F k ∨ W.heap.size ≤ k) : Keeps F W W2 :=
  ⟨h2.os.trans h1.os, h2.tape.trans h1.tape, h2.output.trans h1.output, Nat.le_trans h1.size h2.size, fun k hk hF =>
    (h2.block k (Nat.lt_of_lt_of_le hk h1.size) (fun hg => (hG k hg).elim hF (fun h => by omega))).trans (h1.block k hk hF)⟩
theorem Keeps.below {F : Nat → Prop} {W W' : World} {B : Nat} (h : Keeps F W W') (hB : B ≤ W.heap.size) (hF : ∀ k, F k → B ≤ k) : Below B W W' :=
  ⟨h.os, h.tape, h.output, h.size, fun k hk => h.block k (by omega) (fun hf => by have := hF k hf; omega)⟩
/-- What a link holds, at block b; the blocks that it owns lie in F. -/
structure LinkAt (B : Nat) (F : Nat → Prop) (W : World) (b : Nat) (win seen : Int) (vp vn vs : Value) (pole north : List ByteArray) (sent : List Int) : Prop where
  at_ : W.heap[b]? = some (.cells #[.int .i64 win, vp, vn, .int .i64 seen, vs] 32 (0, 0))
  own : F b
  lt : ∀ k, F k → B ≤ k ∧ k < W.heap.size
  pole : W.ownsRow B 9 1 vp pole.length (pw_strs pole)
  north : W.ownsRow B 9 1 vn north.length (pw_strs north)
  sent : W.ownsRow B 3 1 vs sent.length (nums .i64 sent)
  fp : ∀ g, vp.ownBlock = some g → F g
  fn : ∀ g, vn.ownBlock = some g → F g
  fs : ∀ g, vs.ownBlock = some g → F g
  pn : ∀ g, vp.ownBlock = some g → vn.ownBlock ≠ some g
variable {B : Nat} {F G : Nat → Prop} {W W' : World} {b : Nat} {win seen : Int} {vp vn vs : Value} {pole north : List ByteArray} {sent : List Int}
theorem LinkAt.later (h : LinkAt B F W b win seen vp vn vs pole north sent) (hb : Below W.heap.size W W') : LinkAt B F W' b win seen vp vn vs pole north sent where
  at_ := by rw [hb.block b (h.lt b h.own).2]; exact h.at_
  own := h.own
  lt k hk := ⟨(h.lt k hk).1, Nat.lt_of_lt_of_le (h.lt k hk).2 hb.size⟩
  pole := own_move h.pole (fun k hk => hb.block k (h.lt k (h.fp k hk)).2)
  north := own_move h.north (fun k hk => hb.block k (h.lt k (h.fn k hk)).2)
  sent := own_move h.sent (fun k hk => hb.block k (h.lt k (h.fs k hk)).2)
  fp := h.fp
  fn := h.fn
  fs := h.fs
  pn := h.pn
theorem LinkAt.cells (h : LinkAt B F W b win seen vp vn vs pole north sent) :
    W.cell? ⟨b, 0, none⟩ = some (.int .i64 win) ∧ W.cell? ⟨b, 1, none⟩ = some vp ∧ W.cell? ⟨b, 2, none⟩ = some vn ∧ W.cell? ⟨b, 3, none⟩ = some (.int .i64 seen) ∧ W.cell? ⟨b, 4, none⟩ = some vs := by
  refine ⟨?_, ?_, ?_, ?_, ?_⟩ <;> simp [World.cell?, h.at_]
theorem LinkAt.thaw (h : LinkAt B F W b win seen vp vn vs pole north sent) (j : Nat) : W.frozen? ⟨b, j, none⟩ = false := by
  simp [World.frozen?, h.at_]
set_option maxRecDepth 100000 in
/-- A link that some call has made is not none. -/
theorem none_no {w : World} {b o : Nat} {n : Int} (hc : w.cell? ⟨b, o, none⟩ = some (.int .i64 n)) (hn : n ≠ 0) : Calls Tryz.prog 23 #[.pointer (some ⟨b, o, none⟩)] w fun e w' => e = .returned (.bool false) ∧ w' = w := by
  go_enter Tryz.func23, Tryz.ntmps23
  go_wp2
  go_ret
  exact ⟨by simp [hn], rfl⟩
set_option maxRecDepth 100000 in
theorem between_any (a n c : Int) (w : World) : Calls Tryz.prog 22 #[.int .i64 a, .int .i64 n, .int .i64 c] w fun e w' => e = .returned (.bool (decide (a ≤ n) && decide (n ≤ c))) ∧ w' = w := by
  go_enter Tryz.func22, Tryz.ntmps22
  by_cases h : a ≤ n
  · go_wp2
    go_ret
    exact ⟨by simp [h], rfl⟩
  · have hd : decide (a ≤ n) = false := decide_eq_false h
    go_wp2
    go_ret
    exact ⟨by simp, rfl⟩
set_option maxRecDepth 100000 in
theorem new_any (n : Int) (h1 : 1 ≤ n) (h8 : n ≤ 8) (w : World) : Calls Tryz.prog 5 #[.int .i64 n] w fun e w' =>
    e = .returned (.tuple #[.pointer (some ⟨w.heap.size, 0, none⟩), .int .i64 0]) ∧ w' = w.alloc (.cells #[.int .i64 n, .slice none 0 0, .slice none 0 0, .int .i64 0, .slice none 0 0] 32) := by
  have hb := fun w => between_any 1 n 8 w
  rw [decide_eq_true h1, decide_eq_true h8] at hb
  have HB := Lib.hid hb; clear hb
  go_enter Tryz.func5, Tryz.ntmps5
  go_wp2_with (go_at_call 22; refine (HB.out _).mono ?_; rintro e w' ⟨rfl, rfl⟩)
  first | go_ret | go_ret2
  exact ⟨rfl, rfl⟩
theorem LinkAt.fresh (n : Int) (w : World) (hB : B ≤ w.heap.size) : LinkAt B (fun k => k = w.heap.size) (w.alloc (.cells #[.int .i64 n, .slice none 0 0, .slice none 0 0, .int .i64 0, .slice none 0 0] 32)) w.heap.size n 0 (.slice none 0 0) (.slice none 0 0) (.slice none 0 0) [] [] [] where
  at_ := heap_alloc_new w _
  own := rfl
  lt k hk := by subst hk; simp; exact hB
  pole := own_nil _ _ _ _
  north := own_nil _ _ _ _
  sent := own_nil _ _ _ _
  fp g h := by simp [Value.ownBlock] at h
  fn g h := by simp [Value.ownBlock] at h
  fs g h := by simp [Value.ownBlock] at h
  pn g h := by simp [Value.ownBlock] at h
end Go.Proofs.YtpiciiglncdbpaaGreatDoor.LK
