/- The methods of a link at a link that is none: nil, or one that no call has made (its window is 0). -/
import Derived.Test.YtpiciiglncdbpaaGreatDoorProg
import Derived.WalkKit
import Derived.Below
import Derived.Lib.Hide
import Derived.Deep.RegionWith
namespace Go.Proofs.YtpiciiglncdbpaaGreatDoor.LK
open Go.RowKit
/-- A link that is none. -/
def NoneL (v : Value) (w : World) : Prop := v = .pointer none ∨ ∃ b o : Nat, v = .pointer (some ⟨b, o, none⟩) ∧ w.cell? ⟨b, o, none⟩ = some (.int .i64 0)
theorem NoneL.later {v : Value} {w w' : World} (h : NoneL v w) (hb : Below w.heap.size w w') : NoneL v w' := by
  rcases h with h | ⟨b, o, h, hc⟩
  · exact .inl h
  · exact .inr ⟨b, o, h, by rw [hb.cell (World.block_lt_of_cell? w _ hc)]; exact hc⟩
set_option maxRecDepth 100000 in
theorem none_yes {v : Value} {w : World} (h : NoneL v w) : Calls Tryz.prog 23 #[v] w fun e w' => e = .returned (.bool true) ∧ w' = w := by
  rcases h with rfl | ⟨b, o, rfl, hc⟩
  · go_enter Tryz.func23, Tryz.ntmps23
    go_wp2
    go_ret
    exact ⟨rfl, rfl⟩
  · go_enter Tryz.func23, Tryz.ntmps23
    go_wp2
    go_ret
    exact ⟨by simp, rfl⟩
set_option maxRecDepth 100000 in
theorem pass_none {v : Value} (B : Option Addr) (nb cb : Nat) (c : Value) {w : World} (h : NoneL v w) : Calls Tryz.prog 6 #[v, .slice B nb cb, c] w fun e w' => e = .returned (.tuple #[.slice none 0 0, .int .i64 101]) ∧ Below w.heap.size w w' := by
  have hb : ∀ p, Below w.heap.size w ((w.alloc (.cells #[.pointer p] 24)).alloc (.cells #[.slice B nb cb] 22)) := fun p => ((Below.refl _ w).alloc (Nat.le_refl _) _).alloc (by simp) _
  have HB := Lib.hid hb; clear hb
  have main : ∀ p, NoneL (.pointer p) w → Calls Tryz.prog 6 #[.pointer p, .slice B nb cb, c] w fun e w' => e = .returned (.tuple #[.slice none 0 0, .int .i64 101]) ∧ Below w.heap.size w w' := by
    intro p h
    have HN : Hid (Calls Tryz.prog 23 #[.pointer p] ((w.alloc (.cells #[.pointer p] 24)).alloc (.cells #[.slice B nb cb] 22)) fun e w' => e = .returned (.bool true) ∧ w' = ((w.alloc (.cells #[.pointer p] 24)).alloc (.cells #[.slice B nb cb] 22))) := none_yes (h.later (HB.out p))
    clear h
    go_enter Tryz.func6, Tryz.ntmps6
    go_wp2_with (go_at_call 23; refine HN.out.mono ?_; rintro e w' ⟨rfl, rfl⟩)
    first | go_ret | go_ret2
    exact ⟨rfl, HB.out p⟩
  rcases h with rfl | ⟨b, o, rfl, hc⟩
  · exact main _ (.inl rfl)
  · exact main _ (.inr ⟨b, o, rfl, hc⟩)
set_option maxRecDepth 100000 in
theorem clean_none {v : Value} {w : World} (h : NoneL v w) : Calls Tryz.prog 7 #[v] w fun e w' => e = .returned (.tuple #[.int .i64 0, .int .i64 101]) ∧ Below w.heap.size w w' := by
  have HN := Lib.hid h; clear h
  go_enter Tryz.func7, Tryz.ntmps7
  go_wp2_with (go_at_call 23; refine (none_yes (HN.out)).mono ?_; rintro e w' ⟨rfl, rfl⟩)
  first | go_ret | go_ret2
  exact ⟨rfl, Below.refl _ _⟩
set_option maxRecDepth 100000 in
theorem entry_none {v : Value} (b : Value) {w : World} (h : NoneL v w) : Calls Tryz.prog 8 #[v, b] w fun e w' => e = .returned (.tuple #[.string ⟨#[]⟩, .int .i64 101]) ∧ Below w.heap.size w w' := by
  have HN := Lib.hid h; clear h
  go_enter Tryz.func8, Tryz.ntmps8
  go_wp2_with (go_at_call 23; refine (none_yes (HN.out)).mono ?_; rintro e w' ⟨rfl, rfl⟩)
  first | go_ret | go_ret2
  exact ⟨rfl, Below.refl _ _⟩
set_option maxRecDepth 100000 in
theorem ask_none {v : Value} (b : Value) {w : World} (h : NoneL v w) : Calls Tryz.prog 9 #[v, b] w fun e w' => e = .returned (.tuple #[.string ⟨#[]⟩, .int .i64 101]) ∧ Below w.heap.size w w' := by
  have HN := Lib.hid h; clear h
  go_enter Tryz.func9, Tryz.ntmps9
  go_wp2_with (go_at_call 23; refine (none_yes (HN.out)).mono ?_; rintro e w' ⟨rfl, rfl⟩)
  first | go_ret | go_ret2
  exact ⟨rfl, Below.refl _ _⟩
set_option maxRecDepth 100000 in
theorem passes_none {v : Value} {w : World} (h : NoneL v w) : Calls Tryz.prog 10 #[v] w fun e w' => e = .returned (.tuple #[.int .i64 0, .int .i64 101]) ∧ Below w.heap.size w w' := by
  have HN := Lib.hid h; clear h
  go_enter Tryz.func10, Tryz.ntmps10
  go_wp2_with (go_at_call 23; refine (none_yes (HN.out)).mono ?_; rintro e w' ⟨rfl, rfl⟩)
  first | go_ret | go_ret2
  exact ⟨rfl, Below.refl _ _⟩
set_option maxRecDepth 100000 in
theorem add_none {v : Value} (b : Value) {w : World} (h : NoneL v w) : Calls Tryz.prog 11 #[v, b] w fun e w' => e = .returned (.int .i64 101) ∧ Below w.heap.size w w' := by
  have HN := Lib.hid h; clear h
  go_enter Tryz.func11, Tryz.ntmps11
  go_wp2_with (go_at_call 23; refine (none_yes (HN.out)).mono ?_; rintro e w' ⟨rfl, rfl⟩)
  first | go_ret | go_ret2
  exact ⟨rfl, Below.refl _ _⟩
set_option maxRecDepth 100000 in
theorem fall_none {v : Value} {w : World} (h : NoneL v w) : Calls Tryz.prog 12 #[v] w fun e w' => e = .returned (.int .i64 101) ∧ Below w.heap.size w w' := by
  have HN := Lib.hid h; clear h
  go_enter Tryz.func12, Tryz.ntmps12
  go_wp2_with (go_at_call 23; refine (none_yes (HN.out)).mono ?_; rintro e w' ⟨rfl, rfl⟩)
  first | go_ret | go_ret2
  exact ⟨rfl, Below.refl _ _⟩
set_option maxRecDepth 100000 in
theorem waits_none {v : Value} {w : World} (h : NoneL v w) : Calls Tryz.prog 13 #[v] w fun e w' => e = .returned (.slice none 0 0) ∧ Below w.heap.size w w' := by
  have HN := Lib.hid h; clear h
  go_enter Tryz.func13, Tryz.ntmps13
  go_wp2_with (go_at_call 23; refine (none_yes (HN.out)).mono ?_; rintro e w' ⟨rfl, rfl⟩)
  first | go_ret | go_ret2
  exact ⟨rfl, Below.refl _ _⟩
set_option maxRecDepth 100000 in
theorem pole_none {v : Value} {w : World} (h : NoneL v w) : Calls Tryz.prog 14 #[v] w fun e w' => e = .returned (.slice none 0 0) ∧ Below w.heap.size w w' := by
  have HN := Lib.hid h; clear h
  go_enter Tryz.func14, Tryz.ntmps14
  go_wp2_with (go_at_call 23; refine (none_yes (HN.out)).mono ?_; rintro e w' ⟨rfl, rfl⟩)
  first | go_ret | go_ret2
  exact ⟨rfl, Below.refl _ _⟩
set_option maxRecDepth 100000 in
theorem north_none {v : Value} {w : World} (h : NoneL v w) : Calls Tryz.prog 15 #[v] w fun e w' => e = .returned (.slice none 0 0) ∧ Below w.heap.size w w' := by
  have HN := Lib.hid h; clear h
  go_enter Tryz.func15, Tryz.ntmps15
  go_wp2_with (go_at_call 23; refine (none_yes (HN.out)).mono ?_; rintro e w' ⟨rfl, rfl⟩)
  first | go_ret | go_ret2
  exact ⟨rfl, Below.refl _ _⟩
set_option maxRecDepth 100000 in
theorem seen_none {v : Value} {w : World} (h : NoneL v w) : Calls Tryz.prog 16 #[v] w fun e w' => e = .returned (.int .i64 0) ∧ Below w.heap.size w w' := by
  have HN := Lib.hid h; clear h
  go_enter Tryz.func16, Tryz.ntmps16
  go_wp2_with (go_at_call 23; refine (none_yes (HN.out)).mono ?_; rintro e w' ⟨rfl, rfl⟩)
  first | go_ret | go_ret2
  exact ⟨rfl, Below.refl _ _⟩
set_option maxRecDepth 100000 in
theorem sent_none {v : Value} {w : World} (h : NoneL v w) : Calls Tryz.prog 17 #[v] w fun e w' => e = .returned (.int .i64 0) ∧ Below w.heap.size w w' := by
  have HN := Lib.hid h; clear h
  go_enter Tryz.func17, Tryz.ntmps17
  go_wp2_with (go_at_call 23; refine (none_yes (HN.out)).mono ?_; rintro e w' ⟨rfl, rfl⟩)
  first | go_ret | go_ret2
  exact ⟨rfl, Below.refl _ _⟩
set_option maxRecDepth 100000 in
theorem copy_none {v : Value} {w : World} (h : NoneL v w) : Calls Tryz.prog 18 #[v] w fun e w' => e = .returned (.pointer none) ∧ Below w.heap.size w w' := by
  have HN := Lib.hid h; clear h
  go_enter Tryz.func18, Tryz.ntmps18
  go_wp2_with (go_at_call 23; refine (none_yes (HN.out)).mono ?_; rintro e w' ⟨rfl, rfl⟩)
  first | go_ret | go_ret2
  exact ⟨rfl, Below.refl _ _⟩
set_option maxRecDepth 100000 in
theorem same_none_yes {v u : Value} {w : World} (h1 : NoneL v w) (h2 : NoneL u w) : Calls Tryz.prog 19 #[v, u] w fun e w' => e = .returned (.bool true) ∧ w' = w := by
  have H1 := Lib.hid h1
  have H2 := Lib.hid h2
  clear h1 h2
  go_enter Tryz.func19, Tryz.ntmps19
  go_wp2_with (first
    | (go_at_call_of 23 v; refine (none_yes H1.out).mono ?_; rintro e w' ⟨rfl, rfl⟩)
    | (go_at_call_of 23 u; refine (none_yes H2.out).mono ?_; rintro e w' ⟨rfl, rfl⟩))
  go_ret
  exact ⟨by first | rfl | simp, rfl⟩
set_option maxRecDepth 100000 in
theorem same_none_no {v u : Value} {w : World} (h1 : NoneL v w) (h2 : ∀ w', Below w.heap.size w w' → Calls Tryz.prog 23 #[u] w' fun e w'' => e = .returned (.bool false) ∧ w'' = w') : Calls Tryz.prog 19 #[v, u] w fun e w' => e = .returned (.bool false) ∧ w' = w := by
  have H1 := Lib.hid h1
  have H2 := Lib.hid h2
  clear h1 h2
  go_enter Tryz.func19, Tryz.ntmps19
  go_wp2_with (first
    | (go_at_call_of 23 v; refine (none_yes H1.out).mono ?_; rintro e w' ⟨rfl, rfl⟩)
    | (go_at_call_of 23 u; refine (H2.out _ (Below.refl _ _)).mono ?_; rintro e w' ⟨rfl, rfl⟩))
  go_ret
  exact ⟨by first | rfl | simp, rfl⟩
set_option maxRecDepth 100000 in
theorem same_no_none {v u : Value} {w : World} (h1 : ∀ w', Below w.heap.size w w' → Calls Tryz.prog 23 #[u] w' fun e w'' => e = .returned (.bool false) ∧ w'' = w') (h2 : NoneL v w) : Calls Tryz.prog 19 #[u, v] w fun e w' => e = .returned (.bool false) ∧ w' = w := by
  have H1 := Lib.hid h1
  have H2 := Lib.hid h2
  clear h1 h2
  go_enter Tryz.func19, Tryz.ntmps19
  go_wp2_with (first
    | (go_at_call_of 23 u; refine (H1.out _ (Below.refl _ _)).mono ?_; rintro e w' ⟨rfl, rfl⟩)
    | (go_at_call_of 23 v; refine (none_yes H2.out).mono ?_; rintro e w' ⟨rfl, rfl⟩))
  go_ret
  exact ⟨by first | rfl | simp, rfl⟩
end Go.Proofs.YtpiciiglncdbpaaGreatDoor.LK
