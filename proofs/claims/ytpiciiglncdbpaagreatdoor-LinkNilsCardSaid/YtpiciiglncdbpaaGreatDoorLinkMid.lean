/- In the midst of a pass: what stands between two letters. -/
import Derived.Test.YtpiciiglncdbpaaGreatDoorLinkRounds
import Derived.Lib.QuietBelow
namespace Go.Proofs.YtpiciiglncdbpaaGreatDoor.LK
open Go.RowKit Go.Proofs.YtpiciiglncdbpaaGreatDoorW.PrintWords Go.Proofs.YtpiciiglncdbpaaGreatDoor.P
variable {B : Nat} {F : Nat → Prop} {W : World} {b : Nat} {win seen : Int} {vp vn vs : Value} {pole north : List ByteArray} {sent : List Int}
/-- waits at a link. -/
theorem waits_at {k : Nat} {now : List Int} (h : LinkAt B F W b win seen vp vn vs pole north sent) (hn : link_state_waits.f k win pole north seen sent = some now) :
    Calls Tryz.prog 24 #[.agg #[.int .i64 win, vp, vn, .int .i64 seen, vs]] W fun e w' => ∃ A c, e = .returned (.slice A now.length c) ∧ Kd.R (Kd.int .i64) 3 w' W.heap.size (fun _ => True) (.slice A now.length c) now ∧ Below W.heap.size W w' := by
  obtain ⟨A1, c1, e1, l1, k1⟩ := Kd.R_reads (Kd.R_of_own (enc := Value.string) (h1 := fun _ => rfl) (ok := fun _ => True) h.pole (fun _ _ => trivial))
  obtain ⟨A2, c2, e2, l2, k2⟩ := Kd.R_reads (Kd.R_of_own (enc := Value.string) (h1 := fun _ => rfl) (ok := fun _ => True) h.north (fun _ _ => trivial))
  obtain ⟨A3, c3, e3, l3, k3⟩ := Kd.R_reads (Kd.R_of_own (enc := Value.int .i64) (h1 := fun _ => rfl) (ok := fun _ => True) h.sent (fun _ _ => trivial))
  subst e1 e2 e3
  refine (link_state_waits.calls k win A1 c1 pole A2 c2 north seen A3 c3 sent now W k1 l1 k2 l2 k3 l3 hn).mono ?_
  rintro e w' ⟨v, he, hR, hB⟩
  obtain ⟨A, c, hv⟩ := Kd.R_slice hR
  subst hv
  exact ⟨A, c, he, hR, hB⟩
theorem Keeps.cell {G : Nat → Prop} {w w' : World} (h : Keeps G w w') {a : Addr} {v : Value} (hc : w.cell? a = some v) (hF : ¬ G a.block) : w'.cell? a = some v := by
  have e := h.block a.block (World.block_lt_of_cell? w a hc) hF
  unfold World.cell? at hc ⊢
  rw [e]
  exact hc
theorem addr_block (a : Addr) (n : Nat) : (a.add n).block = a.block := by unfold Addr.add; split <;> rfl
/-- A row of another's memory. -/
theorem Keeps.row {G : Nat → Prop} {w w' : World} {base : Nat} {v : Value} {xs : List Int} (h : Keeps G w w') (hR : Kd.R (Kd.int .i64) 3 w base (fun _ => True) v xs) (hO : ∀ g, v.ownBlock = some g → ¬ G g) : Kd.R (Kd.int .i64) 3 w' base (fun _ => True) v xs := by
  have ho : w.ownsRow base 3 1 v xs.length (nums .i64 xs) := Kd.own_of_R hR
  exact Kd.R_of_own (enc := Value.int .i64) (h1 := fun _ => rfl) (own_move ho (fun g hg => h.block g (own_lt ho g hg) (hO g hg))) (fun _ _ => trivial)
/-- The numbers of the letters that come. -/
def lettersK (all : List Int) (base : Nat) (dn : List Int) : List Int := dn.map fun n => all.getD ((base : Int) + n).toNat 0
theorem lettersK_take (all : List Int) (base : Nat) (dn : List Int) {k : Nat} (hk : k < dn.length) : (lettersK all base dn).take (k + 1) = (lettersK all base dn).take k ++ [all.getD ((base : Int) + dn.getD k 0).toNat 0] := by
  unfold lettersK
  rw [List.take_succ_eq_append_getElem (by rw [List.length_map]; exact hk), List.getElem_map, getD_lt _ hk]
/-- What stands between two letters: wd is the world ahead of the first one. -/
structure PassMid (B : Nat) (F F' : Nat → Prop) (wd : World) (b : Nat) (win seen : Int) (vp vn vs : Value) (pole north : List ByteArray) (all out : List Int) (v : Value) (wr : World) : Prop where
  link : LinkAt B F' wr b win seen vp vn vs pole north all
  keeps : Keeps F wd wr
  sub : ∀ j, F' j → F j ∨ wd.heap.size ≤ j
  row : Kd.R (Kd.int .i64) 3 wr wd.heap.size (fun _ => True) v out
  apart : ∀ g, v.ownBlock = some g → ¬ F' g
theorem PassMid.lt {F' : Nat → Prop} {wd wr : World} {all out : List Int} {v : Value} (h : PassMid B F F' wd b win seen vp vn vs pole north all out v wr) (g : Nat) (hg : v.ownBlock = some g) : wd.heap.size ≤ g ∧ g < wr.heap.size := by
  have ho : wr.ownsRow wd.heap.size 3 1 v out.length (nums .i64 out) := Kd.own_of_R h.row
  exact ⟨own_base ho g hg, own_lt ho g hg⟩
theorem PassMid.begin {wd w5 : World} {F' : Nat → Prop} {all : List Int} (hL : LinkAt B F' w5 b win seen vp vn vs pole north all) (hK : Keeps F wd w5) (hF : ∀ j, F' j → F j ∨ wd.heap.size ≤ j) : PassMid B F F' wd b win seen vp vn vs pole north all [] (.slice none 0 0) w5 :=
  ⟨hL, hK, hF, Kd.R_nil _ _ _ _ _, fun g hg => by simp [Value.ownBlock] at hg⟩
/-- A letter has come: the receipts' row stands as it stood. -/
theorem PassMid.come {F' F2 : Nat → Prop} {wd wr w1 : World} {all out : List Int} {v vn2 : Value} {north2 : List ByteArray} (h : PassMid B F F' wd b win seen vp vn vs pole north all out v wr)
    (hL : LinkAt B F2 w1 b win seen vp vn2 vs pole north2 all) (hK : Keeps F' wr.drew w1) (hF : ∀ j, F2 j → F' j ∨ wr.drew.heap.size ≤ j) : PassMid B F F2 wd b win seen vp vn2 vs pole north2 all out v w1 where
  link := hL
  keeps := (h.keeps.trans (Keeps.of_below (F := F) (Below.refl _ wr).drew) (fun _ hk => .inl hk)).trans hK h.sub
  sub j hj := by
    rcases hF j hj with h1 | h1
    · exact h.sub j h1
    · exact .inr (Nat.le_trans h.keeps.size h1)
  row := hK.row (Kd.R_below h.row (Below.refl _ wr).drew) h.apart
  apart g hg hj := by
    rcases hF g hj with h1 | h1
    · exact h.apart g hg h1
    · exact absurd (h.lt g hg).2 (Nat.not_lt.2 h1)
/-- Its receipt is written. -/
theorem PassMid.wrote {F' : Nat → Prop} {wd wr w2 : World} {all out out2 : List Int} {v v1 : Value} (h : PassMid B F F' wd b win seen vp vn vs pole north all out v wr) (o : Obj)
    (hR : Kd.R (Kd.int .i64) 3 w2 wd.heap.size (fun _ => True) v1 out2) (hg : (wr.alloc o).grownBy w2 v.ownBlock) (hat : v1.ownBlock = v.ownBlock ∨ ∃ g, v1.ownBlock = some g ∧ (wr.alloc o).heap.size ≤ g) :
    PassMid B F F' wd b win seen vp vn vs pole north all out2 v1 w2 := by
  have hg2 : wr.grownBy w2 v.ownBlock := (World.grownBy_alloc wr _ _).trans hg
  refine ⟨h.link.moved hg2.size (fun j hj => hg2.block j (h.link.lt j hj).2 (fun he => h.apart j he.symm hj)), ?_, h.sub, hR, ?_⟩
  · refine h.keeps.trans (G := fun j => v.ownBlock = some j) ⟨hg2.os, hg2.tape, hg2.output, hg2.size, fun j hj hne => hg2.block j hj (fun he => hne he.symm)⟩ (fun j hj => .inr (h.lt j hj).1)
  · intro g hgo hj
    rcases hat with h1 | ⟨g', h1, h2⟩
    · exact h.apart g (h1 ▸ hgo) hj
    · rw [hgo] at h1
      injection h1 with h1
      have := (h.link.lt g hj).2
      have h3 : (wr.alloc o).heap.size = wr.heap.size + 1 := by simp
      omega
/-- A receipt has been heard. -/
theorem PassMid.hear {F' : Nat → Prop} {wd wr w1 : World} {all out : List Int} {v : Value} {s : Int} (h : PassMid B F F' wd b win seen vp vn vs pole north all out v wr)
    (hL : LinkAt B F' w1 b win s vp vn vs pole north all) (hK : Keeps F' wr w1) : PassMid B F F' wd b win s vp vn vs pole north all out v w1 where
  link := hL
  keeps := h.keeps.trans hK h.sub
  sub := h.sub
  row := hK.row h.row h.apart
  apart := h.apart
theorem PassMid.drew {F' : Nat → Prop} {wd wr : World} {all out : List Int} {v : Value} (h : PassMid B F F' wd b win seen vp vn vs pole north all out v wr) : PassMid B F F' wd b win seen vp vn vs pole north all out v wr.drew :=
  ⟨h.link.later (Below.refl _ wr).drew, h.keeps.trans (Keeps.of_below (F := F) (Below.refl _ wr).drew) (fun _ hk => .inl hk), h.sub, Kd.R_below h.row (Below.refl _ wr).drew, h.apart⟩
/-- The row of all numbers, in the midst. -/
theorem PassMid.sentAt {F' : Nat → Prop} {wd wr : World} {all out : List Int} {v : Value} {A1 : Option Addr} {n1 c1 : Nat} (h : PassMid B F F' wd b win seen vp vn (.slice A1 n1 c1) pole north all out v wr) {p : Nat} (hp : p < all.length) :
    ∃ ax, A1 = some ax ∧ wr.cell? (ax.add p) = some (.int .i64 (all.getD p 0)) := by
  have hR := Kd.R_of_own (enc := Value.int .i64) (h1 := fun _ => rfl) (ok := fun _ => True) h.link.sent (fun _ _ => trivial)
  obtain ⟨A, c, e, _, hC⟩ := Kd.R_reads hR
  injection e with e1 e2 e3
  subst e1
  exact C_at_int hC p hp
theorem PassMid.three {F' : Nat → Prop} {wd wr : World} {all out : List Int} {v : Value} {ax : Addr} {n1 c1 q : Nat} {u : Value} (h : PassMid B F F' wd b win seen vp vn (.slice (some ax) n1 c1) pole north all out v wr) (hq : wd.cell? ⟨q, 0, none⟩ = some u) (hqF : ¬ F q) {p : Nat} (hp : p < all.length) :
    wr.cell? ⟨q, 0, none⟩ = some u ∧ wr.cell? ⟨b, 4, none⟩ = some (.slice (some ax) n1 c1) ∧ wr.cell? (ax.add p) = some (.int .i64 (all.getD p 0)) := by
  obtain ⟨ax', e, hc⟩ := h.sentAt hp
  injection e with e
  subst e
  exact ⟨h.keeps.cell hq hqF, h.link.cells.2.2.2.2, hc⟩
theorem lettersK_le {all : List Int} {L : Int} (base : Nat) (dn : List Int) (h : ∀ x ∈ all, x ≤ L) (h0 : 0 ≤ L) : ∀ y ∈ lettersK all base dn, y ≤ L := by
  intro y hy
  unfold lettersK at hy
  obtain ⟨n, _, rfl⟩ := List.mem_map.1 hy
  by_cases hi : ((base : Int) + n).toNat < all.length
  · exact h _ (getD_mem 0 hi)
  · rw [List.getD_eq_getElem?_getD, List.getElem?_eq_none (by omega)]
    exact h0
theorem lettersK_len (all : List Int) (base : Nat) (dn : List Int) : (lettersK all base dn).length = dn.length := by unfold lettersK; rw [List.length_map]
/-- One letter more. -/
theorem letters_next (pole north : List ByteArray) (all : List Int) (base : Nat) (dn : List Int) {k : Nat} (hk : k < dn.length) {p : Nat} (hp : (base : Int) + dn.getD k 0 = p) :
    northK pole north ((lettersK all base dn).take (k + 1)) = north1 pole (northK pole north ((lettersK all base dn).take k)) (all.getD p 0) ∧
    outK pole north ((lettersK all base dn).take (k + 1)) = outK pole north ((lettersK all base dn).take k) ++ [((north1 pole (northK pole north ((lettersK all base dn).take k)) (all.getD p 0)).length : Int)] := by
  rw [lettersK_take all base dn hk, hp, Int.toNat_natCast, outK_snoc, northK_snoc]
  exact ⟨rfl, rfl⟩
theorem PassMid.lower {F' : Nat → Prop} {wd wr : World} {all out : List Int} {v : Value} (h : PassMid B F F' wd b win seen vp vn vs pole north all out v wr) (hb : Below W.heap.size W wd) : PassMid B F F' W b win seen vp vn vs pole north all out v wr :=
  ⟨h.link, (Keeps.of_below (F := F) hb).trans h.keeps (fun _ hk => .inl hk), fun j hj => (h.sub j hj).imp id (fun h2 => Nat.le_trans hb.size h2), Kd.R_lower h.row hb.size, h.apart⟩
theorem PassMid.outAt {F' : Nat → Prop} {wd wr : World} {all out : List Int} {A1 : Option Addr} {n1 c1 : Nat} (h : PassMid B F F' wd b win seen vp vn vs pole north all out (.slice A1 n1 c1) wr) {p : Nat} (hp : p < out.length) :
    ∃ ax, A1 = some ax ∧ wr.cell? (ax.add p) = some (.int .i64 (out.getD p 0)) := by
  obtain ⟨A, c, e, _, hC⟩ := Kd.R_reads h.row
  injection e with e1 e2 e3
  subst e1
  exact C_at_int hC p hp
theorem hearK_next (out : List Int) (seen : Int) (un : List Int) {k : Nat} (hk : k < un.length) : hearK out seen (un.take (k + 1)) = max (hearK out seen (un.take k)) (out.getD (un.getD k 0).toNat 0) := by
  rw [List.take_succ_eq_append_getElem hk, hearK_snoc, getD_lt _ hk]
end Go.Proofs.YtpiciiglncdbpaaGreatDoor.LK
