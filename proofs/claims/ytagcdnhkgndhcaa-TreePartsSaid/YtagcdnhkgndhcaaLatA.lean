/- Package lattice: how a lattice lies in memory; a place of its tables, joins, meets. -/
import Derived.Test.YtagcdnhkgndhcaaOrdE
import Derived.Test.YtagcdnhkgndhcaaPlan
set_option linter.unusedVariables false
set_option linter.unusedSimpArgs false
namespace Go.Proofs.Ytagcdnhkgndhcaa
open Go.RowKit Go.Hoist

/-- A grid of n times n numbers, in blocks below B. -/
structure GridR (w : World) (B gb go n : Nat) (rb ro rc : Nat → Nat) (f : Nat → Nat → Int) : Prop where
  lt : gb < B
  rows : ∀ a, a < n → w.cell? ⟨gb, go + a, none⟩ = some (.slice (some ⟨rb a, ro a, none⟩) n (rc a))
  rlt : ∀ a, a < n → rb a < B
  cells : ∀ a b, a < n → b < n → w.cell? ⟨rb a, ro a + b, none⟩ = some (.int .i64 (f a b))
def GridAt (w : World) (B : Nat) (v : Value) (n : Nat) (f : Nat → Nat → Int) : Prop := ∃ gb go c rb ro rc, v = .slice (some ⟨gb, go, none⟩) n c ∧ GridR w B gb go n rb ro rc f
theorem GridAt.below {w w' : World} {B : Nat} {v : Value} {n : Nat} {f : Nat → Nat → Int} (h : GridAt w B v n f) (hb : Below B w w') : GridAt w' B v n f := by
  obtain ⟨gb, go, c, rb, ro, rc, h1, h⟩ := h
  exact ⟨gb, go, c, rb, ro, rc, h1, h.lt, fun a ha => (hb.cell (p := ⟨gb, _, none⟩) h.lt).trans (h.rows a ha), h.rlt, fun a b ha hb' => (hb.cell (p := ⟨rb a, _, none⟩) (h.rlt a ha)).trans (h.cells a b ha hb')⟩
theorem GridAt.mono {w : World} {B B' : Nat} {v : Value} {n : Nat} {f : Nat → Nat → Int} (h : GridAt w B v n f) (hb : B ≤ B') : GridAt w B' v n f := by
  obtain ⟨gb, go, c, rb, ro, rc, h1, h⟩ := h
  exact ⟨gb, go, c, rb, ro, rc, h1, Nat.lt_of_lt_of_le h.lt hb, h.rows, fun a ha => Nat.lt_of_lt_of_le (h.rlt a ha) hb, h.cells⟩
def atM (n : Nat) (f : Nat → Nat → Int) (a b none : Int) : Int := if 0 ≤ a ∧ 0 ≤ b ∧ a < n ∧ b < n then f a.toNat b.toNat else none

set_option maxHeartbeats 800000 in
set_option maxRecDepth 100000 in
theorem c_at (n : Nat) (f : Nat → Nat → Int) (a b d : Int) (v : Value) (w : World) (B : Nat) (hn : n ≤ 16) (hg : GridAt w B v n f) :
    Calls Try.prog 129 #[v, .int .i64 a, .int .i64 b, .int .i64 d] w fun e w' => e = .returned (.int .i64 (atM n f a b d)) ∧ w = w' := by
  obtain ⟨gb, go, c, rb, ro, rc, rfl, h⟩ := hg
  obtain ⟨_, hrows, _, hcells⟩ := h
  by_cases hin : 0 ≤ a ∧ 0 ≤ b ∧ a < n ∧ b < n
  · have he : atM n f a b d = f a.toNat b.toNat := by unfold atM; rw [if_pos hin]
    obtain ⟨ha0, hb0, ha1, hb1⟩ := hin
    obtain ⟨x, rfl⟩ := Int.eq_ofNat_of_zero_le ha0
    obtain ⟨y, rfl⟩ := Int.eq_ofNat_of_zero_le hb0
    have hx : x < n := by omega
    have hy : y < n := by omega
    have He := Lib.hid he; clear he
    go_enter Try.func129, Try.ntmps129
    go_wp2_with fail
    go_ret
    exact ⟨ret_int (He.out ▸ rfl), rfl⟩
  · have he : atM n f a b d = d := by unfold atM; rw [if_neg hin]
    have He := Lib.hid he; clear he
    by_cases h1 : a < 0
    · go_enter Try.func129, Try.ntmps129
      go_wp2_with fail
      go_ret
      exact ⟨ret_int (He.out.symm), rfl⟩
    · by_cases h2 : b < 0
      · go_enter Try.func129, Try.ntmps129
        go_wp2_with fail
        go_ret
        exact ⟨ret_int (He.out.symm), rfl⟩
      · by_cases h3 : (n : Int) ≤ a
        · go_enter Try.func129, Try.ntmps129
          go_wp2_with fail
          go_ret
          exact ⟨ret_int (He.out.symm), rfl⟩
        · have h4 : (n : Int) ≤ b := by omega
          go_enter Try.func129, Try.ntmps129
          go_wp2_with fail
          go_ret
          exact ⟨ret_int (He.out.symm), rfl⟩

/-! ### The lattice itself -/
def leqM (q : List (List Bool)) (a b : Nat) : Int := if bit q a b then 1 else 0
def joinM (q : List (List Bool)) (a b : Nat) : Int := (leastM q (upperM q a b)).getD 0
def meetM (q : List (List Bool)) (a b : Nat) : Int := (greatestM q (lowerM q a b)).getD 0
structure LatR (w : World) (B p n : Nat) (q : List (List Bool)) (vl vj vm : Value) (top bot : Int) : Prop where
  lt : p < B
  blk : Blk w p 164 #[vl, vj, vm, .int .i64 top, .int .i64 bot]
  leq : GridAt w B vl n (leqM q)
  join : GridAt w B vj n (joinM q)
  meet : GridAt w B vm n (meetM q)
theorem LatR.below {w w' : World} {B p n : Nat} {q : List (List Bool)} {vl vj vm : Value} {top bot : Int} (h : LatR w B p n q vl vj vm top bot) (hb : Below B w w') : LatR w' B p n q vl vj vm top bot :=
  ⟨h.lt, h.blk.below hb h.lt, h.leq.below hb, h.join.below hb, h.meet.below hb⟩
theorem LatR.mono {w : World} {B B' p n : Nat} {q : List (List Bool)} {vl vj vm : Value} {top bot : Int} (h : LatR w B p n q vl vj vm top bot) (hb : B ≤ B') : LatR w B' p n q vl vj vm top bot :=
  ⟨Nat.lt_of_lt_of_le h.lt hb, h.blk, h.leq.mono hb, h.join.mono hb, h.meet.mono hb⟩

set_option maxHeartbeats 800000 in
set_option maxRecDepth 100000 in
theorem c_Join (n : Nat) (a b : Int) (p B : Nat) (q : List (List Bool)) (vl vj vm : Value) (top bot : Int) (w : World) (hn : n ≤ 16) (h : LatR w B p n q vl vj vm top bot) :
    Calls Try.prog 86 #[.pointer (some ⟨p, 0, none⟩), .int .i64 a, .int .i64 b] w fun e w' => e = .returned (.int .i64 (atM n (joinM q) a b (-1))) ∧ w = w' := by
  have hc := c_at n (joinM q) a b (-1) vj w B hn h.join
  have h1 : w.cell? ⟨p, 1, none⟩ = some vj := by rw [h.blk.cell]; rfl
  obtain ⟨gb, go, c, rb, ro, rc, hv, _⟩ := h.join
  subst hv
  have Hc := Lib.hid hc; clear hc
  clear h
  go_enter Try.func86, Try.ntmps86
  go_wp2_with (go_at_call 129; refine (Hc.out).mono ?_; rintro e w' ⟨rfl, rfl⟩)
  go_ret
  exact ⟨rfl, rfl⟩

set_option maxHeartbeats 800000 in
set_option maxRecDepth 100000 in
theorem c_Meet (n : Nat) (a b : Int) (p B : Nat) (q : List (List Bool)) (vl vj vm : Value) (top bot : Int) (w : World) (hn : n ≤ 16) (h : LatR w B p n q vl vj vm top bot) :
    Calls Try.prog 87 #[.pointer (some ⟨p, 0, none⟩), .int .i64 a, .int .i64 b] w fun e w' => e = .returned (.int .i64 (atM n (meetM q) a b (-1))) ∧ w = w' := by
  have hc := c_at n (meetM q) a b (-1) vm w B hn h.meet
  have h1 : w.cell? ⟨p, 2, none⟩ = some vm := by rw [h.blk.cell]; rfl
  obtain ⟨gb, go, c, rb, ro, rc, hv, _⟩ := h.meet
  subst hv
  have Hc := Lib.hid hc; clear hc
  clear h
  go_enter Try.func87, Try.ntmps87
  go_wp2_with (go_at_call 129; refine (Hc.out).mono ?_; rintro e w' ⟨rfl, rfl⟩)
  go_ret
  exact ⟨rfl, rfl⟩

set_option maxHeartbeats 800000 in
set_option maxRecDepth 100000 in
theorem c_Len (n : Nat) (p B : Nat) (q : List (List Bool)) (vl vj vm : Value) (top bot : Int) (w : World) (h : LatR w B p n q vl vj vm top bot) :
    Calls Try.prog 90 #[.pointer (some ⟨p, 0, none⟩)] w fun e w' => e = .returned (.int .i64 n) ∧ w = w' := by
  have h1 : w.cell? ⟨p, 0, none⟩ = some vl := by rw [h.blk.cell]; rfl
  obtain ⟨gb, go, c, rb, ro, rc, hv, _⟩ := h.leq
  subst hv
  clear h
  go_enter Try.func90, Try.ntmps90
  go_wp2_with fail
  go_ret
  exact ⟨rfl, rfl⟩

set_option maxHeartbeats 800000 in
set_option maxRecDepth 100000 in
theorem c_Bottom (n : Nat) (p B : Nat) (q : List (List Bool)) (vl vj vm : Value) (top bot : Int) (w : World) (h : LatR w B p n q vl vj vm top bot) :
    Calls Try.prog 91 #[.pointer (some ⟨p, 0, none⟩)] w fun e w' => e = .returned (.int .i64 bot) ∧ w = w' := by
  have h1 : w.cell? ⟨p, 4, none⟩ = some (.int .i64 bot) := by rw [h.blk.cell]; rfl
  clear h
  go_enter Try.func91, Try.ntmps91
  go_wp2_with fail
  go_ret
  exact ⟨rfl, rfl⟩
end Go.Proofs.Ytagcdnhkgndhcaa
