/- Tables of truths: how they lie in memory, what the functions of package order come to. -/
import Derived.Test.YtagcdnhkgndhcaaBase
set_option linter.unusedVariables false
set_option linter.unusedSimpArgs false
namespace Go.Proofs.Ytagcdnhkgndhcaa
open Go.RowKit Go.Hoist

def bit (q : List (List Bool)) (a b : Nat) : Bool := (q.getD a []).getD b false
def rlen (q : List (List Bool)) (a : Nat) : Nat := (q.getD a []).length
/-- A table: its rows and what stands in them, in blocks below B. -/
structure TabR (w : World) (B qb qo : Nat) (q : List (List Bool)) (ra : Nat → Option Addr) (rb ro rc : Nat → Nat) : Prop where
  lt : 0 < q.length → qb < B
  len : q.length ≤ 65536
  rows : ∀ a, a < q.length → w.cell? ⟨qb, qo + a, none⟩ = some (.slice (ra a) (rlen q a) (rc a))
  some_ : ∀ a, a < q.length → 0 < rlen q a → ra a = some ⟨rb a, ro a, none⟩
  rlt : ∀ a, a < q.length → 0 < rlen q a → rb a < B
  rle : ∀ a, a < q.length → rlen q a ≤ 65536
  cells : ∀ a b, a < q.length → b < rlen q a → w.cell? ⟨rb a, ro a + b, none⟩ = some (.bool (bit q a b))
def TabAt (w : World) (B : Nat) (v : Value) (q : List (List Bool)) : Prop :=
  ∃ qa qb qo c ra rb ro rc, v = .slice qa q.length c ∧ (0 < q.length → qa = some ⟨qb, qo, none⟩) ∧ TabR w B qb qo q ra rb ro rc
theorem TabR.below {w w' : World} {B qb qo : Nat} {q : List (List Bool)} {ra : Nat → Option Addr} {rb ro rc : Nat → Nat} (h : TabR w B qb qo q ra rb ro rc) (hb : Below B w w') : TabR w' B qb qo q ra rb ro rc :=
  ⟨h.lt, h.len, fun a ha => (hb.cell (p := ⟨qb, _, none⟩) (h.lt (by omega))).trans (h.rows a ha), h.some_, h.rlt, h.rle, fun a b ha hb' => (hb.cell (p := ⟨rb a, _, none⟩) (h.rlt a ha (by omega))).trans (h.cells a b ha hb')⟩
theorem TabAt.below {w w' : World} {B : Nat} {v : Value} {q : List (List Bool)} (h : TabAt w B v q) (hb : Below B w w') : TabAt w' B v q := by
  obtain ⟨qa, qb, qo, c, ra, rb, ro, rc, h1, h2, h3⟩ := h
  exact ⟨qa, qb, qo, c, ra, rb, ro, rc, h1, h2, h3.below hb⟩
theorem TabAt.mono {w : World} {B B' : Nat} {v : Value} {q : List (List Bool)} (h : TabAt w B v q) (hb : B ≤ B') : TabAt w B' v q := by
  obtain ⟨qa, qb, qo, c, ra, rb, ro, rc, h1, h2, h3⟩ := h
  exact ⟨qa, qb, qo, c, ra, rb, ro, rc, h1, h2, fun h => Nat.lt_of_lt_of_le (h3.lt h) hb, h3.len, h3.rows, h3.some_, fun a h h' => Nat.lt_of_lt_of_le (h3.rlt a h h') hb, h3.rle, h3.cells⟩

/-- A square table, its shape read off. -/
structure SqR (w : World) (B qb qo n : Nat) (q : List (List Bool)) (rb ro rc : Nat → Nat) : Prop where
  lt : qb < B
  pos : 1 ≤ n
  le : n ≤ 16
  rows : ∀ a, a < n → w.cell? ⟨qb, qo + a, none⟩ = some (.slice (some ⟨rb a, ro a, none⟩) n (rc a))
  rlt : ∀ a, a < n → rb a < B
  cells : ∀ a b, a < n → b < n → w.cell? ⟨rb a, ro a + b, none⟩ = some (.bool (bit q a b))
theorem SqR.below {w w' : World} {B qb qo n : Nat} {q : List (List Bool)} {rb ro rc : Nat → Nat} (h : SqR w B qb qo n q rb ro rc) (hb : Below B w w') : SqR w' B qb qo n q rb ro rc :=
  ⟨h.lt, h.pos, h.le, fun a ha => (hb.cell (p := ⟨qb, _, none⟩) h.lt).trans (h.rows a ha), h.rlt, fun a b ha hb' => (hb.cell (p := ⟨rb a, _, none⟩) (h.rlt a ha)).trans (h.cells a b ha hb')⟩
def SqAt (w : World) (B : Nat) (v : Value) (q : List (List Bool)) : Prop := ∃ qb qo c rb ro rc, v = .slice (some ⟨qb, qo, none⟩) q.length c ∧ SqR w B qb qo q.length q rb ro rc
theorem SqAt.below {w w' : World} {B : Nat} {v : Value} {q : List (List Bool)} (h : SqAt w B v q) (hb : Below B w w') : SqAt w' B v q := by
  obtain ⟨qb, qo, c, rb, ro, rc, h1, h2⟩ := h
  exact ⟨qb, qo, c, rb, ro, rc, h1, h2.below hb⟩

/-! ### What the functions come to -/
def squareM (q : List (List Bool)) : Bool := (List.range q.length).all (fun a => decide (rlen q a = q.length)) && decide (1 ≤ q.length) && decide (q.length ≤ 16)
def allM (q : List (List Bool)) (p : Nat → Nat → Bool) : Bool := squareM q && (List.range q.length).all (fun a => (List.range q.length).all (fun b => p a b))
def reflM (q : List (List Bool)) (a _b : Nat) : Bool := bit q a a
def antiM (q : List (List Bool)) (a b : Nat) : Bool := decide (a = b) || !bit q a b || !bit q b a
def transM (q : List (List Bool)) (a b : Nat) : Bool := (List.range q.length).all (fun c => !(bit q a b && bit q b c && !bit q a c))

theorem squareM_row {q : List (List Bool)} (h : squareM q = true) {a : Nat} (ha : a < q.length) : rlen q a = q.length := by
  simp only [squareM, Bool.and_eq_true, List.all_eq_true, List.mem_range, decide_eq_true_eq] at h
  exact h.1.1 a ha
theorem squareM_len {q : List (List Bool)} (h : squareM q = true) : 1 ≤ q.length ∧ q.length ≤ 16 := by
  simp only [squareM, Bool.and_eq_true, decide_eq_true_eq] at h
  exact ⟨h.1.2, h.2⟩
theorem squareM_no {q : List (List Bool)} {a : Nat} (ha : a < q.length) (h : rlen q a ≠ q.length) : squareM q = false := by
  cases hs : squareM q with
  | false => rfl
  | true => exact absurd (squareM_row hs ha) h
theorem squareM_yes {q : List (List Bool)} (h : ∀ a, a < q.length → rlen q a = q.length) : squareM q = (decide (1 ≤ q.length) && decide (q.length ≤ 16)) := by
  have : (List.range q.length).all (fun a => decide (rlen q a = q.length)) = true := by
    simp only [List.all_eq_true, List.mem_range, decide_eq_true_eq]
    exact h
  simp [squareM, this]
theorem TabAt.square {w : World} {B : Nat} {v : Value} {q : List (List Bool)} (h : TabAt w B v q) (hs : squareM q = true) : SqAt w B v q := by
  obtain ⟨qa, qb, qo, c, ra, rb, ro, rc, h1, h2, h3⟩ := h
  obtain ⟨hp, hl⟩ := squareM_len hs
  have hr := fun a (ha : a < q.length) => squareM_row hs ha
  refine ⟨qb, qo, c, rb, ro, rc, by rw [h1, h2 (by omega)], h3.lt (by omega), hp, hl, fun a ha => ?_, fun a ha => h3.rlt a ha (by rw [hr a ha]; omega), fun a b ha hb => h3.cells a b ha (by rw [hr a ha]; exact hb)⟩
  rw [h3.rows a ha, h3.some_ a ha (by rw [hr a ha]; omega), hr a ha]
def hasM (q : List (List Bool)) (xs : List Int) : Bool := xs.all (fun x => decide (0 ≤ x) && decide (x < q.length)) && squareM q
def thoseM (n : Nat) (p : Nat → Bool) : List Int := ((List.range n).filter p).map (fun (c : Nat) => (c : Int))
/-- The first one of a list that stands so to each of it. -/
def firstM (xs : List Int) (p : Int → Int → Bool) : Option Int := xs.find? (fun a => xs.all (fun b => p a b))
theorem hasM_iff {q : List (List Bool)} {xs : List Int} : hasM q xs = true ↔ squareM q = true ∧ ∀ j, j < xs.length → 0 ≤ nth xs j ∧ nth xs j < q.length := by
  simp only [hasM, Bool.and_eq_true, List.all_eq_true, decide_eq_true_eq]
  constructor
  · rintro ⟨h1, h2⟩
    refine ⟨h2, fun j hj => ?_⟩
    rw [nth_eq hj]
    exact h1 _ (List.getElem_mem hj)
  · rintro ⟨h1, h2⟩
    refine ⟨fun x hx => ?_, h1⟩
    obtain ⟨j, hj, rfl⟩ := List.getElem_of_mem hx
    have := h2 j hj
    rwa [nth_eq hj] at this
theorem thoseM_succ (n : Nat) (p : Nat → Bool) : thoseM (n + 1) p = thoseM n p ++ (if p n then [(n : Int)] else []) := by
  unfold thoseM
  rw [List.range_succ, List.filter_append, List.map_append]
  cases h : p n <;> simp [h]
theorem thoseM_length (n : Nat) (p : Nat → Bool) : (thoseM n p).length ≤ n := by
  unfold thoseM
  rw [List.length_map]
  exact Nat.le_trans (List.length_filter_le _ _) (by simp)
end Go.Proofs.Ytagcdnhkgndhcaa
