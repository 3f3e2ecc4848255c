/- Trees as lists, and how they lie in memory. -/
import Derived.Test.YtagcdnhkgndhcaaBase
set_option linter.unusedVariables false
set_option linter.unusedSimpArgs false
namespace Go.Proofs.Ytagcdnhkgndhcaa
open Go.RowKit Go.Hoist

structure TN where
  kind : Int
  val : Int
  label : Int
  kids : List Int
deriving Inhabited

/-- Whole numbers in memory, in blocks below B. -/
def IntsAt (w : World) (B : Nat) (a : Option Addr) (xs : List Int) : Prop :=
  xs = [] ∨ ∃ b, a = some ⟨b, 0, none⟩ ∧ b < B ∧ ∀ j, j < xs.length → w.cell? ⟨b, j, none⟩ = some (.int .i64 (xs.getD j 0))
def NodeAt (w : World) (B tb i : Nat) (n : TN) : Prop :=
  w.cell? ⟨tb, i * 4, none⟩ = some (.int .i64 n.kind) ∧ w.cell? ⟨tb, i * 4 + 1, none⟩ = some (.int .i32 n.val) ∧ w.cell? ⟨tb, i * 4 + 2, none⟩ = some (.int .i64 n.label) ∧
  ∃ a c, w.cell? ⟨tb, i * 4 + 3, none⟩ = some (.slice a n.kids.length c) ∧ n.kids.length ≤ 65536 ∧ IntsAt w B a n.kids
def TreeAt (w : World) (B tb : Nat) (t : List TN) : Prop := tb < B ∧ t.length ≤ 65536 ∧ ∀ i, i < t.length → NodeAt w B tb i (t.getD i default)

theorem IntsAt.below {w w' : World} {B : Nat} {a : Option Addr} {xs : List Int} (h : IntsAt w B a xs) (hb : Below B w w') (hB : B ≤ w.heap.size) : IntsAt w' B a xs := by
  rcases h with h | ⟨b, rfl, hlt, hc⟩
  · exact .inl h
  · exact .inr ⟨b, rfl, hlt, fun j hj => (hb.cell (p := ⟨b, j, none⟩) hlt).trans (hc j hj)⟩
theorem TreeAt.below {w w' : World} {B tb : Nat} {t : List TN} (h : TreeAt w B tb t) (hb : Below B w w') (hB : B ≤ w.heap.size) : TreeAt w' B tb t := by
  obtain ⟨h1, h2, h3⟩ := h
  refine ⟨h1, h2, fun i hi => ?_⟩
  obtain ⟨g1, g2, g3, a, c, g4, g5, g6⟩ := h3 i hi
  exact ⟨(hb.cell (p := ⟨tb, _, none⟩) h1).trans g1, (hb.cell (p := ⟨tb, _, none⟩) h1).trans g2, (hb.cell (p := ⟨tb, _, none⟩) h1).trans g3, a, c, (hb.cell (p := ⟨tb, _, none⟩) h1).trans g4, g5, g6.below hb hB⟩

/-! ### What the functions come to -/
def bump (ofs : List Int) : List Int → List Int
  | [] => ofs
  | k :: ks => bump (ofs.set k.toNat (ofs.getD k.toNat 0 + 1)) ks
/-- The kids of node i, of n nodes: each behind the one ahead of it, the first behind i. -/
def kidsOk (n : Int) : Int → List Int → Bool
  | _, [] => true
  | last, k :: ks => decide (last < k) && decide (k < n) && kidsOk n k ks
def nodeOk (t : List TN) (i : Nat) (labels : Int) : Bool :=
  let x := t.getD i default
  kidsOk t.length i x.kids && decide (0 ≤ x.label) && decide (x.label < labels) &&
  (if x.kind = 1 then decide (x.kids.length = 0) else if x.kind = 2 ∨ x.kind = 3 then decide (x.kids.length ≤ 8) else if x.kind = 4 then decide (x.kids.length = 2) else false)
def ofsUpto (t : List TN) : Nat → List Int
  | 0 => List.replicate t.length 0
  | i + 1 => bump (ofsUpto t i) (t.getD i default).kids
def rightM (t : List TN) (labels : Int) : Bool :=
  decide (1 ≤ t.length) && decide (t.length ≤ 64) && (List.range t.length).all (fun i => nodeOk t i labels) && ((ofsUpto t t.length).drop 1).all (fun x => decide (x = 1))

theorem kidsOk_iff (n : Int) : ∀ (ks : List Int) (last : Int), kidsOk n last ks = true ↔ ∀ j, j < ks.length → (if j = 0 then last else ks.getD (j - 1) 0) < ks.getD j 0 ∧ ks.getD j 0 < n
  | [], last => by simp [kidsOk]
  | k :: ks, last => by
    simp only [kidsOk, Bool.and_eq_true, decide_eq_true_eq, kidsOk_iff n ks k, List.length_cons]
    constructor
    · rintro ⟨⟨h1, h2⟩, h3⟩ j hj
      cases j with
      | zero => simp [h1, h2]
      | succ j =>
        have := h3 j (by omega)
        cases j with
        | zero => simpa using this
        | succ j => simpa using this
    · intro h
      refine ⟨⟨by simpa using (h 0 (by omega)).1, by simpa using (h 0 (by omega)).2⟩, fun j hj => ?_⟩
      have := h (j + 1) (by omega)
      cases j with
      | zero => simpa using this
      | succ j => simpa using this
theorem bump_length (ofs ks : List Int) : (bump ofs ks).length = ofs.length := by
  induction ks generalizing ofs with
  | nil => rfl
  | cons k ks ih => simp [bump, ih]
theorem bump_append (ofs xs ys : List Int) : bump ofs (xs ++ ys) = bump (bump ofs xs) ys := by
  induction xs generalizing ofs with
  | nil => rfl
  | cons k ks ih => simp [bump, ih]
theorem take_snoc (xs : List Int) (k : Nat) (h : k < xs.length) : xs.take (k + 1) = xs.take k ++ [xs.getD k 0] := by
  rw [List.take_succ_eq_append_getElem h]
  simp [List.getD_eq_getElem?_getD, h]
theorem bump_bound {M : Nat} : ∀ (ks ofs : List Int), (∀ y ∈ ofs, 0 ≤ y ∧ y ≤ M) → ∀ y ∈ bump ofs ks, 0 ≤ y ∧ y ≤ (M + ks.length : Nat)
  | [], ofs, h => by simpa [bump] using h
  | k :: ks, ofs, h => by
    intro y hy
    have h' : ∀ y ∈ ofs.set k.toNat (ofs.getD k.toNat 0 + 1), 0 ≤ y ∧ y ≤ (M + 1 : Nat) := fun z hz => by
      rcases List.mem_or_eq_of_mem_set hz with h1 | h1
      · have := h z h1; omega
      · rw [h1]
        by_cases hlt : k.toNat < ofs.length
        · have := h _ (List.getElem_mem hlt)
          rw [List.getD_eq_getElem?_getD, List.getElem?_eq_getElem hlt]
          simp only [Option.getD_some]
          omega
        · rw [List.getD_eq_getElem?_getD, List.getElem?_eq_none (by omega)]
          simp
          omega
    have := bump_bound (M := M + 1) ks _ h' y hy
    simp only [List.length_cons]
    omega
end Go.Proofs.Ytagcdnhkgndhcaa
