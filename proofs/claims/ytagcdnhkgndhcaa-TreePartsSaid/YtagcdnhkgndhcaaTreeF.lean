/- Trees of one's own, in memory. -/
import Derived.Test.YtagcdnhkgndhcaaTreeE
set_option linter.unusedVariables false
set_option linter.unusedSimpArgs false
namespace Go.Proofs.Ytagcdnhkgndhcaa
open Go.RowKit Go.Hoist

def nodeC (p : TN × Value) : List Value := [.int .i64 p.1.kind, .int .i32 p.1.val, .int .i64 p.1.label, p.2]
def treeC (l : List (TN × Value)) : List Value := l.flatMap nodeC
theorem treeC_length (l : List (TN × Value)) : (treeC l).length = l.length * 4 := by
  induction l with
  | nil => rfl
  | cons p l ih => simp only [treeC, List.flatMap_cons, List.length_append, nodeC, List.length_cons, List.length_nil] at ih ⊢; omega
theorem treeC_append (l m : List (TN × Value)) : treeC (l ++ m) = treeC l ++ treeC m := by simp [treeC]
theorem treeC_get (l : List (TN × Value)) (i j : Nat) (hi : i < l.length) (hj : j < 4) : (treeC l)[i * 4 + j]? = (nodeC l[i])[j]? := by
  induction l generalizing i with
  | nil => simp at hi
  | cons p l ih =>
    have hc : treeC (p :: l) = nodeC p ++ treeC l := by simp [treeC]
    rw [hc]
    have hp : (nodeC p).length = 4 := rfl
    cases i with
    | zero => rw [List.getElem?_append_left (by omega)]; simp
    | succ i =>
      rw [List.getElem?_append_right (by omega), hp, show (i + 1) * 4 + j - 4 = i * 4 + j by omega, ih i (by simpa using hi)]
      simp
structure TreeOwn (w : World) (lo : Nat) (v : Value) (l : List (TN × Value)) : Prop where
  row : w.ownsRow lo 30 4 v l.length (treeC l)
  kids : ∀ p ∈ l, w.ownsRow lo 3 1 p.2 p.1.kids.length (p.1.kids.map (Value.int .i64))
  small : ∀ p ∈ l, p.1.kids.length ≤ 65536
  len : l.length ≤ 65536
theorem TreeOwn.below {w w' : World} {lo : Nat} {v : Value} {l : List (TN × Value)} (h : TreeOwn w lo v l) (hb : Below w.heap.size w w') : TreeOwn w' lo v l :=
  ⟨own_below h.row hb, fun p hp => own_below (h.kids p hp) hb, h.small, h.len⟩
theorem own_ints {w : World} {lo : Nat} {v : Value} {xs : List Int} (h : w.ownsRow lo 3 1 v xs.length (xs.map (Value.int .i64))) : ∃ a c, v = .slice a xs.length c ∧ IntsAt w w.heap.size a xs ∧ xs.length ≤ c ∧ c ≤ 9223372036854775807 := by
  rcases h.2 with ⟨rfl, h2⟩ | ⟨g, cap, cur, rfl, hb, hh, h3, h4, _⟩
  · obtain rfl := List.eq_nil_of_length_eq_zero h2
    exact ⟨none, 0, rfl, .inl rfl, by simp, by omega⟩
  · refine ⟨_, cap, rfl, .inr ⟨g, rfl, (Array.getElem?_eq_some_iff.1 hh).1, fun j hj => ?_⟩, h3, by unfold maxLen at h4; omega⟩
    have := h.cells (g := g) rfl j (.int .i64 (xs.getD j 0)) (by rw [List.getElem?_map, List.getElem?_eq_getElem hj]; simp [List.getD_eq_getElem?_getD, hj])
    rwa [add_mk, Nat.zero_add] at this
theorem TreeOwn.tree {w : World} {lo : Nat} {v : Value} {l : List (TN × Value)} (h : TreeOwn w lo v l) (hn : 0 < l.length) :
    ∃ tb cap, v = .slice (some ⟨tb, 0, none⟩) l.length cap ∧ TreeAt w w.heap.size tb (l.map (·.1)) ∧ CapAt w tb (l.map (·.1)) ∧ lo ≤ tb := by
  obtain ⟨tb, cap, rfl, hlo, hlt, hrd⟩ := own_pos h.row hn
  have key : ∀ i (hi : i < l.length) j (hj : j < 4), w.cell? ⟨tb, i * 4 + j, none⟩ = (nodeC l[i])[j]? := fun i hi j hj => by
    have h1 := treeC_get l i j hi hj
    have h2 : j < (nodeC l[i]).length := hj
    rw [List.getElem?_eq_getElem h2] at h1 ⊢
    have := hrd _ _ h1
    rwa [add_mk, Nat.zero_add] at this
  have hg : ∀ i (hi : i < l.length), (l.map (·.1)).getD i default = l[i].1 := fun i hi => by simp [List.getD_eq_getElem?_getD, hi]
  refine ⟨tb, cap, rfl, ⟨hlt, by simpa using h.len, fun i hi => ?_⟩, fun i hi a c hc => ?_, hlo⟩
  · have hi' : i < l.length := by simpa using hi
    rw [hg i hi']
    have hm := List.getElem_mem hi'
    obtain ⟨a, c, h1, h2, _⟩ := own_ints (h.kids _ hm)
    refine ⟨(key i hi' 0 (by omega)).trans rfl, (key i hi' 1 (by omega)).trans rfl, (key i hi' 2 (by omega)).trans rfl, a, c, ?_, h.small _ hm, h2⟩
    rw [← h1]
    exact (key i hi' 3 (by omega)).trans rfl
  · have hi' : i < l.length := by simpa using hi
    rw [hg i hi'] at hc ⊢
    have hm := List.getElem_mem hi'
    obtain ⟨a', c', h1, h2, h3, h4⟩ := own_ints (h.kids _ hm)
    have h5 := (key i hi' 3 (by omega)).trans (show _ = some l[i].2 from rfl)
    rw [h5, h1] at hc
    simp only [Option.some.injEq, Value.slice.injEq, true_and] at hc
    obtain ⟨rfl, rfl⟩ := hc
    exact ⟨h3, h4⟩
theorem eltTree : Elt Try.prog 24 30 (.agg #[.int .i64 0, .int .i32 0, .int .i64 0, .slice none 0 0]) 4 48 := ⟨by kernel_rfl, by kernel_rfl, by kernel_rfl, by decide⟩
theorem kids_nil (w : World) (lo : Nat) : w.ownsRow lo 3 1 (.slice none 0 0) 0 (([] : List Int).map (Value.int .i64)) := ⟨rfl, .inl ⟨rfl, rfl⟩⟩
end Go.Proofs.Ytagcdnhkgndhcaa
