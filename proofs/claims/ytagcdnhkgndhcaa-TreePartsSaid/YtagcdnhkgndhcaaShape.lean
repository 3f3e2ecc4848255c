/- Plain laws: a tree grows by a kid and keeps its shape; shape and nodes that may be make it right. -/
import Derived.Test.YtagcdnhkgndhcaaTreeD
set_option linter.unusedVariables false
set_option linter.unusedSimpArgs false
namespace Go.Proofs.Ytagcdnhkgndhcaa
open Go.RowKit Go.Hoist

def kd (t : List TN) (i k : Nat) : Int := (t.getD i default).kids.getD k 0
def kn (t : List TN) (i : Nat) : Nat := (t.getD i default).kids.length
/-- Kids go up, each behind its own; each but the first is the kid of just one. -/
structure Shape (t : List TN) : Prop where
  up : ∀ i k, i < t.length → k < kn t i → (i : Int) < kd t i k ∧ kd t i k < t.length
  mono : ∀ i k, i < t.length → k + 1 < kn t i → kd t i k < kd t i (k + 1)
  ex : ∀ j : Nat, 1 ≤ j → j < t.length → ∃ i k, i < t.length ∧ k < kn t i ∧ kd t i k = j
  un : ∀ i k i' k', i < t.length → i' < t.length → k < kn t i → k' < kn t i' → kd t i k = kd t i' k' → i = i' ∧ k = k'

theorem getD_at {xs : List Int} {k : Nat} (h : k < xs.length) : xs.getD k 0 = xs[k] := by simp [List.getD_eq_getElem?_getD, h]
theorem Shape.kidsOk {t : List TN} (h : Shape t) {i : Nat} (hi : i < t.length) : kidsOk t.length i (t.getD i default).kids = true := by
  refine (kidsOk_iff _ _ _).2 fun j hj => ?_
  have h1 := h.up i j hi hj
  refine ⟨?_, h1.2⟩
  cases j with
  | zero => rw [if_pos rfl]; exact h1.1
  | succ j => exact h.mono i j hi hj
theorem bump_get (M : Nat) : ∀ (ks ofs : List Int) (j : Nat), ofs.length = M → (∀ k ∈ ks, 0 ≤ k ∧ k < M) → ks.Nodup → j < M → (bump ofs ks).getD j 0 = ofs.getD j 0 + if (j : Int) ∈ ks then 1 else 0
  | [], ofs, j, _, _, _, _ => by simp [bump]
  | k :: ks, ofs, j, hl, hk, hn, hj => by
    have hk0 := hk k List.mem_cons_self
    rw [List.nodup_cons] at hn
    rw [bump, bump_get M ks _ j (by simpa using hl) (fun x hx => hk x (List.mem_cons_of_mem _ hx)) hn.2 hj]
    by_cases e : (j : Int) = k
    · subst e
      simp only [Int.toNat_natCast, List.mem_cons, true_or, if_true]
      rw [if_neg hn.1]
      simp [List.getD_eq_getElem?_getD, List.getElem?_set, hl, hj]
    · have e' : k.toNat ≠ j := by omega
      simp only [List.mem_cons, e, false_or]
      congr 1
      simp [List.getD_eq_getElem?_getD, List.getElem?_set, e']
theorem Shape.nodup {t : List TN} (h : Shape t) {i : Nat} (hi : i < t.length) : (t.getD i default).kids.Nodup := by
  rw [List.nodup_iff_pairwise_ne, List.pairwise_iff_getElem]
  intro a b ha hb hab he
  have := h.un i a i b hi hi ha hb (by unfold kd; rw [getD_at ha, getD_at hb]; exact he)
  omega
theorem kd_mem {t : List TN} {i : Nat} {x : Int} : x ∈ (t.getD i default).kids ↔ ∃ k, k < kn t i ∧ kd t i k = x := by
  rw [List.mem_iff_getElem]
  constructor
  · rintro ⟨k, hk, rfl⟩
    exact ⟨k, hk, getD_at hk⟩
  · rintro ⟨k, hk, rfl⟩
    exact ⟨k, hk, (getD_at hk).symm⟩
theorem ofsUpto_length (t : List TN) : ∀ m, (ofsUpto t m).length = t.length
  | 0 => by simp [ofsUpto]
  | m + 1 => by rw [ofsUpto, bump_length, ofsUpto_length t m]
open Classical in
theorem Shape.ofs {t : List TN} (h : Shape t) (j : Nat) (hj : j < t.length) : ∀ m, m ≤ t.length → (ofsUpto t m).getD j 0 = if (∃ i k, i < m ∧ k < kn t i ∧ kd t i k = (j : Int)) then 1 else 0
  | 0, _ => by
    have : ¬ ∃ i k, i < 0 ∧ k < kn t i ∧ kd t i k = (j : Int) := by rintro ⟨i, k, h, _⟩; omega
    rw [if_neg this]
    simp [ofsUpto, List.getD_eq_getElem?_getD, List.getElem?_replicate, hj]
  | m + 1, hm => by
    have hmt : m < t.length := hm
    rw [ofsUpto, bump_get t.length _ _ j (ofsUpto_length t m) (fun k hk => ?_) (h.nodup hmt) hj, h.ofs j hj m (by omega)]
    · by_cases h1 : ∃ i k, i < m ∧ k < kn t i ∧ kd t i k = (j : Int)
      · have h2 : ¬ (j : Int) ∈ (t.getD m default).kids := fun hmem => by
          obtain ⟨k, hk, hkd⟩ := kd_mem.1 hmem
          obtain ⟨i, k', hi, hk', hkd'⟩ := h1
          have := (h.un i k' m k (by omega) hmt hk' hk (hkd'.trans hkd.symm)).1
          omega
        have h3 : ∃ i k, i < m + 1 ∧ k < kn t i ∧ kd t i k = (j : Int) := by
          obtain ⟨i, k', hi, hk', hkd'⟩ := h1
          exact ⟨i, k', by omega, hk', hkd'⟩
        rw [if_pos h1, if_neg h2, if_pos h3]
        rfl
      · rw [if_neg h1]
        by_cases h2 : (j : Int) ∈ (t.getD m default).kids
        · obtain ⟨k, hk, hkd⟩ := kd_mem.1 h2
          have h3 : ∃ i k, i < m + 1 ∧ k < kn t i ∧ kd t i k = (j : Int) := ⟨m, k, by omega, hk, hkd⟩
          rw [if_pos h2, if_pos h3]
          rfl
        · have h3 : ¬ ∃ i k, i < m + 1 ∧ k < kn t i ∧ kd t i k = (j : Int) := by
            rintro ⟨i, k, hi, hk, hkd⟩
            by_cases e : i = m
            · subst e
              exact h2 (kd_mem.2 ⟨k, hk, hkd⟩)
            · exact h1 ⟨i, k, by omega, hk, hkd⟩
          rw [if_neg h2, if_neg h3]
          rfl
    · obtain ⟨q, hq, rfl⟩ := kd_mem.1 hk
      have := h.up m q hmt hq
      omega
/-- Which nodes may be, of so many labels. -/
def NodeMay (x : TN) (L : Int) : Prop := 0 ≤ x.label ∧ x.label < L ∧ ((x.kind = 1 ∧ x.kids.length = 0) ∨ ((x.kind = 2 ∨ x.kind = 3) ∧ x.kids.length ≤ 8) ∨ (x.kind = 4 ∧ x.kids.length = 2))
theorem Shape.right {t : List TN} (h : Shape t) {L : Int} (h1 : 1 ≤ t.length) (h2 : t.length ≤ 64) (hm : ∀ i, i < t.length → NodeMay (t.getD i default) L) : rightM t L = true := by
  simp only [rightM, Bool.and_eq_true, decide_eq_true_eq, List.all_eq_true, List.mem_range]
  refine ⟨⟨⟨h1, h2⟩, fun i hi => ?_⟩, fun x hx => ?_⟩
  · obtain ⟨g1, g2, g3⟩ := hm i hi
    simp only [nodeOk, Bool.and_eq_true, decide_eq_true_eq]
    refine ⟨⟨⟨h.kidsOk hi, g1⟩, g2⟩, ?_⟩
    rcases g3 with ⟨a, b⟩ | ⟨a, b⟩ | ⟨a, b⟩
    · rw [if_pos a]; exact decide_eq_true b
    · rw [if_neg (by omega), if_pos a]; exact decide_eq_true b
    · rw [if_neg (by omega), if_neg (by omega), if_pos a]; exact decide_eq_true b
  · obtain ⟨j, hj, rfl⟩ := List.getElem_of_mem hx
    have hj' : j + 1 < t.length := by simp [ofsUpto_length] at hj; omega
    have := h.ofs (j + 1) hj' t.length (Nat.le_refl _)
    obtain ⟨i, k, a, b, c⟩ := h.ex (j + 1) (by omega) hj'
    rw [if_pos ⟨i, k, a, b, c⟩] at this
    rw [List.getElem_drop]
    rw [List.getD_eq_getElem?_getD, List.getElem?_eq_getElem (by rw [ofsUpto_length]; exact hj')] at this
    simpa [Nat.add_comm] using this
theorem Shape.one (x : TN) (hx : x.kids = []) : Shape [x] := by
  have hk : ∀ i, i < 1 → kn [x] i = 0 := fun i hi => by
    obtain rfl : i = 0 := by omega
    simp [kn, hx]
  refine ⟨fun i k hi h => ?_, fun i k hi h => ?_, fun j h1 h2 => ?_, fun i k i' k' hi hi' h => ?_⟩
  · rw [hk i hi] at h; omega
  · rw [hk i hi] at h; omega
  · simp at h2; omega
  · rw [hk i hi] at h; omega

/-- A kid more: it comes last. -/
def addKid (t : List TN) (p : Nat) (x : TN) : List TN := t.set p { t.getD p default with kids := (t.getD p default).kids ++ [(t.length : Int)] } ++ [x]
theorem addKid_length (t : List TN) (p : Nat) (x : TN) : (addKid t p x).length = t.length + 1 := by simp [addKid]
theorem addKid_get (t : List TN) {p : Nat} (x : TN) (hp : p < t.length) (i : Nat) : (addKid t p x).getD i default = if i = t.length then x else if i = p then { t.getD p default with kids := (t.getD p default).kids ++ [(t.length : Int)] } else t.getD i default := by
  unfold addKid
  rw [List.getD_eq_getElem?_getD]
  by_cases h1 : i = t.length
  · subst h1
    rw [if_pos rfl, List.getElem?_append_right (by simp)]
    simp
  · rw [if_neg h1]
    by_cases h2 : i < t.length
    · rw [List.getElem?_append_left (by simpa using h2), List.getElem?_set]
      by_cases h3 : p = i
      · subst h3
        simp [h2]
      · rw [if_neg h3, if_neg (fun e => h3 e.symm), List.getD_eq_getElem?_getD]
    · have e2 : t[i]? = none := List.getElem?_eq_none (by omega)
      rw [if_neg (by omega), List.getElem?_eq_none (show _ ≤ i by simp only [List.length_append, List.length_set, List.length_cons, List.length_nil]; omega)]
      show default = t.getD i default
      rw [List.getD_eq_getElem?_getD, e2]
      rfl
theorem addKid_kn {t : List TN} {p : Nat} {x : TN} (hp : p < t.length) (hx : x.kids = []) (i : Nat) : kn (addKid t p x) i = if i = t.length then 0 else if i = p then kn t p + 1 else kn t i := by
  unfold kn
  rw [addKid_get t x hp i]
  split
  · rw [hx]; rfl
  · split <;> simp
theorem addKid_kd {t : List TN} {p : Nat} {x : TN} (hp : p < t.length) (hx : x.kids = []) (i k : Nat) (h : k < kn (addKid t p x) i) : kd (addKid t p x) i k = if i = p ∧ k = kn t p then (t.length : Int) else kd t i k := by
  rw [addKid_kn hp hx] at h
  unfold kd
  rw [addKid_get t x hp i]
  by_cases h1 : i = t.length
  · rw [if_pos h1] at h; omega
  · rw [if_neg h1] at h
    rw [if_neg h1]
    by_cases h2 : i = p
    · subst h2
      rw [if_pos rfl] at h
      simp only [if_true, true_and]
      by_cases h3 : k = kn t i
      · rw [if_pos h3, h3]
        simp [kn, List.getD_eq_getElem?_getD]
      · rw [if_neg h3, List.getD_eq_getElem?_getD, List.getElem?_append_left (by unfold kn at h h3; omega), ← List.getD_eq_getElem?_getD]
    · rw [if_neg h2, if_neg (fun h => h2 h.1)]
theorem Shape.add {t : List TN} (h : Shape t) {p : Nat} {x : TN} (hp : p < t.length) (hx : x.kids = []) : Shape (addKid t p x) := by
  have hK := fun i => addKid_kn (x := x) hp hx i
  have hD := fun i k => addKid_kd (x := x) hp hx i k
  have hL := addKid_length t p x
  -- a kid of the new tree: the new one, or an old one
  have old : ∀ i k, i < t.length + 1 → k < kn (addKid t p x) i → (i = p ∧ k = kn t p ∧ kd (addKid t p x) i k = t.length) ∨ (i < t.length ∧ k < kn t i ∧ kd (addKid t p x) i k = kd t i k) := fun i k hi hk => by
    have h1 := hD i k hk
    rw [hK] at hk
    by_cases e : i = t.length
    · rw [if_pos e] at hk; omega
    · rw [if_neg e] at hk
      by_cases e2 : i = p
      · subst e2
        rw [if_pos rfl] at hk
        by_cases e3 : k = kn t i
        · exact .inl ⟨rfl, e3, by rw [h1, if_pos ⟨rfl, e3⟩]⟩
        · exact .inr ⟨by omega, by omega, by rw [h1, if_neg (fun h => e3 h.2)]⟩
      · rw [if_neg e2] at hk
        exact .inr ⟨by omega, hk, by rw [h1, if_neg (fun h => e2 h.1)]⟩
  refine ⟨fun i k hi hk => ?_, fun i k hi hk => ?_, fun j h1 h2 => ?_, fun i k i' k' hi hi' hk hk' he => ?_⟩
  · rw [hL] at hi ⊢
    rcases old i k hi hk with ⟨rfl, rfl, e⟩ | ⟨a, b, e⟩
    · rw [e]; omega
    · rw [e]
      have := h.up i k a b
      omega
  · rw [hL] at hi
    rcases old i k hi (by omega) with ⟨rfl, rfl, e⟩ | ⟨a, b, e⟩
    · rw [hK, if_neg (by omega), if_pos rfl] at hk; omega
    · rcases old i (k + 1) hi hk with ⟨rfl, e1, e2⟩ | ⟨a2, b2, e2⟩
      · rw [e, e2]
        exact (h.up i k a b).2
      · rw [e, e2]
        exact h.mono i k a b2
  · rw [hL] at h2
    by_cases e : j = t.length
    · subst e
      have hk : kn t p < kn (addKid t p x) p := by rw [hK, if_neg (by omega), if_pos rfl]; omega
      exact ⟨p, kn t p, by omega, hk, by rw [hD _ _ hk, if_pos ⟨rfl, rfl⟩]⟩
    · obtain ⟨i, k, a, b, c⟩ := h.ex j h1 (by omega)
      have hk : k < kn (addKid t p x) i := by
        rw [hK, if_neg (by omega)]
        split
        · rename_i e2; subst e2; omega
        · exact b
      exact ⟨i, k, by omega, hk, by rw [hD _ _ hk, if_neg (by rintro ⟨rfl, rfl⟩; omega)]; exact c⟩
  · rw [hL] at hi hi'
    rcases old i k hi hk with ⟨rfl, rfl, e⟩ | ⟨a, b, e⟩
    · rcases old i' k' hi' hk' with ⟨rfl, rfl, e2⟩ | ⟨a2, b2, e2⟩
      · exact ⟨rfl, rfl⟩
      · rw [e, e2] at he
        have := h.up i' k' a2 b2
        omega
    · rcases old i' k' hi' hk' with ⟨rfl, rfl, e2⟩ | ⟨a2, b2, e2⟩
      · rw [e, e2] at he
        have := h.up i k a b
        omega
      · rw [e, e2] at he
        exact h.un i k i' k' a a2 b b2 he
end Go.Proofs.Ytagcdnhkgndhcaa
