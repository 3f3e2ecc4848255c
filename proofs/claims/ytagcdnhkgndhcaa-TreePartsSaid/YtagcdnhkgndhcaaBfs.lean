/- Plain laws: a node's own tree, laid out breadth first; it comes to the node's value. -/
import Derived.Test.YtagcdnhkgndhcaaShape
set_option linter.unusedVariables false
set_option linter.unusedSimpArgs false
namespace Go.Proofs.Ytagcdnhkgndhcaa
open Go.RowKit Go.Hoist

theorem pigeon : ∀ (N : Nat) (l : List Nat), l.Nodup → (∀ x ∈ l, x < N) → l.length ≤ N
  | 0, l, _, h => by
    cases l with
    | nil => simp
    | cons a l => have := h a List.mem_cons_self; omega
  | N + 1, l, hn, h => by
    have h1 := pigeon N (l.erase N) (hn.erase N) (fun x hx => by
      have h2 := (hn.mem_erase_iff).1 hx
      have := h x h2.2
      omega)
    have h3 := List.length_erase (a := N) (l := l)
    split at h3 <;> omega
def pg (pl : List Nat) (m : Nat) : Nat := pl.getD m 0
structure Bfs (t out : List TN) (c : Nat) (pl : List Nat) (n k : Nat) : Prop where
  shape : Shape out
  len : out.length = pl.length
  pos : 0 < pl.length
  zero : pg pl 0 = c
  lt : ∀ m, m < pl.length → pg pl m < t.length ∧ c ≤ pg pl m
  same : ∀ m, m < pl.length → (out.getD m default).kind = (t.getD (pg pl m) default).kind ∧ (out.getD m default).val = (t.getD (pg pl m) default).val ∧ (out.getD m default).label = (t.getD (pg pl m) default).label
  kids : ∀ m, m < pl.length → kn out m = if m < n then kn t (pg pl m) else if m = n then k else 0
  goes : ∀ m j, m < pl.length → j < kn out m → pg pl (kd out m j).toNat = (kd t (pg pl m) j).toNat
  inj : ∀ m m', m < pl.length → m' < pl.length → pg pl m = pg pl m' → m = m'
theorem Bfs.bound {t out : List TN} {c : Nat} {pl : List Nat} {n k : Nat} (h : Bfs t out c pl n k) : pl.length ≤ t.length := by
  refine pigeon _ _ ?_ ?_
  · rw [List.nodup_iff_pairwise_ne, List.pairwise_iff_getElem]
    intro a b ha hb hab he
    have := h.inj a b ha hb (by simp [pg, List.getD_eq_getElem?_getD, ha, hb, he])
    omega
  · intro x hx
    obtain ⟨m, hm, rfl⟩ := List.getElem_of_mem hx
    have := (h.lt m hm).1
    simpa [pg, List.getD_eq_getElem?_getD, hm] using this
theorem Bfs.one {t : List TN} {c : Nat} (hc : c < t.length) : Bfs t [⟨(t.getD c default).kind, (t.getD c default).val, (t.getD c default).label, []⟩] c [c] 0 0 := by
  have h0 : ∀ m, m < 1 → m = 0 := fun m h => by omega
  refine ⟨Shape.one _ rfl, rfl, by simp, rfl, fun m hm => ?_, fun m hm => ?_, fun m hm => ?_, fun m j hm hj => ?_, fun m m' hm hm' _ => ?_⟩
  · obtain rfl := h0 m hm
    exact ⟨hc, Nat.le_refl _⟩
  · obtain rfl := h0 m hm
    exact ⟨rfl, rfl, rfl⟩
  · obtain rfl := h0 m hm
    rfl
  · obtain rfl := h0 m hm
    simp [kn] at hj
  · rw [h0 m hm, h0 m' hm']
theorem pg_append (pl : List Nat) (x m : Nat) : pg (pl ++ [x]) m = if m < pl.length then pg pl m else if m = pl.length then x else 0 := by
  unfold pg
  rw [List.getD_eq_getElem?_getD]
  by_cases h : m < pl.length
  · rw [if_pos h, List.getElem?_append_left h, List.getD_eq_getElem?_getD]
  · rw [if_neg h, List.getElem?_append_right (by omega)]
    by_cases e : m = pl.length
    · rw [if_pos e, e, Nat.sub_self]; rfl
    · rw [if_neg e, List.getElem?_eq_none (by simp; omega)]; rfl
theorem Bfs.step {t out : List TN} {c : Nat} {pl : List Nat} {n k : Nat} (ht : Shape t) (h : Bfs t out c pl n k) (hn : n < pl.length) (hk : k < kn t (pg pl n)) :
    Bfs t (addKid out n ⟨(t.getD (kd t (pg pl n) k).toNat default).kind, (t.getD (kd t (pg pl n) k).toNat default).val, (t.getD (kd t (pg pl n) k).toNat default).label, []⟩) c (pl ++ [(kd t (pg pl n) k).toNat]) n (k + 1) := by
  have hpn := h.lt n hn
  obtain ⟨u1, u2⟩ := ht.up (pg pl n) k hpn.1 hk
  obtain ⟨c', hc'⟩ : ∃ c' : Nat, kd t (pg pl n) k = c' := ⟨(kd t (pg pl n) k).toNat, by omega⟩
  have hno : n < out.length := by rw [h.len]; exact hn
  have hkn0 : kn out n = k := by rw [h.kids n hn, if_neg (Nat.lt_irrefl n), if_pos rfl]
  rw [hc'] at u1 u2 ⊢
  rw [Int.toNat_natCast]
  have hfresh : ∀ m, m < pl.length → pg pl m ≠ c' := fun m hm he => by
    cases m with
    | zero => have := h.zero; omega
    | succ m =>
      obtain ⟨i, j, hi, hj, hij⟩ := h.shape.ex (m + 1) (by omega) (by rw [h.len]; exact hm)
      have hi' : i < pl.length := by rw [← h.len]; exact hi
      have h1 := h.goes i j hi' hj
      rw [hij, Int.toNat_natCast, he] at h1
      have hji : j < kn t (pg pl i) := by
        have := h.kids i hi'
        rw [this] at hj
        split at hj
        · exact hj
        · split at hj
          · rename_i e; subst e; omega
          · omega
      obtain ⟨v1, v2⟩ := ht.up (pg pl i) j (h.lt i hi').1 hji
      obtain ⟨e1, e2⟩ := ht.un (pg pl i) j (pg pl n) k (h.lt i hi').1 hpn.1 hji hk (by omega)
      have := h.inj i n hi' hn e1
      subst this
      omega
  have hK := fun i => addKid_kn (t := out) (x := ⟨(t.getD c' default).kind, (t.getD c' default).val, (t.getD c' default).label, []⟩) hno rfl i
  have hD := fun i j => addKid_kd (t := out) (x := ⟨(t.getD c' default).kind, (t.getD c' default).val, (t.getD c' default).label, []⟩) hno rfl i j
  have hG := fun i => addKid_get out (p := n) ⟨(t.getD c' default).kind, (t.getD c' default).val, (t.getD c' default).label, []⟩ hno i
  have hP := fun m => pg_append pl c' m
  refine ⟨h.shape.add hno rfl, by rw [addKid_length, h.len]; simp, by simp, ?_, fun m hm => ?_, fun m hm => ?_, fun m hm => ?_, fun m j hm hj => ?_, fun m m' hm hm' he => ?_⟩
  · rw [hP, if_pos h.pos]; exact h.zero
  · rw [hP]
    by_cases e : m < pl.length
    · rw [if_pos e]; exact h.lt m e
    · rw [if_neg e, if_pos (by simp at hm; omega)]
      omega
  · rw [hP, hG, h.len]
    by_cases e : m < pl.length
    · rw [if_pos e, if_neg (by omega)]
      have := h.same m e
      by_cases e2 : m = n
      · subst e2
        rw [if_pos rfl]
        exact this
      · rw [if_neg e2]
        exact this
    · have e3 : m = pl.length := by simp at hm; omega
      rw [if_neg e, if_pos e3, if_pos e3]
      exact ⟨rfl, rfl, rfl⟩
  · rw [hP, hK, h.len]
    by_cases e : m < pl.length
    · rw [if_pos e, if_neg (by omega)]
      have := h.kids m e
      by_cases e2 : m = n
      · subst e2
        rw [if_pos rfl, if_neg (by omega), if_pos rfl]
        omega
      · rw [if_neg e2, this, if_neg e2, if_neg e2]
    · have e3 : m = pl.length := by simp at hm; omega
      rw [if_neg e, if_pos e3, if_neg (by omega), if_neg (by omega)]
  · have h1 := hD m j hj
    rw [hK, h.len] at hj
    by_cases e : m < pl.length
    · rw [if_neg (by omega)] at hj
      by_cases e2 : m = n
      · subst e2
        rw [if_pos rfl] at hj
        by_cases e3 : j = kn out m
        · rw [h1, if_pos ⟨rfl, e3⟩, h.len, Int.toNat_natCast, hP, if_neg (Nat.lt_irrefl _), if_pos rfl, hP, if_pos e, e3, hkn0, hc', Int.toNat_natCast]
        · rw [h1, if_neg (fun h => e3 h.2), hP m, if_pos e]
          have h2 := h.goes m j e (by omega)
          have h3 := h.shape.up m j hno (by omega)
          rw [hP, if_pos (by have := h.len; omega)]
          exact h2
      · rw [if_neg e2] at hj
        rw [h1, if_neg (fun h => e2 h.1), hP m, if_pos e]
        have h2 := h.goes m j e hj
        have h3 := h.shape.up m j (by have := h.len; omega) hj
        rw [hP, if_pos (by have := h.len; omega)]
        exact h2
    · have e3 : m = pl.length := by simp at hm; omega
      rw [if_pos e3] at hj
      omega
  · rw [hP, hP] at he
    simp only [List.length_append, List.length_cons, List.length_nil] at hm hm'
    by_cases e : m < pl.length
    · rw [if_pos e] at he
      by_cases e2 : m' < pl.length
      · rw [if_pos e2] at he
        exact h.inj m m' e e2 he
      · rw [if_neg e2, if_pos (by omega)] at he
        exact absurd he (hfresh m e)
    · rw [if_neg e, if_pos (by omega)] at he
      by_cases e2 : m' < pl.length
      · rw [if_pos e2] at he
        exact absurd he.symm (hfresh m' e2)
      · omega
theorem Bfs.next {t out : List TN} {c : Nat} {pl : List Nat} {n : Nat} (h : Bfs t out c pl n (kn t (pg pl n))) (hn : n < pl.length) : Bfs t out c pl (n + 1) 0 := by
  refine ⟨h.shape, h.len, h.pos, h.zero, h.lt, h.same, fun m hm => ?_, h.goes, h.inj⟩
  have := h.kids m hm
  rw [this]
  by_cases e : m < n
  · rw [if_pos e, if_pos (by omega)]
  · rw [if_neg e]
    by_cases e2 : m = n
    · subst e2
      rw [if_pos rfl, if_pos (by omega)]
    · rw [if_neg e2, if_neg (by omega)]
      split <;> rfl
theorem Bfs.full {t out : List TN} {c : Nat} {pl : List Nat} {k : Nat} (h : Bfs t out c pl pl.length k) {m : Nat} (hm : m < pl.length) : kn out m = kn t (pg pl m) := by
  rw [h.kids m hm, if_pos hm]
theorem Bfs.right {t out : List TN} {c : Nat} {pl : List Nat} {k : Nat} (h : Bfs t out c pl pl.length k) {L : Int} (h64 : t.length ≤ 64) (hm : ∀ i, i < t.length → NodeMay (t.getD i default) L) : rightM out L = true := by
  refine h.shape.right (by have := h.pos; have := h.len; omega) (by have := h.bound; have := h.len; omega) fun i hi => ?_
  have hi' : i < pl.length := by rw [← h.len]; exact hi
  obtain ⟨e1, e2, e3⟩ := h.same i hi'
  have e4 := h.full hi'
  have := hm _ (h.lt i hi').1
  unfold NodeMay at this ⊢
  unfold kn at e4
  rw [e1, e3, e4]
  exact this

/-! ### Values -/
theorem fold_congr {α : Type} (g : Int → Int → Int) (F : Int → Int) (G : Int → Int) : ∀ (l m : List Int) (v : Int), l.length = m.length → (∀ j, j < l.length → F (l.getD j 0) = G (m.getD j 0)) → l.foldl (fun v k => g v (F k)) v = m.foldl (fun v k => g v (G k)) v
  | [], [], _, _, _ => rfl
  | [], _ :: _, _, h, _ => by simp at h
  | _ :: _, [], _, h, _ => by simp at h
  | a :: l, b :: m, v, h, hf => by
    have h0 := hf 0 (by simp)
    simp only [List.getD_cons_zero] at h0
    simp only [List.foldl_cons, h0]
    exact fold_congr (α := α) g F G l m _ (by simpa using h) (fun j hj => by simpa using hf (j + 1) (by simpa using hj))
/-- What makes values independent of the fuel. -/
structure Up (t : List TN) : Prop where
  up : ∀ i k, i < t.length → k < kn t i → (i : Int) < kd t i k ∧ kd t i k < t.length
  two : ∀ i, i < t.length → (t.getD i default).kind = 4 → kn t i = 2
theorem valF_fuel {t : List TN} (h : Up t) : ∀ (f f' i : Nat), i < t.length → t.length - i ≤ f → t.length - i ≤ f' → valF t f i = valF t f' i
  | 0, _, i, hi, h1, _ => by omega
  | _ + 1, 0, i, hi, _, h2 => by omega
  | f + 1, f' + 1, i, hi, h1, h2 => by
    have kid : ∀ k, k < kn t i → valF t f (kd t i k).toNat = valF t f' (kd t i k).toNat := fun k hk => by
      have := h.up i k hi hk
      exact valF_fuel h f f' _ (by omega) (by omega) (by omega)
    simp only [valF]
    split
    · rfl
    · split
      · rename_i h4
        have := h.two i hi h4
        have k0 := kid 0 (by omega)
        have k1 := kid 1 (by omega)
        unfold kd at k0 k1
        rw [k0, k1]
      · split
        · exact fold_congr (α := Unit) (fun v x => wrap32 (v * x)) (fun k => valF t f k.toNat) (fun k => valF t f' k.toNat) _ _ _ rfl (fun j hj => kid j hj)
        · exact fold_congr (α := Unit) (fun v x => wrap32 (v + x)) (fun k => valF t f k.toNat) (fun k => valF t f' k.toNat) _ _ _ rfl (fun j hj => kid j hj)
theorem Bfs.val {t out : List TN} {c : Nat} {pl : List Nat} {k : Nat} (h : Bfs t out c pl pl.length k) (h2 : ∀ i, i < t.length → (t.getD i default).kind = 4 → kn t i = 2) : ∀ (f m : Nat), m < pl.length → valF out f m = valF t f (pg pl m)
  | 0, _, _ => rfl
  | f + 1, m, hm => by
    obtain ⟨e1, e2, e3⟩ := h.same m hm
    have e4 := h.full hm
    have hmo : m < out.length := by rw [h.len]; exact hm
    have kid : ∀ j, j < kn out m → valF out f (kd out m j).toNat = valF t f (kd t (pg pl m) j).toNat := fun j hj => by
      have h3 := h.goes m j hm hj
      have h4 := h.shape.up m j hmo hj
      rw [← h3]
      exact h.val h2 f _ (by have := h.len; omega)
    simp only [valF]
    rw [e1, e2]
    split
    · rfl
    · split
      · rename_i h4
        have := h2 _ (h.lt m hm).1 h4
        have k0 := kid 0 (by omega)
        have k1 := kid 1 (by omega)
        unfold kd at k0 k1
        rw [k0, k1]
      · split
        · exact fold_congr (α := Unit) (fun v x => wrap32 (v * x)) (fun k => valF out f k.toNat) (fun k => valF t f k.toNat) _ _ _ e4 (fun j hj => kid j hj)
        · exact fold_congr (α := Unit) (fun v x => wrap32 (v + x)) (fun k => valF out f k.toNat) (fun k => valF t f k.toNat) _ _ _ e4 (fun j hj => kid j hj)
/-- What a part comes to. -/
theorem Bfs.value {t out : List TN} {c : Nat} {pl : List Nat} {k : Nat} (h : Bfs t out c pl pl.length k) (ht : Up t) (hc : 1 ≤ c) : valF out out.length 0 = valF t (t.length - 1) c := by
  have ho : Up out := ⟨h.shape.up, fun i hi h4 => by
    have hi' : i < pl.length := by rw [← h.len]; exact hi
    obtain ⟨e1, _, _⟩ := h.same i hi'
    rw [h.full hi']
    exact ht.two _ (h.lt i hi').1 (e1 ▸ h4)⟩
  have hl := h.len
  have hp := h.pos
  rw [valF_fuel ho out.length (out.length + t.length) 0 (by omega) (by omega) (by omega), h.val ht.two _ 0 hp, h.zero]
  have := (h.lt 0 hp).1
  rw [h.zero] at this
  exact valF_fuel ht _ _ _ this (by omega) (by omega)

/-! ### The sum of the parts -/
def leafN (x : Int) : TN := ⟨1, x, 0, []⟩
def uM : List Int → List TN := fun xs => ⟨2, 0, 0, (List.range xs.length).map fun i => ((i + 1 : Nat) : Int)⟩ :: xs.map leafN
theorem uM_length (xs : List Int) : (uM xs).length = xs.length + 1 := by simp [uM]
theorem uM_add (xs : List Int) (x : Int) : addKid (uM xs) 0 (leafN x) = uM (xs ++ [x]) := by
  unfold addKid uM
  simp [List.range_succ]
theorem uM_shape (xs : List Int) : Shape (uM xs) := by
  induction hn : xs.length generalizing xs with
  | zero =>
    obtain rfl := List.eq_nil_of_length_eq_zero hn
    exact Shape.one _ rfl
  | succ n ih =>
    have h1 : xs ≠ [] := by intro e; subst e; simp at hn
    rw [← List.dropLast_concat_getLast h1, ← uM_add]
    exact (ih xs.dropLast (by simp [hn])).add (by rw [uM_length]; omega) rfl
theorem uM_may (xs : List Int) (hx : xs.length ≤ 8) : ∀ i, i < (uM xs).length → NodeMay ((uM xs).getD i default) 16 := by
  intro i hi
  cases i with
  | zero => exact ⟨by simp [uM], by simp [uM], .inr (.inl ⟨.inl rfl, by simpa [uM] using hx⟩)⟩
  | succ i =>
    have hi' : i < xs.length := by rw [uM_length] at hi; omega
    have : (uM xs).getD (i + 1) default = leafN xs[i] := by simp [uM, List.getD_eq_getElem?_getD, hi']
    rw [this]
    exact ⟨by simp [leafN], by simp [leafN], .inl ⟨rfl, rfl⟩⟩
theorem uM_right (xs : List Int) (hx : xs.length ≤ 8) : rightM (uM xs) 16 = true := (uM_shape xs).right (by rw [uM_length]; omega) (by rw [uM_length]; omega) (uM_may xs hx)
theorem uM_val (xs : List Int) (t : List TN) (h2 : (t.getD 0 default).kind = 2) (ht : 1 ≤ t.length) (hl : xs.length = kn t 0) (hx : ∀ j, j < xs.length → xs.getD j 0 = valF t (t.length - 1) (kd t 0 j).toNat) : valF (uM xs) (uM xs).length 0 = valF t t.length 0 := by
  obtain ⟨n, hn⟩ : ∃ n, t.length = n + 1 := ⟨t.length - 1, by omega⟩
  rw [uM_length, hn]
  rw [hn] at hx
  simp only [valF]
  rw [h2]
  have : ((uM xs).getD 0 default).kind = 2 := rfl
  rw [this]
  simp only [show ¬ ((2 : Int) = 1) by decide, show ¬ ((2 : Int) = 4) by decide, show ¬ ((2 : Int) = 3) by decide, if_false]
  refine fold_congr (α := Unit) (fun v x => wrap32 (v + x)) (fun k => valF (uM xs) xs.length k.toNat) (fun k => valF t n k.toNat) _ _ _ ?_ ?_
  · have : ((uM xs).getD 0 default).kids.length = xs.length := by simp [uM]
    rw [this, hl]
    rfl
  · intro j hj
    have hj' : j < xs.length := by simpa [uM] using hj
    have h1 : ((uM xs).getD 0 default).kids.getD j 0 = ((j + 1 : Nat) : Int) := by simp [uM, List.getD_eq_getElem?_getD, hj']
    rw [h1, Int.toNat_natCast]
    obtain ⟨m, hm⟩ : ∃ m, xs.length = m + 1 := ⟨xs.length - 1, by omega⟩
    have h3 : (uM xs).getD (j + 1) default = leafN xs[j] := by simp [uM, List.getD_eq_getElem?_getD, hj']
    rw [hm]
    simp only [valF]
    rw [h3]
    have := hx j hj'
    rw [getD_at hj', Nat.add_sub_cancel] at this
    simp only [leafN, if_true]
    exact this
end Go.Proofs.Ytagcdnhkgndhcaa
