/- Package lattice: grids that are being made. -/
import Derived.Test.YtagcdnhkgndhcaaLatA
import Derived.Maps.AppendAt
set_option linter.unusedVariables false
set_option linter.unusedSimpArgs false
namespace Go.Proofs.Ytagcdnhkgndhcaa
open Go.RowKit Go.Hoist

def upd {α : Type} (g : Nat → α) (i : Nat) (x : α) : Nat → α := fun j => if j = i then x else g j
theorem upd_at {α : Type} (g : Nat → α) (i : Nat) (x : α) : upd g i x i = x := by simp [upd]
theorem upd_ne {α : Type} (g : Nat → α) {i j : Nat} (x : α) (h : j ≠ i) : upd g i x j = g j := by simp [upd, h]

/-- A row of numbers as cells. -/
def rowC (n : Nat) (g : Nat → Int) : Array Value := ((List.range n).map fun j => Value.int .i64 (g j)).toArray
theorem rowC_get {n : Nat} {g : Nat → Int} {j : Nat} (h : j < n) : (rowC n g)[j]? = some (.int .i64 (g j)) := by
  unfold rowC
  simp [List.getElem?_map, List.getElem?_range h]
theorem rowC_ext {n : Nat} {g g' : Nat → Int} (h : ∀ j, j < n → g j = g' j) : rowC n g = rowC n g' := by
  unfold rowC
  congr 1
  refine List.map_congr_left fun j hj => ?_
  rw [h j (List.mem_range.1 hj)]
theorem rowC_set {n : Nat} {g : Nat → Int} {c : Nat} (x : Int) (h : c < n) : (rowC n g).setIfInBounds c (.int .i64 x) = rowC n (upd g c x) := by
  apply Array.ext
  · simp [rowC]
  · intro i h1 h2
    have hi : i < n := by simpa [rowC] using h2
    rw [Array.getElem_setIfInBounds (by simpa [rowC] using hi)]
    by_cases e : c = i
    · subst e
      simp [rowC, upd]
    · have e' : ¬ i = c := fun h => e h.symm
      simp [rowC, upd, e, e']
theorem rowC_zero (n : Nat) : ((List.replicate n 0).map (Value.int .i64)).toArray = rowC n (fun _ => 0) := by
  unfold rowC
  congr 1
  refine List.ext_getElem (by simp) fun i h1 h2 => ?_
  simp

/-- A new row, its numbers in a block of its own. -/
def RowIs (w : World) (lo n : Nat) (v : Value) (g : Nat → Int) : Prop := ∃ b, v = .slice (some ⟨b, 0, none⟩) n n ∧ lo ≤ b ∧ Blk w b 3 (rowC n g)
def GridOwn (w : World) (lo : Nat) (v : Value) (a n : Nat) (f : Nat → Nat → Int) : Prop :=
  ∃ xs, w.ownsRow lo 28 1 v a xs ∧ ∀ i, i < a → ∃ u, xs[i]? = some u ∧ RowIs w lo n u (f i)
theorem RowIs.same {w w' : World} {lo n : Nat} {v : Value} {g : Nat → Int} (h : RowIs w lo n v g) (hk : ∀ b cs, Blk w b 3 cs → w'.heap[b]? = w.heap[b]?) : RowIs w' lo n v g := by
  obtain ⟨b, h1, h2, h3⟩ := h
  exact ⟨b, h1, h2, h3.same (hk _ _ h3)⟩
theorem own_same {w w' : World} {lo : Nat} {e : TypeId} {v : Value} {n : Nat} {xs : List Value} (h : w.ownsRow lo e 1 v n xs) (hk : ∀ b, v.ownBlock = some b → w'.heap[b]? = w.heap[b]?) : w'.ownsRow lo e 1 v n xs := by
  refine ⟨h.1, ?_⟩
  rcases h.2 with h2 | ⟨g, cap, cur, h2, h3, h4, h5⟩
  · exact .inl h2
  · exact .inr ⟨g, cap, cur, h2, h3, by rw [hk g (by rw [h2]; rfl)]; exact h4, h5⟩
theorem own_blk {w : World} {lo : Nat} {e : TypeId} {v : Value} {n : Nat} {xs : List Value} (h : w.ownsRow lo e 1 v n xs) : ∀ b, v.ownBlock = some b → ∃ cs, Blk w b e cs ∧ lo ≤ b := by
  intro b hb
  rcases h.2 with ⟨h2, _⟩ | ⟨g, cap, cur, h2, h3, h4, h5⟩
  · rw [h2] at hb; cases hb
  · rw [h2] at hb
    simp only [Value.ownBlock, Option.some.injEq] at hb
    subst hb
    exact ⟨cur, h4, h3⟩
theorem GridOwn.same {w w' : World} {lo : Nat} {v : Value} {a n : Nat} {f : Nat → Nat → Int} (h : GridOwn w lo v a n f) (h1 : ∀ b, v.ownBlock = some b → w'.heap[b]? = w.heap[b]?) (h2 : ∀ b cs, Blk w b 3 cs → w'.heap[b]? = w.heap[b]?) : GridOwn w' lo v a n f := by
  obtain ⟨xs, h3, h4⟩ := h
  refine ⟨xs, own_same h3 h1, fun i hi => ?_⟩
  obtain ⟨u, h5, h6⟩ := h4 i hi
  exact ⟨u, h5, h6.same h2⟩
theorem GridOwn.blk {w : World} {lo : Nat} {v : Value} {a n : Nat} {f : Nat → Nat → Int} (h : GridOwn w lo v a n f) : ∀ b, v.ownBlock = some b → ∃ cs, Blk w b 28 cs ∧ lo ≤ b := by
  obtain ⟨xs, h3, _⟩ := h
  exact own_blk h3
theorem GridOwn.nil (w : World) (lo n : Nat) (f : Nat → Nat → Int) : GridOwn w lo (.slice none 0 0) 0 n f := ⟨[], ⟨rfl, .inl ⟨rfl, rfl⟩⟩, fun i hi => absurd hi (by omega)⟩
theorem GridOwn.below {w w' : World} {lo : Nat} {v : Value} {a n : Nat} {f : Nat → Nat → Int} (h : GridOwn w lo v a n f) (hb : Below w.heap.size w w') : GridOwn w' lo v a n f :=
  h.same (fun b hb' => by obtain ⟨cs, h1, _⟩ := h.blk b hb'; exact hb.block b h1.lt) (fun b cs h1 => hb.block b h1.lt)
/-- All of it done: it reads so. -/
theorem GridOwn.grid {w : World} {lo : Nat} {v : Value} {n : Nat} {f : Nat → Nat → Int} (h : GridOwn w lo v n n f) (hn : 0 < n) : GridAt w w.heap.size v n f := by
  obtain ⟨xs, h3, h4⟩ := h
  rcases h3.2 with ⟨_, h2⟩ | ⟨g, cap, cur, h2, h5, h6, h7, h8, h9, h10⟩
  · omega
  · have hx : ∀ i, ∃ b, i < n → xs[i]? = some (.slice (some ⟨b, 0, none⟩) n n) ∧ Blk w b 3 (rowC n (f i)) := fun i => by
      by_cases hi : i < n
      · obtain ⟨u, h11, b, h12, _, h13⟩ := h4 i hi
        exact ⟨b, fun _ => ⟨by rw [h11, h12], h13⟩⟩
      · exact ⟨0, fun h => absurd h hi⟩
    let rb : Nat → Nat := fun i => Classical.choose (hx i)
    have hrb : ∀ i, i < n → xs[i]? = some (.slice (some ⟨rb i, 0, none⟩) n n) ∧ Blk w (rb i) 3 (rowC n (f i)) := fun i => Classical.choose_spec (hx i)
    refine ⟨g, 0, cap, rb, fun _ => 0, fun _ => n, h2, (Array.getElem?_eq_some_iff.1 h6).1, fun a ha => ?_, fun a ha => (hrb a ha).2.lt, fun a b ha hb => ?_⟩
    · have hg : w.cell? ⟨g, 0 + a, none⟩ = cur[0 + a]? := Blk.cell (show Blk w g 28 cur from h6) _
      rw [hg, Nat.zero_add, ← (hrb a ha).1, ← h10]
      simp [List.getElem?_take, ha]
    · rw [(hrb a ha).2.cell, Nat.zero_add]
      exact rowC_get hb

/-- Two rows of one's own are apart. -/
def Sep (u v : Value) : Prop := ∀ b, u.ownBlock = some b → v.ownBlock ≠ some b

/-- Three grids that grow by a row each: of each the row in hand, the block in which its value has been laid out for append (if so). -/
structure T3 (w00 w : World) (n a0 p : Nat) (cs : Array Value) (f : Nat → Nat → Nat → Int) (u v : Nat → Value) (a : Nat → Nat) (k : Nat → Option Nat) : Prop where
  bel : Below w00.heap.size w00 w
  obj : Blk w p 164 cs
  g : ∀ i, i < 3 → GridOwn w w00.heap.size (v i) (a i) n (f i)
  sep : ∀ i j, i < 3 → j < 3 → i ≠ j → Sep (v i) (v j)
  blt : ∀ i b, i < 3 → k i = some b → Blk w b 28 #[u i] ∧ ∀ j, j < 3 → (v j).ownBlock ≠ some b
  row : ∀ i, i < 3 → RowIs w w00.heap.size n (u i) (f i a0)
theorem GridOwn.slice {w : World} {lo : Nat} {v : Value} {a n : Nat} {f : Nat → Nat → Int} (h : GridOwn w lo v a n f) : ∃ ad c, v = .slice ad a c := by
  obtain ⟨xs, h1, _⟩ := h
  rcases h1.2 with ⟨h2, h3⟩ | ⟨g, cap, cur, h2, _⟩
  · exact ⟨none, 0, by rw [h2, h3]⟩
  · exact ⟨_, _, h2⟩
theorem T3.drew {w00 w : World} {n a0 p : Nat} {cs : Array Value} {f : Nat → Nat → Nat → Int} {u v : Nat → Value} {a : Nat → Nat} {k : Nat → Option Nat} (h : T3 w00 w n a0 p cs f u v a k) : T3 w00 w.drew n a0 p cs f u v a k :=
  ⟨h.bel.drew, h.obj, h.g, h.sep, h.blt, h.row⟩
theorem T3.build {w00 w : World} {n a0 p : Nat} {cs : Array Value} {f : Nat → Nat → Nat → Int} {u v : Nat → Value} {a : Nat → Nat} {k : Nat → Option Nat} (h : T3 w00 w n a0 p cs f u v a k) (i : Nat) (hi : i < 3) (bk : Nat) (hbk : bk = w.heap.size) :
    T3 w00 (w.alloc (.cells #[u i] 28)) n a0 p cs f u v a (upd k i (some bk)) := by
  subst hbk
  have hb : Below w.heap.size w (w.alloc (.cells #[u i] 28)) := (Below.refl _ _).alloc (Nat.le_refl _) _
  refine ⟨h.bel.alloc h.bel.size _, h.obj.alloc _, fun j hj => (h.g j hj).below hb, h.sep, fun j b hj hk => ?_, fun j hj => (h.row j hj).same (fun b cs h1 => hb.block b h1.lt)⟩
  by_cases e : j = i
  · subst e
    rw [upd_at] at hk
    cases hk
    refine ⟨Blk.new _ _ _, fun l hl he => ?_⟩
    obtain ⟨cs, h1, _⟩ := (h.g l hl).blk _ he
    have := h1.lt
    omega
  · rw [upd_ne _ _ e] at hk
    obtain ⟨h1, h2⟩ := h.blt j b hj hk
    exact ⟨h1.alloc _, h2⟩
theorem T3.grow {w00 w w' : World} {n a0 p : Nat} {cs : Array Value} {f : Nat → Nat → Nat → Int} {u v : Nat → Value} {a : Nat → Nat} {k : Nat → Option Nat} (h : T3 w00 w n a0 p cs f u v a k) (i : Nat) (hi : i < 3) (hai : a i = a0) (xs : List Value)
    (hxs : ∀ j, j < a0 → ∃ z, xs[j]? = some z ∧ RowIs w w00.heap.size n z (f i j)) (hxl : xs.length = a0) (v' : Value) (hown : w'.ownsRow w00.heap.size 28 1 v' (a0 + 1) (xs ++ [u i])) (hgr : w.grownBy w' (v i).ownBlock) (hat : v'.ownBlock = (v i).ownBlock ∨ v'.ownBlock = some w.heap.size) :
    T3 w00 w' n a0 p cs f u (upd v i v') (upd a i (a0 + 1)) k := by
  have keep : ∀ b, b < w.heap.size → (v i).ownBlock ≠ some b → w'.heap[b]? = w.heap[b]? := fun b hb hne => hgr.block b hb (fun e => hne e.symm)
  have keep3 : ∀ b T cs, T ≠ 28 → Blk w b T cs → w'.heap[b]? = w.heap[b]? := fun b T cs hT h1 => keep b h1.lt fun e => by
    obtain ⟨cs', h2, _⟩ := (h.g i hi).blk b e
    exact hT (h1.eq h2).2
  have rows : ∀ z g, RowIs w w00.heap.size n z g → RowIs w' w00.heap.size n z g := fun z g hz => hz.same (fun b cs h1 => keep3 b 3 cs (by decide) h1)
  have lts : ∀ j b, j < 3 → (v j).ownBlock = some b → b < w.heap.size := fun j b hj hb => by
    obtain ⟨cs, h1, _⟩ := (h.g j hj).blk b hb
    exact h1.lt
  refine ⟨below_grown h.bel hgr h.bel.size (fun b hb => ?_), h.obj.same (keep3 p 164 cs (by decide) h.obj), fun j hj => ?_, fun j l hj hl hne => ?_, fun j b hj hk => ?_, fun j hj => rows _ _ (h.row j hj)⟩
  · obtain ⟨cs, _, h1⟩ := (h.g i hi).blk b hb
    exact h1
  · by_cases e : j = i
    · subst e
      rw [upd_at, upd_at]
      refine ⟨xs ++ [u j], hown, fun l hl => ?_⟩
      by_cases e : l < a0
      · obtain ⟨z, h1, h2⟩ := hxs l e
        exact ⟨z, by rw [List.getElem?_append_left (by omega)]; exact h1, rows _ _ h2⟩
      · obtain rfl : l = a0 := by omega
        exact ⟨u j, by rw [List.getElem?_append_right (by omega), hxl, Nat.sub_self]; rfl, rows _ _ (h.row j hj)⟩
    · rw [upd_ne _ _ e, upd_ne _ _ e]
      exact (h.g j hj).same (fun b hb => keep b (lts j b hj hb) (fun e' => h.sep i j hi hj (fun h => e h.symm) b e' hb)) (fun b cs h1 => keep3 b 3 cs (by decide) h1)
  · by_cases e : j = i
    · subst e
      have e' : ¬ l = j := fun h => hne h.symm
      rw [upd_at, upd_ne _ _ e']
      intro b hb hb'
      rcases hat with h1 | h1
      · exact h.sep j l hj hl hne b (h1 ▸ hb) hb'
      · rw [h1] at hb
        cases hb
        have := lts l _ hl hb'
        omega
    · rw [upd_ne _ _ e]
      by_cases e2 : l = i
      · subst e2
        rw [upd_at]
        intro b hb hb'
        rcases hat with h1 | h1
        · exact h.sep j l hj hl hne b hb (h1 ▸ hb')
        · rw [h1] at hb'
          cases hb'
          have := lts j _ hj hb
          omega
      · rw [upd_ne _ _ e2]
        exact h.sep j l hj hl hne
  · obtain ⟨h1, h2⟩ := h.blt j b hj hk
    refine ⟨h1.same (keep b h1.lt (h2 i hi)), fun l hl => ?_⟩
    by_cases e : l = i
    · subst e
      rw [upd_at]
      rcases hat with h3 | h3
      · rw [h3]
        exact h2 l hl
      · rw [h3]
        intro e
        cases e
        have := h1.lt
        omega
    · rw [upd_ne _ _ e]
      exact h2 l hl
theorem eltGrid : Elt Try.prog 162 28 (.slice none 0 0) 1 24 := ⟨by kernel_rfl, by kernel_rfl, rfl, by decide⟩
/-- The row in hand is appended. -/
theorem T3.walk {w00 w : World} {n a0 p : Nat} {cs : Array Value} {f : Nat → Nat → Nat → Int} {u v : Nat → Value} {a : Nat → Nat} {k : Nat → Option Nat} (h : T3 w00 w n a0 p cs f u v a k) (i : Nat) (hi : i < 3) (hai : a i = a0) (ha0 : a0 ≤ 65536)
    {ops : Array Oper} {rest : List Oper} {o : Oper} {act : Act} {Q : Exit → Act → World → Prop} (hgd : o.guard = none) (s x : Operand) (ho : o.op = .call { callee := .builtin .append, args := #[s, x], argTypes := #[162, 162] })
    (b c : Nat) (hk : k i = some b) (hs : act.eval s = v i) (hx : act.eval x = .slice (some ⟨b, 0, none⟩) 1 c)
    (next : ∀ ad c' w', T3 w00 w' n a0 p cs f u (upd v i (.slice ad (a0 + 1) c')) (upd a i (a0 + 1)) k → wpList Try.prog ops Q rest (act.put o.dst (.slice ad (a0 + 1) c')) w') : wpList Try.prog ops Q (o :: rest) act w := by
  obtain ⟨xs, hown, hrow⟩ := h.g i hi
  rw [hai] at hown hrow
  obtain ⟨h1, h2⟩ := h.blt i b hi hk
  obtain ⟨j, hi', hz, hsz, hbt⟩ := info_parts eltGrid.info
  have hl : xs.length = a0 := by have := hown.1; omega
  obtain ⟨rbk, hre, _⟩ := h.row i hi
  refine wpList_append_own_at w hgd s x 162 ho w00.heap.size 28 j (.slice none 0 0) 1 24 eltGrid.ht hi' hz hsz hbt eltGrid.hzs eltGrid.pos (v i) a0 xs hs hown ⟨b, 0, none⟩ 1 c [u i] hx rfl (fun l z hz => ?_) (fun z hz => ?_) (by unfold maxLen; omega) (by omega) h.bel.size (fun v' w' g1 g2 _ g4 => ?_)
  · have : (⟨b, 0, none⟩ : Addr).add l = ⟨b, l, none⟩ := by unfold Addr.add; split <;> simp_all
    rw [this, h1.cell]
    match l, hz with
    | 0, hz => simpa using hz
  · rw [List.mem_singleton] at hz
    subst hz
    rw [hre]
    rfl
  · have hT := h.grow i hi hai xs hrow hl v' g1 g2 g4
    have hG := hT.g i hi
    rw [upd_at, upd_at] at hG
    obtain ⟨ad, c', rfl⟩ := hG.slice
    exact next ad c' w' hT
def tri3 (x y z : Value) : Nat → Value
  | 0 => x
  | 1 => y
  | _ => z
end Go.Proofs.Ytagcdnhkgndhcaa
