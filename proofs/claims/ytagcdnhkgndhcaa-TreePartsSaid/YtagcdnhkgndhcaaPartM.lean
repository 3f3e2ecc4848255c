/- Places and a tree, both one's own, that grow together. -/
import Derived.Test.YtagcdnhkgndhcaaTreeG
set_option linter.unusedVariables false
set_option linter.unusedSimpArgs false
namespace Go.Proofs.Ytagcdnhkgndhcaa
open Go.RowKit Go.Hoist

theorem Shape.kd_ge {t : List TN} (h : Shape t) {i : Nat} (hi : i < t.length) : ∀ k, k < kn t i → (i : Int) + 1 + k ≤ kd t i k
  | 0, hk => by have := (h.up i 0 hi hk).1; omega
  | k + 1, hk => by
    have h1 := h.kd_ge hi k (by omega)
    have h2 := h.mono i k hi hk
    omega
theorem Shape.kn_le {t : List TN} (h : Shape t) {i : Nat} (hi : i < t.length) : kn t i ≤ t.length := by
  by_cases h0 : kn t i = 0
  · omega
  · have h1 := h.kd_ge hi (kn t i - 1) (by omega)
    have h2 := (h.up i (kn t i - 1) hi (by omega)).2
    omega
def natsC (pl : List Nat) : List Value := pl.map fun (m : Nat) => Value.int .i64 (Int.ofNat m)
theorem natsC_append (pl : List Nat) (c : Nat) : natsC (pl ++ [c]) = natsC pl ++ [.int .i64 (c : Int)] := by simp [natsC]
theorem natsC_length (pl : List Nat) : (natsC pl).length = pl.length := by simp [natsC]
structure PX (w : World) (lo : Nat) (vo vp : Value) (l : List (TN × Value)) (pl : List Nat) : Prop where
  tree : TreeX w lo vo l
  row : w.ownsRow lo 3 1 vp pl.length (natsC pl)
  sep : ∀ j, j < l.length → Sep vp (kv l j)
theorem PX.below {w w' : World} {lo : Nat} {vo vp : Value} {l : List (TN × Value)} {pl : List Nat} (h : PX w lo vo vp l pl) (hb : Below w.heap.size w w') : PX w' lo vo vp l pl := ⟨h.tree.below hb, own_below h.row hb, h.sep⟩
theorem PX.drew' {w : World} {lo : Nat} {vo vp : Value} {l : List (TN × Value)} {pl : List Nat} (h : PX w lo vo vp l pl) : PX w.drew lo vo vp l pl := h.below ((Below.refl _ _).drew)
theorem grown_alloc {w w1 : World} {o : Obj} {row : Option Nat} (h : (w.alloc o).grownBy w1 row) : w.grownBy w1 row := by
  refine ⟨h.os, h.tape, h.output, Nat.le_trans (by simp) h.size, fun k hk hn => ?_⟩
  rw [h.block k (by simp; omega) hn]
  show (w.heap.push _)[k]? = _
  rw [Array.getElem?_push, if_neg (by omega)]
theorem grown_drew {w w1 : World} {row : Option Nat} (h : w.drew.grownBy w1 row) : w.grownBy w1 row := ⟨h.os, h.tape, h.output, h.size, h.block⟩
theorem own_drew {w : World} {base : Nat} {e : TypeId} {size n : Nat} {v : Value} {xs : List Value} (h : w.ownsRow base e size v n xs) : w.drew.ownsRow base e size v n xs := own_below h ((Below.refl _ w).drew)
theorem PX.kid {w w1 : World} {lo g cap : Nat} {vp : Value} {l : List (TN × Value)} {pl : List Nat} (h : PX w lo (.slice (some ⟨g, 0, none⟩) l.length cap) vp l pl) {i : Nat} (hi : i < l.length) {k' : Value} {ks : List Int} (hs : ks.length ≤ 65536)
    (hg : w.grownBy w1 (kv l i).ownBlock) (hk : w1.ownsRow lo 3 1 k' ks.length (ks.map (Value.int .i64))) (hat : k'.ownBlock = (kv l i).ownBlock ∨ ∃ b, k'.ownBlock = some b ∧ w.heap.size ≤ b) :
    PX (w1.setCell ⟨g, i * 4 + 3, none⟩ k') lo (.slice (some ⟨g, 0, none⟩) l.length cap) vp (l.set i ({ nd l i with kids := ks }, k')) pl := by
  have hX := h.tree.setKid hi hs hg hk hat
  have hrow1 : w1.ownsRow lo 3 1 vp pl.length (natsC pl) := h.row.kept hg (by
    cases e4 : vp.ownBlock with
    | none => exact .inl rfl
    | some b => exact .inr (fun e5 => h.sep i hi b e4 e5.symm))
  refine ⟨hX, own_setOther hrow1 _ _ _ (fun e => ?_), fun j hj => ?_⟩
  · obtain ⟨cs, hb, _⟩ := own_blk hrow1 g e
    have hrow : w1.ownsRow lo 30 4 (.slice (some ⟨g, 0, none⟩) l.length cap) l.length (treeC l) := own_grown h.tree.own.row (h.tree.kid hi) hg (by decide)
    rcases hrow.2 with ⟨h2, _⟩ | ⟨g', cap', cur, h2, _, h4, _⟩
    · cases h2
    · cases h2
      have := (Blk.eq hb (show Blk w1 g 30 cur from h4)).2
      revert this
      decide
  · have hj' : j < l.length := by simpa using hj
    unfold kv
    rw [List.getD_eq_getElem?_getD, List.getElem?_set]
    by_cases e : i = j
    · subst e
      rw [if_pos rfl, if_pos hi]
      intro b h1 h2
      rcases hat with hat | ⟨b', hat, hge⟩
      · exact h.sep i hi b h1 (hat ▸ h2)
      · have := h.row.lt b h1
        have h2' : k'.ownBlock = some b := h2
        rw [hat] at h2'
        cases h2'
        omega
    · rw [if_neg e, ← List.getD_eq_getElem?_getD]
      exact h.sep j hj'
theorem PX.kidCell {w w1 : World} {lo g cap : Nat} {vp : Value} {l : List (TN × Value)} {pl : List Nat} (h : PX w lo (.slice (some ⟨g, 0, none⟩) l.length cap) vp l pl) {i : Nat} (hi : i < l.length) (hg : w.grownBy w1 (kv l i).ownBlock) :
    w1.cell? ⟨g, i * 4 + 3, none⟩ = some (kv l i) ∧ w1.frozen? ⟨g, i * 4 + 3, none⟩ = false := by
  have hrow : w1.ownsRow lo 30 4 (.slice (some ⟨g, 0, none⟩) l.length cap) l.length (treeC l) := own_grown h.tree.own.row (h.tree.kid hi) hg (by decide)
  have h1 := treeC_get l i 3 hi (by omega)
  refine own_read hrow ?_
  rw [h1, get_getD]
  rfl
theorem PX.place {w w' : World} {lo : Nat} {vo vp vp' : Value} {l : List (TN × Value)} {pl : List Nat} {c : Nat} (h : PX w lo vo vp l pl) (hg : w.grownBy w' vp.ownBlock) (hk : w'.ownsRow lo 3 1 vp' (pl.length + 1) (natsC pl ++ [.int .i64 (c : Int)])) (hat : vp'.ownBlock = vp.ownBlock ∨ ∃ b, vp'.ownBlock = some b ∧ w.heap.size ≤ b) :
    PX w' lo vo vp' l (pl ++ [c]) := by
  refine ⟨⟨⟨own_grown h.tree.own.row h.row hg (by decide), fun p hp => ?_, h.tree.own.small, h.tree.own.len⟩, h.tree.sep⟩, by rw [natsC_append]; simpa using hk, fun j hj => ?_⟩
  · obtain ⟨j, hj, rfl⟩ := List.getElem_of_mem hp
    have e : l[j] = l.getD j default := get_getD l j hj
    refine (h.tree.own.kids _ hp).kept hg ?_
    cases e4 : (l[j]).2.ownBlock with
    | none => exact .inl rfl
    | some b => exact .inr (fun e5 => h.sep j hj b e5.symm (by unfold kv; rw [← e]; exact e4))
  · intro b h1 h2
    rcases hat with hat | ⟨b', hat, hge⟩
    · exact h.sep j hj b (hat ▸ h1) h2
    · rw [hat] at h1
      cases h1
      have := (h.tree.kid hj).lt b h2
      omega
theorem PX.push {w w' : World} {lo : Nat} {vo vo' vp : Value} {l : List (TN × Value)} {pl : List Nat} (h : PX w lo vo vp l pl) (p : TN) (hp : p.kids = []) (hl : l.length < 65536) (h3 : w'.ownsRow lo 30 4 vo' (l.length + 1) (treeC l ++ nodeC (p, .slice none 0 0))) (hg : w.grownBy w' vo.ownBlock) :
    PX w' lo vo' vp (l ++ [(p, .slice none 0 0)]) pl := by
  refine ⟨h.tree.push p hp hl h3 hg, own_grown h.row h.tree.own.row hg (by decide), fun j hj => ?_⟩
  have hj' : j < l.length + 1 := by simpa using hj
  unfold kv
  rw [List.getD_eq_getElem?_getD]
  by_cases e : j < l.length
  · rw [List.getElem?_append_left e, ← List.getD_eq_getElem?_getD]
    exact h.sep j e
  · rw [List.getElem?_append_right (by omega), show j - l.length = 0 by omega]
    intro b _ h2
    cases h2
theorem PX.cell {w : World} {lo g cap : Nat} {vo : Value} {l : List (TN × Value)} {pl : List Nat} (h : PX w lo vo (.slice (some ⟨g, 0, none⟩) pl.length cap) l pl) {m : Nat} (hm : m < pl.length) : w.cell? ⟨g, m, none⟩ = some (.int .i64 (pg pl m : Int)) := by
  refine (own_read h.row ?_).1
  unfold natsC pg
  rw [List.getElem?_map, List.getElem?_eq_getElem hm]
  simp [List.getD_eq_getElem?_getD, hm]
theorem PX.new (w : World) (lo c : Nat) (x : TN) (hx : x.kids = []) (hlo : lo ≤ w.heap.size) :
    PX ((w.alloc (.cells #[.int .i64 (c : Int)] 3)).alloc (.cells #[.int .i64 x.kind, .int .i32 x.val, .int .i64 x.label, .slice none 0 0] 30)) lo (.slice (some ⟨w.heap.size + 1, 0, none⟩) 1 1) (.slice (some ⟨w.heap.size, 0, none⟩) 1 1) [(x, .slice none 0 0)] [c] := by
  refine ⟨⟨⟨?_, fun p hp => ?_, fun p hp => ?_, by simp⟩, fun i j hi hj hij => ?_⟩, (own_build w lo 3 1 1 #[.int .i64 (c : Int)] _ rfl hlo (by decide) rfl).alloc _, fun j hj => ?_⟩
  · have := own_build (w.alloc (.cells #[.int .i64 (c : Int)] 3)) lo 30 4 1 #[.int .i64 x.kind, .int .i32 x.val, .int .i64 x.label, .slice none 0 0] _ rfl (by simp; omega) (by decide) rfl
    simpa [treeC, nodeC] using this
  · rw [List.mem_singleton] at hp
    subst hp
    rw [hx]
    exact kids_nil _ _
  · rw [List.mem_singleton] at hp
    subst hp
    rw [hx]
    simp
  · simp at hi hj
    omega
  · obtain rfl : j = 0 := by simpa using hj
    intro b _ h2
    cases h2
end Go.Proofs.Ytagcdnhkgndhcaa
