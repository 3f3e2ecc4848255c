/- More on what is one's own: appends from anywhere, where the result lies; what a slice reads. -/
import Derived.Test.YtagcdnhkgndhcaaBase
import Derived.Maps.AppendAt
import Derived.Laws.AppendOwnNone
import Derived.Lib.SliceRun
set_option linter.unusedVariables false
set_option linter.unusedSimpArgs false
namespace Go.Proofs.Ytagcdnhkgndhcaa
open Go.RowKit Go.Hoist

/-- What stands at an address and behind it. -/
def RdAt (w : World) (ad : Addr) (xs : List Value) : Prop := ∀ j u, xs[j]? = some u → w.cell? (ad.add j) = some u
theorem add_mk (b o j : Nat) : (⟨b, o, none⟩ : Addr).add j = ⟨b, o + j, none⟩ := by
  unfold Addr.add
  split <;> simp_all
theorem RdAt.below {w w' : World} {B : Nat} {ad : Addr} {xs : List Value} (h : RdAt w ad xs) (hb : Below B w w') (hl : ad.block < B) : RdAt w' ad xs := by
  intro j u hj
  have := h j u hj
  have hbl : (ad.add j).block = ad.block := by unfold Addr.add; split <;> rfl
  rw [← this]
  exact hb.cell (p := ad.add j) (by rw [hbl]; exact hl)
theorem RdAt.of_own {w : World} {base n size : Nat} {e : TypeId} {v : Value} {xs : List Value} {g : Nat} (h : w.ownsRow base e size v n xs) (hg : v.ownBlock = some g) : RdAt w ⟨g, 0, none⟩ xs := h.cells hg
theorem RdAt.blk {w : World} {b : Nat} {T : TypeId} {cs : Array Value} (h : Blk w b T cs) : RdAt w ⟨b, 0, none⟩ cs.toList := by
  intro j u hj
  rw [add_mk, h.cell]
  simpa using hj

/-- append to one's own, from any address; the result lies where it lay, or in a new block. -/
theorem wpAppAt {P : Program} {ops : Array Oper} {rest : List Oper} {o : Oper} {a : Act} {Q : Exit → Act → World → Prop} {w : World} {t e : TypeId} {z : Value} {size bytes : Nat} (he : Elt P t e z size bytes) (hgd : o.guard = none) (s x : Operand)
    (ho : o.op = .call { callee := .builtin .append, args := #[s, x], argTypes := #[t, t] }) (base : Nat) (v : Value) (n : Nat) (xs : List Value) (hs : a.eval s = v) (hown : w.ownsRow base e size v n xs)
    (ad : Addr) (m c : Nat) (news : List Value) (hx : a.eval x = .slice (some ad) m c) (hl : news.length = m * size) (hnews : RdAt w ad news) (h1 : ∀ u ∈ news, u.oneCell' = true)
    (hn : n + m ≤ 1048576) (hby : bytes ≤ 4096) (hbase : base ≤ w.heap.size)
    (h : ∀ v' w', w'.ownsRow base e size v' (n + m) (xs ++ news) → w.grownBy w' v.ownBlock → (v' = .slice none 0 0 ↔ v = .slice none 0 0 ∧ m = 0) → (v'.ownBlock = v.ownBlock ∨ v'.ownBlock = some w.heap.size) → wpList P ops Q rest (a.put o.dst v') w') : wpList P ops Q (o :: rest) a w := by
  obtain ⟨i, hi, hz, hsz, hbt⟩ := info_parts he.info
  refine wpList_append_own_at w hgd s x t ho base e i z size bytes he.ht hi hz hsz hbt he.hzs he.pos v n xs hs hown ad m c news hx hl hnews h1 (by unfold maxLen; omega) ?_ hbase h
  calc (n + m) * bytes ≤ 1048576 * 4096 := Nat.mul_le_mul hn hby
    _ ≤ 140737488355328 := by decide
/-- append of a nil slice. -/
theorem wpAppNil {P : Program} {ops : Array Oper} {rest : List Oper} {o : Oper} {a : Act} {Q : Exit → Act → World → Prop} {w : World} {t e : TypeId} {z : Value} {size bytes : Nat} (he : Elt P t e z size bytes) (hgd : o.guard = none) (s x : Operand)
    (ho : o.op = .call { callee := .builtin .append, args := #[s, x], argTypes := #[t, t] }) (base : Nat) (v : Value) (n : Nat) (xs : List Value) (hs : a.eval s = v) (hown : w.ownsRow base e size v n xs)
    (hx : a.eval x = .slice none 0 0) (h : wpList P ops Q rest (a.put o.dst v) w) : wpList P ops Q (o :: rest) a w := by
  obtain ⟨i, hi, hz, hsz, hbt⟩ := info_parts he.info
  exact wpList_append_own_none hgd s x t ho base e i size he.ht hi v n xs hs hown hx h
theorem own_some {w : World} {base : Nat} {e : TypeId} {size n : Nat} {v : Value} {xs : List Value} (h : w.ownsRow base e size v n xs) (hn : v ≠ .slice none 0 0) : ∃ g cap, v = .slice (some ⟨g, 0, none⟩) n cap ∧ base ≤ g ∧ g < w.heap.size ∧ RdAt w ⟨g, 0, none⟩ xs := by
  rcases h.2 with ⟨h1, _⟩ | ⟨g, cap, cur, h1, h2, h3, h4⟩
  · exact absurd h1 hn
  · exact ⟨g, cap, h1, h2, (Array.getElem?_eq_some_iff.1 h3).1, h.cells (by rw [h1]; rfl)⟩
theorem own_pos {w : World} {base : Nat} {e : TypeId} {size n : Nat} {v : Value} {xs : List Value} (h : w.ownsRow base e size v n xs) (hn : 0 < n) : ∃ g cap, v = .slice (some ⟨g, 0, none⟩) n cap ∧ base ≤ g ∧ g < w.heap.size ∧ RdAt w ⟨g, 0, none⟩ xs := by
  rcases h.2 with ⟨_, h1⟩ | ⟨g, cap, cur, h1, h2, h3, h4⟩
  · omega
  · exact ⟨g, cap, h1, h2, (Array.getElem?_eq_some_iff.1 h3).1, h.cells (by rw [h1]; rfl)⟩
theorem own_shape {w : World} {base : Nat} {e : TypeId} {size n : Nat} {v : Value} {xs : List Value} (h : w.ownsRow base e size v n xs) : ∃ ad c, v = .slice ad n c := by
  rcases h.2 with ⟨h2, h3⟩ | ⟨g, cap, cur, h2, _⟩
  · exact ⟨none, 0, by rw [h2, h3]⟩
  · exact ⟨_, _, h2⟩
/-- An empty new block. -/
theorem own_empty (w : World) (base : Nat) (e : TypeId) (size : Nat) (hb : base ≤ w.heap.size) : (w.alloc (.cells #[] e)).ownsRow base e size (.slice (some ⟨w.heap.size, 0, none⟩) 0 0) 0 [] :=
  World.ownsRow_made w #[] 0 hb (by unfold maxLen; omega) (by simp)
theorem own_mono {w : World} {base base' : Nat} {e : TypeId} {size n : Nat} {v : Value} {xs : List Value} (h : w.ownsRow base e size v n xs) (hb : base' ≤ base) : w.ownsRow base' e size v n xs := by
  refine ⟨h.1, ?_⟩
  rcases h.2 with h2 | ⟨g, cap, cur, h2, h3, h4⟩
  · exact .inl h2
  · exact .inr ⟨g, cap, cur, h2, Nat.le_trans hb h3, h4⟩
end Go.Proofs.Ytagcdnhkgndhcaa
