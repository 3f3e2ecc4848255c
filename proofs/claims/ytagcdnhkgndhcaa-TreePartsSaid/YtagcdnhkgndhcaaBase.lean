/- Small facts on worlds, blocks and cells that the walks of this seat use. -/
import Derived.Test.YtagcdnhkgndhcaaProg
import Derived.Test.YtagcdnhkgndhcaaHoist
import Derived.WalkKit
import Derived.WalkSpells
import Derived.WalkLawsBesides
import Derived.KernelRfl
import Derived.Lib.Hide
import Derived.LoopTactic
import Derived.Outline
set_option linter.unusedVariables false
set_option linter.unusedSimpArgs false
namespace Go.Proofs.Ytagcdnhkgndhcaa
open Go.RowKit Go.Hoist

theorem mixed : Try.prog.follows .mixedOrders = true := by kernel_rfl

/-- A block of cells, none of them frozen. -/
def Blk (w : World) (b : Nat) (T : TypeId) (cs : Array Value) : Prop := w.heap[b]? = some (.cells cs T (0, 0))
theorem Blk.cell {w : World} {b : Nat} {T : TypeId} {cs : Array Value} (h : Blk w b T cs) (o : Nat) : w.cell? ⟨b, o, none⟩ = cs[o]? := by
  simp only [World.cell?, show w.heap[b]? = _ from h]
  rfl
theorem Blk.free {w : World} {b : Nat} {T : TypeId} {cs : Array Value} (h : Blk w b T cs) (o : Nat) : w.frozen? ⟨b, o, none⟩ = false := by
  simp only [World.frozen?, show w.heap[b]? = _ from h]
  simp
theorem Blk.lt {w : World} {b : Nat} {T : TypeId} {cs : Array Value} (h : Blk w b T cs) : b < w.heap.size := (Array.getElem?_eq_some_iff.1 (show w.heap[b]? = _ from h)).1
theorem Blk.same {w w' : World} {b : Nat} {T : TypeId} {cs : Array Value} (h : Blk w b T cs) (e : w'.heap[b]? = w.heap[b]?) : Blk w' b T cs := e.trans h
theorem Blk.eq {w : World} {b : Nat} {T T' : TypeId} {cs cs' : Array Value} (h : Blk w b T cs) (h' : Blk w b T' cs') : cs = cs' ∧ T = T' := by
  have := (show w.heap[b]? = _ from h).symm.trans h'
  simp at this
  exact this
theorem Blk.new (w : World) (T : TypeId) (cs : Array Value) : Blk (w.alloc (.cells cs T)) w.heap.size T cs := by
  show (w.heap.push _)[w.heap.size]? = _
  simp
theorem Blk.alloc {w : World} {b : Nat} {T : TypeId} {cs : Array Value} (h : Blk w b T cs) (o : Obj) : Blk (w.alloc o) b T cs := by
  have := h.lt
  refine h.same ?_
  show (w.heap.push _)[b]? = _
  rw [Array.getElem?_push, if_neg (by omega)]
theorem Blk.drew {w : World} {b : Nat} {T : TypeId} {cs : Array Value} (h : Blk w b T cs) : Blk w.drew b T cs := h
theorem Blk.drewN {w : World} {b : Nat} {T : TypeId} {cs : Array Value} (h : Blk w b T cs) (n : Nat) : Blk (w.drewN n) b T cs := h
theorem Blk.set {w : World} {b : Nat} {T : TypeId} {cs : Array Value} (h : Blk w b T cs) (o : Nat) (v : Value) : Blk (w.setCell ⟨b, o, none⟩ v) b T (cs.setIfInBounds o v) := by
  have h' : w.heap[b]? = _ := h
  show (w.heap.modify b _)[b]? = _
  rw [Array.getElem?_modify, if_pos rfl, h']
  rfl
theorem Blk.other {w : World} {b b' o : Nat} {T : TypeId} {cs : Array Value} (h : Blk w b T cs) (v : Value) (hne : b' ≠ b) : Blk (w.setCell ⟨b', o, none⟩ v) b T cs := by
  refine h.same ?_
  simp [World.setCell, Array.getElem?_modify, hne]
theorem Blk.below {w w' : World} {B b : Nat} {T : TypeId} {cs : Array Value} (h : Blk w b T cs) (hb : Below B w w') (hlt : b < B) : Blk w' b T cs := h.same (hb.block b hlt)

theorem ret_bool {a b : Bool} (h : a = b) : Ending.returned (.bool a) = .returned (.bool b) := by rw [h]
theorem ret_int {k : IntKind} {a b : Int} (h : a = b) : Ending.returned (.int k a) = .returned (.int k b) := by rw [h]

/-! ### Which blocks may have changed -/
structure Chg (S : List Nat) (w w' : World) : Prop where
  os : w'.os = w.os
  tape : w'.tape = w.tape
  output : w'.output = w.output
  size : w.heap.size ≤ w'.heap.size
  block : ∀ b, b < w.heap.size → b ∉ S → w'.heap[b]? = w.heap[b]?
theorem Chg.refl (S : List Nat) (w : World) : Chg S w w := ⟨rfl, rfl, rfl, Nat.le_refl _, fun _ _ _ => rfl⟩
theorem Chg.trans {S S' : List Nat} {w w1 w2 : World} (h : Chg S w w1) (k : Chg S' w1 w2) (hs : ∀ b ∈ S', b ∈ S ∨ w.heap.size ≤ b) : Chg S w w2 :=
  ⟨k.os.trans h.os, k.tape.trans h.tape, k.output.trans h.output, Nat.le_trans h.size k.size, fun b hb hn =>
    (k.block b (Nat.lt_of_lt_of_le hb h.size) (fun hm => by rcases hs b hm with h' | h' <;> first | exact hn h' | omega)).trans (h.block b hb hn)⟩
theorem Chg.below {S : List Nat} {w w1 w2 : World} (h : Chg S w w1) (k : Below w1.heap.size w1 w2) : Chg S w w2 :=
  ⟨k.os.trans h.os, k.tape.trans h.tape, k.output.trans h.output, Nat.le_trans h.size k.size, fun b hb hn => (k.block b (Nat.lt_of_lt_of_le hb h.size)).trans (h.block b hb hn)⟩
theorem Chg.of_below {w w1 : World} (k : Below w.heap.size w w1) (S : List Nat) : Chg S w w1 := (Chg.refl S w).below k
theorem Chg.alloc {S : List Nat} {w w1 : World} (h : Chg S w w1) (o : Obj) : Chg S w (w1.alloc o) := h.below ((Below.refl _ _).alloc (Nat.le_refl _) _)
theorem Chg.drew {S : List Nat} {w w1 : World} (h : Chg S w w1) : Chg S w w1.drew := ⟨h.os, h.tape, h.output, h.size, h.block⟩
theorem Chg.drewN {S : List Nat} {w w1 : World} (h : Chg S w w1) (n : Nat) : Chg S w (w1.drewN n) := ⟨h.os, h.tape, h.output, h.size, h.block⟩
theorem Chg.set {S : List Nat} {w w1 : World} (h : Chg S w w1) {b : Nat} (o : Nat) (v : Value) (hb : b ∈ S ∨ w.heap.size ≤ b) : Chg S w (w1.setCell ⟨b, o, none⟩ v) := by
  refine ⟨h.os, h.tape, h.output, by simpa [World.setCell] using h.size, fun x hx hn => ?_⟩
  rw [← h.block x hx hn]
  have : b ≠ x := fun e => by subst e; rcases hb with hb | hb <;> first | exact hn hb | omega
  simp [World.setCell, Array.getElem?_modify, this]
theorem Chg.mono {S S' : List Nat} {w w1 : World} (h : Chg S w w1) (hs : ∀ b ∈ S, b ∈ S' ∨ w.heap.size ≤ b) : Chg S' w w1 :=
  ⟨h.os, h.tape, h.output, h.size, fun b hb hn => h.block b hb (fun hm => by rcases hs b hm with h' | h' <;> first | exact hn h' | omega)⟩
theorem Chg.toBelow {w w1 : World} (h : Chg [] w w1) : Below w.heap.size w w1 := ⟨h.os, h.tape, h.output, h.size, fun i hi => h.block i hi (by simp)⟩
theorem Chg.keep {S : List Nat} {w w1 : World} (h : Chg S w w1) {b : Nat} {T : TypeId} {cs : Array Value} (hb : Blk w b T cs) (hn : b ∉ S) : Blk w1 b T cs := hb.same (h.block b hb.lt hn)
theorem Chg.grown {S : List Nat} {w w1 w2 : World} (h : Chg S w w1) {row : Option Nat} (k : w1.grownBy w2 row) (hs : ∀ b, row = some b → b ∈ S ∨ w.heap.size ≤ b) : Chg S w w2 :=
  ⟨k.os.trans h.os, k.tape.trans h.tape, k.output.trans h.output, Nat.le_trans h.size k.size, fun b hb hn =>
    (k.block b (Nat.lt_of_lt_of_le hb h.size) (fun e => by rcases hs b e.symm with h' | h' <;> first | exact hn h' | omega)).trans (h.block b hb hn)⟩


/-! ### Slices of whole numbers that are read -/
def nth (xs : List Int) (j : Nat) : Int := xs.getD j 0
structure IntsR (w : World) (B : Nat) (a : Option Addr) (b o : Nat) (xs : List Int) : Prop where
  len : xs.length ≤ 65536
  some_ : 0 < xs.length → a = some ⟨b, o, none⟩
  lt : 0 < xs.length → b < B
  cells : ∀ j, j < xs.length → w.cell? ⟨b, o + j, none⟩ = some (.int .i64 (nth xs j))
def IntsV (w : World) (B : Nat) (v : Value) (xs : List Int) : Prop := ∃ a b o c, v = .slice a xs.length c ∧ IntsR w B a b o xs
theorem IntsV.below {w w' : World} {B : Nat} {v : Value} {xs : List Int} (h : IntsV w B v xs) (hb : Below B w w') : IntsV w' B v xs := by
  obtain ⟨a, b, o, c, h1, h2⟩ := h
  exact ⟨a, b, o, c, h1, h2.len, h2.some_, h2.lt, fun j hj => (hb.cell (p := ⟨b, _, none⟩) (h2.lt (by omega))).trans (h2.cells j hj)⟩
theorem IntsV.mono {w : World} {B B' : Nat} {v : Value} {xs : List Int} (h : IntsV w B v xs) (hb : B ≤ B') : IntsV w B' v xs := by
  obtain ⟨a, b, o, c, h1, h2⟩ := h
  exact ⟨a, b, o, c, h1, h2.len, h2.some_, fun h => Nat.lt_of_lt_of_le (h2.lt h) hb, h2.cells⟩
theorem IntsV.nil (w : World) (B : Nat) : IntsV w B (.slice none 0 0) [] := ⟨none, 0, 0, 0, rfl, by simp, by simp, by simp, by simp⟩
theorem nth_eq {xs : List Int} {j : Nat} (h : j < xs.length) : nth xs j = xs[j] := by simp [nth, List.getD_eq_getElem?_getD, h]

/-! ### Appending to what is one's own -/
structure Elt (P : Program) (t e : TypeId) (z : Value) (size bytes : Nat) : Prop where
  ht : P.underlying t = some (.slice e)
  info : (P.info? e).map (fun i => (i.zero, i.size, i.bytes)) = some (some z, size, bytes)
  hzs : z.cells.size = size
  pos : 0 < size
theorem wpApp {P : Program} {ops : Array Oper} {rest : List Oper} {o : Oper} {a : Act} {Q : Exit → Act → World → Prop} {w : World} {t e : TypeId} {z : Value} {size bytes : Nat} (he : Elt P t e z size bytes) (hgd : o.guard = none) (s x : Operand)
    (ho : o.op = .call { callee := .builtin .append, args := #[s, x], argTypes := #[t, t] }) (base : Nat) (v : Value) (n : Nat) (xs : List Value) (hs : a.eval s = v) (hown : w.ownsRow base e size v n xs)
    (b m c : Nat) (news : List Value) (hx : a.eval x = .slice (some ⟨b, 0, none⟩) m c) (hl : news.length = m * size) (hnews : ∀ j u, news[j]? = some u → w.cell? ⟨b, j, none⟩ = some u) (h1 : ∀ u ∈ news, u.oneCell' = true)
    (hn : n + m ≤ 1048576) (hby : bytes ≤ 4096) (hbase : base ≤ w.heap.size)
    (h : ∀ v' w', w'.ownsRow base e size v' (n + m) (xs ++ news) → w.grownBy w' v.ownBlock → wpList P ops Q rest (a.put o.dst v') w') : wpList P ops Q (o :: rest) a w := by
  obtain ⟨i, hi, hz, hsz, hbt⟩ := info_parts he.info
  refine wpList_append_own w hgd s x t ho base e i z size bytes he.ht hi hz hsz hbt he.hzs he.pos v n xs hs hown ⟨b, 0, none⟩ m c news hx hl (fun j u hj => ?_) h1 (by unfold maxLen; omega) ?_ hbase (fun v' w' h2 h3 _ => h v' w' h2 h3)
  · have : (⟨b, 0, none⟩ : Addr).add j = ⟨b, j, none⟩ := by unfold Addr.add; split <;> simp_all
    rw [this]
    exact hnews j u hj
  · calc (n + m) * bytes ≤ 1048576 * 4096 := Nat.mul_le_mul hn hby
      _ ≤ 140737488355328 := by decide
theorem grown_of_below {w w1 : World} (h : Below w.heap.size w w1) (row : Option Nat) : w.grownBy w1 row := ⟨h.os, h.tape, h.output, h.size, fun i hi _ => h.block i hi⟩
theorem own_below {w w1 : World} {base : Nat} {e : TypeId} {size n : Nat} {v : Value} {xs : List Value} (h : w.ownsRow base e size v n xs) (hb : Below w.heap.size w w1) : w1.ownsRow base e size v n xs :=
  h.kept (grown_of_below hb none) (by cases v.ownBlock <;> simp)
theorem own_ge {w : World} {base : Nat} {e : TypeId} {size n : Nat} {v : Value} {xs : List Value} (h : w.ownsRow base e size v n xs) : ∀ b, v.ownBlock = some b → base ≤ b := by
  intro b hb
  rcases h.2 with ⟨rfl, _⟩ | ⟨g, cap, cur, rfl, hg, _⟩
  · simp [Value.ownBlock] at hb
  · simp [Value.ownBlock] at hb
    omega
theorem below_then {B : Nat} {w w1 w2 : World} (h : Below B w w1) (k : Below w1.heap.size w1 w2) (hB : B ≤ w1.heap.size) : Below B w w2 := h.trans ⟨k.os, k.tape, k.output, k.size, fun q hq => k.block q (Nat.lt_of_lt_of_le hq hB)⟩
theorem below_grown {B : Nat} {w w1 w2 : World} (h : Below B w w1) {row : Option Nat} (k : w1.grownBy w2 row) (hB : B ≤ w1.heap.size) (hr : ∀ b, row = some b → B ≤ b) : Below B w w2 := h.grown k hB hr
theorem cell_alloc_new (w : World) (x : Value) (T : TypeId) : ∀ j u, [x][j]? = some u → (w.alloc (.cells #[x] T)).cell? ⟨w.heap.size, j, none⟩ = some u := by
  intro j u h
  have := Blk.cell (Blk.new w T #[x]) j
  rw [this]
  cases j with
  | zero => simpa using h
  | succ j => simp at h
theorem one_int (k : IntKind) (x : Int) : ∀ u ∈ [Value.int k x], u.oneCell' = true := by
  intro u hu
  rw [List.mem_singleton] at hu
  subst hu
  rfl
theorem eltInts : Elt Try.prog 28 3 (.int .i64 0) 1 8 := ⟨by kernel_rfl, by kernel_rfl, rfl, by decide⟩
/-- What is owned reads so. -/
theorem ints_of_own {w : World} {base n : Nat} {v : Value} {xs : List Int} (h : w.ownsRow base 3 1 v n (xs.map (Value.int .i64))) (hn : n ≤ 65536) : xs.length = n ∧ IntsV w w.heap.size v xs := by
  have hl : xs.length = n := by have := h.1; simpa using this
  refine ⟨hl, ?_⟩
  rcases h.2 with ⟨rfl, rfl⟩ | ⟨g, cap, cur, rfl, hb, hh, _⟩
  · obtain rfl := List.eq_nil_of_length_eq_zero hl
    exact IntsV.nil _ _
  · refine ⟨some ⟨g, 0, none⟩, g, 0, cap, by rw [hl], by omega, fun _ => rfl, fun _ => (Array.getElem?_eq_some_iff.1 hh).1, fun j hj => ?_⟩
    have := h.cells (g := g) rfl j (.int .i64 (nth xs j)) (by rw [List.getElem?_map, List.getElem?_eq_getElem hj, nth_eq hj]; rfl)
    rw [Nat.zero_add]
    rw [show (⟨g, 0, none⟩ : Addr).add j = ⟨g, j, none⟩ by unfold Addr.add; split <;> simp_all] at this
    exact this
end Go.Proofs.Ytagcdnhkgndhcaa
