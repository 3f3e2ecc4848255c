/- Trees of one's own that grow. -/
import Derived.Test.YtagcdnhkgndhcaaTreeF
import Derived.Test.YtagcdnhkgndhcaaChain
import Derived.Test.YtagcdnhkgndhcaaDiffs
import Derived.Test.YtagcdnhkgndhcaaBfs
set_option linter.unusedVariables false
set_option linter.unusedSimpArgs false
namespace Go.Proofs.Ytagcdnhkgndhcaa
open Go.RowKit Go.Hoist

/-- append of a row that is owned (nil, too). -/
theorem wpAppRow {P : Program} {ops : Array Oper} {rest : List Oper} {o : Oper} {a : Act} {Q : Exit → Act → World → Prop} {w : World} {t e : TypeId} {z : Value} {size bytes : Nat} (he : Elt P t e z size bytes) (hgd : o.guard = none) (s x : Operand)
    (ho : o.op = .call { callee := .builtin .append, args := #[s, x], argTypes := #[t, t] }) (base : Nat) (v : Value) (n : Nat) (xs : List Value) (hs : a.eval s = v) (hown : w.ownsRow base e size v n xs)
    (lo : Nat) (vx : Value) (m : Nat) (news : List Value) (hx : a.eval x = vx) (hownx : w.ownsRow lo e size vx m news) (h1 : ∀ u ∈ news, u.oneCell' = true)
    (hn : n + m ≤ 1048576) (hby : bytes ≤ 4096) (hbase : base ≤ w.heap.size)
    (h : ∀ v' w', w'.ownsRow base e size v' (n + m) (xs ++ news) → w.grownBy w' v.ownBlock → wpList P ops Q rest (a.put o.dst v') w') : wpList P ops Q (o :: rest) a w := by
  rcases hownx.2 with ⟨h2, h3⟩ | ⟨g, cap, cur, h2, h3, h4, h5⟩
  · subst h3
    have hnil : news = [] := List.eq_nil_of_length_eq_zero (by simpa using hownx.1)
    subst hnil
    refine wpAppNil he hgd s x ho base v n xs hs hown (hx.trans h2) ?_
    exact h v w (by simpa using hown) ⟨rfl, rfl, rfl, Nat.le_refl _, fun _ _ _ => rfl⟩
  · exact wpAppAt he hgd s x ho base v n xs hs hown ⟨g, 0, none⟩ m cap news (hx.trans h2) hownx.1 (hownx.cells (by rw [h2]; rfl)) h1 hn hby hbase (fun v' w' k1 k2 _ _ => h v' w' k1 k2)

theorem get_getD {α : Type} [Inhabited α] (l : List α) (j : Nat) (h : j < l.length) : l[j] = l.getD j default := by rw [List.getD_eq_getElem?_getD, List.getElem?_eq_getElem h]; rfl
def kv (l : List (TN × Value)) (i : Nat) : Value := (l.getD i default).2
def nd (l : List (TN × Value)) (i : Nat) : TN := (l.getD i default).1
theorem nd_map (l : List (TN × Value)) (i : Nat) (hi : i < l.length) : (l.map (·.1)).getD i default = nd l i := by simp [nd, List.getD_eq_getElem?_getD, hi]
structure TreeX (w : World) (lo : Nat) (v : Value) (l : List (TN × Value)) : Prop where
  own : TreeOwn w lo v l
  sep : ∀ i j, i < l.length → j < l.length → i ≠ j → Sep (kv l i) (kv l j)
theorem TreeX.below {w w' : World} {lo : Nat} {v : Value} {l : List (TN × Value)} (h : TreeX w lo v l) (hb : Below w.heap.size w w') : TreeX w' lo v l := ⟨h.own.below hb, h.sep⟩
theorem TreeX.kid {w : World} {lo : Nat} {v : Value} {l : List (TN × Value)} (h : TreeX w lo v l) {i : Nat} (hi : i < l.length) : w.ownsRow lo 3 1 (kv l i) (nd l i).kids.length ((nd l i).kids.map (Value.int .i64)) := by
  have hm : l.getD i default ∈ l := by rw [List.getD_eq_getElem?_getD, List.getElem?_eq_getElem hi]; exact List.getElem_mem hi
  exact h.own.kids _ hm
theorem TreeX.cells {w : World} {lo g cap : Nat} {l : List (TN × Value)} (h : TreeX w lo (.slice (some ⟨g, 0, none⟩) l.length cap) l) {i : Nat} (hi : i < l.length) :
    w.cell? ⟨g, i * 4, none⟩ = some (.int .i64 (nd l i).kind) ∧ w.cell? ⟨g, i * 4 + 1, none⟩ = some (.int .i32 (nd l i).val) ∧ w.cell? ⟨g, i * 4 + 2, none⟩ = some (.int .i64 (nd l i).label) ∧ w.cell? ⟨g, i * 4 + 3, none⟩ = some (kv l i) ∧ w.frozen? ⟨g, i * 4 + 3, none⟩ = false := by
  have key : ∀ j, j < 4 → ∀ u, (nodeC (l.getD i default))[j]? = some u → w.cell? ⟨g, i * 4 + j, none⟩ = some u ∧ w.frozen? ⟨g, i * 4 + j, none⟩ = false := fun j hj u hu => by
    have h1 := treeC_get l i j hi hj
    have h2 : l.getD i default = l[i] := by simp [List.getD_eq_getElem?_getD, hi]
    rw [h2] at hu
    rw [hu] at h1
    exact own_read h.own.row h1
  exact ⟨(key 0 (by omega) _ rfl).1, (key 1 (by omega) _ rfl).1, (key 2 (by omega) _ rfl).1, (key 3 (by omega) _ rfl).1, (key 3 (by omega) _ rfl).2⟩
theorem treeC_set (l : List (TN × Value)) (i : Nat) (hi : i < l.length) (ks : List Int) (k : Value) : treeC (l.set i ({ nd l i with kids := ks }, k)) = (treeC l).set (i * 4 + 3) k := by
  induction l generalizing i with
  | nil => simp at hi
  | cons p l ih =>
    have hc : ∀ (p : TN × Value) l, treeC (p :: l) = nodeC p ++ treeC l := fun p l => by simp [treeC]
    cases i with
    | zero => simp [hc, nd, nodeC]
    | succ i =>
      have hi' : i < l.length := by simpa using hi
      have e := ih i hi'
      rw [List.set_cons_succ, hc, hc, show nd (p :: l) (i + 1) = nd l i by simp [nd], e]
      rw [List.set_append_right _ _ (by simp [nodeC]; omega)]
      congr 2
      simp [nodeC]
      omega
/-- A kid's row grows, its head is stored. -/
theorem TreeX.setKid {w w1 : World} {lo g cap : Nat} {l : List (TN × Value)} (h : TreeX w lo (.slice (some ⟨g, 0, none⟩) l.length cap) l) {i : Nat} (hi : i < l.length) {k' : Value} {ks : List Int} (hs : ks.length ≤ 65536)
    (hg : w.grownBy w1 (kv l i).ownBlock) (hk : w1.ownsRow lo 3 1 k' ks.length (ks.map (Value.int .i64))) (hat : k'.ownBlock = (kv l i).ownBlock ∨ ∃ b, k'.ownBlock = some b ∧ w.heap.size ≤ b) :
    TreeX (w1.setCell ⟨g, i * 4 + 3, none⟩ k') lo (.slice (some ⟨g, 0, none⟩) l.length cap) (l.set i ({ nd l i with kids := ks }, k')) := by
  have hrow : w1.ownsRow lo 30 4 (.slice (some ⟨g, 0, none⟩) l.length cap) l.length (treeC l) := own_grown h.own.row (h.kid hi) hg (by decide)
  have hgb : ∃ cs, Blk w1 g 30 cs := by
    rcases hrow.2 with ⟨h2, _⟩ | ⟨g', cap', cur, h2, _, h4, _⟩
    · cases h2
    · cases h2; exact ⟨cur, h4⟩
  obtain ⟨gcs, hgb⟩ := hgb
  have notg : ∀ (u : Value) (n : Nat) (xs : List Value), w1.ownsRow lo 3 1 u n xs → u.ownBlock ≠ some g := fun u n xs hu he => by
    obtain ⟨cs, hb, _⟩ := own_blk hu g he
    have := (hgb.eq hb).2
    revert this
    decide
  have hlen : (l.set i ({ nd l i with kids := ks }, k')).length = l.length := by simp
  have hget : ∀ j, j < l.length → (l.set i ({ nd l i with kids := ks }, k')).getD j default = if j = i then ({ nd l i with kids := ks }, k') else l.getD j default := fun j hj => by
    rw [List.getD_eq_getElem?_getD, List.getElem?_set]
    by_cases e : i = j
    · subst e; simp [hi]
    · rw [if_neg e, if_neg (fun h => e h.symm), List.getD_eq_getElem?_getD]
  refine ⟨⟨?_, fun p hp => ?_, fun p hp => ?_, by rw [hlen]; exact h.own.len⟩, fun a b ha hb hab => ?_⟩
  · rw [hlen, treeC_set l i hi ks k']
    exact own_set hrow _ _
  · obtain ⟨j, hj, rfl⟩ := List.getElem_of_mem hp
    have hj' : j < l.length := by rw [← hlen]; exact hj
    have e := hget j hj'
    rw [get_getD _ _ hj, e]
    by_cases e3 : j = i
    · rw [if_pos e3]
      exact own_setOther hk _ _ _ (notg _ _ _ hk)
    · rw [if_neg e3]
      have h1 := h.kid hj'
      have h2 : w1.ownsRow lo 3 1 (kv l j) (nd l j).kids.length ((nd l j).kids.map (Value.int .i64)) := h1.kept hg (by
        cases e4 : (kv l j).ownBlock with
        | none => exact .inl rfl
        | some b => exact .inr (fun e5 => h.sep j i hj' hi e3 b e4 e5.symm))
      exact own_setOther h2 _ _ _ (notg _ _ _ h2)
  · obtain ⟨j, hj, rfl⟩ := List.getElem_of_mem hp
    have hj' : j < l.length := by rw [← hlen]; exact hj
    have e := hget j hj'
    rw [get_getD _ _ hj, e]
    by_cases e3 : j = i
    · rw [if_pos e3]; exact hs
    · rw [if_neg e3]
      exact h.own.small _ (by rw [List.getD_eq_getElem?_getD, List.getElem?_eq_getElem hj']; exact List.getElem_mem hj')
  · rw [hlen] at ha hb
    have hold : ∀ j, j < l.length → j ≠ i → ∀ b, (kv l j).ownBlock = some b → k'.ownBlock ≠ some b := fun j hj hne b hb1 hb2 => by
      rcases hat with hat | ⟨b', hat, hge⟩
      · exact h.sep j i hj hi hne b hb1 (hat ▸ hb2)
      · have := (h.kid hj).lt b hb1
        rw [hat] at hb2
        cases hb2
        omega
    unfold kv
    rw [hget a ha, hget b hb]
    by_cases ea : a = i
    · rw [if_pos ea, if_neg (by omega)]
      exact fun c h1 h2 => hold b hb (by omega) c h2 h1
    · rw [if_neg ea]
      by_cases eb : b = i
      · rw [if_pos eb]
        exact fun c h1 h2 => hold a ha ea c h1 h2
      · rw [if_neg eb]
        exact h.sep a b ha hb hab
/-- A node more, without kids. -/
theorem TreeX.push {w w' : World} {lo : Nat} {v v' : Value} {l : List (TN × Value)} (h : TreeX w lo v l) (p : TN) (hp : p.kids = []) (hl : l.length < 65536) (h3 : w'.ownsRow lo 30 4 v' (l.length + 1) (treeC l ++ nodeC (p, .slice none 0 0))) (hg : w.grownBy w' v.ownBlock) :
    TreeX w' lo v' (l ++ [(p, .slice none 0 0)]) := by
  have hget : ∀ j, j < l.length + 1 → (l ++ [(p, Value.slice none 0 0)]).getD j default = if j < l.length then l.getD j default else (p, .slice none 0 0) := fun j hj => by
    rw [List.getD_eq_getElem?_getD]
    by_cases e : j < l.length
    · rw [if_pos e, List.getElem?_append_left e, List.getD_eq_getElem?_getD]
    · rw [if_neg e, List.getElem?_append_right (by omega), show j - l.length = 0 by omega]
      rfl
  refine ⟨⟨by rw [treeC_append]; simpa [treeC] using h3, fun q hq => ?_, fun q hq => ?_, by simp; omega⟩, fun a b ha hb hab => ?_⟩
  · rcases List.mem_append.1 hq with hq | hq
    · exact own_grown (h.own.kids q hq) h.own.row hg (by decide)
    · rw [List.mem_singleton] at hq
      subst hq
      rw [hp]
      exact kids_nil _ _
  · rcases List.mem_append.1 hq with hq | hq
    · exact h.own.small q hq
    · rw [List.mem_singleton] at hq
      subst hq
      rw [hp]
      simp
  · have ha' : a < l.length + 1 := by simpa using ha
    have hb' : b < l.length + 1 := by simpa using hb
    unfold kv
    rw [hget a ha', hget b hb']
    by_cases ea : a < l.length
    · rw [if_pos ea]
      by_cases eb : b < l.length
      · rw [if_pos eb]; exact h.sep a b ea eb hab
      · rw [if_neg eb]; intro c _ h2; cases h2
    · rw [if_neg ea]; intro c h1 _; cases h1
theorem map_addKid (l : List (TN × Value)) (i : Nat) (hi : i < l.length) (k' : Value) (x : TN) (u : Value) :
    ((l.set i ({ nd l i with kids := (nd l i).kids ++ [(l.length : Int)] }, k')) ++ [(x, u)]).map (·.1) = addKid (l.map (·.1)) i x := by
  unfold addKid
  rw [List.map_append, List.map_set, nd_map l i hi]
  simp

/-- What a tree of numbers is. -/
structure TInv (t : List TN) (L : Int) : Prop where
  shape : Shape t
  pos : 1 ≤ t.length
  le : t.length ≤ 14
  root : (t.getD 0 default).kind = 2 ∧ (t.getD 0 default).label = 0
  may : ∀ i, i < t.length → 0 ≤ (t.getD i default).label ∧ (t.getD i default).label < L ∧ (((t.getD i default).kind = 1 ∧ (t.getD i default).kids.length = 0) ∨ (((t.getD i default).kind = 2 ∨ (t.getD i default).kind = 3) ∧ (t.getD i default).kids.length ≤ 8))
theorem TInv.nodes {t : List TN} {L : Int} (h : TInv t L) : ∀ i, i < t.length → NodeMay (t.getD i default) L := fun i hi => by
  obtain ⟨a, b, c⟩ := h.may i hi
  exact ⟨a, b, c.imp id (fun c => .inl c)⟩
theorem TInv.up {t : List TN} {L : Int} (h : TInv t L) : Up t := ⟨h.shape.up, fun i hi h4 => by
  obtain ⟨_, _, c⟩ := h.may i hi
  rcases c with ⟨c, _⟩ | ⟨c, _⟩ <;> omega⟩
theorem TInv.right {t : List TN} {L : Int} (h : TInv t L) (hL : L ≤ 16) : rightM t 16 = true := h.shape.right h.pos (by have := h.le; omega) (fun i hi => by
  obtain ⟨a, b, c⟩ := h.nodes i hi
  exact ⟨a, by omega, c⟩)
theorem TInv.one {L : Int} (hL : 0 < L) : TInv [⟨2, 0, 0, []⟩] L := ⟨Shape.one _ rfl, by simp, by simp, ⟨rfl, rfl⟩, fun i hi => by
  obtain rfl : i = 0 := by simpa using hi
  exact ⟨by simp, by simpa using hL, .inr ⟨.inl rfl, by simp⟩⟩⟩
theorem TInv.add {t : List TN} {L : Int} (h : TInv t L) {p : Nat} {x : TN} (hp : p < t.length) (h14 : t.length < 14) (hk : (t.getD p default).kind = 2 ∨ (t.getD p default).kind = 3) (h8 : (t.getD p default).kids.length < 8) (hx : x.kids = []) (hxl : 0 ≤ x.label ∧ x.label < L) (hxk : x.kind = 1 ∨ x.kind = 2 ∨ x.kind = 3) : TInv (addKid t p x) L := by
  refine ⟨h.shape.add hp hx, by rw [addKid_length]; omega, by rw [addKid_length]; omega, ?_, fun i hi => ?_⟩
  · rw [addKid_get t x hp 0, if_neg (by omega)]
    split
    · rename_i e; subst e; exact h.root
    · exact h.root
  · rw [addKid_length] at hi
    rw [addKid_get t x hp i]
    by_cases e : i = t.length
    · rw [if_pos e]
      refine ⟨hxl.1, hxl.2, ?_⟩
      rcases hxk with e | e | e
      · exact .inl ⟨e, by rw [hx]; rfl⟩
      · exact .inr ⟨.inl e, by rw [hx]; simp⟩
      · exact .inr ⟨.inr e, by rw [hx]; simp⟩
    · rw [if_neg e]
      by_cases e2 : i = p
      · rw [if_pos e2]
        obtain ⟨a, b, c⟩ := h.may p hp
        exact ⟨a, b, .inr ⟨hk, by simp only [List.length_append, List.length_cons, List.length_nil]; omega⟩⟩
      · rw [if_neg e2]
        exact h.may i (by omega)

/-! ### Bytes that are read -/
structure BytesR (w : World) (B : Nat) (a : Option Addr) (b o : Nat) (ys : List Int) : Prop where
  len : ys.length ≤ 9223372036854775807
  some_ : 0 < ys.length → a = some ⟨b, o, none⟩
  lt : 0 < ys.length → b < B
  cells : ∀ j, j < ys.length → w.cell? ⟨b, o + j, none⟩ = some (.int .u8 (nth ys j))
  byte : ∀ j, 0 ≤ nth ys j ∧ nth ys j ≤ 255
def BytesV (w : World) (B : Nat) (v : Value) (ys : List Int) : Prop := ∃ a b o c, v = .slice a ys.length c ∧ BytesR w B a b o ys
theorem BytesR.below {w w' : World} {B : Nat} {a : Option Addr} {b o : Nat} {ys : List Int} (h : BytesR w B a b o ys) (hb : Below B w w') : BytesR w' B a b o ys :=
  ⟨h.len, h.some_, h.lt, fun j hj => (hb.cell (p := ⟨b, _, none⟩) (h.lt (by omega))).trans (h.cells j hj), h.byte⟩
end Go.Proofs.Ytagcdnhkgndhcaa
