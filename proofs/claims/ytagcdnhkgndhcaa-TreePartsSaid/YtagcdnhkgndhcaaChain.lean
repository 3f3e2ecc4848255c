/- Walks: package lattice: Chain. -/
import Derived.Test.YtagcdnhkgndhcaaClone
import Derived.Test.YtagcdnhkgndhcaaOrdM
set_option linter.unusedVariables false
set_option linter.unusedSimpArgs false
namespace Go.Proofs.Ytagcdnhkgndhcaa
open Go.RowKit Go.Hoist

set_option maxHeartbeats 400000 in
theorem c_chain1 (a b : Int) (w : World) : Calls Try.prog 89 #[.int .i64 a, .int .i64 b] w fun e w' => e = .returned (.bool (decide (a ≤ b))) ∧ w = w' := by
  go_enter Try.func89, Try.ntmps89
  go_wp2_with fail
  go_ret
  exact ⟨rfl, rfl⟩

def bools (n : Nat) (g : Nat → Bool) : List Value := (List.range n).map fun j => .bool (g j)
theorem bools_length (n : Nat) (g : Nat → Bool) : (bools n g).length = n := by simp [bools]
theorem bools_succ (n : Nat) (g : Nat → Bool) : bools (n + 1) g = bools n g ++ [.bool (g n)] := by simp [bools, List.range_succ]
theorem bools_one (n : Nat) (g : Nat → Bool) : ∀ u ∈ bools n g, u.oneCell' = true := by
  intro u hu
  simp only [bools, List.mem_map] at hu
  obtain ⟨j, _, rfl⟩ := hu
  rfl
theorem bools_get {n : Nat} {g : Nat → Bool} {j : Nat} (h : j < n) : (bools n g)[j]? = some (.bool (g j)) := by simp [bools, List.getElem?_map, List.getElem?_range h]
/-- A table of one's own that is being made: a rows of n truths. -/
def TabOwn (w : World) (lo : Nat) (v : Value) (a n : Nat) (f : Nat → Nat → Bool) : Prop :=
  ∃ xs, w.ownsRow lo 165 1 v a xs ∧ ∀ i, i < a → ∃ u, xs[i]? = some u ∧ w.ownsRow lo 4 1 u n (bools n (f i))
theorem own_keep {w w' : World} {lo : Nat} {e : TypeId} {size : Nat} {v : Value} {n : Nat} {xs : List Value} (h : w.ownsRow lo e size v n xs) (hk : ∀ b cs, Blk w b e cs → w'.heap[b]? = w.heap[b]?) : w'.ownsRow lo e size v n xs := by
  refine ⟨h.1, ?_⟩
  rcases h.2 with h2 | ⟨g, cap, cur, h2, h3, h4, h5⟩
  · exact .inl h2
  · exact .inr ⟨g, cap, cur, h2, h3, by rw [hk g cur h4]; exact h4, h5⟩
theorem TabOwn.below {w w' : World} {lo : Nat} {v : Value} {a n : Nat} {f : Nat → Nat → Bool} (h : TabOwn w lo v a n f) (hb : Below w.heap.size w w') : TabOwn w' lo v a n f := by
  obtain ⟨xs, h1, h2⟩ := h
  refine ⟨xs, own_below h1 hb, fun i hi => ?_⟩
  obtain ⟨u, h3, h4⟩ := h2 i hi
  exact ⟨u, h3, own_below h4 hb⟩
/-- A row more. -/
theorem TabOwn.snoc {w w' : World} {lo : Nat} {v v' u : Value} {a n : Nat} {f : Nat → Nat → Bool} {xs : List Value} (h2 : ∀ i, i < a → ∃ u, xs[i]? = some u ∧ w.ownsRow lo 4 1 u n (bools n (f i))) (hv : w.ownsRow lo 165 1 v a xs) (hu : w.ownsRow lo 4 1 u n (bools n (f a))) (h3 : w'.ownsRow lo 165 1 v' (a + 1) (xs ++ [u])) (hg : w.grownBy w' v.ownBlock) :
    TabOwn w' lo v' (a + 1) n f := by
  have hl : xs.length = a := by have := hv.1; omega
  have hk : ∀ b cs, Blk w b 4 cs → w'.heap[b]? = w.heap[b]? := fun b cs hb => hg.block b hb.lt (fun e => by
    rcases hv.2 with ⟨h5, _⟩ | ⟨g, cap, cur, h5, h6, h7, h8⟩
    · rw [h5] at e; cases e
    · rw [h5] at e
      simp only [Value.ownBlock, Option.some.injEq] at e
      subst e
      have := (Blk.eq hb (show Blk w b 165 cur from h7)).2
      revert this
      decide)
  refine ⟨_, h3, fun i hi => ?_⟩
  by_cases hlt : i < a
  · obtain ⟨u, h4, h5⟩ := h2 i hlt
    exact ⟨u, by rw [List.getElem?_append_left (by omega)]; exact h4, own_keep h5 hk⟩
  · obtain rfl : i = a := by omega
    exact ⟨u, by rw [List.getElem?_append_right (by omega), hl, Nat.sub_self]; rfl, own_keep hu hk⟩
def tabM (n : Nat) (f : Nat → Nat → Bool) : List (List Bool) := (List.range n).map fun a => (List.range n).map (f a)
theorem tabM_length (n : Nat) (f : Nat → Nat → Bool) : (tabM n f).length = n := by simp [tabM]
theorem tabM_bit {n : Nat} {f : Nat → Nat → Bool} {a b : Nat} (ha : a < n) (hb : b < n) : bit (tabM n f) a b = f a b := by
  simp [bit, tabM, List.getD_eq_getElem?_getD, List.getElem?_map, List.getElem?_range ha, List.getElem?_range hb]
theorem tabM_rlen {n : Nat} {f : Nat → Nat → Bool} {a : Nat} (ha : a < n) : rlen (tabM n f) a = n := by
  simp [rlen, tabM, List.getD_eq_getElem?_getD, List.getElem?_map, List.getElem?_range ha]
/-- All of it: it reads as a table. -/
theorem TabOwn.tab {w : World} {lo : Nat} {v : Value} {n : Nat} {f : Nat → Nat → Bool} (h : TabOwn w lo v n n f) (hn : 0 < n) (hm : n ≤ 65536) : TabAt w w.heap.size v (tabM n f) := by
  obtain ⟨xs, h1, h2⟩ := h
  obtain ⟨g, cap, rfl, hlo, hlt, hrd⟩ := own_pos h1 hn
  have hx : ∀ i, ∃ b c, i < n → xs[i]? = some (.slice (some ⟨b, 0, none⟩) n c) ∧ b < w.heap.size ∧ RdAt w ⟨b, 0, none⟩ (bools n (f i)) := fun i => by
    by_cases hi : i < n
    · obtain ⟨u, h3, h4⟩ := h2 i hi
      obtain ⟨b, c, rfl, _, h5, h6⟩ := own_pos h4 hn
      exact ⟨b, c, fun _ => ⟨h3, h5, h6⟩⟩
    · exact ⟨0, 0, fun h => absurd h hi⟩
  let rb : Nat → Nat := fun i => Classical.choose (hx i)
  let rc : Nat → Nat := fun i => Classical.choose (Classical.choose_spec (hx i))
  have hrb : ∀ i, i < n → xs[i]? = some (.slice (some ⟨rb i, 0, none⟩) n (rc i)) ∧ rb i < w.heap.size ∧ RdAt w ⟨rb i, 0, none⟩ (bools n (f i)) := fun i => Classical.choose_spec (Classical.choose_spec (hx i))
  refine ⟨some ⟨g, 0, none⟩, g, 0, cap, fun i => some ⟨rb i, 0, none⟩, rb, fun _ => 0, rc, by rw [tabM_length], fun _ => rfl, ⟨fun _ => hlt, by rw [tabM_length]; exact hm, fun a ha => ?_, fun _ _ _ => rfl, fun a ha _ => ?_, fun a ha => ?_, fun a b ha hb => ?_⟩⟩
  · rw [tabM_length] at ha
    rw [tabM_rlen ha, Nat.zero_add]
    have := hrd a _ (hrb a ha).1
    rwa [add_mk, Nat.zero_add] at this
  · rw [tabM_length] at ha
    exact (hrb a ha).2.1
  · rw [tabM_length] at ha
    rw [tabM_rlen ha]
    exact hm
  · rw [tabM_length] at ha
    rw [tabM_rlen ha] at hb
    rw [tabM_bit ha hb, Nat.zero_add]
    have := (hrb a ha).2.2 b _ (bools_get hb)
    rwa [add_mk, Nat.zero_add] at this

theorem eltRows : Elt Try.prog 99 165 (.slice none 0 0) 1 24 := ⟨by kernel_rfl, by kernel_rfl, rfl, by decide⟩
theorem one_bool (x : Bool) : ∀ u ∈ [Value.bool x], u.oneCell' = true := by intro u hu; rw [List.mem_singleton] at hu; subst hu; rfl
theorem one_slice (a : Option Addr) (n c : Nat) : ∀ u ∈ [Value.slice a n c], u.oneCell' = true := by intro u hu; rw [List.mem_singleton] at hu; subst hu; rfl
theorem rd_new (w : World) (x : Value) (T : TypeId) : RdAt (w.alloc (.cells #[x] T)) ⟨w.heap.size, 0, none⟩ [x] := RdAt.blk (Blk.new w T #[x])

def leB (a b : Nat) : Bool := decide (a ≤ b)
set_option maxHeartbeats 1600000 in
set_option maxRecDepth 100000 in
theorem c_tableChain (n : Nat) (w : World) (hn0 : 0 < n) (hn : n ≤ 16) :
    Calls Try.prog 88 #[.int .i64 n, .func (.func 89) #[] #[]] w fun e w' => ∃ v, e = .returned v ∧ TabOwn w' w.heap.size v n n leB ∧ Below w.heap.size w w' := by
  go_enter Try.func88, Try.ntmps88
  go_wp2_with fail
  go_loopw [10, 5] (fun v u wr => ∃ a : Nat, a ≤ n ∧ v = .int .i64 a ∧ Hid (TabOwn wr w.heap.size u a n leB) ∧ Hid (Below w.heap.size w wr)) (fun v _ _ => n - (intOf v).toNat)
  case atStart => exact ⟨0, by omega, rfl, Lib.hid ⟨[], ⟨rfl, .inl ⟨rfl, rfl⟩⟩, fun i hi => by omega⟩, Lib.hid (Below.refl _ _)⟩
  case round =>
    obtain ⟨wo, rfl⟩ : ∃ wo : World, wo = wr := ⟨_, rfl⟩
    obtain ⟨a, ha, rfl, hout, hb⟩ := hrel
    obtain ⟨xs, hx1, hx2⟩ := hout.out
    have HX1 := Lib.hid hx1; clear hx1
    have HX2 := Lib.hid hx2; clear hx2
    by_cases hlt : a < n
    · go_wp2_with fail
      go_loopw [14, 7] (fun v u wr => ∃ b : Nat, b ≤ n ∧ v = .int .i64 b ∧ Hid (wr.ownsRow wo.heap.size 4 1 u b (bools b (leB a))) ∧ Hid (Below wo.heap.size wo wr)) (fun v _ _ => n - (intOf v).toNat)
      case atStart => exact ⟨0, by omega, rfl, Lib.hid ⟨rfl, .inl ⟨rfl, rfl⟩⟩, Lib.hid (Below.refl _ _)⟩
      case round =>
        obtain ⟨b, hb1, rfl, hrow, hbel⟩ := hrel
        by_cases hlt2 : b < n
        · go_wp2_with (first | (go_at_call 89; refine (c_chain1 _ _ _).mono ?_; rintro e w1 ⟨rfl, rfl⟩) | (at_builtin; refine wpAppAt eltBools rfl _ _ rfl wo.heap.size _ _ _ rfl (hrow.out.alloc _) ⟨wr.heap.size, 0, none⟩ 1 1 [.bool (leB a b)] rfl rfl (rd_new _ _ _) (one_bool _) (by omega) (by decide) (by have := hbel.out.size; simp; omega) ?_; intro u' w2 hown2 hgr2 _ _; have HO2 := Lib.hid hown2; have HG2 := Lib.hid hgr2; clear hown2 hgr2))
          go_roundw
          case rel => exact ⟨b + 1, by omega, by go_num, by rw [bools_succ]; exact HO2, Lib.hid (below_grown (hbel.out.alloc hbel.out.size _) HG2.out (by have := hbel.out.size; simp; omega) (own_ge hrow.out))⟩
          case measure => simp [intOf]; omega
        · obtain rfl : b = n := by omega
          obtain ⟨g, cap, rfl, hlo, hlt3, hrd⟩ := own_pos hrow.out hn0
          have HC := Lib.hid (c_cloneBools ⟨g, 0, none⟩ b cap _ wr hrd (by rw [bools_length, Nat.mul_one]) (bools_one _ _) (by omega) hlt3)
          clear hrd
          have hsz := hbel.out.size
          have hsz0 := hb.out.size
          go_wp2_with (first | (go_at_call 130; refine (HC.out).mono ?_; rintro e w1 ⟨v1, rfl, hv1, hv2, hv3⟩; obtain ⟨g1, cap1, rfl, hlo1, hlt1, hrd1⟩ := own_pos hv1 hn0; have HV1 := Lib.hid hv1; have HB3 := Lib.hid (below_then (below_then hb.out hbel.out hsz0) hv3 (Nat.le_trans hsz0 hsz)); have hsz1 := hv3.size; have HX1' := Lib.hid (own_below (own_below HX1.out hbel.out) hv3); have HX2' := Lib.hid (fun i hi => (HX2.out i hi).imp fun u h => And.intro h.1 (own_below (own_below h.2 hbel.out) hv3)); clear hv1 hv2 hv3 hrd1) | (at_builtin; refine wpAppAt eltRows rfl _ _ rfl w.heap.size _ _ _ rfl (HX1'.out.alloc _) ⟨w1.heap.size, 0, none⟩ 1 1 [.slice (some ⟨g1, 0, none⟩) b cap1] rfl rfl (rd_new _ _ _) (one_slice _ _ _) (by omega) (by decide) (by simp; omega) ?_; intro u' w2 hown2 hgr2 _ _; have HO2 := Lib.hid hown2; have HG2 := Lib.hid hgr2; clear hown2 hgr2))
          go_roundw
          case rel =>
            refine ⟨a + 1, by omega, by go_num, Lib.hid (TabOwn.snoc (fun i hi => (HX2'.out i hi).imp fun u h => And.intro h.1 (h.2.alloc _)) (HX1'.out.alloc _) (own_mono (HV1.out.alloc _) (by omega)) HO2.out HG2.out), Lib.hid (below_grown (HB3.out.alloc (by omega) _) HG2.out (by simp; omega) (own_ge HX1'.out))⟩
          case measure => simp [intOf]; omega
    · obtain rfl : a = n := by omega
      go_wp2_with fail
      go_ret
      exact ⟨_, rfl, hout.out, hb.out⟩
set_option maxHeartbeats 400000 in
theorem c_Chain (n : Nat) (w : World) (hn0 : 0 < n) (hn : n ≤ 16) :
    Calls Try.prog 41 #[.int .i64 n] w fun e w' => ∃ v, e = .returned v ∧ TabAt w' w'.heap.size v (tabM n leB) ∧ Below w.heap.size w w' := by
  go_enter Try.func41, Try.ntmps41
  go_wp2_with (go_at_call 88; refine (c_tableChain n _ hn0 hn).mono ?_; rintro e w1 ⟨v, rfl, hv, hb⟩; have HV := Lib.hid hv; have HB := Lib.hid hb; clear hv hb)
  go_ret
  exact ⟨_, rfl, HV.out.tab hn0 (by omega), HB.out⟩
end Go.Proofs.Ytagcdnhkgndhcaa
