/- Walks: package order, joins and meets. -/
import Derived.Test.YtagcdnhkgndhcaaOrdD
set_option linter.unusedVariables false
set_option linter.unusedSimpArgs false
namespace Go.Proofs.Ytagcdnhkgndhcaa
open Go.RowKit Go.Hoist

theorem nth_cons0 (x : Int) (l : List Int) : nth (x :: l) 0 = x := rfl
theorem thoseM_in {n : Nat} {p : Nat → Bool} : inM n (thoseM n p) := by
  intro j hj
  have key : ∀ x ∈ thoseM n p, 0 ≤ x ∧ x < n := fun x hx => by
    unfold thoseM at hx
    obtain ⟨c, hc, rfl⟩ := List.mem_map.1 hx
    have hc' := List.mem_range.1 (List.mem_filter.1 hc).1
    omega
  rw [nth_eq hj]
  exact key _ (List.getElem_mem hj)
theorem hasM_pair {q : List (List Bool)} (hs : squareM q = true) {a b : Nat} (ha : a < q.length) (hb : b < q.length) : hasM q [(a : Int), (b : Int)] = true := by
  refine hasM_iff.2 ⟨hs, fun j hj => ?_⟩
  match j, hj with
  | 0, _ => exact ⟨by simp [nth], by simp [nth]; omega⟩
  | 1, _ => exact ⟨by simp [nth], by simp [nth]; omega⟩
theorem hasM_those {q : List (List Bool)} (hs : squareM q = true) {p : Nat → Bool} : hasM q (thoseM q.length p) = true := hasM_iff.2 ⟨hs, thoseM_in⟩
def upperM (q : List (List Bool)) (a b : Nat) : List Int := thoseM q.length (fun c => bit q a c && bit q b c)
def lowerM (q : List (List Bool)) (a b : Nat) : List Int := thoseM q.length (fun c => bit q c a && bit q c b)
theorem ints_pair {w : World} {b : Nat} (x y : Int) (h : Blk w b 3 #[.int .i64 x, .int .i64 y]) : IntsV w w.heap.size (.slice (some ⟨b, 0, none⟩) 2 2) [x, y] :=
  ⟨some ⟨b, 0, none⟩, b, 0, 2, rfl, by simp, fun _ => rfl, fun _ => h.lt, fun j hj => by
    rw [h.cell]
    match j, hj with
    | 0, _ => rfl
    | 1, _ => rfl⟩

set_option maxHeartbeats 800000 in
set_option maxRecDepth 100000 in
theorem c_upper (q : List (List Bool)) (a b : Nat) (v : Value) (w : World) (hq : TabAt w w.heap.size v q) (hs : squareM q = true) (ha : a < q.length) (hb : b < q.length) :
    Calls Try.prog 83 #[v, .int .i64 a, .int .i64 b] w fun e w' => ∃ u, e = .returned u ∧ IntsV w' w'.heap.size u (upperM q a b) ∧ Below w.heap.size w w' := by
  obtain ⟨n, hn⟩ : ∃ n, w.heap.size = n := ⟨_, rfl⟩
  obtain ⟨w3, hw3⟩ : ∃ w3, ((w.alloc (.cells #[v] 99)).alloc (.cells #[.int .i64 a] 3)).alloc (.cells #[.int .i64 b] 3) = w3 := ⟨_, rfl⟩
  have b3 : Below w.heap.size w w3 := by
    rw [← hw3]
    exact (((Below.refl _ _).alloc (Nat.le_refl _) _).alloc (by simp) _).alloc (by simp; omega) _
  have hc0 : w3.cell? ⟨w.heap.size, 0, none⟩ = some v := by rw [← hw3, Blk.cell (((Blk.new w 99 #[v]).alloc _).alloc _) 0]; rfl
  have hc1 : w3.cell? ⟨w.heap.size + 1, 0, none⟩ = some (.int .i64 a) := by
    have := Blk.cell ((Blk.new (w.alloc (.cells #[v] 99)) 3 #[.int .i64 a]).alloc (.cells #[.int .i64 b] 3)) 0
    rw [hw3] at this
    simpa using this
  have hc2 : w3.cell? ⟨w.heap.size + 1 + 1, 0, none⟩ = some (.int .i64 b) := by
    have := Blk.cell (Blk.new ((w.alloc (.cells #[v] 99)).alloc (.cells #[.int .i64 a] 3)) 3 #[.int .i64 b]) 0
    rw [hw3] at this
    simpa using this
  have hsz : w3.heap.size = w.heap.size + 3 := by rw [← hw3]; simp
  have hlen := (squareM_len hs).2
  have b4 : Below w.heap.size w (w3.alloc (.cells #[.int .i64 a, .int .i64 b] 3)) := b3.alloc b3.size _
  have hh := c_has q [(a : Int), (b : Int)] _ v _ _ ((hq.below b4).mono b4.size) (ints_pair a b (Blk.new w3 3 #[.int .i64 a, .int .i64 b]))
  rw [hasM_pair hs ha hb, show w3.heap.size = w.heap.size + 1 + 1 + 1 from hsz] at hh
  have hcell : ∀ (p : Nat) (u : Value), p < w3.heap.size → w3.cell? ⟨p, 0, none⟩ = some u → (w3.alloc (.cells #[.int .i64 a, .int .i64 b] 3)).cell? ⟨p, 0, none⟩ = some u := fun p u hp h =>
    (((Below.refl w3.heap.size w3).alloc (Nat.le_refl _) _).cell (p := ⟨p, 0, none⟩) hp).trans h
  have ht : Calls Try.prog 125 #[v, .func (.func 126) #[] #[.pointer (some ⟨w.heap.size, 0, none⟩), .pointer (some ⟨w.heap.size + 1, 0, none⟩), .pointer (some ⟨w.heap.size + 1 + 1, 0, none⟩)]] (w3.alloc (.cells #[.int .i64 a, .int .i64 b] 3)) fun e w' => ∃ u, e = .returned u ∧ IntsV w' w'.heap.size u (upperM q a b) ∧ Below w.heap.size w w' := by
    have hv : ∃ qa c, v = .slice qa q.length c := by obtain ⟨qa, _, _, c, _, _, _, _, h, _⟩ := hq; exact ⟨qa, c, h⟩
    obtain ⟨qa, qc, hv⟩ := hv
    have := c_those_upper q.length (fun c => bit q a c && bit q b c) (w3.alloc (.cells #[.int .i64 a, .int .i64 b] 3)) w.heap.size (w.heap.size + 1) (w.heap.size + 1 + 1) hlen qa qc (fun c w1 hc hb1 => ?_)
    · rw [← hv] at this
      refine this.mono ?_
      rintro e w' ⟨u, rfl, ho, hb'⟩
      have hi := ints_of_own ho (Nat.le_trans (thoseM_length _ _) (by omega))
      exact ⟨u, rfl, hi.2, below_then b4 hb' b4.size⟩
    · have h1 := (((hq.below b4).below (hb1.mono b4.size))).square hs
      have e0 := (hb1.cell (p := ⟨w.heap.size, 0, none⟩) (by first | (simp [hsz]; done) | (simp [hsz]; omega))).trans (hcell _ _ (by omega) hc0)
      have e1 := (hb1.cell (p := ⟨w.heap.size + 1, 0, none⟩) (by first | (simp [hsz]; done) | (simp [hsz]; omega))).trans (hcell _ _ (by omega) hc1)
      have e2 := (hb1.cell (p := ⟨w.heap.size + 1 + 1, 0, none⟩) (by first | (simp [hsz]; done) | (simp [hsz]; omega))).trans (hcell _ _ (by omega) hc2)
      refine (c_upper1 q _ v w1 w.heap.size (w.heap.size + 1) (w.heap.size + 1 + 1) a b c h1 e0 ha hb hc e1 e2).mono ?_
      rintro e w' ⟨rfl, h⟩
      exact ⟨rfl, by rw [← h]; exact Below.refl _ _⟩
  clear hcell b4 hc0 hc1 hc2 b3 hsz
  subst hw3
  have Hh := Lib.hid hh; clear hh
  have Ht := Lib.hid ht; clear ht
  obtain ⟨qa, _, _, qc, _, _, _, _, rfl, _⟩ := hq
  clear hs ha hb hlen hn
  go_enter Try.func83, Try.ntmps83
  go_wp2_with (first | (go_at_call 122; refine (Hh.out).mono ?_; rintro e w' ⟨rfl, rfl⟩) | (go_at_call 125; refine (Ht.out).mono ?_; rintro e w' ⟨u, rfl, hi, hb'⟩; have Hi := Lib.hid hi; have Hb := Lib.hid hb'; clear hi hb'))
  go_ret
  exact ⟨_, rfl, Hi.out, Hb.out⟩

set_option maxHeartbeats 800000 in
set_option maxRecDepth 100000 in
theorem c_lower (q : List (List Bool)) (a b : Nat) (v : Value) (w : World) (hq : TabAt w w.heap.size v q) (hs : squareM q = true) (ha : a < q.length) (hb : b < q.length) :
    Calls Try.prog 85 #[v, .int .i64 a, .int .i64 b] w fun e w' => ∃ u, e = .returned u ∧ IntsV w' w'.heap.size u (lowerM q a b) ∧ Below w.heap.size w w' := by
  obtain ⟨n, hn⟩ : ∃ n, w.heap.size = n := ⟨_, rfl⟩
  obtain ⟨w3, hw3⟩ : ∃ w3, ((w.alloc (.cells #[v] 99)).alloc (.cells #[.int .i64 a] 3)).alloc (.cells #[.int .i64 b] 3) = w3 := ⟨_, rfl⟩
  have b3 : Below w.heap.size w w3 := by
    rw [← hw3]
    exact (((Below.refl _ _).alloc (Nat.le_refl _) _).alloc (by simp) _).alloc (by simp; omega) _
  have hc0 : w3.cell? ⟨w.heap.size, 0, none⟩ = some v := by rw [← hw3, Blk.cell (((Blk.new w 99 #[v]).alloc _).alloc _) 0]; rfl
  have hc1 : w3.cell? ⟨w.heap.size + 1, 0, none⟩ = some (.int .i64 a) := by
    have := Blk.cell ((Blk.new (w.alloc (.cells #[v] 99)) 3 #[.int .i64 a]).alloc (.cells #[.int .i64 b] 3)) 0
    rw [hw3] at this
    simpa using this
  have hc2 : w3.cell? ⟨w.heap.size + 1 + 1, 0, none⟩ = some (.int .i64 b) := by
    have := Blk.cell (Blk.new ((w.alloc (.cells #[v] 99)).alloc (.cells #[.int .i64 a] 3)) 3 #[.int .i64 b]) 0
    rw [hw3] at this
    simpa using this
  have hsz : w3.heap.size = w.heap.size + 3 := by rw [← hw3]; simp
  have hlen := (squareM_len hs).2
  have b4 : Below w.heap.size w (w3.alloc (.cells #[.int .i64 a, .int .i64 b] 3)) := b3.alloc b3.size _
  have hh := c_has q [(a : Int), (b : Int)] _ v _ _ ((hq.below b4).mono b4.size) (ints_pair a b (Blk.new w3 3 #[.int .i64 a, .int .i64 b]))
  rw [hasM_pair hs ha hb, show w3.heap.size = w.heap.size + 1 + 1 + 1 from hsz] at hh
  have hcell : ∀ (p : Nat) (u : Value), p < w3.heap.size → w3.cell? ⟨p, 0, none⟩ = some u → (w3.alloc (.cells #[.int .i64 a, .int .i64 b] 3)).cell? ⟨p, 0, none⟩ = some u := fun p u hp h =>
    (((Below.refl w3.heap.size w3).alloc (Nat.le_refl _) _).cell (p := ⟨p, 0, none⟩) hp).trans h
  have ht : Calls Try.prog 125 #[v, .func (.func 128) #[] #[.pointer (some ⟨w.heap.size, 0, none⟩), .pointer (some ⟨w.heap.size + 1, 0, none⟩), .pointer (some ⟨w.heap.size + 1 + 1, 0, none⟩)]] (w3.alloc (.cells #[.int .i64 a, .int .i64 b] 3)) fun e w' => ∃ u, e = .returned u ∧ IntsV w' w'.heap.size u (lowerM q a b) ∧ Below w.heap.size w w' := by
    have hv : ∃ qa c, v = .slice qa q.length c := by obtain ⟨qa, _, _, c, _, _, _, _, h, _⟩ := hq; exact ⟨qa, c, h⟩
    obtain ⟨qa, qc, hv⟩ := hv
    have := c_those_lower q.length (fun c => bit q c a && bit q c b) (w3.alloc (.cells #[.int .i64 a, .int .i64 b] 3)) w.heap.size (w.heap.size + 1) (w.heap.size + 1 + 1) hlen qa qc (fun c w1 hc hb1 => ?_)
    · rw [← hv] at this
      refine this.mono ?_
      rintro e w' ⟨u, rfl, ho, hb'⟩
      have hi := ints_of_own ho (Nat.le_trans (thoseM_length _ _) (by omega))
      exact ⟨u, rfl, hi.2, below_then b4 hb' b4.size⟩
    · have h1 := (((hq.below b4).below (hb1.mono b4.size))).square hs
      have e0 := (hb1.cell (p := ⟨w.heap.size, 0, none⟩) (by first | (simp [hsz]; done) | (simp [hsz]; omega))).trans (hcell _ _ (by omega) hc0)
      have e1 := (hb1.cell (p := ⟨w.heap.size + 1, 0, none⟩) (by first | (simp [hsz]; done) | (simp [hsz]; omega))).trans (hcell _ _ (by omega) hc1)
      have e2 := (hb1.cell (p := ⟨w.heap.size + 1 + 1, 0, none⟩) (by first | (simp [hsz]; done) | (simp [hsz]; omega))).trans (hcell _ _ (by omega) hc2)
      refine (c_lower1 q _ v w1 w.heap.size (w.heap.size + 1) (w.heap.size + 1 + 1) a b c h1 e0 ha hb hc e1 e2).mono ?_
      rintro e w' ⟨rfl, h⟩
      exact ⟨rfl, h⟩
  clear hcell b4 hc0 hc1 hc2 b3 hsz
  subst hw3
  have Hh := Lib.hid hh; clear hh
  have Ht := Lib.hid ht; clear ht
  obtain ⟨qa, _, _, qc, _, _, _, _, rfl, _⟩ := hq
  clear hs ha hb hlen hn
  go_enter Try.func85, Try.ntmps85
  go_wp2_with (first | (go_at_call 122; refine (Hh.out).mono ?_; rintro e w' ⟨rfl, rfl⟩) | (go_at_call 125; refine (Ht.out).mono ?_; rintro e w' ⟨u, rfl, hi, hb'⟩; have Hi := Lib.hid hi; have Hb := Lib.hid hb'; clear hi hb'))
  go_ret
  exact ⟨_, rfl, Hi.out, Hb.out⟩
end Go.Proofs.Ytagcdnhkgndhcaa
