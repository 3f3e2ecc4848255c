/- Walks: package order, first ones of lists. -/
import Derived.Test.YtagcdnhkgndhcaaOrdC
set_option linter.unusedVariables false
set_option linter.unusedSimpArgs false
namespace Go.Proofs.Ytagcdnhkgndhcaa
open Go.RowKit Go.Hoist

def inM (n : Nat) (xs : List Int) : Prop := ∀ j, j < xs.length → 0 ≤ nth xs j ∧ nth xs j < n
/-- What firstM finds before place a: none. -/
theorem firstM_here {xs : List Int} {p : Int → Int → Bool} {a : Nat} (ha : a < xs.length) (hno : ∀ i, i < a → xs.all (fun b => p (nth xs i) b) = false) (h : xs.all (fun b => p (nth xs a) b) = true) : firstM xs p = some (nth xs a) := by
  unfold firstM
  rw [List.find?_eq_some_iff_getElem]
  refine ⟨h, a, ha, (nth_eq ha).symm, fun j hj => ?_⟩
  have := hno j hj
  rw [nth_eq (by omega)] at this
  simpa using this
theorem firstM_none {xs : List Int} {p : Int → Int → Bool} (hno : ∀ i, i < xs.length → xs.all (fun b => p (nth xs i) b) = false) : firstM xs p = none := by
  unfold firstM
  rw [List.find?_eq_none]
  intro x hx
  obtain ⟨i, hi, rfl⟩ := List.getElem_of_mem hx
  have := hno i hi
  rw [nth_eq hi] at this
  rw [this]
  decide
/-- All of the first m of a list. -/
def allTo (xs : List Int) (m : Nat) (p : Int → Bool) : Bool := (xs.take m).all p
theorem allTo_zero (xs : List Int) (p : Int → Bool) : allTo xs 0 p = true := by simp [allTo]
theorem allTo_succ {xs : List Int} {m : Nat} (hm : m < xs.length) (p : Int → Bool) : allTo xs (m + 1) p = (allTo xs m p && p (nth xs m)) := by
  unfold allTo
  rw [List.take_add_one, List.getElem?_eq_getElem hm, List.all_append, nth_eq hm]
  simp
theorem allTo_all (xs : List Int) (p : Int → Bool) : allTo xs xs.length p = xs.all p := by simp [allTo]
def optI (o : Option Int) : Value := .tuple #[.int .i64 (o.getD 0), .bool o.isSome]

set_option maxHeartbeats 800000 in
set_option maxRecDepth 100000 in
theorem c_lower1 (q : List (List Bool)) (B : Nat) (v : Value) (w : World) (cp : Nat) (ca cb a b c : Nat) (hq : SqAt w B v q) (hc : w.cell? ⟨cp, 0, none⟩ = some v) (ha : a < q.length) (hb : b < q.length) (hcc : c < q.length) (h2 : w.cell? ⟨ca, 0, none⟩ = some (.int .i64 a)) (h3 : w.cell? ⟨cb, 0, none⟩ = some (.int .i64 b)) :
    Calls Try.prog 128 #[.int .i64 c, .pointer (some ⟨cp, 0, none⟩), .pointer (some ⟨ca, 0, none⟩), .pointer (some ⟨cb, 0, none⟩)] w fun e w' => e = .returned (.bool (bit q c a && bit q c b)) ∧ Below w.heap.size w w' := by
  obtain ⟨qb, qo, cc, rb, ro, rc, rfl, h1⟩ := hq
  obtain ⟨_, hpos, hle, hrows, _, hcells⟩ := h1
  go_enter Try.func128, Try.ntmps128
  go_wp2_with fail
  refine wp_region_text 22 mixed rfl (by kernel_rfl) ?_
  go_wp2_with fail
  all_goals
    refine ⟨rfl, ?_⟩
    go_wp2_with fail
    go_ret
    refine ⟨ret_bool ?_, (Below.refl _ _).drew⟩
    simp_all

set_option maxHeartbeats 1600000 in
set_option maxRecDepth 100000 in
theorem c_first_least (n : Nat) (p : Int → Int → Bool) (xs : List Int) (B : Nat) (u : Value) (w : World) (cp : Nat) (hx : IntsV w B u xs) (hin : inM n xs) (hxl : xs.length ≤ 16)
    (call : ∀ a b : Int, 0 ≤ a → a < n → 0 ≤ b → b < n → Calls Try.prog 124 #[.int .i64 a, .int .i64 b, .pointer (some ⟨cp, 0, none⟩)] w fun e w' => e = .returned (.bool (p a b)) ∧ w = w') :
    Calls Try.prog 123 #[u, .func (.func 124) #[] #[.pointer (some ⟨cp, 0, none⟩)]] w fun e w' => e = .returned (optI (firstM xs p)) ∧ w = w' := by
  obtain ⟨xa, xb, xo, xc, rfl, hx1⟩ := hx
  obtain ⟨_, hxs, _, hxc⟩ := hx1
  have Hcall := Lib.hid call; clear call
  have Hin := Lib.hid hin; clear hin
  go_enter Try.func123, Try.ntmps123
  go_wp2_with fail
  go_loop [13] (fun v => ∃ a : Nat, a ≤ xs.length ∧ v = .int .i64 a ∧ Hid (∀ i, i < a → xs.all (fun b => p (nth xs i) b) = false)) (fun v => xs.length - (intOf v).toNat)
  case atStart => exact ⟨0, by omega, rfl, fun j hj => by omega⟩
  case round =>
    obtain ⟨a, ha, rfl, hpre⟩ := hrel
    by_cases hlt : a < xs.length
    · have h1' := hxs (by omega)
      subst h1'
      go_wp2_with fail
      go_loop [8, 19] (fun z v => ∃ b : Nat, b ≤ xs.length ∧ v = .int .i64 b ∧ z = .bool (allTo xs b (p (nth xs a)))) (fun _ v => xs.length - (intOf v).toNat)
      case atStart => exact ⟨0, by omega, rfl, rfl⟩
      case round =>
        obtain ⟨b, hb, rfl, rfl⟩ := hrel
        by_cases hlt2 : b < xs.length
        · have hcall := Hcall.out (nth xs a) (nth xs b) (Hin.out a hlt).1 (Hin.out a hlt).2 (Hin.out b hlt2).1 (Hin.out b hlt2).2
          have hs := allTo_succ hlt2 (p (nth xs a))
          have HC := Lib.hid hcall; clear hcall
          have Hs := Lib.hid hs; clear hs
          cases hz : allTo xs b (p (nth xs a)) with
          | true =>
            rw [hz] at Hs
            go_wp2_with (go_at_call 124; refine (HC.out).mono ?_; rintro e w' ⟨rfl, rfl⟩)
            go_round
            case rel => exact ⟨b + 1, by omega, by go_num, by rw [Hs.out]; simp⟩
            case measure => simp [intOf]; omega
          | false =>
            rw [hz] at Hs
            go_wp2_with fail
            go_round
            case rel => exact ⟨b + 1, by omega, by go_num, by rw [Hs.out]; simp⟩
            case measure => simp [intOf]; omega
        · obtain rfl : b = xs.length := by omega
          have hall := allTo_all xs (p (nth xs a))
          cases hz : allTo xs xs.length (p (nth xs a)) with
          | true =>
            have hf : firstM xs p = some (nth xs a) := firstM_here hlt hpre (by rw [← hall, hz])
            clear hall
            have Hf := Lib.hid hf; clear hf
            go_wp2_with fail
            go_ret2
            rw [Hf.out]
            exact ⟨rfl, rfl⟩
          | false =>
            have hno : xs.all (fun b => p (nth xs a) b) = false := by rw [← hall, hz]
            clear hall
            have Hno := Lib.hid hno; clear hno
            go_wp2_with fail
            go_round
            case rel =>
              refine ⟨a + 1, by omega, by go_num, fun i hi => ?_⟩
              by_cases h : i < a
              · exact hpre i h
              · obtain rfl : i = a := by omega
                exact Hno.out
            case measure => simp [intOf]; omega
    · obtain rfl : a = xs.length := by omega
      have hf := firstM_none hpre
      have Hf := Lib.hid hf; clear hf
      go_wp2_with fail
      go_ret2
      rw [Hf.out]
      exact ⟨rfl, rfl⟩

set_option maxHeartbeats 1600000 in
set_option maxRecDepth 100000 in
theorem c_first_greatest (n : Nat) (p : Int → Int → Bool) (xs : List Int) (B : Nat) (u : Value) (w : World) (cp : Nat) (hx : IntsV w B u xs) (hin : inM n xs) (hxl : xs.length ≤ 16)
    (call : ∀ a b : Int, 0 ≤ a → a < n → 0 ≤ b → b < n → Calls Try.prog 127 #[.int .i64 a, .int .i64 b, .pointer (some ⟨cp, 0, none⟩)] w fun e w' => e = .returned (.bool (p a b)) ∧ w = w') :
    Calls Try.prog 123 #[u, .func (.func 127) #[] #[.pointer (some ⟨cp, 0, none⟩)]] w fun e w' => e = .returned (optI (firstM xs p)) ∧ w = w' := by
  obtain ⟨xa, xb, xo, xc, rfl, hx1⟩ := hx
  obtain ⟨_, hxs, _, hxc⟩ := hx1
  have Hcall := Lib.hid call; clear call
  have Hin := Lib.hid hin; clear hin
  go_enter Try.func123, Try.ntmps123
  go_wp2_with fail
  go_loop [13] (fun v => ∃ a : Nat, a ≤ xs.length ∧ v = .int .i64 a ∧ Hid (∀ i, i < a → xs.all (fun b => p (nth xs i) b) = false)) (fun v => xs.length - (intOf v).toNat)
  case atStart => exact ⟨0, by omega, rfl, fun j hj => by omega⟩
  case round =>
    obtain ⟨a, ha, rfl, hpre⟩ := hrel
    by_cases hlt : a < xs.length
    · have h1' := hxs (by omega)
      subst h1'
      go_wp2_with fail
      go_loop [8, 19] (fun z v => ∃ b : Nat, b ≤ xs.length ∧ v = .int .i64 b ∧ z = .bool (allTo xs b (p (nth xs a)))) (fun _ v => xs.length - (intOf v).toNat)
      case atStart => exact ⟨0, by omega, rfl, rfl⟩
      case round =>
        obtain ⟨b, hb, rfl, rfl⟩ := hrel
        by_cases hlt2 : b < xs.length
        · have hcall := Hcall.out (nth xs a) (nth xs b) (Hin.out a hlt).1 (Hin.out a hlt).2 (Hin.out b hlt2).1 (Hin.out b hlt2).2
          have hs := allTo_succ hlt2 (p (nth xs a))
          have HC := Lib.hid hcall; clear hcall
          have Hs := Lib.hid hs; clear hs
          cases hz : allTo xs b (p (nth xs a)) with
          | true =>
            rw [hz] at Hs
            go_wp2_with (go_at_call 127; refine (HC.out).mono ?_; rintro e w' ⟨rfl, rfl⟩)
            go_round
            case rel => exact ⟨b + 1, by omega, by go_num, by rw [Hs.out]; simp⟩
            case measure => simp [intOf]; omega
          | false =>
            rw [hz] at Hs
            go_wp2_with fail
            go_round
            case rel => exact ⟨b + 1, by omega, by go_num, by rw [Hs.out]; simp⟩
            case measure => simp [intOf]; omega
        · obtain rfl : b = xs.length := by omega
          have hall := allTo_all xs (p (nth xs a))
          cases hz : allTo xs xs.length (p (nth xs a)) with
          | true =>
            have hf : firstM xs p = some (nth xs a) := firstM_here hlt hpre (by rw [← hall, hz])
            clear hall
            have Hf := Lib.hid hf; clear hf
            go_wp2_with fail
            go_ret2
            rw [Hf.out]
            exact ⟨rfl, rfl⟩
          | false =>
            have hno : xs.all (fun b => p (nth xs a) b) = false := by rw [← hall, hz]
            clear hall
            have Hno := Lib.hid hno; clear hno
            go_wp2_with fail
            go_round
            case rel =>
              refine ⟨a + 1, by omega, by go_num, fun i hi => ?_⟩
              by_cases h : i < a
              · exact hpre i h
              · obtain rfl : i = a := by omega
                exact Hno.out
            case measure => simp [intOf]; omega
    · obtain rfl : a = xs.length := by omega
      have hf := firstM_none hpre
      have Hf := Lib.hid hf; clear hf
      go_wp2_with fail
      go_ret2
      rw [Hf.out]
      exact ⟨rfl, rfl⟩

def leastM (q : List (List Bool)) (xs : List Int) : Option Int := if hasM q xs then firstM xs (fun a b => bit q a.toNat b.toNat) else none

set_option maxHeartbeats 800000 in
set_option maxRecDepth 100000 in
theorem c_least (q : List (List Bool)) (xs : List Int) (v u : Value) (w : World) (hq : TabAt w w.heap.size v q) (hx : IntsV w w.heap.size u xs) (hxl : xs.length ≤ 16) :
    Calls Try.prog 82 #[v, u] w fun e w' => e = .returned (optI (leastM q xs)) ∧ Below w.heap.size w w' := by
  have hb : Below w.heap.size w (w.alloc (.cells #[v] 99)) := (Below.refl _ _).alloc (Nat.le_refl _) _
  have hh := c_has q xs _ v u _ (hq.below hb) (hx.below hb)
  have hcell : (w.alloc (.cells #[v] 99)).cell? ⟨w.heap.size, 0, none⟩ = some v := by rw [Blk.cell (Blk.new w 99 #[v]) 0]; rfl
  have key : hasM q xs = true → Calls Try.prog 123 #[u, .func (.func 124) #[] #[.pointer (some ⟨w.heap.size, 0, none⟩)]] (w.alloc (.cells #[v] 99)) fun e w' => e = .returned (optI (leastM q xs)) ∧ w.alloc (.cells #[v] 99) = w' := fun h => by
    have hs := hasM_iff.1 h
    have he : leastM q xs = firstM xs (fun a b => bit q a.toNat b.toNat) := by unfold leastM; rw [h]; rfl
    rw [he]
    refine c_first_least q.length _ xs _ u _ _ (hx.below hb) (fun j hj => hs.2 j hj) hxl (fun a b ha ha' hb' hb2 => ?_)
    have := c_least1 q _ v _ w.heap.size a.toNat b.toNat ((hq.below hb).square hs.1) hcell (by omega) (by omega)
    rw [Int.toNat_of_nonneg ha, Int.toNat_of_nonneg hb'] at this
    exact this
  have no : hasM q xs = false → leastM q xs = none := fun h => by unfold leastM; rw [h]; rfl
  obtain ⟨qa, qb, qo, c, ra, rb, ro, rc, rfl, _⟩ := hq
  obtain ⟨xa, xb, xo, xc, rfl, _⟩ := hx
  have Hh := Lib.hid hh; clear hh
  have Hb := Lib.hid hb; clear hb
  clear hcell
  cases hv : hasM q xs with
  | true =>
    have Key := Lib.hid (key hv); clear key no
    rw [hv] at Hh
    clear hv
    go_enter Try.func82, Try.ntmps82
    go_wp2_with (first | (go_at_call 122; refine (Hh.out).mono ?_; rintro e w' ⟨rfl, rfl⟩) | (go_at_call 123; refine (Key.out).mono ?_; rintro e w' ⟨rfl, rfl⟩; simp only [optI]))
    all_goals
      go_ret2
      exact ⟨rfl, Hb.out⟩
  | false =>
    have No := Lib.hid (no hv); clear key no
    rw [hv] at Hh
    clear hv
    go_enter Try.func82, Try.ntmps82
    go_wp2_with (go_at_call 122; refine (Hh.out).mono ?_; rintro e w' ⟨rfl, rfl⟩)
    go_ret2
    rw [No.out]
    exact ⟨rfl, Hb.out⟩

def greatestM (q : List (List Bool)) (xs : List Int) : Option Int := if hasM q xs then firstM xs (fun a b => bit q b.toNat a.toNat) else none

set_option maxHeartbeats 800000 in
set_option maxRecDepth 100000 in
theorem c_greatest (q : List (List Bool)) (xs : List Int) (v u : Value) (w : World) (hq : TabAt w w.heap.size v q) (hx : IntsV w w.heap.size u xs) (hxl : xs.length ≤ 16) :
    Calls Try.prog 84 #[v, u] w fun e w' => e = .returned (optI (greatestM q xs)) ∧ Below w.heap.size w w' := by
  have hb : Below w.heap.size w (w.alloc (.cells #[v] 99)) := (Below.refl _ _).alloc (Nat.le_refl _) _
  have hh := c_has q xs _ v u _ (hq.below hb) (hx.below hb)
  have hcell : (w.alloc (.cells #[v] 99)).cell? ⟨w.heap.size, 0, none⟩ = some v := by rw [Blk.cell (Blk.new w 99 #[v]) 0]; rfl
  have key : hasM q xs = true → Calls Try.prog 123 #[u, .func (.func 127) #[] #[.pointer (some ⟨w.heap.size, 0, none⟩)]] (w.alloc (.cells #[v] 99)) fun e w' => e = .returned (optI (greatestM q xs)) ∧ w.alloc (.cells #[v] 99) = w' := fun h => by
    have hs := hasM_iff.1 h
    have he : greatestM q xs = firstM xs (fun a b => bit q b.toNat a.toNat) := by unfold greatestM; rw [h]; rfl
    rw [he]
    refine c_first_greatest q.length _ xs _ u _ _ (hx.below hb) (fun j hj => hs.2 j hj) hxl (fun a b ha ha' hb' hb2 => ?_)
    have := c_greatest1 q _ v _ w.heap.size a.toNat b.toNat ((hq.below hb).square hs.1) hcell (by omega) (by omega)
    rw [Int.toNat_of_nonneg ha, Int.toNat_of_nonneg hb'] at this
    exact this
  have no : hasM q xs = false → greatestM q xs = none := fun h => by unfold greatestM; rw [h]; rfl
  obtain ⟨qa, qb, qo, c, ra, rb, ro, rc, rfl, _⟩ := hq
  obtain ⟨xa, xb, xo, xc, rfl, _⟩ := hx
  have Hh := Lib.hid hh; clear hh
  have Hb := Lib.hid hb; clear hb
  clear hcell
  cases hv : hasM q xs with
  | true =>
    have Key := Lib.hid (key hv); clear key no
    rw [hv] at Hh
    clear hv
    go_enter Try.func84, Try.ntmps84
    go_wp2_with (first | (go_at_call 122; refine (Hh.out).mono ?_; rintro e w' ⟨rfl, rfl⟩) | (go_at_call 123; refine (Key.out).mono ?_; rintro e w' ⟨rfl, rfl⟩; simp only [optI]))
    all_goals
      go_ret2
      exact ⟨rfl, Hb.out⟩
  | false =>
    have No := Lib.hid (no hv); clear key no
    rw [hv] at Hh
    clear hv
    go_enter Try.func84, Try.ntmps84
    go_wp2_with (go_at_call 122; refine (Hh.out).mono ?_; rintro e w' ⟨rfl, rfl⟩)
    go_ret2
    rw [No.out]
    exact ⟨rfl, Hb.out⟩
end Go.Proofs.Ytagcdnhkgndhcaa
