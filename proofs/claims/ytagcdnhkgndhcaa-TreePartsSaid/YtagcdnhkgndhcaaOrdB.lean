/- Walks: package order, whole tables. -/
import Derived.Test.YtagcdnhkgndhcaaOrdA
set_option linter.unusedVariables false
set_option linter.unusedSimpArgs false
namespace Go.Proofs.Ytagcdnhkgndhcaa
open Go.RowKit Go.Hoist

set_option maxHeartbeats 800000 in
set_option maxRecDepth 100000 in
theorem c_all_refl (q : List (List Bool)) (B : Nat) (v : Value) (w : World) (cp : Nat) (hq : TabAt w B v q) (hc : w.cell? ⟨cp, 0, none⟩ = some v) :
    Calls Try.prog 118 #[v, .func (.func 119) #[] #[.pointer (some ⟨cp, 0, none⟩)]] w fun e w' => e = .returned (.bool (allM q (reflM q))) ∧ w = w' := by
  have hsq := c_Square q B v w hq
  by_cases hs : squareM q = true
  · have hq2 := hq.square hs
    have call : ∀ a b : Nat, a < q.length → b < q.length → Calls Try.prog 119 #[.int .i64 a, .int .i64 b, .pointer (some ⟨cp, 0, none⟩)] w fun e w' => e = .returned (.bool (reflM q a b)) ∧ w = w' := fun a b ha hb => c_refl1 q B v w cp a b hq2 hc ha hb
    have key : ∀ a b : Nat, a < q.length → b < q.length → reflM q a b = false → allM q (reflM q) = false := fun a b ha hb h => by
      unfold allM
      rw [hs, Bool.true_and]
      exact List.all_eq_false.2 ⟨a, List.mem_range.2 ha, by simpa using ⟨b, hb, h⟩⟩
    have yes : (∀ a, a < q.length → ∀ b, b < q.length → reflM q a b = true) → allM q (reflM q) = true := fun h => by
      unfold allM
      rw [hs, Bool.true_and]
      simp only [List.all_eq_true, List.mem_range]
      exact h
    rw [hs] at hsq
    obtain ⟨qb, qo, c, rb, ro, rc, rfl, _⟩ := hq2
    have hlen := (squareM_len hs).2
    have Hcall := Lib.hid call; clear call
    have Key := Lib.hid key; clear key
    have Yes := Lib.hid yes; clear yes
    have Hsq := Lib.hid hsq; clear hsq
    clear hq hc hs
    go_enter Try.func118, Try.ntmps118
    go_wp2_with (go_at_call 78; refine (Hsq.out).mono ?_; rintro e w' ⟨rfl, rfl⟩)
    go_loop [12] (fun v => ∃ a : Nat, a ≤ q.length ∧ v = .int .i64 a ∧ Hid (∀ j, j < a → ∀ b, b < q.length → reflM q j b = true)) (fun v => q.length - (intOf v).toNat)
    case atStart => exact ⟨0, by omega, rfl, fun j hj => by omega⟩
    case round =>
      obtain ⟨a, ha, rfl, hpre⟩ := hrel
      by_cases hlt : a < q.length
      · go_wp2_with fail
        go_loop [17] (fun v => ∃ b : Nat, b ≤ q.length ∧ v = .int .i64 b ∧ Hid (∀ j, j < b → reflM q a j = true)) (fun v => q.length - (intOf v).toNat)
        case atStart => exact ⟨0, by omega, rfl, fun j hj => by omega⟩
        case round =>
          obtain ⟨b, hb, rfl, hpre2⟩ := hrel
          by_cases hlt2 : b < q.length
          · have hcall := Hcall.out a b hlt hlt2
            have no := Key.out a b hlt hlt2
            have No := Lib.hid no; clear no
            cases hv : reflM q a b with
            | true =>
              rw [hv] at hcall
              have HC := Lib.hid hcall; clear hcall
              have Hv := Lib.hid hv; clear hv
              go_wp2_with (go_at_call 119; refine (HC.out).mono ?_; rintro e w' ⟨rfl, rfl⟩)
              go_round
              case rel =>
                refine ⟨b + 1, by omega, by go_num, fun j hj => ?_⟩
                by_cases h : j < b
                · exact hpre2 j h
                · obtain rfl : j = b := by omega
                  exact Hv.out
              case measure => simp [intOf]; omega
            | false =>
              rw [hv] at hcall
              have HC := Lib.hid hcall; clear hcall
              have Hv := Lib.hid hv; clear hv
              go_wp2_with (go_at_call 119; refine (HC.out).mono ?_; rintro e w' ⟨rfl, rfl⟩)
              go_ret
              exact ⟨ret_bool (No.out Hv.out).symm, rfl⟩
          · obtain rfl : b = q.length := by omega
            go_wp2_with fail
            go_round
            case rel =>
              refine ⟨a + 1, by omega, by go_num, fun j hj => ?_⟩
              by_cases h : j < a
              · exact hpre j h
              · obtain rfl : j = a := by omega
                exact hpre2
            case measure => simp [intOf]; omega
      · obtain rfl : a = q.length := by omega
        go_wp2_with fail
        go_ret
        exact ⟨ret_bool (Yes.out hpre).symm, rfl⟩
  · have hs' : squareM q = false := by simpa using hs
    rw [hs'] at hsq
    have hno : allM q (reflM q) = false := by unfold allM; rw [hs', Bool.false_and]
    have Hsq := Lib.hid hsq; clear hsq
    have Hno := Lib.hid hno; clear hno
    clear hq hc hs hs'
    go_enter Try.func118, Try.ntmps118
    go_wp2_with (go_at_call 78; refine (Hsq.out).mono ?_; rintro e w' ⟨rfl, rfl⟩)
    go_ret
    exact ⟨ret_bool Hno.out.symm, rfl⟩

set_option maxHeartbeats 400000 in
set_option maxRecDepth 100000 in
theorem c_Reflexive (q : List (List Bool)) (v : Value) (w : World) (hq : TabAt w w.heap.size v q) :
    Calls Try.prog 79 #[v] w fun e w' => e = .returned (.bool (allM q (reflM q))) ∧ Below w.heap.size w w' := by
  have hb : Below w.heap.size w (w.alloc (.cells #[v] 99)) := (Below.refl _ _).alloc (Nat.le_refl _) _
  have hall := c_all_refl q w.heap.size v (w.alloc (.cells #[v] 99)) w.heap.size (hq.below hb) (by simp)
  obtain ⟨qa, qb, qo, c, ra, rb, ro, rc, rfl, _, _⟩ := hq
  have Hall := Lib.hid hall; clear hall
  have Hb := Lib.hid hb; clear hb
  go_enter Try.func79, Try.ntmps79
  go_wp2_with (go_at_call 118; refine (Hall.out).mono ?_; rintro e w' ⟨rfl, rfl⟩)
  go_ret
  exact ⟨rfl, Hb.out⟩

set_option maxHeartbeats 800000 in
set_option maxRecDepth 100000 in
theorem c_all_anti (q : List (List Bool)) (B : Nat) (v : Value) (w : World) (cp : Nat) (hq : TabAt w B v q) (hc : w.cell? ⟨cp, 0, none⟩ = some v) :
    Calls Try.prog 118 #[v, .func (.func 120) #[] #[.pointer (some ⟨cp, 0, none⟩)]] w fun e w' => e = .returned (.bool (allM q (antiM q))) ∧ w = w' := by
  have hsq := c_Square q B v w hq
  by_cases hs : squareM q = true
  · have hq2 := hq.square hs
    have call : ∀ a b : Nat, a < q.length → b < q.length → Calls Try.prog 120 #[.int .i64 a, .int .i64 b, .pointer (some ⟨cp, 0, none⟩)] w fun e w' => e = .returned (.bool (antiM q a b)) ∧ w = w' := fun a b ha hb => c_anti1 q B v w cp a b hq2 hc ha hb
    have key : ∀ a b : Nat, a < q.length → b < q.length → antiM q a b = false → allM q (antiM q) = false := fun a b ha hb h => by
      unfold allM
      rw [hs, Bool.true_and]
      exact List.all_eq_false.2 ⟨a, List.mem_range.2 ha, by simpa using ⟨b, hb, h⟩⟩
    have yes : (∀ a, a < q.length → ∀ b, b < q.length → antiM q a b = true) → allM q (antiM q) = true := fun h => by
      unfold allM
      rw [hs, Bool.true_and]
      simp only [List.all_eq_true, List.mem_range]
      exact h
    rw [hs] at hsq
    obtain ⟨qb, qo, c, rb, ro, rc, rfl, _⟩ := hq2
    have hlen := (squareM_len hs).2
    have Hcall := Lib.hid call; clear call
    have Key := Lib.hid key; clear key
    have Yes := Lib.hid yes; clear yes
    have Hsq := Lib.hid hsq; clear hsq
    clear hq hc hs
    go_enter Try.func118, Try.ntmps118
    go_wp2_with (go_at_call 78; refine (Hsq.out).mono ?_; rintro e w' ⟨rfl, rfl⟩)
    go_loop [12] (fun v => ∃ a : Nat, a ≤ q.length ∧ v = .int .i64 a ∧ Hid (∀ j, j < a → ∀ b, b < q.length → antiM q j b = true)) (fun v => q.length - (intOf v).toNat)
    case atStart => exact ⟨0, by omega, rfl, fun j hj => by omega⟩
    case round =>
      obtain ⟨a, ha, rfl, hpre⟩ := hrel
      by_cases hlt : a < q.length
      · go_wp2_with fail
        go_loop [17] (fun v => ∃ b : Nat, b ≤ q.length ∧ v = .int .i64 b ∧ Hid (∀ j, j < b → antiM q a j = true)) (fun v => q.length - (intOf v).toNat)
        case atStart => exact ⟨0, by omega, rfl, fun j hj => by omega⟩
        case round =>
          obtain ⟨b, hb, rfl, hpre2⟩ := hrel
          by_cases hlt2 : b < q.length
          · have hcall := Hcall.out a b hlt hlt2
            have no := Key.out a b hlt hlt2
            have No := Lib.hid no; clear no
            cases hv : antiM q a b with
            | true =>
              rw [hv] at hcall
              have HC := Lib.hid hcall; clear hcall
              have Hv := Lib.hid hv; clear hv
              go_wp2_with (go_at_call 120; refine (HC.out).mono ?_; rintro e w' ⟨rfl, rfl⟩)
              go_round
              case rel =>
                refine ⟨b + 1, by omega, by go_num, fun j hj => ?_⟩
                by_cases h : j < b
                · exact hpre2 j h
                · obtain rfl : j = b := by omega
                  exact Hv.out
              case measure => simp [intOf]; omega
            | false =>
              rw [hv] at hcall
              have HC := Lib.hid hcall; clear hcall
              have Hv := Lib.hid hv; clear hv
              go_wp2_with (go_at_call 120; refine (HC.out).mono ?_; rintro e w' ⟨rfl, rfl⟩)
              go_ret
              exact ⟨ret_bool (No.out Hv.out).symm, rfl⟩
          · obtain rfl : b = q.length := by omega
            go_wp2_with fail
            go_round
            case rel =>
              refine ⟨a + 1, by omega, by go_num, fun j hj => ?_⟩
              by_cases h : j < a
              · exact hpre j h
              · obtain rfl : j = a := by omega
                exact hpre2
            case measure => simp [intOf]; omega
      · obtain rfl : a = q.length := by omega
        go_wp2_with fail
        go_ret
        exact ⟨ret_bool (Yes.out hpre).symm, rfl⟩
  · have hs' : squareM q = false := by simpa using hs
    rw [hs'] at hsq
    have hno : allM q (antiM q) = false := by unfold allM; rw [hs', Bool.false_and]
    have Hsq := Lib.hid hsq; clear hsq
    have Hno := Lib.hid hno; clear hno
    clear hq hc hs hs'
    go_enter Try.func118, Try.ntmps118
    go_wp2_with (go_at_call 78; refine (Hsq.out).mono ?_; rintro e w' ⟨rfl, rfl⟩)
    go_ret
    exact ⟨ret_bool Hno.out.symm, rfl⟩

set_option maxHeartbeats 400000 in
set_option maxRecDepth 100000 in
theorem c_Antisymmetric (q : List (List Bool)) (v : Value) (w : World) (hq : TabAt w w.heap.size v q) :
    Calls Try.prog 80 #[v] w fun e w' => e = .returned (.bool (allM q (antiM q))) ∧ Below w.heap.size w w' := by
  have hb : Below w.heap.size w (w.alloc (.cells #[v] 99)) := (Below.refl _ _).alloc (Nat.le_refl _) _
  have hall := c_all_anti q w.heap.size v (w.alloc (.cells #[v] 99)) w.heap.size (hq.below hb) (by simp)
  obtain ⟨qa, qb, qo, c, ra, rb, ro, rc, rfl, _, _⟩ := hq
  have Hall := Lib.hid hall; clear hall
  have Hb := Lib.hid hb; clear hb
  go_enter Try.func80, Try.ntmps80
  go_wp2_with (go_at_call 118; refine (Hall.out).mono ?_; rintro e w' ⟨rfl, rfl⟩)
  go_ret
  exact ⟨rfl, Hb.out⟩

set_option maxHeartbeats 800000 in
set_option maxRecDepth 100000 in
theorem c_all_trans (q : List (List Bool)) (B : Nat) (v : Value) (w : World) (cp : Nat) (hq : TabAt w B v q) (hc : w.cell? ⟨cp, 0, none⟩ = some v) :
    Calls Try.prog 118 #[v, .func (.func 121) #[] #[.pointer (some ⟨cp, 0, none⟩)]] w fun e w' => e = .returned (.bool (allM q (transM q))) ∧ w = w' := by
  have hsq := c_Square q B v w hq
  by_cases hs : squareM q = true
  · have hq2 := hq.square hs
    have call : ∀ a b : Nat, a < q.length → b < q.length → Calls Try.prog 121 #[.int .i64 a, .int .i64 b, .pointer (some ⟨cp, 0, none⟩)] w fun e w' => e = .returned (.bool (transM q a b)) ∧ w = w' := fun a b ha hb => c_trans1 q B v w cp a b hq2 hc ha hb
    have key : ∀ a b : Nat, a < q.length → b < q.length → transM q a b = false → allM q (transM q) = false := fun a b ha hb h => by
      unfold allM
      rw [hs, Bool.true_and]
      exact List.all_eq_false.2 ⟨a, List.mem_range.2 ha, by simpa using ⟨b, hb, h⟩⟩
    have yes : (∀ a, a < q.length → ∀ b, b < q.length → transM q a b = true) → allM q (transM q) = true := fun h => by
      unfold allM
      rw [hs, Bool.true_and]
      simp only [List.all_eq_true, List.mem_range]
      exact h
    rw [hs] at hsq
    obtain ⟨qb, qo, c, rb, ro, rc, rfl, _⟩ := hq2
    have hlen := (squareM_len hs).2
    have Hcall := Lib.hid call; clear call
    have Key := Lib.hid key; clear key
    have Yes := Lib.hid yes; clear yes
    have Hsq := Lib.hid hsq; clear hsq
    clear hq hc hs
    go_enter Try.func118, Try.ntmps118
    go_wp2_with (go_at_call 78; refine (Hsq.out).mono ?_; rintro e w' ⟨rfl, rfl⟩)
    go_loop [12] (fun v => ∃ a : Nat, a ≤ q.length ∧ v = .int .i64 a ∧ Hid (∀ j, j < a → ∀ b, b < q.length → transM q j b = true)) (fun v => q.length - (intOf v).toNat)
    case atStart => exact ⟨0, by omega, rfl, fun j hj => by omega⟩
    case round =>
      obtain ⟨a, ha, rfl, hpre⟩ := hrel
      by_cases hlt : a < q.length
      · go_wp2_with fail
        go_loop [17] (fun v => ∃ b : Nat, b ≤ q.length ∧ v = .int .i64 b ∧ Hid (∀ j, j < b → transM q a j = true)) (fun v => q.length - (intOf v).toNat)
        case atStart => exact ⟨0, by omega, rfl, fun j hj => by omega⟩
        case round =>
          obtain ⟨b, hb, rfl, hpre2⟩ := hrel
          by_cases hlt2 : b < q.length
          · have hcall := Hcall.out a b hlt hlt2
            have no := Key.out a b hlt hlt2
            have No := Lib.hid no; clear no
            cases hv : transM q a b with
            | true =>
              rw [hv] at hcall
              have HC := Lib.hid hcall; clear hcall
              have Hv := Lib.hid hv; clear hv
              go_wp2_with (go_at_call 121; refine (HC.out).mono ?_; rintro e w' ⟨rfl, rfl⟩)
              go_round
              case rel =>
                refine ⟨b + 1, by omega, by go_num, fun j hj => ?_⟩
                by_cases h : j < b
                · exact hpre2 j h
                · obtain rfl : j = b := by omega
                  exact Hv.out
              case measure => simp [intOf]; omega
            | false =>
              rw [hv] at hcall
              have HC := Lib.hid hcall; clear hcall
              have Hv := Lib.hid hv; clear hv
              go_wp2_with (go_at_call 121; refine (HC.out).mono ?_; rintro e w' ⟨rfl, rfl⟩)
              go_ret
              exact ⟨ret_bool (No.out Hv.out).symm, rfl⟩
          · obtain rfl : b = q.length := by omega
            go_wp2_with fail
            go_round
            case rel =>
              refine ⟨a + 1, by omega, by go_num, fun j hj => ?_⟩
              by_cases h : j < a
              · exact hpre j h
              · obtain rfl : j = a := by omega
                exact hpre2
            case measure => simp [intOf]; omega
      · obtain rfl : a = q.length := by omega
        go_wp2_with fail
        go_ret
        exact ⟨ret_bool (Yes.out hpre).symm, rfl⟩
  · have hs' : squareM q = false := by simpa using hs
    rw [hs'] at hsq
    have hno : allM q (transM q) = false := by unfold allM; rw [hs', Bool.false_and]
    have Hsq := Lib.hid hsq; clear hsq
    have Hno := Lib.hid hno; clear hno
    clear hq hc hs hs'
    go_enter Try.func118, Try.ntmps118
    go_wp2_with (go_at_call 78; refine (Hsq.out).mono ?_; rintro e w' ⟨rfl, rfl⟩)
    go_ret
    exact ⟨ret_bool Hno.out.symm, rfl⟩

set_option maxHeartbeats 400000 in
set_option maxRecDepth 100000 in
theorem c_Transitive (q : List (List Bool)) (v : Value) (w : World) (hq : TabAt w w.heap.size v q) :
    Calls Try.prog 81 #[v] w fun e w' => e = .returned (.bool (allM q (transM q))) ∧ Below w.heap.size w w' := by
  have hb : Below w.heap.size w (w.alloc (.cells #[v] 99)) := (Below.refl _ _).alloc (Nat.le_refl _) _
  have hall := c_all_trans q w.heap.size v (w.alloc (.cells #[v] 99)) w.heap.size (hq.below hb) (by simp)
  obtain ⟨qa, qb, qo, c, ra, rb, ro, rc, rfl, _, _⟩ := hq
  have Hall := Lib.hid hall; clear hall
  have Hb := Lib.hid hb; clear hb
  go_enter Try.func81, Try.ntmps81
  go_wp2_with (go_at_call 118; refine (Hall.out).mono ?_; rintro e w' ⟨rfl, rfl⟩)
  go_ret
  exact ⟨rfl, Hb.out⟩
end Go.Proofs.Ytagcdnhkgndhcaa
