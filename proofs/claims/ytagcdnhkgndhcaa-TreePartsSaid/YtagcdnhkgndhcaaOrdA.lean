/- Walks: package order. -/
import Derived.Test.YtagcdnhkgndhcaaOrdM
set_option linter.unusedVariables false
set_option linter.unusedSimpArgs false
namespace Go.Proofs.Ytagcdnhkgndhcaa
open Go.RowKit Go.Hoist

set_option maxHeartbeats 400000 in
set_option maxRecDepth 100000 in
theorem c_Square (q : List (List Bool)) (B : Nat) (v : Value) (w : World) (hq : TabAt w B v q) :
    Calls Try.prog 78 #[v] w fun e w' => e = .returned (.bool (squareM q)) ∧ w = w' := by
  obtain ⟨qa, qb, qo, c, ra, rb, ro, rc, rfl, h1, h2⟩ := hq
  obtain ⟨_, hlen, hrows, _, _, hrle, _⟩ := h2
  go_enter Try.func78, Try.ntmps78
  go_wp2_with fail
  go_loop [7] (fun v => ∃ a : Nat, a ≤ q.length ∧ v = .int .i64 a ∧ Hid (∀ j, j < a → rlen q j = q.length)) (fun v => q.length - (intOf v).toNat)
  case atStart => exact ⟨0, by omega, rfl, fun j hj => by omega⟩
  case round =>
    obtain ⟨a, ha, rfl, hpre⟩ := hrel
    by_cases hlt : a < q.length
    · have h1' := h1 (by omega)
      have hle := hrle a hlt
      subst h1'
      go_wp2_with fail
      · have hne : rlen q a ≠ q.length := fun e => by
          have h : ((rlen q a : Int) != (q.length : Int)) = true := by assumption
          simp [e] at h
        have Hne := squareM_no hlt hne
        go_ret
        exact ⟨ret_bool Hne.symm, rfl⟩
      · have heq : rlen q a = q.length := by
          have h : ((rlen q a : Int) != (q.length : Int)) = false := by assumption
          simp at h
          omega
        go_round
        case rel =>
          refine ⟨a + 1, by omega, by go_num, fun j hj => ?_⟩
          by_cases h : j < a
          · exact hpre j h
          · obtain rfl : j = a := by omega
            exact heq
        case measure => simp [intOf]; omega
    · obtain rfl : a = q.length := by omega
      go_wp2_with fail
      all_goals
        go_ret
        refine ⟨ret_bool ?_, rfl⟩
        rw [squareM_yes hpre, Bool.eq_iff_iff]
        simp
        omega

set_option maxHeartbeats 400000 in
set_option maxRecDepth 100000 in
theorem c_refl1 (q : List (List Bool)) (B : Nat) (v : Value) (w : World) (cp : Nat) (a b : Nat) (hq : SqAt w B v q) (hc : w.cell? ⟨cp, 0, none⟩ = some v) (ha : a < q.length) (hb : b < q.length) :
    Calls Try.prog 119 #[.int .i64 a, .int .i64 b, .pointer (some ⟨cp, 0, none⟩)] w fun e w' => e = .returned (.bool (reflM q a b)) ∧ w = w' := by
  obtain ⟨qb, qo, c, rb, ro, rc, rfl, h1⟩ := hq
  obtain ⟨_, hpos, hle, hrows, _, hcells⟩ := h1
  go_enter Try.func119, Try.ntmps119
  go_wp2_with fail
  go_ret
  exact ⟨rfl, rfl⟩

set_option maxHeartbeats 400000 in
set_option maxRecDepth 100000 in
theorem c_anti1 (q : List (List Bool)) (B : Nat) (v : Value) (w : World) (cp : Nat) (a b : Nat) (hq : SqAt w B v q) (hc : w.cell? ⟨cp, 0, none⟩ = some v) (ha : a < q.length) (hb : b < q.length) :
    Calls Try.prog 120 #[.int .i64 a, .int .i64 b, .pointer (some ⟨cp, 0, none⟩)] w fun e w' => e = .returned (.bool (antiM q a b)) ∧ w = w' := by
  obtain ⟨qb, qo, c, rb, ro, rc, rfl, h1⟩ := hq
  obtain ⟨_, hpos, hle, hrows, _, hcells⟩ := h1
  go_enter Try.func120, Try.ntmps120
  go_wp2_with fail
  all_goals
    go_ret
    refine ⟨ret_bool ?_, rfl⟩
    have e : ((a : Int) == (b : Int)) = decide (a = b) := by
      rw [Bool.eq_iff_iff]
      simp
      omega
    unfold antiM
    by_cases hab : a = b
    · simp [hab]
    · rw [← e]
      have h' : ((a : Int) == (b : Int)) = false := by rw [e]; simpa using hab
      simp_all

set_option maxHeartbeats 400000 in
set_option maxRecDepth 100000 in
theorem c_least1 (q : List (List Bool)) (B : Nat) (v : Value) (w : World) (cp : Nat) (a b : Nat) (hq : SqAt w B v q) (hc : w.cell? ⟨cp, 0, none⟩ = some v) (ha : a < q.length) (hb : b < q.length) :
    Calls Try.prog 124 #[.int .i64 a, .int .i64 b, .pointer (some ⟨cp, 0, none⟩)] w fun e w' => e = .returned (.bool (bit q a b)) ∧ w = w' := by
  obtain ⟨qb, qo, c, rb, ro, rc, rfl, h1⟩ := hq
  obtain ⟨_, hpos, hle, hrows, _, hcells⟩ := h1
  go_enter Try.func124, Try.ntmps124
  go_wp2_with fail
  go_ret
  exact ⟨rfl, rfl⟩

set_option maxHeartbeats 400000 in
set_option maxRecDepth 100000 in
theorem c_greatest1 (q : List (List Bool)) (B : Nat) (v : Value) (w : World) (cp : Nat) (a b : Nat) (hq : SqAt w B v q) (hc : w.cell? ⟨cp, 0, none⟩ = some v) (ha : a < q.length) (hb : b < q.length) :
    Calls Try.prog 127 #[.int .i64 a, .int .i64 b, .pointer (some ⟨cp, 0, none⟩)] w fun e w' => e = .returned (.bool (bit q b a)) ∧ w = w' := by
  obtain ⟨qb, qo, c, rb, ro, rc, rfl, h1⟩ := hq
  obtain ⟨_, hpos, hle, hrows, _, hcells⟩ := h1
  go_enter Try.func127, Try.ntmps127
  go_wp2_with fail
  go_ret
  exact ⟨rfl, rfl⟩

set_option maxHeartbeats 400000 in
set_option maxRecDepth 100000 in
theorem c_upper1 (q : List (List Bool)) (B : Nat) (v : Value) (w : World) (cp : Nat) (ca cb a b c : Nat) (hq : SqAt w B v q) (hc : w.cell? ⟨cp, 0, none⟩ = some v) (ha : a < q.length) (hb : b < q.length) (hcc : c < q.length) (h2 : w.cell? ⟨ca, 0, none⟩ = some (.int .i64 a)) (h3 : w.cell? ⟨cb, 0, none⟩ = some (.int .i64 b)) :
    Calls Try.prog 126 #[.int .i64 c, .pointer (some ⟨cp, 0, none⟩), .pointer (some ⟨ca, 0, none⟩), .pointer (some ⟨cb, 0, none⟩)] w fun e w' => e = .returned (.bool (bit q a c && bit q b c)) ∧ w = w' := by
  obtain ⟨qb, qo, cc, rb, ro, rc, rfl, h1⟩ := hq
  obtain ⟨_, hpos, hle, hrows, _, hcells⟩ := h1
  go_enter Try.func126, Try.ntmps126
  go_wp2_with fail
  all_goals
    go_ret
    refine ⟨ret_bool ?_, rfl⟩
    simp_all

set_option maxHeartbeats 400000 in
set_option maxRecDepth 100000 in
theorem c_trans1 (q : List (List Bool)) (B : Nat) (v : Value) (w : World) (cp : Nat) (a b : Nat) (hq : SqAt w B v q) (hc : w.cell? ⟨cp, 0, none⟩ = some v) (ha : a < q.length) (hb : b < q.length) :
    Calls Try.prog 121 #[.int .i64 a, .int .i64 b, .pointer (some ⟨cp, 0, none⟩)] w fun e w' => e = .returned (.bool (transM q a b)) ∧ w = w' := by
  obtain ⟨qb, qo, c, rb, ro, rc, rfl, h1⟩ := hq
  obtain ⟨_, hpos, hle, hrows, _, hcells⟩ := h1
  go_enter Try.func121, Try.ntmps121
  go_wp2_with fail
  go_loop [9] (fun v => ∃ c : Nat, c ≤ q.length ∧ v = .int .i64 c ∧ Hid (∀ j, j < c → (bit q a b && bit q b j && !bit q a j) = false)) (fun v => q.length - (intOf v).toNat)
  case atStart => exact ⟨0, by omega, rfl, fun j hj => by omega⟩
  case round =>
    obtain ⟨c, hcl, rfl, hpre⟩ := hrel
    by_cases hlt : c < q.length
    · have key : (bit q a b && bit q b c && !bit q a c) = true → transM q a b = false := fun h => by
        unfold transM
        exact List.all_eq_false.2 ⟨c, List.mem_range.2 hlt, by rw [h]; decide⟩
      have Key := Lib.hid key; clear key
      have next : (bit q a b && bit q b c && !bit q a c) = false → ∀ j, j < c + 1 → (bit q a b && bit q b j && !bit q a j) = false := fun h j hj => by
        by_cases hj' : j < c
        · exact hpre j hj'
        · obtain rfl : j = c := by omega
          exact h
      have Next := Lib.hid next; clear next
      go_wp2_with fail
      all_goals first
        | (go_ret
           exact ⟨ret_bool (Key.out (by simp_all)).symm, rfl⟩)
        | (go_round
           case rel => exact ⟨c + 1, by omega, by go_num, Next.out (by simp_all)⟩
           case measure => simp [intOf]; omega)
    · obtain rfl : c = q.length := by omega
      have hyes : transM q a b = true := by
        unfold transM
        simp only [List.all_eq_true, List.mem_range]
        intro j hj
        rw [hpre j hj]
        rfl
      have Hyes := Lib.hid hyes; clear hyes
      go_wp2_with fail
      go_ret
      exact ⟨ret_bool Hyes.out.symm, rfl⟩
end Go.Proofs.Ytagcdnhkgndhcaa
