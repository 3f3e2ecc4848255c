/- Walks: package order, lists of labels. -/
import Derived.Test.YtagcdnhkgndhcaaOrdB
set_option linter.unusedVariables false
set_option linter.unusedSimpArgs false
namespace Go.Proofs.Ytagcdnhkgndhcaa
open Go.RowKit Go.Hoist

set_option maxHeartbeats 800000 in
set_option maxRecDepth 100000 in
theorem c_has (q : List (List Bool)) (xs : List Int) (B : Nat) (v u : Value) (w : World) (hq : TabAt w B v q) (hx : IntsV w B u xs) :
    Calls Try.prog 122 #[v, u] w fun e w' => e = .returned (.bool (hasM q xs)) ∧ w = w' := by
  have hsq := c_Square q B v w hq
  obtain ⟨qa, qb, qo, c, ra, rb, ro, rc, rfl, _, h2⟩ := hq
  have hqlen := h2.len
  clear h2
  obtain ⟨xa, xb, xo, xc, rfl, hx1⟩ := hx
  obtain ⟨hxl, hxs, _, hxc⟩ := hx1
  have Hsq := Lib.hid hsq; clear hsq
  go_enter Try.func122, Try.ntmps122
  go_wp2_with fail
  go_loop [9] (fun v => ∃ j : Nat, j ≤ xs.length ∧ v = .int .i64 j ∧ Hid (∀ i, i < j → 0 ≤ nth xs i ∧ nth xs i < q.length)) (fun v => xs.length - (intOf v).toNat)
  case atStart => exact ⟨0, by omega, rfl, fun j hj => by omega⟩
  case round =>
    obtain ⟨j, hj, rfl, hpre⟩ := hrel
    by_cases hlt : j < xs.length
    · have h1' := hxs (by omega)
      subst h1'
      have no : ¬ (0 ≤ nth xs j ∧ nth xs j < q.length) → hasM q xs = false := fun h => by
        cases hh : hasM q xs with
        | false => rfl
        | true => exact absurd ((hasM_iff.1 hh).2 j hlt) h
      have No := Lib.hid no; clear no
      by_cases ha : nth xs j < 0
      · have No' := Lib.hid (No.out (by omega))
        go_wp2_with fail
        go_ret
        exact ⟨ret_bool No'.out.symm, rfl⟩
      · by_cases hb : (q.length : Int) ≤ nth xs j
        · have No' := Lib.hid (No.out (by omega))
          go_wp2_with fail
          go_ret
          exact ⟨ret_bool No'.out.symm, rfl⟩
        · go_wp2_with fail
          go_round
          case rel =>
            refine ⟨j + 1, by omega, by go_num, fun i hi => ?_⟩
            by_cases h : i < j
            · exact hpre i h
            · obtain rfl : i = j := by omega
              omega
          case measure => simp [intOf]; omega
    · obtain rfl : j = xs.length := by omega
      have hfin : hasM q xs = squareM q := by
        rw [Bool.eq_iff_iff, hasM_iff]
        exact ⟨fun h => h.1, fun h => ⟨h, hpre⟩⟩
      have Hfin := Lib.hid hfin; clear hfin
      go_wp2_with (go_at_call 78; refine (Hsq.out).mono ?_; rintro e w' ⟨rfl, rfl⟩)
      go_ret
      exact ⟨ret_bool Hfin.out.symm, rfl⟩

set_option maxHeartbeats 800000 in
set_option maxRecDepth 100000 in
theorem c_those_upper (n : Nat) (p : Nat → Bool) (w : World) (c0 c1 c2 : Nat) (hlen : n ≤ 16) (qa : Option Addr) (qc : Nat)
    (call : ∀ (c : Nat) (w1 : World), c < n → Below w.heap.size w w1 → Calls Try.prog 126 #[.int .i64 c, .pointer (some ⟨c0, 0, none⟩), .pointer (some ⟨c1, 0, none⟩), .pointer (some ⟨c2, 0, none⟩)] w1 fun e w' => e = .returned (.bool (p c)) ∧ Below w1.heap.size w1 w') :
    Calls Try.prog 125 #[.slice qa n qc, .func (.func 126) #[] #[.pointer (some ⟨c0, 0, none⟩), .pointer (some ⟨c1, 0, none⟩), .pointer (some ⟨c2, 0, none⟩)]] w
      fun e w' => ∃ u, e = .returned u ∧ w'.ownsRow w.heap.size 3 1 u (thoseM n p).length ((thoseM n p).map (Value.int .i64)) ∧ Below w.heap.size w w' := by
  have Hcall := Lib.hid call; clear call
  go_enter Try.func125, Try.ntmps125
  go_wp2_with fail
  go_loopw [5, 9] (fun u v wr => ∃ c : Nat, c ≤ n ∧ v = .int .i64 c ∧ Hid (wr.ownsRow w.heap.size 3 1 u (thoseM c p).length ((thoseM c p).map (Value.int .i64))) ∧ Hid (Below w.heap.size w wr)) (fun _ v _ => n - (intOf v).toNat)
  case atStart => exact ⟨0, by omega, rfl, ⟨rfl, .inl ⟨rfl, rfl⟩⟩, Below.refl _ _⟩
  case round =>
    obtain ⟨c, hc, rfl, hown, hb⟩ := hrel
    by_cases hlt : c < n
    · have hcall := Hcall.out c wr hlt hb.out
      have HC := Lib.hid hcall; clear hcall
      have hs := thoseM_succ c p
      have hlc := thoseM_length c p
      cases hp : p c with
      | true =>
        rw [hp] at HC
        have hs' : thoseM (c + 1) p = thoseM c p ++ [(c : Int)] := by rw [hs, hp]; rfl
        have Hs := Lib.hid hs'; clear hs' hs hp
        go_wp2_with (first | (go_at_call 126; refine (HC.out).mono ?_; rintro e w1 ⟨rfl, hb1⟩; have HB1 := Lib.hid hb1; clear hb1) | (at_builtin; refine wpApp eltInts rfl _ _ rfl w.heap.size _ _ _ rfl ((own_below hown.out HB1.out).alloc _) w1.heap.size 1 1 [.int .i64 c] rfl rfl (cell_alloc_new _ _ _) (one_int _ _) (by omega) (by decide) (by have := hb.out.size; have := HB1.out.size; simp; omega) ?_; intro u' w2 hown2 hgr2; have HO2 := Lib.hid hown2; have HG2 := Lib.hid hgr2; clear hown2 hgr2))
        go_roundw
        case rel =>
          refine ⟨c + 1, by omega, by go_num, ?_, ?_⟩
          · have h2 := HO2.out
            rw [Hs.out]
            refine Lib.hid ?_
            simpa using h2
          · refine below_grown ((below_then hb.out HB1.out hb.out.size).alloc (by have := hb.out.size; have := HB1.out.size; omega) _) HG2.out (by have := hb.out.size; have := HB1.out.size; simp; omega) ?_
            exact own_ge hown.out
        case measure => simp [intOf]; omega
      | false =>
        rw [hp] at HC
        have hs' : thoseM (c + 1) p = thoseM c p := by rw [hs, hp]; simp
        have Hs := Lib.hid hs'; clear hs' hs hp
        go_wp2_with (go_at_call 126; refine (HC.out).mono ?_; rintro e w1 ⟨rfl, hb1⟩; have HB1 := Lib.hid hb1; clear hb1)
        go_roundw
        case rel =>
          refine ⟨c + 1, by omega, by go_num, ?_, below_then hb.out HB1.out hb.out.size⟩
          rw [Hs.out]
          exact Lib.hid (own_below hown.out HB1.out)
        case measure => simp [intOf]; omega
    · obtain rfl : c = n := by omega
      go_wp2_with fail
      go_ret
      exact ⟨_, rfl, hown.out, hb.out⟩

set_option maxHeartbeats 800000 in
set_option maxRecDepth 100000 in
theorem c_those_lower (n : Nat) (p : Nat → Bool) (w : World) (c0 c1 c2 : Nat) (hlen : n ≤ 16) (qa : Option Addr) (qc : Nat)
    (call : ∀ (c : Nat) (w1 : World), c < n → Below w.heap.size w w1 → Calls Try.prog 128 #[.int .i64 c, .pointer (some ⟨c0, 0, none⟩), .pointer (some ⟨c1, 0, none⟩), .pointer (some ⟨c2, 0, none⟩)] w1 fun e w' => e = .returned (.bool (p c)) ∧ Below w1.heap.size w1 w') :
    Calls Try.prog 125 #[.slice qa n qc, .func (.func 128) #[] #[.pointer (some ⟨c0, 0, none⟩), .pointer (some ⟨c1, 0, none⟩), .pointer (some ⟨c2, 0, none⟩)]] w
      fun e w' => ∃ u, e = .returned u ∧ w'.ownsRow w.heap.size 3 1 u (thoseM n p).length ((thoseM n p).map (Value.int .i64)) ∧ Below w.heap.size w w' := by
  have Hcall := Lib.hid call; clear call
  go_enter Try.func125, Try.ntmps125
  go_wp2_with fail
  go_loopw [5, 9] (fun u v wr => ∃ c : Nat, c ≤ n ∧ v = .int .i64 c ∧ Hid (wr.ownsRow w.heap.size 3 1 u (thoseM c p).length ((thoseM c p).map (Value.int .i64))) ∧ Hid (Below w.heap.size w wr)) (fun _ v _ => n - (intOf v).toNat)
  case atStart => exact ⟨0, by omega, rfl, ⟨rfl, .inl ⟨rfl, rfl⟩⟩, Below.refl _ _⟩
  case round =>
    obtain ⟨c, hc, rfl, hown, hb⟩ := hrel
    by_cases hlt : c < n
    · have hcall := Hcall.out c wr hlt hb.out
      have HC := Lib.hid hcall; clear hcall
      have hs := thoseM_succ c p
      have hlc := thoseM_length c p
      cases hp : p c with
      | true =>
        rw [hp] at HC
        have hs' : thoseM (c + 1) p = thoseM c p ++ [(c : Int)] := by rw [hs, hp]; rfl
        have Hs := Lib.hid hs'; clear hs' hs hp
        go_wp2_with (first | (go_at_call 128; refine (HC.out).mono ?_; rintro e w1 ⟨rfl, hb1⟩; have HB1 := Lib.hid hb1; clear hb1) | (at_builtin; refine wpApp eltInts rfl _ _ rfl w.heap.size _ _ _ rfl ((own_below hown.out HB1.out).alloc _) w1.heap.size 1 1 [.int .i64 c] rfl rfl (cell_alloc_new _ _ _) (one_int _ _) (by omega) (by decide) (by have := hb.out.size; have := HB1.out.size; simp; omega) ?_; intro u' w2 hown2 hgr2; have HO2 := Lib.hid hown2; have HG2 := Lib.hid hgr2; clear hown2 hgr2))
        go_roundw
        case rel =>
          refine ⟨c + 1, by omega, by go_num, ?_, ?_⟩
          · have h2 := HO2.out
            rw [Hs.out]
            refine Lib.hid ?_
            simpa using h2
          · refine below_grown ((below_then hb.out HB1.out hb.out.size).alloc (by have := hb.out.size; have := HB1.out.size; omega) _) HG2.out (by have := hb.out.size; have := HB1.out.size; simp; omega) ?_
            exact own_ge hown.out
        case measure => simp [intOf]; omega
      | false =>
        rw [hp] at HC
        have hs' : thoseM (c + 1) p = thoseM c p := by rw [hs, hp]; simp
        have Hs := Lib.hid hs'; clear hs' hs hp
        go_wp2_with (go_at_call 128; refine (HC.out).mono ?_; rintro e w1 ⟨rfl, hb1⟩; have HB1 := Lib.hid hb1; clear hb1)
        go_roundw
        case rel =>
          refine ⟨c + 1, by omega, by go_num, ?_, below_then hb.out HB1.out hb.out.size⟩
          rw [Hs.out]
          exact Lib.hid (own_below hown.out HB1.out)
        case measure => simp [intOf]; omega
    · obtain rfl : c = n := by omega
      go_wp2_with fail
      go_ret
      exact ⟨_, rfl, hown.out, hb.out⟩
end Go.Proofs.Ytagcdnhkgndhcaa
