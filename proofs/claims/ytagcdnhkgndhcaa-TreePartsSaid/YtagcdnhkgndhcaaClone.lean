/- Walks: slices.Clone at flat elements: what is cloned is one's own, in a new block; nil stays nil. -/
import Derived.Test.YtagcdnhkgndhcaaOwn
set_option linter.unusedVariables false
set_option linter.unusedSimpArgs false
namespace Go.Proofs.Ytagcdnhkgndhcaa
open Go.RowKit Go.Hoist

theorem eltBools : Elt Try.prog 165 4 (.bool false) 1 1 := ⟨by kernel_rfl, by kernel_rfl, rfl, by decide⟩
set_option maxHeartbeats 400000 in
theorem c_cloneBools_nil (w : World) : Calls Try.prog 130 #[.slice none 0 0] w fun e w' => e = .returned (.slice none 0 0) ∧ w = w' := by
  have heq := fun w => Lib.run_eql_slice_nil (P := Try.prog) w 165 4 none 0 0 0 0 eltBools.ht
  go_enter Try.func130, Try.ntmps130
  go_wp2_with fail
  go_ret
  exact ⟨rfl, rfl⟩
set_option maxHeartbeats 400000 in
theorem c_cloneBools (ad : Addr) (n c : Nat) (xs : List Value) (w : World) (hx : RdAt w ad xs) (hl : xs.length = n * 1) (h1 : ∀ u ∈ xs, u.oneCell' = true) (hn : n ≤ 65536) (hB : ad.block < w.heap.size) :
    Calls Try.prog 130 #[.slice (some ad) n c] w fun e w' => ∃ v, e = .returned v ∧ w'.ownsRow w.heap.size 4 1 v n xs ∧ v ≠ .slice none 0 0 ∧ Below w.heap.size w w' := by
  have heq := fun w => Lib.run_eql_slice_nil (P := Try.prog) w 165 4 (some ad) n c 0 0 eltBools.ht
  have HX := Lib.hid hx; clear hx
  have HL := Lib.hid hl; clear hl
  have H1 := Lib.hid h1; clear h1
  go_enter Try.func130, Try.ntmps130
  go_wp2_with (at_builtin; refine wpAppAt eltBools rfl _ _ rfl w.heap.size _ 0 [] rfl (own_empty w _ 4 1 (Nat.le_refl _)) ad n c xs rfl HL.out (HX.out.below ((Below.refl _ _).alloc (Nat.le_refl _) _) hB) H1.out (by omega) (by decide) (by simp) ?_; intro v' w' hown hgr hnil hat; have HO := Lib.hid hown; have HG := Lib.hid hgr; have HN := Lib.hid hnil; clear hown hgr hnil hat)
  go_ret
  refine ⟨_, rfl, by simpa using HO.out, fun h => ?_, ?_⟩
  · have := (HN.out.1 h).1
    cases this
  · exact below_grown ((Below.refl _ _).alloc (Nat.le_refl _) _) HG.out (by simp) (by intro b hb; cases hb; exact Nat.le_refl _)

theorem eltBytes : Elt Try.prog 22 5 (.int .u8 0) 1 1 := ⟨by kernel_rfl, by kernel_rfl, rfl, by decide⟩
set_option maxHeartbeats 400000 in
theorem c_cloneBytes_nil (w : World) : Calls Try.prog 104 #[.slice none 0 0] w fun e w' => e = .returned (.slice none 0 0) ∧ w = w' := by
  have heq := fun w => Lib.run_eql_slice_nil (P := Try.prog) w 22 5 none 0 0 0 0 eltBytes.ht
  go_enter Try.func104, Try.ntmps104
  go_wp2_with fail
  go_ret
  exact ⟨rfl, rfl⟩
set_option maxHeartbeats 400000 in
theorem c_cloneBytes (ad : Addr) (n c : Nat) (xs : List Value) (w : World) (hx : RdAt w ad xs) (hl : xs.length = n * 1) (h1 : ∀ u ∈ xs, u.oneCell' = true) (hn : n ≤ 65536) (hB : ad.block < w.heap.size) :
    Calls Try.prog 104 #[.slice (some ad) n c] w fun e w' => ∃ v, e = .returned v ∧ w'.ownsRow w.heap.size 5 1 v n xs ∧ v ≠ .slice none 0 0 ∧ Below w.heap.size w w' := by
  have heq := fun w => Lib.run_eql_slice_nil (P := Try.prog) w 22 5 (some ad) n c 0 0 eltBytes.ht
  have HX := Lib.hid hx; clear hx
  have HL := Lib.hid hl; clear hl
  have H1 := Lib.hid h1; clear h1
  go_enter Try.func104, Try.ntmps104
  go_wp2_with (at_builtin; refine wpAppAt eltBytes rfl _ _ rfl w.heap.size _ 0 [] rfl (own_empty w _ 5 1 (Nat.le_refl _)) ad n c xs rfl HL.out (HX.out.below ((Below.refl _ _).alloc (Nat.le_refl _) _) hB) H1.out (by omega) (by decide) (by simp) ?_; intro v' w' hown hgr hnil hat; have HO := Lib.hid hown; have HG := Lib.hid hgr; have HN := Lib.hid hnil; clear hown hgr hnil hat)
  go_ret
  refine ⟨_, rfl, by simpa using HO.out, fun h => ?_, ?_⟩
  · have := (HN.out.1 h).1
    cases this
  · exact below_grown ((Below.refl _ _).alloc (Nat.le_refl _) _) HG.out (by simp) (by intro b hb; cases hb; exact Nat.le_refl _)

theorem eltI32s : Elt Try.prog 44 21 (.int .i32 0) 1 4 := ⟨by kernel_rfl, by kernel_rfl, rfl, by decide⟩
set_option maxHeartbeats 400000 in
theorem c_cloneI32s_nil (w : World) : Calls Try.prog 155 #[.slice none 0 0] w fun e w' => e = .returned (.slice none 0 0) ∧ w = w' := by
  have heq := fun w => Lib.run_eql_slice_nil (P := Try.prog) w 44 21 none 0 0 0 0 eltI32s.ht
  go_enter Try.func155, Try.ntmps155
  go_wp2_with fail
  go_ret
  exact ⟨rfl, rfl⟩
set_option maxHeartbeats 400000 in
theorem c_cloneI32s (ad : Addr) (n c : Nat) (xs : List Value) (w : World) (hx : RdAt w ad xs) (hl : xs.length = n * 1) (h1 : ∀ u ∈ xs, u.oneCell' = true) (hn : n ≤ 65536) (hB : ad.block < w.heap.size) :
    Calls Try.prog 155 #[.slice (some ad) n c] w fun e w' => ∃ v, e = .returned v ∧ w'.ownsRow w.heap.size 21 1 v n xs ∧ v ≠ .slice none 0 0 ∧ Below w.heap.size w w' := by
  have heq := fun w => Lib.run_eql_slice_nil (P := Try.prog) w 44 21 (some ad) n c 0 0 eltI32s.ht
  have HX := Lib.hid hx; clear hx
  have HL := Lib.hid hl; clear hl
  have H1 := Lib.hid h1; clear h1
  go_enter Try.func155, Try.ntmps155
  go_wp2_with (at_builtin; refine wpAppAt eltI32s rfl _ _ rfl w.heap.size _ 0 [] rfl (own_empty w _ 21 1 (Nat.le_refl _)) ad n c xs rfl HL.out (HX.out.below ((Below.refl _ _).alloc (Nat.le_refl _) _) hB) H1.out (by omega) (by decide) (by simp) ?_; intro v' w' hown hgr hnil hat; have HO := Lib.hid hown; have HG := Lib.hid hgr; have HN := Lib.hid hnil; clear hown hgr hnil hat)
  go_ret
  refine ⟨_, rfl, by simpa using HO.out, fun h => ?_, ?_⟩
  · have := (HN.out.1 h).1
    cases this
  · exact below_grown ((Below.refl _ _).alloc (Nat.le_refl _) _) HG.out (by simp) (by intro b hb; cases hb; exact Nat.le_refl _)
end Go.Proofs.Ytagcdnhkgndhcaa
