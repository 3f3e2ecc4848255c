/- Walks: confidantlaw29.TreeDiffs. -/
import Derived.Test.YtagcdnhkgndhcaaKnown29
set_option linter.unusedVariables false
set_option linter.unusedSimpArgs false
namespace Go.Proofs.Ytagcdnhkgndhcaa
open Go.RowKit Go.Hoist

def kt1 (a b L : Int) (k : Value) : List (TN × Value) := [(⟨4, 0, 0, [1, 2]⟩, k), (⟨1, a, L, []⟩, .slice none 0 0), (⟨1, b, 0, []⟩, .slice none 0 0)]
def t1 (a b L : Int) : List TN := [⟨4, 0, 0, [1, 2]⟩, ⟨1, a, L, []⟩, ⟨1, b, 0, []⟩]
def kt2 (a b L : Int) (k : Value) : List (TN × Value) := [(⟨4, 0, 0, [1, 2, 3]⟩, k), (⟨1, a, L, []⟩, .slice none 0 0), (⟨1, b, 0, []⟩, .slice none 0 0), (⟨1, 0, 0, []⟩, .slice none 0 0)]
def t2 (a b L : Int) : List TN := [⟨4, 0, 0, [1, 2, 3]⟩, ⟨1, a, L, []⟩, ⟨1, b, 0, []⟩, ⟨1, 0, 0, []⟩]
theorem range3 : List.range 3 = [0, 1, 2] := rfl
theorem t1_nodes (a b L M : Int) : (List.range 3).all (fun i => nodeOk (t1 a b L) i M) = (decide (0 < M) && (decide (0 ≤ L) && decide (L < M))) := by
  rw [range3]
  simp only [List.all_cons, List.all_nil, nodeOk, t1, List.getD_cons_zero, List.getD_cons_succ, kidsOk, List.length_cons, List.length_nil]
  by_cases h1 : 0 < M <;> by_cases h2 : 0 ≤ L <;> by_cases h3 : L < M <;> simp [h1, h2, h3]
theorem t1_right (a b L M : Int) : rightM (t1 a b L) M = (decide (0 < M) && (decide (0 ≤ L) && decide (L < M))) := by
  have h := t1_nodes a b L M
  unfold rightM
  rw [show (t1 a b L).length = 3 from rfl, h]
  have : (List.drop 1 (ofsUpto (t1 a b L) 3)) = [1, 1] := rfl
  rw [this]
  simp
theorem t2_right (a b L M : Int) : rightM (t2 a b L) M = false := by
  cases h : rightM (t2 a b L) M with
  | false => rfl
  | true =>
    have := Good.diff (rightM_good h) (i := 0) (show 0 < 4 by decide) rfl
    exact absurd (show 3 = 2 from this) (by decide)
theorem t1_val (a b L : Int) : valF (t1 a b L) 3 0 = wrap32 (a - b) := rfl
theorem t1_code (a b L : Int) : codeM (t1 a b L) 0 = (1, L) :: (codeM (t1 a b L) 0).tail := rfl
theorem t1_codelen (a b L : Int) : (codeM (t1 a b L) 0).length = 14 := rfl
theorem t1_own (w : World) (a b L : Int) : TreeOwn ((w.alloc (.cells #[.int .i64 1, .int .i64 2] 3)).alloc (.cells #[.int .i64 4, .int .i32 0, .int .i64 0, .slice (some ⟨w.heap.size, 0, none⟩) 2 2, .int .i64 1, .int .i32 a, .int .i64 L, .slice none 0 0, .int .i64 1, .int .i32 b, .int .i64 0, .slice none 0 0] 30)) w.heap.size (.slice (some ⟨w.heap.size + 1, 0, none⟩) 3 3) (kt1 a b L (.slice (some ⟨w.heap.size, 0, none⟩) 2 2)) := by
  refine ⟨?_, ?_, ?_, by simp [kt1]⟩
  · have := own_build (w.alloc (.cells #[.int .i64 1, .int .i64 2] 3)) w.heap.size 30 4 3 #[.int .i64 4, .int .i32 0, .int .i64 0, .slice (some ⟨w.heap.size, 0, none⟩) 2 2, .int .i64 1, .int .i32 a, .int .i64 L, .slice none 0 0, .int .i64 1, .int .i32 b, .int .i64 0, .slice none 0 0] _ rfl (by simp) (by decide) rfl
    simpa [kt1, treeC, nodeC] using this
  · intro p hp
    simp only [kt1, List.mem_cons, List.not_mem_nil, or_false] at hp
    rcases hp with rfl | rfl | rfl
    · exact (own_build w w.heap.size 3 1 2 #[.int .i64 1, .int .i64 2] _ rfl (Nat.le_refl _) (by decide) rfl).alloc _
    · exact kids_nil _ _
    · exact kids_nil _ _
  · intro p hp
    simp only [kt1, List.mem_cons, List.not_mem_nil, or_false] at hp
    rcases hp with rfl | rfl | rfl <;> simp
theorem treeC_one (l : List (TN × Value)) (h : ∀ p ∈ l, p.2.oneCell' = true) : ∀ u ∈ treeC l, u.oneCell' = true := by
  intro u hu
  simp only [treeC, List.mem_flatMap] at hu
  obtain ⟨p, hp, hu⟩ := hu
  simp only [nodeC, List.mem_cons, List.not_mem_nil, or_false] at hu
  rcases hu with rfl | rfl | rfl | rfl
  · rfl
  · rfl
  · rfl
  · exact h p hp
/-- A cell of one's own is written. -/
theorem own_set {w : World} {base : Nat} {e : TypeId} {size n : Nat} {g cap : Nat} {xs : List Value} (h : w.ownsRow base e size (.slice (some ⟨g, 0, none⟩) n cap) n xs) (o : Nat) (x : Value) : (w.setCell ⟨g, o, none⟩ x).ownsRow base e size (.slice (some ⟨g, 0, none⟩) n cap) n (xs.set o x) := by
  obtain ⟨hl, h2⟩ := h
  refine ⟨by rw [List.length_set]; exact hl, ?_⟩
  rcases h2 with ⟨h2, _⟩ | ⟨g', cap', cur, h2, h3, h4, h5, h6, h7, h8⟩
  · cases h2
  · cases h2
    refine .inr ⟨g, cap, cur.setIfInBounds o x, rfl, h3, Blk.set (show Blk w g e cur from h4) o x, h5, h6, by simpa using h7, ?_⟩
    rw [Array.toList_setIfInBounds, ← h8, List.take_set]
theorem own_read {w : World} {base : Nat} {e : TypeId} {size n : Nat} {g cap : Nat} {xs : List Value} (h : w.ownsRow base e size (.slice (some ⟨g, 0, none⟩) n cap) n xs) {o : Nat} {u : Value} (ho : xs[o]? = some u) : w.cell? ⟨g, o, none⟩ = some u ∧ w.frozen? ⟨g, o, none⟩ = false := by
  refine ⟨?_, ?_⟩
  · have := h.cells (g := g) rfl o u ho
    rwa [add_mk, Nat.zero_add] at this
  · rcases h.2 with ⟨h2, _⟩ | ⟨g', cap', cur, h2, h3, h4, h5⟩
    · cases h2
    · cases h2
      exact Blk.free (show Blk w g e cur from h4) o
theorem own_setOther {w : World} {base : Nat} {e : TypeId} {size n : Nat} {v : Value} {xs : List Value} (h : w.ownsRow base e size v n xs) (b o : Nat) (x : Value) (hne : v.ownBlock ≠ some b) : (w.setCell ⟨b, o, none⟩ x).ownsRow base e size v n xs := by
  refine ⟨h.1, ?_⟩
  rcases h.2 with h2 | ⟨g, cap, cur, h2, h3, h4, h5⟩
  · exact .inl h2
  · refine .inr ⟨g, cap, cur, h2, h3, Blk.other (show Blk w g e cur from h4) x (fun e => hne (by rw [h2, e]; rfl)), h5⟩

set_option maxHeartbeats 1600000 in
set_option maxRecDepth 100000 in
theorem c_TreeDiffs (a b lab : Int) (w : World) (ha : -2147483648 ≤ a) (ha2 : a ≤ 2147483647) (hb : -2147483648 ≤ b) (hb2 : b ≤ 2147483647) (h0 : 0 ≤ lab) (h1 : lab ≤ 255) :
    Calls Try.prog 4 #[.int .i32 a, .int .i32 b, .int .u8 lab] w fun e w' => e = .returned (.bool true) ∧ Below w.heap.size w w' := by
  have hL0 : 0 ≤ lab % 16 := by omega
  have hL1 : lab % 16 ≤ 15 := by omega
  go_enter Try.func4, Try.ntmps4
  go_wp2_with fail
  refine (c_known29 w).mono ?_
  rintro e w0 ⟨rfl, hb0⟩
  have HB0 := Lib.hid hb0; clear hb0
  go_upto_region 4 with fail
  obtain ⟨tb, cap, hv, hT, hC, hlo⟩ := (t1_own w0 a b (lab % 16)).tree (by simp [kt1])
  have hO := t1_own w0 a b (lab % 16)
  have hB1 : Below w0.heap.size w0 ((w0.alloc (.cells #[.int .i64 1, .int .i64 2] 3)).alloc (.cells #[.int .i64 4, .int .i32 0, .int .i64 0, .slice (some ⟨w0.heap.size, 0, none⟩) 2 2, .int .i64 1, .int .i32 a, .int .i64 (lab % 16), .slice none 0 0, .int .i64 1, .int .i32 b, .int .i64 0, .slice none 0 0] 30)) := ((Below.refl _ w0).alloc (Nat.le_refl _) _).alloc (by simp) _
  obtain ⟨W1, hW1⟩ : ∃ W1, ((w0.alloc (.cells #[.int .i64 1, .int .i64 2] 3)).alloc (.cells #[.int .i64 4, .int .i32 0, .int .i64 0, .slice (some ⟨w0.heap.size, 0, none⟩) 2 2, .int .i64 1, .int .i32 a, .int .i64 (lab % 16), .slice none 0 0, .int .i64 1, .int .i32 b, .int .i64 0, .slice none 0 0] 30)) = W1 := ⟨_, rfl⟩
  rw [hW1] at hT hC hB1 hO ⊢
  have Hv' : Hid ((Value.slice (some ⟨w0.heap.size + 1, 0, none⟩) 3 3) = .slice (some ⟨tb, 0, none⟩) 3 cap) := Lib.hid hv
  rw [Hv'.out] at hO
  rw [Hv'.out]
  have HO := Lib.hid hO
  have HT := Lib.hid (show TreeAt W1 W1.heap.size tb (t1 a b (lab % 16)) from hT)
  have HC := Lib.hid (show CapAt W1 tb (t1 a b (lab % 16)) from hC)
  have HB1 := Lib.hid hB1
  clear hT hC hO hB1 hW1 hv Hv'
  have hr16 : rightM (t1 a b (lab % 16)) 16 = true := by rw [t1_right]; simp; omega
  have h13 := c_Value tb cap (t1 a b (lab % 16)) W1 HT.out
  rw [show (t1 a b (lab % 16)).length = 3 from rfl, hr16, t1_val] at h13
  have H13 := Lib.hid h13; clear h13
  have Hr16 := Lib.hid hr16; clear hr16
  go_wp2_with fail
  refine H13.out.mono ?_
  rintro e w1 ⟨rfl, hb1⟩
  have HB2 := Lib.hid hb1; clear hb1 H13
  have h15 := c_Compile tb cap (t1 a b (lab % 16)) w1 ((HT.out.below HB2.out (Nat.le_refl _)).mono HB2.out.size) (HC.out.below HB2.out HT.out.1)
  rw [show (t1 a b (lab % 16)).length = 3 from rfl, Hr16.out] at h15
  have H15 := Lib.hid h15; clear h15
  go_wp2_with fail
  refine H15.out.mono ?_
  rintro e w2 ⟨v2, rfl, hn2, hb2⟩
  obtain ⟨xs, hx1, hx2⟩ := hn2 (by simp)
  obtain ⟨g, c2, rfl, hlo2, hlt2, hrd2⟩ := own_pos hx1 (by decide)
  obtain ⟨u, hu1, hu2⟩ := hx2 0 (by decide)
  have hu2' : w2.ownsRow w1.heap.size 38 2 u 14 (icells (codeM (t1 a b (lab % 16)) 0)) := hu2
  obtain ⟨g2, c3, rfl, _, hlt3, hrd3⟩ := own_pos hu2' (by decide)
  have hcell : w2.cell? ⟨g, 0, none⟩ = some (.slice (some ⟨g2, 0, none⟩) 14 c3) := by have := hrd2 0 _ hu1; rwa [add_mk] at this
  have hcell3 : w2.cell? ⟨g2, 1, none⟩ = some (.int .i32 (lab % 16)) := by
    have := hrd3 1 (.int .i32 (lab % 16)) (by rw [t1_code]; rfl)
    rwa [add_mk] at this
  have HCELL := Lib.hid hcell
  have HCELL3 := Lib.hid hcell3
  have HB3 := Lib.hid (below_then HB2.out hb2 HB2.out.size)
  have hs1 := HB3.out.size
  have HO2 := Lib.hid (HO.out.below HB3.out)
  clear hn2 hb2 hx1 hx2 hrd2 hu1 hu2 hu2' hcell H15 hrd3 hcell3
  go_upto_region 8 with (first | (at_builtin; refine wpAppAt eltTree rfl _ _ rfl w2.heap.size (.slice none 0 0) 0 [] rfl ⟨rfl, .inl ⟨rfl, rfl⟩⟩ ⟨tb, 0, none⟩ 3 cap (treeC (kt1 a b (lab % 16) (.slice (some ⟨w0.heap.size, 0, none⟩) 2 2))) rfl rfl (RdAt.of_own HO2.out.row rfl) (treeC_one _ (by intro p hp; simp only [kt1, List.mem_cons, List.not_mem_nil, or_false] at hp; rcases hp with rfl | rfl | rfl <;> rfl)) (by omega) (by decide) (Nat.le_refl _) ?_; intro v3 w3 hown3 hgr3 _ _; have HO3 := Lib.hid hown3; have HG3 := Lib.hid hgr3; clear hown3 hgr3) | (at_builtin; refine wpAppAt eltTree rfl _ _ rfl w2.heap.size _ _ _ rfl (HO3.out.alloc _) ⟨w3.heap.size, 0, none⟩ 1 1 [.int .i64 1, .int .i32 0, .int .i64 0, .slice none 0 0] rfl rfl (RdAt.blk (Blk.new _ _ _)) (by intro u hu; simp only [List.mem_cons, List.not_mem_nil, or_false] at hu; rcases hu with rfl | rfl | rfl | rfl <;> rfl) (by omega) (by decide) (by have := HG3.out.size; simp; omega) ?_; intro v4 w4 hown4 hgr4 _ _; obtain ⟨g4, cap4, hsh, hlo4, hlt4, _⟩ := own_pos hown4 (by decide); subst hsh; have hrd := own_read hown4 (o := 3) (u := .slice (some ⟨w0.heap.size, 0, none⟩) 2 2) rfl; obtain ⟨hrd1, hrd2⟩ := hrd; have HO4 := Lib.hid hown4; have HG4 := Lib.hid hgr4; clear hown4 hgr4))
  obtain ⟨W5, hW5⟩ : ∃ W5, (w4.setCell ⟨g4, 3, none⟩ (.slice (some ⟨w4.heap.size, 0, none⟩) 3 3)).alloc (.cells #[.int .i64 1, .int .i64 2, .int .i64 3] 3) = W5 := ⟨_, rfl⟩
  have hO5 : TreeOwn W5 w2.heap.size (.slice (some ⟨g4, 0, none⟩) 4 cap4) (kt2 a b (lab % 16) (.slice (some ⟨w4.heap.size, 0, none⟩) 3 3)) := by
    rw [← hW5]
    refine ⟨(own_set HO4.out 3 _).alloc _, ?_, ?_, by simp [kt2]⟩
    · intro p hp
      simp only [kt2, List.mem_cons, List.not_mem_nil, or_false] at hp
      rcases hp with rfl | rfl | rfl | rfl
      · have := own_build (w4.setCell ⟨g4, 3, none⟩ (.slice (some ⟨w4.heap.size, 0, none⟩) 3 3)) w2.heap.size 3 1 3 #[.int .i64 1, .int .i64 2, .int .i64 3] _ rfl (by simp; omega) (by decide) rfl
        simpa using this
      · exact kids_nil _ _
      · exact kids_nil _ _
      · exact kids_nil _ _
    · intro p hp
      simp only [kt2, List.mem_cons, List.not_mem_nil, or_false] at hp
      rcases hp with rfl | rfl | rfl | rfl <;> simp
  have hgr : Below w2.heap.size w2 W5 := by
    rw [← hW5]
    have b3 : Below w2.heap.size w2 w3 := below_grown (Below.refl _ _) HG3.out (Nat.le_refl _) (by intro b h; cases h)
    have b4 : Below w2.heap.size w2 w4 := below_grown (b3.alloc b3.size _) HG4.out (by have := b3.size; simp; omega) (own_ge HO3.out)
    exact (b4.setCell hlo4 _).alloc (by have := b4.size; simp; omega) _
  obtain ⟨tb5, cap5, hv5, hT5, _, _⟩ := hO5.tree (by simp [kt2])
  cases hv5
  have HT5 := Lib.hid (show TreeAt W5 W5.heap.size g4 (t2 a b (lab % 16)) from hT5)
  rw [hW5]
  have HG := Lib.hid hgr
  have hc1 := (hgr.cell (p := ⟨g, 0, none⟩) hlt2).trans HCELL.out
  have hc2 := (hgr.cell (p := ⟨g2, 1, none⟩) hlt3).trans HCELL3.out
  have HB5 := Lib.hid (below_then HB3.out hgr HB3.out.size)
  have h16 := c_right g4 cap4 16 (t2 a b (lab % 16)) W5 HT5.out
  rw [show (t2 a b (lab % 16)).length = 4 from rfl, t2_right] at h16
  have H16 := Lib.hid h16
  clear h16 hgr hT5 hO5 hW5 hrd1 hrd2
  go_wp2_with fail
  refine H16.out.mono ?_
  rintro e w6 ⟨rfl, hb6⟩
  have HB6 := Lib.hid (below_then HB5.out hb6 HB5.out.size)
  clear hb6 H16 hc1 hc2
  have h16 := c_right tb cap 16 (t1 a b (lab % 16)) w6 ((HT.out.below HB6.out (Nat.le_refl _)).mono HB6.out.size)
  rw [show (t1 a b (lab % 16)).length = 3 from rfl, Hr16.out] at h16
  have H16 := Lib.hid h16
  clear h16
  go_wp2_with fail
  refine H16.out.mono ?_
  rintro e w7 ⟨rfl, hb7⟩
  have HB7 := Lib.hid (below_then HB6.out hb7 HB6.out.size)
  clear hb7 H16
  have h16 := c_right tb cap (lab % 16 + 1) (t1 a b (lab % 16)) w7 ((HT.out.below HB7.out (Nat.le_refl _)).mono HB7.out.size)
  rw [show (t1 a b (lab % 16)).length = 3 from rfl, show rightM (t1 a b (lab % 16)) (lab % 16 + 1) = true by rw [t1_right]; simp; omega] at h16
  have H16 := Lib.hid h16
  clear h16
  go_wp2_with fail
  refine H16.out.mono ?_
  rintro e w8 ⟨rfl, hb8⟩
  have HB8 := Lib.hid (below_then HB7.out hb8 HB7.out.size)
  clear hb8 H16
  have h16 := c_right tb cap (lab % 16) (t1 a b (lab % 16)) w8 ((HT.out.below HB8.out (Nat.le_refl _)).mono HB8.out.size)
  rw [show (t1 a b (lab % 16)).length = 3 from rfl, show rightM (t1 a b (lab % 16)) (lab % 16) = false by rw [t1_right]; simp] at h16
  have H16 := Lib.hid h16
  clear h16
  go_wp2_with fail
  refine H16.out.mono ?_
  rintro e w9 ⟨rfl, hb9⟩
  have HB9 := Lib.hid (below_then HB8.out hb9 HB8.out.size)
  clear hb9 H16
  go_wp2_with fail
  go_ret
  exact ⟨rfl, below_then HB0.out (HB1.out.trans ⟨HB9.out.os, HB9.out.tape, HB9.out.output, HB9.out.size, fun q hq => HB9.out.block q (Nat.lt_of_lt_of_le hq HB1.out.size)⟩) HB0.out.size⟩
end Go.Proofs.Ytagcdnhkgndhcaa
