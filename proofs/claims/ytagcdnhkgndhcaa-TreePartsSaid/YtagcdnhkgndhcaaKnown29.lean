/- Walks: confidantlaw29.known. -/
import Derived.Test.YtagcdnhkgndhcaaTreeF
import Derived.Test.YtagcdnhkgndhcaaChain
import Derived.Test.YtagcdnhkgndhcaaLatC
set_option linter.unusedVariables false
set_option linter.unusedSimpArgs false
namespace Go.Proofs.Ytagcdnhkgndhcaa
open Go.RowKit Go.Hoist

set_option maxHeartbeats 400000 in
set_option maxRecDepth 100000 in
theorem c_Value_nil (w : World) : Calls Try.prog 13 #[.slice none 0 0] w fun e w' => e = .returned (.tuple #[.int .i32 0, .bool false]) ∧ Below w.heap.size w w' := by
  have Hc := Lib.hid (c_right_len none 0 0 16 w (.inl rfl) (by decide))
  go_enter Try.func13, Try.ntmps13
  go_wp2_with (go_at_call 16; refine (Hc.out).mono ?_; rintro e w1 ⟨rfl, hb⟩; have Hb := Lib.hid hb; clear hb)
  go_ret2
  exact ⟨rfl, Hb.out⟩

def kt0 (k : Value) : List (TN × Value) := [(⟨2, 0, 0, [1, 2]⟩, k), (⟨1, 3, 0, []⟩, .slice none 0 0), (⟨1, 4, 1, []⟩, .slice none 0 0)]
def t0 : List TN := [⟨2, 0, 0, [1, 2]⟩, ⟨1, 3, 0, []⟩, ⟨1, 4, 1, []⟩]
theorem t0_right16 : rightM t0 16 = true := by decide
theorem t0_right2 : rightM t0 2 = true := by decide
theorem t0_right1 : rightM t0 1 = false := by decide
theorem t0_val : valF t0 3 0 = 7 := by kernel_rfl
theorem t0_code : (codeM t0 0).length = 14 := by decide
theorem chain_lat : latM (tabM 2 leB) = true := by decide
theorem chain_label : labelM (tabM 2 leB) 2 (botM (tabM 2 leB) 2 2) t0 = 1 := by decide
theorem t0_own (w : World) : TreeOwn ((w.alloc (.cells #[.int .i64 1, .int .i64 2] 3)).alloc (.cells #[.int .i64 2, .int .i32 0, .int .i64 0, .slice (some ⟨w.heap.size, 0, none⟩) 2 2, .int .i64 1, .int .i32 3, .int .i64 0, .slice none 0 0, .int .i64 1, .int .i32 4, .int .i64 1, .slice none 0 0] 30)) w.heap.size (.slice (some ⟨w.heap.size + 1, 0, none⟩) 3 3) (kt0 (.slice (some ⟨w.heap.size, 0, none⟩) 2 2)) := by
  refine ⟨?_, ?_, ?_, by simp [kt0]⟩
  · have := own_build (w.alloc (.cells #[.int .i64 1, .int .i64 2] 3)) w.heap.size 30 4 3 #[.int .i64 2, .int .i32 0, .int .i64 0, .slice (some ⟨w.heap.size, 0, none⟩) 2 2, .int .i64 1, .int .i32 3, .int .i64 0, .slice none 0 0, .int .i64 1, .int .i32 4, .int .i64 1, .slice none 0 0] _ rfl (by simp) (by decide) rfl
    simpa [kt0, treeC, nodeC] using this
  · intro p hp
    simp only [kt0, List.mem_cons, List.not_mem_nil, or_false] at hp
    rcases hp with rfl | rfl | rfl
    · exact (own_build w w.heap.size 3 1 2 #[.int .i64 1, .int .i64 2] _ rfl (Nat.le_refl _) (by decide) rfl).alloc _
    · exact kids_nil _ _
    · exact kids_nil _ _
  · intro p hp
    simp only [kt0, List.mem_cons, List.not_mem_nil, or_false] at hp
    rcases hp with rfl | rfl | rfl <;> simp

set_option maxHeartbeats 1600000 in
set_option maxRecDepth 100000 in
theorem c_known29 (w : World) : Calls Try.prog 11 #[] w fun e w' => e = .returned (.bool true) ∧ Below w.heap.size w w' := by
  obtain ⟨tb, cap, hv, hT, hC, hlo⟩ := (t0_own w).tree (by simp [kt0])
  have hB1 : Below w.heap.size w ((w.alloc (.cells #[.int .i64 1, .int .i64 2] 3)).alloc (.cells #[.int .i64 2, .int .i32 0, .int .i64 0, .slice (some ⟨w.heap.size, 0, none⟩) 2 2, .int .i64 1, .int .i32 3, .int .i64 0, .slice none 0 0, .int .i64 1, .int .i32 4, .int .i64 1, .slice none 0 0] 30)) := ((Below.refl _ w).alloc (Nat.le_refl _) _).alloc (by simp) _
  obtain ⟨W1, hW1⟩ : ∃ W1, ((w.alloc (.cells #[.int .i64 1, .int .i64 2] 3)).alloc (.cells #[.int .i64 2, .int .i32 0, .int .i64 0, .slice (some ⟨w.heap.size, 0, none⟩) 2 2, .int .i64 1, .int .i32 3, .int .i64 0, .slice none 0 0, .int .i64 1, .int .i32 4, .int .i64 1, .slice none 0 0] 30)) = W1 := ⟨_, rfl⟩
  rw [hW1] at hT hC hB1
  have HW1 := Lib.hid hW1; clear hW1
  have Hv := Lib.hid hv; clear hv
  have HT := Lib.hid (show TreeAt W1 W1.heap.size tb t0 from hT); clear hT
  have HC := Lib.hid (show CapAt W1 tb t0 from hC); clear hC
  have HB1 := Lib.hid hB1; clear hB1
  go_enter Try.func11, Try.ntmps11
  go_upto_region 2 with fail
  rw [HW1.out]
  have Hv' : Hid ((Value.slice (some ⟨w.heap.size + 1, 0, none⟩) 3 3) = .slice (some ⟨tb, 0, none⟩) 3 cap) := Hv
  rw [Hv'.out]
  have h13 := c_Value tb cap t0 W1 HT.out
  rw [show t0.length = 3 from rfl, t0_right16, t0_val] at h13
  have H13 := Lib.hid h13; clear h13
  go_wp2_with fail
  refine H13.out.mono ?_
  rintro e w1 ⟨rfl, hb1⟩
  have HB2 := Lib.hid hb1; clear hb1 H13
  have h15 := c_Compile tb cap t0 w1 ((HT.out.below HB2.out (Nat.le_refl _)).mono HB2.out.size) (HC.out.below HB2.out HT.out.1)
  rw [show t0.length = 3 from rfl, t0_right16] at h15
  have H15 := Lib.hid h15; clear h15
  go_wp2_with fail
  refine H15.out.mono ?_
  rintro e w2 ⟨v2, rfl, hn2, hb2⟩
  obtain ⟨xs, hx1, hx2⟩ := hn2 (by simp)
  obtain ⟨g, c2, rfl, hlo2, hlt2, hrd2⟩ := own_pos hx1 (by decide)
  obtain ⟨u, hu1, hu2⟩ := hx2 0 (by decide)
  have hu2' : w2.ownsRow w1.heap.size 38 2 u 14 (icells (codeM t0 0)) := by have h := hu2; rw [show (codeF t0 0).1 = 14 from t0_code] at h; exact h
  obtain ⟨g2, c3, rfl, _, _, _⟩ := own_pos hu2' (by decide)
  have hcell : w2.cell? ⟨g, 0, none⟩ = some (.slice (some ⟨g2, 0, none⟩) 14 c3) := by have := hrd2 0 _ hu1; rwa [add_mk] at this
  have HCELL := Lib.hid hcell
  have HB3 := Lib.hid (below_then HB2.out hb2 HB2.out.size)
  have HBW2 := Lib.hid (Below.refl w2.heap.size w2)
  clear hn2 hb2 hx1 hx2 hrd2 hu1 hu2 hu2' hcell H15
  go_wp2_with fail
  refine (c_Chain 2 w2 (by decide) (by decide)).mono ?_
  rintro e w3 ⟨v3, rfl, ht3, hb3⟩
  have H40 := Lib.hid (c_New (tabM 2 leB) v3 w3 ht3)
  have HB4 := Lib.hid (below_then HB3.out hb3 HB3.out.size)
  have HBW3 := Lib.hid (below_then HBW2.out hb3 HBW2.out.size)
  clear ht3 hb3
  go_wp2_with fail
  refine H40.out.mono ?_
  rintro e w4 ⟨h4, hb4⟩
  have HB5 := Lib.hid (below_then HB4.out hb4 HB4.out.size)
  have HBW4 := Lib.hid (below_then HBW3.out hb4 HBW3.out.size)
  clear hb4 H40
  rcases h4 with ⟨_, p, vl, vj, vm, rfl, hp, hlat⟩ | ⟨h4, _⟩
  · have HL := Lib.hid hlat; clear hlat
    have h42 := c_Label tb cap t0 w4 ((HT.out.below HB5.out (Nat.le_refl _)).mono HB5.out.size) 2 p (tabM 2 leB) vl vj vm _ _ (by decide) HL.out
    rw [show t0.length = 3 from rfl, show ((2 : Nat) : Int) = 2 from rfl, t0_right2, show (tabM 2 leB).length = 2 from rfl, chain_label] at h42
    have H42 := Lib.hid h42; clear h42
    go_wp2_with fail
    refine H42.out.mono ?_
    rintro e w5 ⟨rfl, hb5⟩
    have HB6 := Lib.hid (below_then HB5.out hb5 HB5.out.size)
    have HBW5 := Lib.hid (below_then HBW4.out hb5 HBW4.out.size)
    clear hb5 H42
    have H42n := Lib.hid (c_Label_nil tb cap t0 w5)
    go_wp2_with fail
    refine H42n.out.mono ?_
    rintro e w6 ⟨rfl, rfl⟩
    clear H42n
    go_wp2_with fail
    refine (c_Value_nil w5).mono ?_
    rintro e w7 ⟨rfl, hb7⟩
    have HB8 := Lib.hid (below_then HB6.out hb7 HB6.out.size)
    have hcell7 := ((below_then HBW5.out hb7 HBW5.out.size).cell (p := ⟨g, 0, none⟩) hlt2).trans HCELL.out
    clear hb7
    have h43 := c_Tasks tb cap t0 w7 ((HT.out.below HB8.out (Nat.le_refl _)).mono HB8.out.size)
    rw [show t0.length = 3 from rfl, t0_right16] at h43
    have H43 := Lib.hid h43; clear h43
    go_wp2_with fail
    refine H43.out.mono ?_
    rintro e w8 ⟨rfl, hb8⟩
    have HB9 := Lib.hid (below_then HB8.out hb8 HB8.out.size)
    clear hb8 H43 hcell7
    have h16 := c_right tb cap 2 t0 w8 ((HT.out.below HB9.out (Nat.le_refl _)).mono HB9.out.size)
    rw [show t0.length = 3 from rfl, t0_right2] at h16
    have H16 := Lib.hid h16; clear h16
    go_wp2_with fail
    refine H16.out.mono ?_
    rintro e w9 ⟨rfl, hb9⟩
    have HB10 := Lib.hid (below_then HB9.out hb9 HB9.out.size)
    clear hb9 H16
    have h16 := c_right tb cap 1 t0 w9 ((HT.out.below HB10.out (Nat.le_refl _)).mono HB10.out.size)
    rw [show t0.length = 3 from rfl, t0_right1] at h16
    have H16 := Lib.hid h16; clear h16
    go_wp2_with fail
    refine H16.out.mono ?_
    rintro e w10 ⟨rfl, hb10⟩
    have HB11 := Lib.hid (below_then HB10.out hb10 HB10.out.size)
    clear hb10 H16
    go_wp2_with fail
    go_ret
    exact ⟨rfl, HB1.out.trans ⟨HB11.out.os, HB11.out.tape, HB11.out.output, HB11.out.size, fun q hq => HB11.out.block q (Nat.lt_of_lt_of_le hq HB1.out.size)⟩⟩
  · rw [chain_lat] at h4
    cases h4
end Go.Proofs.Ytagcdnhkgndhcaa
