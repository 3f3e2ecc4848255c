/- Walks: confidantlaw29.TreeParts. -/
import Derived.Test.YtagcdnhkgndhcaaPart
import Derived.Test.YtagcdnhkgndhcaaSeatTree
import Derived.Test.YtagcdnhkgndhcaaKnown29
set_option linter.unusedVariables false
set_option linter.unusedSimpArgs false
namespace Go.Proofs.Ytagcdnhkgndhcaa
open Go.RowKit Go.Hoist

theorem TreeX.kidCell {w w1 : World} {lo g cap : Nat} {l : List (TN × Value)} (h : TreeX w lo (.slice (some ⟨g, 0, none⟩) l.length cap) l) {i : Nat} (hi : i < l.length) (hg : w.grownBy w1 (kv l i).ownBlock) :
    w1.cell? ⟨g, i * 4 + 3, none⟩ = some (kv l i) ∧ w1.frozen? ⟨g, i * 4 + 3, none⟩ = false := by
  have hrow : w1.ownsRow lo 30 4 (.slice (some ⟨g, 0, none⟩) l.length cap) l.length (treeC l) := own_grown h.own.row (h.kid hi) hg (by decide)
  have h1 := treeC_get l i 3 hi (by omega)
  refine own_read hrow ?_
  rw [h1, get_getD]
  rfl
def partsM (t : List TN) (k : Nat) : List Int := (List.range k).map fun j => valF t (t.length - 1) (kd t 0 j).toNat
theorem partsM_succ (t : List TN) (k : Nat) : partsM t (k + 1) = partsM t k ++ [valF t (t.length - 1) (kd t 0 k).toNat] := by simp [partsM, List.range_succ]
theorem partsM_length (t : List TN) (k : Nat) : (partsM t k).length = k := by simp [partsM]
theorem partsM_get (t : List TN) (k j : Nat) (h : j < k) : (partsM t k).getD j 0 = valF t (t.length - 1) (kd t 0 j).toNat := by simp [partsM, List.getD_eq_getElem?_getD, List.getElem?_map, List.getElem?_range h]

set_option maxHeartbeats 3200000 in
set_option maxRecDepth 100000 in
theorem c_TreeParts (ys : List Int) (v : Value) (lab : Int) (w : World) (hv : BytesV w w.heap.size v ys) (h0 : 0 ≤ lab) (h1 : lab ≤ 255) :
    Calls Try.prog 3 #[v, .int .u8 lab] w fun e w' => e = .returned (.bool true) ∧ Below w.heap.size w w' := by
  have hL0 : 0 ≤ lab % 16 := by omega
  have hL1 : lab % 16 ≤ 15 := by omega
  have HV := Lib.hid hv
  obtain ⟨ya, yb, yo, yc, hsh, hy⟩ := hv
  have hylen := hy.len
  subst hsh
  clear hy
  have hcall := fun (h : ys.length ≤ 40) (w1 : World) (hb : Below w.heap.size w w1) => c_seatTree ys (.slice ya ys.length yc) (lab % 16 + 1) w1 (by
    obtain ⟨a, b, o, c, e1, e2⟩ := HV.out
    have e3 := e2.below hb
    exact ⟨a, b, o, c, e1, e3.len, e3.some_, fun h => Nat.lt_of_lt_of_le (e3.lt h) hb.size, e3.cells, e3.byte⟩) h (by omega) (by omega)
  have HC := Lib.hid hcall
  clear hcall
  obtain ⟨m, hm⟩ : ∃ m, ys.length = m := ⟨_, rfl⟩
  rw [hm] at HC hylen ⊢
  clear hm HV
  by_cases h40 : m ≤ 40
  · go_enter Try.func3, Try.ntmps3
    go_wp2_with fail
    refine (c_known29 w).mono ?_
    rintro e w1 ⟨rfl, hb1⟩
    have HB1 := Lib.hid hb1
    have H12 := Lib.hid (HC.out h40 w1 hb1)
    clear hb1 HC
    go_wp2_with fail
    refine H12.out.mono ?_
    rintro e w2 ⟨u, l, rfl, hX, hI, hb2⟩
    have hpos : 1 ≤ l.length := by have := hI.pos; simpa using this
    have hr16 := hI.right (by omega)
    obtain ⟨tb, cap, rfl, hT, hCap, htb⟩ := hX.own.tree hpos
    obtain ⟨t, ht⟩ : ∃ t, l.map (·.1) = t := ⟨_, rfl⟩
    have hlt : l.length = t.length := by rw [← ht]; simp
    rw [ht] at hT hI hr16
    rw [hlt]
    have h13 := c_Value tb cap t w2 hT
    rw [hr16] at h13
    have HT := Lib.hid hT
    have HI := Lib.hid hI
    have H13 := Lib.hid h13
    have HB2 := Lib.hid (below_then HB1.out hb2 HB1.out.size)
    have hs1 := hb2.size
    have hpos2 := hI.pos
    have hle := hI.le
    have hroot := hI.root
    have hkn := hI.may 0 (by omega)
    have hk8 : kn t 0 ≤ 8 := by
      obtain ⟨_, _, h | h⟩ := hkn
      · unfold kn; omega
      · exact h.2
    obtain ⟨g1, _, g3, ka, kc, g4, _, g6⟩ := hT.2.2 0 (by omega)
    rw [hroot.1] at g1
    rw [hroot.2] at g3
    have hK0' : (t.getD 0 default).kids.length = kn t 0 := rfl
    rw [hK0'] at g4
    have HG6 := Lib.hid g6
    have HR := Lib.hid hroot
    clear hX hI hr16 hT hCap h13 hb2 ht H12 hroot hkn g6 hK0'
    obtain ⟨n, hn⟩ : ∃ n, t.length = n := ⟨_, rfl⟩
    obtain ⟨K0, hK0⟩ : ∃ K0, kn t 0 = K0 := ⟨_, rfl⟩
    rw [hn] at H13 hlt hpos2 hle ⊢
    rw [hK0] at hk8 g4
    have HN := Lib.hid hn
    have HK0 := Lib.hid hK0
    clear hn hK0 hlt hpos
    go_wp2_with fail
    refine H13.out.mono ?_
    rintro e w3 ⟨rfl, hb3⟩
    have HB3 := Lib.hid hb3
    have hs2 := hb3.size
    have c0 := (hb3.cell (p := ⟨tb, 0 * 4, none⟩) HT.out.1).trans g1
    have c2 := (hb3.cell (p := ⟨tb, 0 * 4 + 2, none⟩) HT.out.1).trans g3
    have htb2 : tb < w3.heap.size := Nat.lt_of_lt_of_le HT.out.1 hs2
    simp only [Nat.zero_mul, Nat.zero_add] at c0 c2
    obtain ⟨V, hV⟩ : ∃ V, valF t n 0 = V := ⟨_, rfl⟩
    simp only [if_true]
    rw [hV]
    have HVV := Lib.hid hV
    clear hb3 H13 g1 g3 hV
    go_upto_region 9 with fail
    refine wp_region_text 95 mixed rfl (by kernel_rfl) ?_
    go_wp2_with fail
    refine ⟨rfl, ?_⟩
    go_wp2_with fail
    have hB3' : Below w2.heap.size w2 ((w3.alloc (.cells #[.int .i64 2, .int .i32 0, .int .i64 0, .slice none 0 0] 30)).drew) := (HB3.out.alloc HB3.out.size _).drew
    have HB3' := Lib.hid hB3'
    clear hB3' c0 c2
    go_loopw [9, 8] (fun v u wr => ∃ (k : Nat) (l2 : List (TN × Value)), k ≤ K0 ∧ v = .int .i64 k ∧ Hid (TreeX wr w3.heap.size u l2) ∧ Hid (l2.map (·.1) = uM (partsM t k)) ∧ Hid (Below w2.heap.size w2 wr)) (fun v _ _ => K0 - (intOf v).toNat)
    case atStart => exact ⟨0, [(⟨2, 0, 0, []⟩, .slice none 0 0)], by omega, rfl, Lib.hid ((one_new w3).below ((Below.refl _ _).drew)), Lib.hid rfl, HB3'⟩
    case round =>
      clear HB3' HB3
      obtain ⟨k, l2, hk, rfl, HX, HU, HB⟩ := hrel
      have hl2 : l2.length = k + 1 := by have := congrArg List.length HU.out; rwa [List.length_map, uM_length, partsM_length] at this
      obtain ⟨g, capg, hsh, hlog, hltg, hq1⟩ := own_pos HX.out.own.row (by omega)
      subst hsh
      clear hq1
      have HL2 := Lib.hid hl2
      have c3 := (HB.out.cell (p := ⟨tb, 0 * 4 + 3, none⟩) HT.out.1).trans g4
      simp only [Nat.zero_mul, Nat.zero_add] at c3
      rw [hl2]
      clear hl2
      by_cases hkK : k < K0
      · have hup := HI.out.shape.up 0 k (by have := HN.out; omega) (by rw [HK0.out]; exact hkK)
        obtain ⟨C, hC⟩ : ∃ C : Nat, kd t 0 k = C := ⟨(kd t 0 k).toNat, by omega⟩
        rw [hC, HN.out] at hup
        have hC1 : 1 ≤ C := by omega
        have hCN : C < n := by omega
        have hkk : ∃ b, ka = some ⟨b, 0, none⟩ ∧ wr.cell? ⟨b, k, none⟩ = some (.int .i64 (C : Int)) := by
          rcases HG6.out with h | ⟨b, h1, h2, h3⟩
          · have := HK0.out
            unfold kn at this
            rw [h] at this
            simp at this
            omega
          · refine ⟨b, h1, (HB.out.cell (p := ⟨b, k, none⟩) h2).trans ?_⟩
            rw [← hC]
            exact h3 k (by have := HK0.out; unfold kn at this; omega)
        obtain ⟨kb, hka, hkc⟩ := hkk
        rw [hka] at c3
        have h14 := c_part tb cap t C wr ((HT.out.below HB.out (Nat.le_refl _)).mono HB.out.size) HI.out.shape (by have := HN.out; omega) (by have := HN.out; omega)
        rw [HN.out] at h14
        have H14 := Lib.hid h14
        have HC := Lib.hid hC
        have HKA := Lib.hid hka
        clear h14 hC hka hup
        go_wp2_with fail
        refine H14.out.mono ?_
        rintro e w4 ⟨u3, l3, pl, kk, rfl, hX3, hF3, hb4⟩
        have hl3 : 0 < l3.length := by have h := hF3.len; have h2 := hF3.pos; rw [List.length_map] at h; omega
        obtain ⟨tb3, cap3, rfl, hT3, _, _⟩ := hX3.own.tree hl3
        have hr3 : rightM (l3.map (·.1)) 16 = true := hF3.right (by have := HN.out; omega) (fun i hi => by
          obtain ⟨a, b, c⟩ := HI.out.nodes i hi
          exact ⟨a, by omega, c⟩)
        have hv3 := hF3.value HI.out.up hC1
        have h13 := c_Value tb3 cap3 (l3.map (·.1)) w4 hT3
        rw [hr3, hv3, List.length_map, HN.out] at h13
        simp only [if_true] at h13
        obtain ⟨Y, hY⟩ : ∃ Y, valF t (n - 1) C = Y := ⟨_, rfl⟩
        rw [hY] at h13
        have H13 := Lib.hid h13
        have HY := Lib.hid hY
        have HB4 := Lib.hid (below_then HB.out hb4 HB.out.size)
        have HBr4 := Lib.hid hb4
        obtain ⟨m3, hm3⟩ : ∃ m3, l3.length = m3 := ⟨_, rfl⟩
        rw [hm3] at H13 ⊢
        clear hm3 hX3 hF3 hb4 hl3 hT3 hr3 hv3 h13 hY H14 c3 hkc
        go_wp2_with fail
        refine H13.out.mono ?_
        rintro e w5 ⟨rfl, hb5⟩
        have hBr5 : Below wr.heap.size wr w5 := below_then HBr4.out hb5 HBr4.out.size
        have HB5 := Lib.hid (below_then HB4.out hb5 HB4.out.size)
        have hX5 := HX.out.below hBr5
        have hn0 : 0 < l2.length := by rw [HL2.out]; omega
        have hkid := hX5.kid hn0
        obtain ⟨hq1, hq2, hq3, c3, hq4⟩ := hX5.cells hn0
        obtain ⟨ad, kcn, hshn⟩ := own_shape hkid
        have hqk : (nd l2 0).kids.length = k := by
          have h2 := nd_map l2 0 hn0
          rw [← h2, HU.out]
          simp [uM, partsM_length]
        rw [hqk] at hkid hshn
        rw [hshn] at c3 hkid
        simp only [Nat.zero_mul, Nat.zero_add] at c3
        have HKN := Lib.hid hkid
        have Hqk := Lib.hid hqk
        have Hshn := Lib.hid hshn
        have Hn0 := Lib.hid hn0
        have HX5 := Lib.hid hX5
        clear hq1 hq2 hq3 hq4 hkid hqk hshn hX5 hBr5 hb5 H13 HBr4 hn0
        go_upto_region 18 with (at_builtin; refine wpAppAt eltInts rfl _ _ rfl w3.heap.size _ k _ rfl (HKN.out.alloc _) ⟨w5.heap.size, 0, none⟩ 1 1 [.int .i64 (k + 1)] rfl rfl (RdAt.blk (Blk.new _ _ _)) (one_int _ _) (by omega) (by decide) (by have := HB5.out.size; have := (HX5.out.own.row.lt g rfl).2; simp; omega) ?_; intro k2 w6 hown6 hgr6 hq1 hat6; clear hq1; obtain ⟨g4', cap4, hsh4, hq1, hq2, hq3⟩ := own_pos hown6 (by omega); clear hq1 hq2 hq3; subst hsh4; have HO6 := Lib.hid hown6; have HG6' := Lib.hid (grown_alloc hgr6); have HA6 := Lib.hid hat6; have hkc := HX5.out.kidCell Hn0.out (by rw [Hshn.out]; exact HG6'.out); rw [Hshn.out] at hkc; obtain ⟨c5, f5⟩ := hkc; simp only [Nat.zero_mul, Nat.zero_add] at c5 f5; clear hown6 hgr6 hat6)
        have hmap : (nd l2 0).kids.map (Value.int .i64) ++ [Value.int .i64 (k + 1)] = ((nd l2 0).kids ++ [(l2.length : Int)]).map (Value.int .i64) := by rw [HL2.out]; simp
        have hX7 := TreeX.setKid HX5.out Hn0.out (w1 := w6) (k' := .slice (some ⟨g4', 0, none⟩) (k + 1) cap4) (ks := (nd l2 0).kids ++ [(l2.length : Int)]) (by rw [List.length_append, Hqk.out]; simp; omega) (by rw [Hshn.out]; exact HG6'.out) (by
          have h := HO6.out
          rw [hmap] at h
          rw [List.length_append, Hqk.out]
          exact h) (by
          rw [Hshn.out]
          rcases HA6.out with h | h
          · exact .inl h
          · exact .inr ⟨_, h, by simp⟩)
        simp only [Nat.zero_mul, Nat.zero_add] at hX7
        have hmk := fun x u => map_addKid l2 0 Hn0.out (.slice (some ⟨g4', 0, none⟩) (k + 1) cap4) x u
        have hll : (l2.set 0 ({ nd l2 0 with kids := (nd l2 0).kids ++ [(l2.length : Int)] }, Value.slice (some ⟨g4', 0, none⟩) (k + 1) cap4)).length = k + 1 := by rw [List.length_set]; exact HL2.out
        obtain ⟨l7, hl7⟩ : ∃ l7, l2.set 0 ({ nd l2 0 with kids := (nd l2 0).kids ++ [(l2.length : Int)] }, Value.slice (some ⟨g4', 0, none⟩) (k + 1) cap4) = l7 := ⟨_, rfl⟩
        obtain ⟨W7, hW7⟩ : ∃ W7, w6.setCell ⟨g, 3, none⟩ (.slice (some ⟨g4', 0, none⟩) (k + 1) cap4) = W7 := ⟨_, rfl⟩
        have hB7 : Below w2.heap.size w2 W7 := by
          rw [← hW7]
          exact (below_grown HB5.out HG6'.out HB5.out.size (fun b hb => Nat.le_trans hs2 (own_ge HKN.out b hb))).setCell (Nat.le_trans hs2 hlog) _
        have hs7 : w3.heap.size ≤ W7.heap.size := by
          have h1 := (HX5.out.own.row.lt g rfl).2
          have h2 := HG6'.out.size
          rw [← hW7]
          simp
          omega
        rw [hl7, hW7] at hX7
        rw [hl7] at hll
        rw [HL2.out] at hX7
        have Hmk := Lib.hid (fun x u => by have := hmk x u; rw [hl7] at this; exact this : ∀ (x : TN) (u : Value), (l7 ++ [(x, u)]).map (fun y => y.1) = addKid (l2.map (fun y => y.1)) 0 x)
        have HX7 := Lib.hid hX7
        have Hll := Lib.hid hll
        have HB7 := Lib.hid hB7
        have hrow7 := hX7.own.row
        rw [hll] at hrow7
        have HR7 := Lib.hid hrow7
        rw [hW7]
        clear hmap hX7 hmk hll hl7 hW7 hB7 hrow7 c5 f5 c3
        go_wp2_with (at_builtin; refine wpAppAt eltTree rfl _ _ rfl w3.heap.size _ (k + 1) _ rfl (HR7.out.alloc _) ⟨W7.heap.size, 0, none⟩ 1 1 (nodeC (leafN Y, .slice none 0 0)) rfl rfl (RdAt.blk (Blk.new _ _ _)) (by intro u hu; simp only [nodeC, List.mem_cons, List.not_mem_nil, or_false] at hu; rcases hu with rfl | rfl | rfl | rfl <;> rfl) (by omega) (by decide) (by simp; omega) ?_; intro u8 w8 hown8 hgr8 hq1 hq2; clear hq1 hq2; have HO8 := Lib.hid hown8; have HG8 := Lib.hid (grown_alloc hgr8); clear hown8 hgr8)
        go_roundw
        case rel =>
          refine ⟨k + 1, l7 ++ [(leafN Y, .slice none 0 0)], by omega, by go_num, Lib.hid ?_, Lib.hid ?_, Lib.hid (below_grown HB7.out HG8.out HB7.out.size (by intro b h; cases h; exact Nat.le_trans hs2 hlog))⟩
          · exact HX7.out.push (leafN Y) rfl (by rw [Hll.out]; omega) (by rw [Hll.out]; exact HO8.out) HG8.out
          · rw [Hmk.out, HU.out, uM_add, partsM_succ, HC.out, Int.toNat_natCast, HN.out, HY.out]
        case measure => simp [intOf]; omega
      · obtain rfl : k = K0 := by omega
        obtain ⟨tbu, capu, hshu, hTu, hq1, hq2⟩ := HX.out.own.tree (by rw [HL2.out]; omega)
        clear hq1 hq2
        rw [HU.out] at hTu
        have h13 := c_Value tbu capu (uM (partsM t k)) wr hTu
        have hval := uM_val (partsM t k) t HR.out.1 (by have := HN.out; omega) (by rw [partsM_length, HK0.out]) (fun j hj => partsM_get t k j (by rwa [partsM_length] at hj))
        rw [uM_right (partsM t k) (by rw [partsM_length]; exact hk8), hval, HN.out, HVV.out, uM_length, partsM_length] at h13
        simp only [if_true] at h13
        rw [HL2.out] at hshu
        have H13 := Lib.hid h13
        rw [hshu]
        clear h13 hTu hval hshu
        go_wp2_with fail
        refine H13.out.mono ?_
        rintro e w4 ⟨rfl, hb4⟩
        have HB4 := Lib.hid (below_then HB.out hb4 HB.out.size)
        clear hb4 H13
        go_wp2_with fail
        go_ret
        exact ⟨rfl, below_then HB2.out HB4.out HB2.out.size⟩
  · go_enter Try.func3, Try.ntmps3
    go_wp2_with fail
    refine (c_known29 w).mono ?_
    rintro e w1 ⟨rfl, hb1⟩
    have HB1 := Lib.hid hb1
    clear hb1 HC
    go_wp2_with fail
    go_ret
    exact ⟨rfl, HB1.out⟩
end Go.Proofs.Ytagcdnhkgndhcaa
