/- Walks: confidantlaw29.part. -/
import Derived.Test.YtagcdnhkgndhcaaPartM
import Derived.Test.YtagcdnhkgndhcaaPlan
import Derived.Deep.DeepCutAuto
import Derived.Deep.CutBlock
set_option linter.unusedVariables false
set_option linter.unusedSimpArgs false
namespace Go.Proofs.Ytagcdnhkgndhcaa
open Go.RowKit Go.Hoist

def bareN (x : TN) : TN := ⟨x.kind, x.val, x.label, []⟩
def PartPost (t : List TN) (c : Nat) (w : World) (e : Ending) (w' : World) : Prop := ∃ u l pl k, e = .returned u ∧ TreeX w' w.heap.size u l ∧ Bfs t (l.map (·.1)) c pl pl.length k ∧ Below w.heap.size w w'
set_option maxHeartbeats 3200000 in
set_option maxRecDepth 100000 in
theorem c_part (tb cap : Nat) (t : List TN) (c : Nat) (w : World) (ht : TreeAt w w.heap.size tb t) (hsh : Shape t) (h64 : t.length ≤ 64) (hc : c < t.length) :
    Calls Try.prog 14 #[.slice (some ⟨tb, 0, none⟩) t.length cap, .int .i64 c] w (PartPost t c w) := by
  obtain ⟨N, hN⟩ : ∃ N, t.length = N := ⟨_, rfl⟩
  obtain ⟨g1, g2, g3, _⟩ := ht.2.2 c hc
  rw [hN] at h64 hc ⊢
  obtain ⟨x, hx⟩ : ∃ x, t.getD c default = x := ⟨_, rfl⟩
  rw [hx] at g1 g2 g3
  have hbfs := Bfs.one (t := t) (c := c) (by omega)
  rw [hx] at hbfs
  have htb := ht.1
  have HT := Lib.hid ht
  have HS := Lib.hid hsh
  have HN := Lib.hid hN
  have HF := Lib.hid hbfs
  clear hbfs hx hN ht hsh
  go_enter Try.func14, Try.ntmps14
  go_upto_region 2 with fail
  refine wp_region_text 96 mixed rfl (by kernel_rfl) ?_
  go_wp2_with fail
  refine ⟨rfl, ?_⟩
  go_wp2_with fail
  have HP0 := Lib.hid (PX.new w w.heap.size c (bareN x) rfl (Nat.le_refl _))
  have hB0 : Below w.heap.size w ((w.alloc (.cells #[.int .i64 c] 3)).alloc (.cells #[.int .i64 x.kind, .int .i32 x.val, .int .i64 x.label, .slice none 0 0] 30)) := ((Below.refl _ _).alloc (Nat.le_refl _) _).alloc (by simp) _
  have HB0 := Lib.hid hB0
  clear hB0
  go_loopw [7, 5, 6] (fun v vp vo wr => ∃ (n : Nat) (l : List (TN × Value)) (pl : List Nat), n ≤ pl.length ∧ v = .int .i64 n ∧ Hid (PX wr w.heap.size vo vp l pl) ∧ Hid (Bfs t (l.map (·.1)) c pl n 0) ∧ Hid (Below w.heap.size w wr)) (fun v _ _ _ => N - (intOf v).toNat)
  case atStart => exact ⟨0, _, _, by simp, rfl, Lib.hid HP0.out.drew', HF, Lib.hid HB0.out.drew⟩
  case round =>
    obtain ⟨wo, rfl⟩ : ∃ wo : World, wo = wr := ⟨_, rfl⟩
    obtain ⟨n, l, pl, hn, rfl, HP, HF2, HB⟩ := hrel
    have hpos := HF2.out.pos
    have hlen : l.length = pl.length := by have := HF2.out.len; rwa [List.length_map] at this
    have hbound : pl.length ≤ N := by have := HF2.out.bound; rwa [HN.out] at this
    obtain ⟨gp, capp, hshp, hlop, hltp, hq1⟩ := own_pos HP.out.row hpos
    clear hq1
    subst hshp
    obtain ⟨g, capo, hsho, hloo, hlto, hq1⟩ := own_pos HP.out.tree.own.row (by rw [hlen]; exact hpos)
    clear hq1
    subst hsho
    obtain ⟨M, hM⟩ : ∃ M, pl.length = M := ⟨_, rfl⟩
    rw [hM] at hpos hbound hn hlen
    rw [hlen, hM]
    have HM := Lib.hid hM
    have HL := Lib.hid hlen
    clear hM hlen
    by_cases hnM : n < M
    · have hm := HF2.out.lt n (by rw [HM.out]; exact hnM)
      obtain ⟨m, hmn⟩ : ∃ m, pg pl n = m := ⟨_, rfl⟩
      rw [hmn, HN.out] at hm
      obtain ⟨hmN, hmc⟩ := hm
      have Hmn := Lib.hid hmn
      obtain ⟨K0, hK0⟩ : ∃ K0, kn t m = K0 := ⟨_, rfl⟩
      have HK0 := Lib.hid hK0
      clear hmn hK0
      go_wp2_with fail
      go_loopw [8, 5, 6] (fun v vp vo wr => ∃ (k : Nat) (l : List (TN × Value)) (pl : List Nat), k ≤ K0 ∧ v = .int .i64 k ∧ n < pl.length ∧ Hid (pg pl n = m) ∧ Hid (PX wr w.heap.size vo vp l pl) ∧ Hid (Bfs t (l.map (·.1)) c pl n k) ∧ Hid (Below w.heap.size w wr)) (fun v _ _ _ => K0 - (intOf v).toNat)
      case atStart => exact ⟨0, l, pl, by omega, rfl, by rw [HM.out]; exact hnM, Hmn, by rw [← HM.out]; have h := HP; rw [HL.out, ← HM.out] at h; exact h, HF2, HB⟩
      case round =>
        clear HP HF2 HB Hmn HM HL hpos hbound hn hnM hlop hltp hloo hlto
        obtain ⟨k, l, pl, hk, rfl, hnM, Hmn, HP, HF2, HB⟩ := hrel
        have hpos := HF2.out.pos
        have hlen : l.length = pl.length := by have := HF2.out.len; rwa [List.length_map] at this
        have hbound : pl.length ≤ N := by have := HF2.out.bound; rwa [HN.out] at this
        obtain ⟨gp, capp, hshp, hlop, hltp, hq1⟩ := own_pos HP.out.row hpos
        clear hq1
        subst hshp
        obtain ⟨g, capo, hsho, hloo, hlto, hq1⟩ := own_pos HP.out.tree.own.row (by rw [hlen]; exact hpos)
        clear hq1
        subst hsho
        have p0 := HP.out.cell hnM
        rw [Hmn.out] at p0
        have hT := HT.out.below HB.out (Nat.le_refl _)
        obtain ⟨hq1, hq2, hq3, ka, kc, t3, _, t6⟩ := hT.2.2 m (by rw [HN.out]; exact hmN)
        clear hq1 hq2 hq3
        rw [show (t.getD m default).kids.length = K0 from HK0.out] at t3
        by_cases hkK : k < K0
        · have hup := HS.out.up m k (by rw [HN.out]; exact hmN) (by rw [HK0.out]; exact hkK)
          obtain ⟨C, hC⟩ : ∃ C : Nat, kd t m k = C := ⟨(kd t m k).toNat, by omega⟩
          rw [hC, HN.out] at hup
          have hCN : C < N := by omega
          obtain ⟨kb, rfl, hkb, hkc⟩ : ∃ b, ka = some ⟨b, 0, none⟩ ∧ b < w.heap.size ∧ wr.cell? ⟨b, k, none⟩ = some (.int .i64 (C : Int)) := by
            rcases t6 with h | ⟨b, h1, h2, h3⟩
            · have := HK0.out
              unfold kn at this
              rw [h] at this
              simp at this
              omega
            · exact ⟨b, h1, h2, by rw [← hC]; exact h3 k (by have := HK0.out; unfold kn at this; omega)⟩
          clear t6 hup
          have HC := Lib.hid hC
          clear hC hT
          have hnl : n < l.length := by rw [hlen]; exact hnM
          have hkidn := HP.out.tree.kid hnl
          obtain ⟨hq1, hq2, hq3, c3, hq4⟩ := HP.out.tree.cells hnl
          clear hq1 hq2 hq3 hq4
          obtain ⟨ad, kcn, hshn⟩ := own_shape hkidn
          have hqk : (nd l n).kids.length = k := by
            have h := HF2.out.kids n hnM
            rw [if_neg (Nat.lt_irrefl n), if_pos rfl] at h
            have h2 := nd_map l n hnl
            unfold kn at h
            rw [h2] at h
            exact h
          rw [hqk] at hkidn hshn
          rw [hshn] at c3 hkidn
          have HKN := Lib.hid hkidn
          have Hqk := Lib.hid hqk
          have Hshn := Lib.hid hshn
          clear hkidn hqk hshn
          obtain ⟨M, hM⟩ : ∃ M, pl.length = M := ⟨_, rfl⟩
          rw [hM] at hpos hbound hnM hlen
          rw [hlen, hM]
          have HM := Lib.hid hM
          have HL := Lib.hid hlen
          have Hnl := Lib.hid hnl
          clear hM hlen hnl
          have hk64 : K0 ≤ 64 := by
            have := HS.out.kn_le (i := m) (by rw [HN.out]; exact hmN)
            rw [HK0.out, HN.out] at this
            omega
          go_upto_region 11 with (at_builtin; refine wpAppAt eltInts rfl _ _ rfl w.heap.size _ k _ rfl (HKN.out.alloc _) ⟨wr.heap.size, 0, none⟩ 1 1 [.int .i64 M] rfl rfl (RdAt.blk (Blk.new _ _ _)) (one_int _ _) (by omega) (by decide) (by have := HB.out.size; simp; omega) ?_; intro k2 w1 hown1 hgr1 hq1 hat1; clear hq1; obtain ⟨g4, cap4, hsh4, hq1, hq2, hq3⟩ := own_pos hown1 (by omega); clear hq1 hq2 hq3; subst hsh4; have HO1 := Lib.hid hown1; have HG1 := Lib.hid (grown_alloc hgr1); have HA1 := Lib.hid hat1; have hkc := HP.out.kidCell Hnl.out (by rw [Hshn.out]; exact HG1.out); rw [Hshn.out] at hkc; obtain ⟨c5, f5⟩ := hkc; clear hown1 hgr1 hat1)
          have hmap : (nd l n).kids.map (Value.int .i64) ++ [Value.int .i64 M] = ((nd l n).kids ++ [(l.length : Int)]).map (Value.int .i64) := by rw [HL.out]; simp
          have hP5 := HP.out.kid Hnl.out (w1 := w1) (k' := .slice (some ⟨g4, 0, none⟩) (k + 1) cap4) (ks := (nd l n).kids ++ [(l.length : Int)]) (by rw [List.length_append, Hqk.out]; simp; omega) (by rw [Hshn.out]; exact HG1.out) (by
            have h := HO1.out
            rw [hmap] at h
            rw [List.length_append, Hqk.out]
            exact h) (by
            rw [Hshn.out]
            rcases HA1.out with h | h
            · exact .inl h
            · exact .inr ⟨_, h, by simp⟩)
          have hmk := fun x u => map_addKid l n Hnl.out (.slice (some ⟨g4, 0, none⟩) (k + 1) cap4) x u
          have hll : (l.set n ({ nd l n with kids := (nd l n).kids ++ [(l.length : Int)] }, Value.slice (some ⟨g4, 0, none⟩) (k + 1) cap4)).length = M := by rw [List.length_set]; exact HL.out
          obtain ⟨l5, hl5⟩ : ∃ l5, l.set n ({ nd l n with kids := (nd l n).kids ++ [(l.length : Int)] }, Value.slice (some ⟨g4, 0, none⟩) (k + 1) cap4) = l5 := ⟨_, rfl⟩
          obtain ⟨W5, hW5⟩ : ∃ W5, w1.setCell ⟨g, n * 4 + 3, none⟩ (.slice (some ⟨g4, 0, none⟩) (k + 1) cap4) = W5 := ⟨_, rfl⟩
          have hB5 : Below w.heap.size w W5 := by
            rw [← hW5]
            exact (below_grown HB.out HG1.out HB.out.size (own_ge HKN.out)).setCell hloo _
          rw [hl5, hW5] at hP5
          rw [hl5] at hll
          rw [HL.out, HM.out] at hP5
          have Hmk := Lib.hid (fun x u => by have := hmk x u; rw [hl5] at this; exact this : ∀ (x : TN) (u : Value), (l5 ++ [(x, u)]).map (fun y => y.1) = addKid (l.map (fun y => y.1)) n x)
          have HP5 := Lib.hid hP5
          have Hll := Lib.hid hll
          have HB5 := Lib.hid hB5
          have hrow5 := hP5.row
          rw [HM.out] at hrow5
          have HR5 := Lib.hid hrow5
          rw [hW5]
          clear hmap hP5 hmk hll hl5 hW5 hB5 hrow5 c5 f5 c3 t3 hkc p0
          go_upto_region 12 with (at_builtin; refine wpAppAt eltInts rfl _ _ rfl w.heap.size _ M _ rfl (HR5.out.alloc _) ⟨W5.heap.size, 0, none⟩ 1 1 [.int .i64 C] rfl rfl (RdAt.blk (Blk.new _ _ _)) (one_int _ _) (by omega) (by decide) (by have := HB5.out.size; simp; omega) ?_; intro vp2 w6 hown6 hgr6 hq1 hat6; clear hq1; have HO6 := Lib.hid hown6; have HG6 := Lib.hid (grown_alloc hgr6); have HA6 := Lib.hid hat6; clear hown6 hgr6 hat6)
          have hP6 := HP5.out.place (c := C) (w' := w6) (vp' := vp2) HG6.out (by rw [HM.out]; exact HO6.out) (by
            rcases HA6.out with h | h
            · exact .inl h
            · exact .inr ⟨_, h, by simp⟩)
          have hB6 := below_grown HB5.out HG6.out HB5.out.size (own_ge HR5.out)
          have hT6 := HT.out.below hB6 (Nat.le_refl _)
          obtain ⟨y1, y2, y3, _⟩ := hT6.2.2 C (by rw [HN.out]; exact hCN)
          obtain ⟨y, hy⟩ : ∃ y, t.getD C default = y := ⟨_, rfl⟩
          rw [hy] at y1 y2 y3
          have Hy := Lib.hid hy
          have HP6 := Lib.hid hP6
          have HB6 := Lib.hid hB6
          have hrow6 := hP6.tree.own.row
          rw [Hll.out] at hrow6
          have HR6 := Lib.hid hrow6
          clear hP6 hB6 hT6 hy hrow6
          refine wp_region_text 96 mixed rfl (by kernel_rfl) ?_
          go_wp2_with (at_builtin; refine wpAppAt eltTree rfl _ _ rfl w.heap.size _ M _ rfl (own_drew (HR6.out.alloc _)) ⟨w6.heap.size, 0, none⟩ 1 1 (nodeC (bareN y, .slice none 0 0)) rfl rfl (RdAt.blk (Blk.new _ _ _).drew) (by intro u hu; simp only [nodeC, List.mem_cons, List.not_mem_nil, or_false] at hu; rcases hu with rfl | rfl | rfl | rfl <;> rfl) (by omega) (by decide) (by have := HB6.out.size; simp; omega) ?_; intro vo2 w7 hown7 hgr7 hq1 hq2; clear hq1 hq2; have HO7 := Lib.hid hown7; have HG7 := Lib.hid (grown_alloc (grown_drew hgr7)); clear hown7 hgr7)
          refine ⟨rfl, ?_⟩
          go_wp2_with fail
          go_roundw
          case rel =>
            refine ⟨k + 1, l5 ++ [(bareN y, .slice none 0 0)], pl ++ [C], by omega, by go_num, by rw [List.length_append, HM.out]; omega, Lib.hid ?_, Lib.hid ?_, Lib.hid ?_, Lib.hid (below_grown HB6.out HG7.out HB6.out.size (by intro b h; cases h; exact hloo))⟩
            · rw [pg_append, HM.out, if_pos hnM]
              exact Hmn.out
            · exact HP6.out.push (bareN y) rfl (by rw [Hll.out]; omega) (by rw [Hll.out]; exact HO7.out) HG7.out
            · have h := Bfs.step HS.out HF2.out (by rw [HM.out]; exact hnM) (by rw [Hmn.out, HK0.out]; exact hkK)
              rw [Hmn.out, HC.out, Int.toNat_natCast, Hy.out] at h
              rw [Hmk.out]
              exact h
          case measure => simp [intOf]; omega
        · obtain rfl : k = K0 := by omega
          have hF3 : Bfs t (l.map (·.1)) c pl n (kn t (pg pl n)) := by rw [Hmn.out, HK0.out]; exact HF2.out
          have HF3 := Lib.hid (hF3.next hnM)
          obtain ⟨M, hM⟩ : ∃ M, pl.length = M := ⟨_, rfl⟩
          rw [hM] at hpos hbound hnM hlen
          rw [hlen, hM]
          have HM := Lib.hid hM
          have HL := Lib.hid hlen
          clear hM hlen hF3 t6 hT
          go_wp2_with fail
          go_roundw
          case rel => exact ⟨n + 1, l, pl, by rw [HM.out]; omega, by go_num, by have h := HP; rw [HL.out, HM.out] at h; exact h, HF3, HB⟩
          case measure => simp [intOf]; omega
    · obtain rfl : n = M := by omega
      go_wp2_with fail
      go_ret
      refine ⟨_, l, pl, 0, rfl, by have h := HP.out.tree; rw [HL.out] at h; exact h, by rw [HM.out]; exact HF2.out, HB.out⟩
end Go.Proofs.Ytagcdnhkgndhcaa
