/- Walks: confidantseat.Tree. -/
import Derived.Test.YtagcdnhkgndhcaaTreeG
import Derived.Deep.DeepCutAuto
import Derived.Deep.CutBlock
set_option linter.unusedVariables false
set_option linter.unusedSimpArgs false
namespace Go.Proofs.Ytagcdnhkgndhcaa
open Go.RowKit Go.Hoist

theorem one_new (w : World) : TreeX (w.alloc (.cells #[.int .i64 2, .int .i32 0, .int .i64 0, .slice none 0 0] 30)) w.heap.size (.slice (some ⟨w.heap.size, 0, none⟩) 1 1) [(⟨2, 0, 0, []⟩, .slice none 0 0)] := by
  refine ⟨⟨own_build w w.heap.size 30 4 1 #[.int .i64 2, .int .i32 0, .int .i64 0, .slice none 0 0] _ rfl (Nat.le_refl _) (by decide) rfl, fun p hp => ?_, fun p hp => ?_, by simp⟩, fun i j hi hj hij => ?_⟩
  · rw [List.mem_singleton] at hp
    subst hp
    exact kids_nil _ _
  · rw [List.mem_singleton] at hp
    subst hp
    simp
  · simp at hi hj
    omega
def okP (l : List (TN × Value)) (p : Int) : Prop := 0 ≤ p ∧ p < l.length ∧ ((nd l p.toNat).kind = 2 ∨ (nd l p.toNat).kind = 3) ∧ (nd l p.toNat).kids.length < 6

def SeatPost (w : World) (lab : Int) (e : Ending) (w' : World) : Prop := ∃ u l, e = .returned u ∧ TreeX w' w.heap.size u l ∧ TInv (l.map (·.1)) lab ∧ Below w.heap.size w w'
set_option maxHeartbeats 3200000 in
set_option maxRecDepth 100000 in
theorem c_seatTree (ys : List Int) (v : Value) (lab : Int) (w : World) (hv : BytesV w w.heap.size v ys) (hl40 : ys.length ≤ 40) (hlab : 1 ≤ lab) (hlab2 : lab ≤ 16) :
    Calls Try.prog 12 #[v, .int .i64 lab] w (SeatPost w lab) := by
  obtain ⟨ya, yb, yo, yc, rfl, hy⟩ := hv
  have HY := Lib.hid hy; clear hy
  obtain ⟨m, hm⟩ : ∃ m, ys.length = m := ⟨_, rfl⟩
  rw [hm] at hl40 ⊢
  have Hm := Lib.hid hm; clear hm
  go_enter Try.func12, Try.ntmps12
  go_wp2_with fail
  go_loopw [6, 5] (fun v u wr => ∃ (i : Nat) (l : List (TN × Value)), i ≤ 42 ∧ v = .int .i64 i ∧ Hid (TreeX wr w.heap.size u l) ∧ Hid (TInv (l.map (·.1)) lab) ∧ Hid (Below w.heap.size w wr)) (fun v _ _ => 50 - (intOf v).toNat)
  case atStart => exact ⟨0, _, by omega, rfl, Lib.hid (one_new w), Lib.hid (TInv.one (by omega)), Lib.hid ((Below.refl _ _).alloc (Nat.le_refl _) _)⟩
  case round =>
    obtain ⟨wo, rfl⟩ : ∃ wo : World, wo = wr := ⟨_, rfl⟩
    obtain ⟨i, l, hi, rfl, HX, HI, HB⟩ := hrel
    have hn1 : 1 ≤ l.length := by have := HI.out.pos; simpa using this
    have hn14 : l.length ≤ 14 := by have := HI.out.le; simpa using this
    obtain ⟨g, cap, hsh, hlo, hlt, _⟩ := own_pos HX.out.own.row hn1
    subst hsh
    obtain ⟨n, hn⟩ : ∃ n, l.length = n := ⟨_, rfl⟩
    have hXc : ∀ k, k < n → _ := fun k hk => HX.out.cells (i := k) (by omega)
    rw [hn] at hn1 hn14 HX ⊢
    have Hc := Lib.hid hXc; clear hXc
    have Hn := Lib.hid hn; clear hn
    by_cases hi1 : i + 1 < m
    · by_cases h14 : n < 14
      · have h14b : decide ((n : Int) < 14) = true := by simp; omega
        have hY := HY.out.below HB.out
        have hys := hY.some_ (by have := Hm.out; omega)
        subst hys
        have y0 := hY.cells i (by have := Hm.out; omega)
        have y1 := hY.cells (i + 1) (by have := Hm.out; omega)
        have b0 := hY.byte i
        have b1 := hY.byte (i + 1)
        obtain ⟨a, ha⟩ : ∃ a, nth ys i = a := ⟨_, rfl⟩
        obtain ⟨b, hb⟩ : ∃ b, nth ys (i + 1) = b := ⟨_, rfl⟩
        rw [ha] at y0 b0
        rw [hb] at y1 b1
        clear ha hb hY
        obtain ⟨b0l, b0h⟩ := b0
        obtain ⟨b1l, b1h⟩ := b1
        go_upto_block 2 with fail
        have hmod0 : 0 ≤ a % (n : Int) := Int.emod_nonneg _ (by omega)
        have hmod1 : a % (n : Int) < n := Int.emod_lt_of_pos _ (by omega)
        obtain ⟨k0, hk0⟩ : ∃ k0, a % (n : Int) = k0 := ⟨_, rfl⟩
        rw [hk0] at hmod0 hmod1 ⊢
        clear hk0
        go_cut [8, 7] (fun k u wx => ∃ p : Int, u = .int .i64 p ∧ Hid (p = -1 ∨ okP l p) ∧ -1 ≤ p ∧ p < n ∧ Hid (wo = wx))
        case first =>
          go_wp2_with fail
          go_loop [8, 7] (fun v u => ∃ k p : Int, -1 ≤ k ∧ k < n ∧ v = .int .i64 k ∧ u = .int .i64 p ∧ Hid (p = -1 ∨ okP l p) ∧ -1 ≤ p ∧ p < n) (fun v _ => (intOf v + 1).toNat)
          case atStart => exact ⟨k0, -1, by omega, by omega, rfl, rfl, Lib.hid (.inl rfl), by omega, by omega⟩
          case round =>
            obtain ⟨k, p, hk1, hk2, rfl, rfl, hp, hp1, hp2⟩ := hrel
            by_cases hk : 0 ≤ k
            · by_cases hp0 : p < 0
              · obtain ⟨K, rfl⟩ := Int.eq_ofNat_of_zero_le hk
                obtain ⟨c0, _, _, c3, _⟩ := Hc.out K (by omega)
                obtain ⟨ad, kc, hsh⟩ := own_shape (HX.out.kid (i := K) (by have := Hn.out; omega))
                rw [hsh] at c3
                obtain ⟨q, hq⟩ : ∃ q, (nd l K).kids.length = q := ⟨_, rfl⟩
                obtain ⟨kk, hkk⟩ : ∃ kk, (nd l K).kind = kk := ⟨_, rfl⟩
                have hsm : q ≤ 65536 := by rw [← hq]; exact HX.out.own.small _ (by have := Hn.out; rw [List.getD_eq_getElem?_getD, List.getElem?_eq_getElem (show K < l.length by omega)]; exact List.getElem_mem _)
                rw [hq] at c3
                rw [hkk] at c0
                have Hq := Lib.hid hq
                have Hkk := Lib.hid hkk
                have Hsh := Lib.hid hsh
                clear hq hkk hsh
                by_cases h6 : q < 6
                · by_cases hk2' : kk = 2
                  · subst hk2'
                    go_wp2_with fail
                    go_round
                    case rel => exact ⟨(K : Int) - 1, K, by omega, by omega, rfl, rfl, Lib.hid (.inr ⟨by omega, by have := Hn.out; omega, .inl Hkk.out, by rw [Int.toNat_natCast, Hq.out]; exact h6⟩), by omega, by omega⟩
                    case measure => simp [intOf]
                  · have hk2b : (kk == 2) = false := by simpa using hk2'
                    by_cases hk3' : kk = 3
                    · subst hk3'
                      go_wp2_with fail
                      go_round
                      case rel => exact ⟨(K : Int) - 1, K, by omega, by omega, rfl, rfl, Lib.hid (.inr ⟨by omega, by have := Hn.out; omega, .inr Hkk.out, by rw [Int.toNat_natCast, Hq.out]; exact h6⟩), by omega, by omega⟩
                      case measure => simp [intOf]
                    · have hk3b : (kk == 3) = false := by simpa using hk3'
                      go_wp2_with fail
                      go_round
                      case rel => exact ⟨(K : Int) - 1, p, by omega, by omega, rfl, rfl, hp, by omega, by omega⟩
                      case measure => simp [intOf]
                · have h6' : decide ((q : Int) < 6) = false := by simp; omega
                  by_cases hk2' : kk = 2
                  · subst hk2'
                    go_wp2_with fail
                    go_round
                    case rel => exact ⟨(K : Int) - 1, p, by omega, by omega, rfl, rfl, hp, by omega, by omega⟩
                    case measure => simp [intOf]
                  · have hk2b : (kk == 2) = false := by simpa using hk2'
                    by_cases hk3' : kk = 3
                    · subst hk3'
                      go_wp2_with fail
                      go_round
                      case rel => exact ⟨(K : Int) - 1, p, by omega, by omega, rfl, rfl, hp, by omega, by omega⟩
                      case measure => simp [intOf]
                    · have hk3b : (kk == 3) = false := by simpa using hk3'
                      go_wp2_with fail
                      go_round
                      case rel => exact ⟨(K : Int) - 1, p, by omega, by omega, rfl, rfl, hp, by omega, by omega⟩
                      case measure => simp [intOf]
              · have hp0b : decide (p < 0) = false := by simp; omega
                go_wp2_with fail
                go_meet
                case rel => exact ⟨p, rfl, hp, by omega, by omega, Lib.hid rfl⟩
            · have hkb : decide (0 ≤ k) = false := by simp; omega
              go_wp2_with fail
              go_meet
              case rel => exact ⟨p, rfl, hp, by omega, by omega, Lib.hid rfl⟩
        case rest =>
          obtain ⟨p, rfl, hp, hp1, hp2, hwx⟩ := hcut
          have hwx' := hwx.out
          subst hwx'
          clear hwx
          go_upto_if 65 with fail
          go_cut [7] (fun u wx => ∃ P : Nat, u = .int .i64 P ∧ P < n ∧ Hid (((nd l P).kind = 2 ∨ (nd l P).kind = 3)) ∧ Hid (wo = wx))
          case first =>
            by_cases hp0 : p < 0
            · have hr := HI.out.root
              go_wp2_with fail
              go_meet
              case rel => exact ⟨0, rfl, by omega, Lib.hid (.inl (by rw [← nd_map l 0 (by have := Hn.out; omega)]; exact hr.1)), Lib.hid rfl⟩
            · have hP := hp.out.resolve_left (by omega)
              obtain ⟨P, rfl⟩ := Int.eq_ofNat_of_zero_le (show 0 ≤ p by omega)
              have HP := Lib.hid hP
              clear hP
              go_wp2_with fail
              go_meet
              case rel => exact ⟨P, rfl, by omega, Lib.hid (by have := HP.out.2.2.1; rwa [Int.toNat_natCast] at this), Lib.hid rfl⟩
          case rest =>
            obtain ⟨P, rfl, hPn, HK, hwx⟩ := hcut
            have hwx' := hwx.out
            subst hwx'
            clear hwx hp hp1 hp2
            obtain ⟨_, _, _, c3, f3⟩ := Hc.out P hPn
            have hkidP := HX.out.kid (i := P) (by have := Hn.out; omega)
            obtain ⟨ad, kc, hsh⟩ := own_shape hkidP
            rw [hsh] at c3
            obtain ⟨q, hq⟩ : ∃ q, (nd l P).kids.length = q := ⟨_, rfl⟩
            rw [hq] at c3
            have HKP := Lib.hid hkidP
            have Hq := Lib.hid hq
            have Hsh := Lib.hid hsh
            clear hkidP hq hsh
            by_cases h8 : 8 ≤ q
            · go_wp2_with fail
              go_ret
              exact ⟨_, _, rfl, HX.out, HI.out, HB.out⟩
            · go_upto_region 14 with fail
              have hyb : yb < wo.heap.size := Nat.lt_of_lt_of_le (HY.out.lt (by have := Hm.out; omega)) HB.out.size
              go_cut [9] (fun u wx => ∃ K V L : Int, (K = 1 ∨ K = 2 ∨ K = 3) ∧ 0 ≤ L ∧ L < lab ∧ u = .pointer (some ⟨wo.heap.size, 0, none⟩) ∧ Hid ((wo.alloc (.cells #[.int .i64 K, .int .i32 V, .int .i64 L, .slice none 0 0] 30)).drew = wx))
              case first =>
                refine wp_region_tree [(4, 23), (4, 26), (12, 23), (12, 26), (19, 23), (19, 26)] (.seg [0, 1, 2, 3, 4, 5, 6, 7, 8, 9, 10, 11, 12, 13, 14, 15, 16, 17, 18, 19, 20, 21, 22] (.fork (.seg [23] (.seg [24, 25, 26] (.seg [27] (.done)))) (.seg [26] (.seg [23] (.seg [24, 25, 27] (.done)))))) 122 mixed rfl (by kernel_rfl) ?_
                simp only [wpV, pick, List.filterMap_cons, List.filterMap_nil, List.getElem?_toArray, List.getElem?_cons_zero, List.getElem?_cons_succ]
                go_wp2_with fail
                refine ⟨rfl, (fun l hl => by simp [racing, raceOf] at hl), ?_⟩
                refine ⟨?_, ?_⟩
                · go_wp2_with fail
                  refine ⟨rfl, (fun l hl => by have hl' : l = 4 ∨ l = 12 ∨ l = 19 := (by simp [racing, raceOf] at hl; omega); rcases hl' with rfl | rfl | rfl <;> (intro _; go_simp)), ?_⟩
                  go_wp2_with fail
                  refine ⟨rfl, (fun l hl => by have hl' : l = 4 ∨ l = 12 ∨ l = 19 := (by simp [racing, raceOf] at hl; omega); rcases hl' with rfl | rfl | rfl <;> (intro _; go_simp)), ?_⟩
                  go_wp2_with fail
                  refine ⟨rfl, (fun l hl => by simp [racing, raceOf] at hl), ?_⟩
                  go_wp2_with fail
                  go_meet
                  case rel => exact ⟨b % 3 + 1, b - 100, b / 3 % lab, by omega, Int.emod_nonneg _ (by omega), Int.emod_lt_of_pos _ (by omega), rfl, Lib.hid rfl⟩
                · go_wp2_with fail
                  refine ⟨rfl, (fun l hl => by have hl' : l = 4 ∨ l = 12 ∨ l = 19 := (by simp [racing, raceOf] at hl; omega); rcases hl' with rfl | rfl | rfl <;> (intro _; go_simp)), ?_⟩
                  go_wp2_with fail
                  refine ⟨rfl, (fun l hl => by have hl' : l = 4 ∨ l = 12 ∨ l = 19 := (by simp [racing, raceOf] at hl; omega); rcases hl' with rfl | rfl | rfl <;> (intro _; go_simp)), ?_⟩
                  go_wp2_with fail
                  refine ⟨rfl, (fun l hl => by simp [racing, raceOf] at hl), ?_⟩
                  go_wp2_with fail
                  go_meet
                  case rel => exact ⟨b % 3 + 1, b - 100, b / 3 % lab, by omega, Int.emod_nonneg _ (by omega), Int.emod_lt_of_pos _ (by omega), rfl, Lib.hid rfl⟩
              case rest =>
                rename World => wx
                obtain ⟨K, V, L, hK, hL0, hL1, rfl, hwx⟩ := hcut
                have hBx : Below wo.heap.size wo wx := by rw [← hwx.out]; exact ((Below.refl _ _).alloc (Nat.le_refl _) _).drew
                have hblk : Blk wx wo.heap.size 30 #[.int .i64 K, .int .i32 V, .int .i64 L, .slice none 0 0] := by rw [← hwx.out]; exact (Blk.new wo _ _).drew
                have HBX := Lib.hid hBx
                have HBLK := Lib.hid hblk
                clear hBx hblk hwx y0 y1 c3 f3
                have e0 := HBLK.out.cell 0
                have e1 := HBLK.out.cell 1
                have e2 := HBLK.out.free 1
                go_upto_if 101 with fail
                go_cut [7] (fun u wx2 => u = .int .i64 P ∧ ∃ V2, Hid (Below wo.heap.size wo wx2) ∧ Hid (Blk wx2 wo.heap.size 30 #[.int .i64 K, .int .i32 V2, .int .i64 L, .slice none 0 0]))
                case first =>
                  by_cases hK1 : K = 1
                  · subst hK1
                    go_wp2_with fail
                    go_meet
                    case rel => exact ⟨rfl, V, HBX, HBLK⟩
                  · have hK1b : (K == 1) = false := by simpa using hK1
                    go_wp2_with fail
                    go_meet
                    case rel => exact ⟨rfl, 0, Lib.hid (HBX.out.setCell (Nat.le_refl _) _), Lib.hid (HBLK.out.set 1 _)⟩
                case rest =>
                  clear e0 e1 e2 HBX HBLK
                  rename World => w2
                  obtain ⟨rfl, V2, HBX, HBLK⟩ := hcut
                  have hX2 : TreeX w2 w.heap.size (.slice (some ⟨g, 0, none⟩) l.length cap) l := by rw [Hn.out]; exact HX.out.below HBX.out
                  have hPl : P < l.length := by rw [Hn.out]; exact hPn
                  have hkid2 := hX2.kid hPl
                  rw [Hsh.out, Hq.out] at hkid2
                  obtain ⟨_, _, _, c3, f3⟩ := hX2.cells hPl
                  rw [Hsh.out, Hq.out] at c3
                  have HK2 := Lib.hid hkid2
                  have HX2 := Lib.hid hX2
                  have hsz2 := HBX.out.size
                  have hbx2 := HBLK.out.lt
                  have hgx : g ≠ wo.heap.size := by omega
                  clear hkid2 hX2
                  go_upto_region 18 with (first
                    | (at_builtin; refine wpAppRow eltInts rfl _ _ rfl w2.heap.size (.slice none 0 0) 0 [] rfl ⟨rfl, .inl ⟨rfl, rfl⟩⟩ w.heap.size _ q _ rfl HK2.out (by intro u hu; obtain ⟨y, _, rfl⟩ := List.mem_map.1 hu; rfl) (by omega) (by decide) (Nat.le_refl _) ?_; intro v1 w3 hown3 hgr3; have HO3 := Lib.hid hown3; have hB3 := below_grown (Below.refl w2.heap.size w2) hgr3 (Nat.le_refl _) (by intro b h; cases h); have HB3 := Lib.hid hB3; have hsz3 := hB3.size; clear hown3 hgr3 hB3)
                    | (at_builtin; refine wpAppAt eltInts rfl _ _ rfl w2.heap.size _ _ _ rfl (HO3.out.alloc _) ⟨w3.heap.size, 0, none⟩ 1 1 [.int .i64 n] rfl rfl (RdAt.blk (Blk.new _ _ _)) (one_int _ _) (by omega) (by decide) (by simp; omega) ?_; intro v2 w4 hown4 hgr4 hq1 hq2; clear hq1 hq2; obtain ⟨g4, cap4, hsh4, hlo4, hq3, hq4⟩ := own_pos hown4 (by omega); clear hq3 hq4; have hB4 := below_grown (HB3.out.alloc hsz3 _) hgr4 (by simp; omega) (own_ge HO3.out); subst hsh4; have HO4 := Lib.hid hown4; have HB4 := Lib.hid hB4; have hsz4 := hB4.size; have hc4 := (HX2.out.below hB4).cells hPl; obtain ⟨_, _, _, c4, f4⟩ := hc4; have e4 := hB4.cell (p := ⟨wo.heap.size, 0, none⟩) hbx2; clear hown4 hgr4 hB4))
                  have hmap : (nd l P).kids.map (Value.int .i64) ++ [Value.int .i64 n] = ((nd l P).kids ++ [(l.length : Int)]).map (Value.int .i64) := by rw [Hn.out]; simp
                  have hX5 := TreeX.setKid HX2.out hPl (k' := .slice (some ⟨g4, 0, none⟩) (q + 1) cap4) (ks := (nd l P).kids ++ [(l.length : Int)]) (by rw [List.length_append, Hq.out]; simp; omega) (grown_of_below HB4.out _) (by
                    have h := own_mono HO4.out (show w.heap.size ≤ w2.heap.size by have := HB.out.size; omega)
                    rw [List.nil_append, hmap] at h
                    rw [List.length_append, Hq.out]
                    simpa using h) (.inr ⟨g4, rfl, hlo4⟩)
                  have hmk := fun x u => map_addKid l P hPl (.slice (some ⟨g4, 0, none⟩) (q + 1) cap4) x u
                  have hll : (l.set P ({ nd l P with kids := (nd l P).kids ++ [(l.length : Int)] }, Value.slice (some ⟨g4, 0, none⟩) (q + 1) cap4)).length = n := by rw [List.length_set]; exact Hn.out
                  obtain ⟨l5, hl5⟩ : ∃ l5, l.set P ({ nd l P with kids := (nd l P).kids ++ [(l.length : Int)] }, Value.slice (some ⟨g4, 0, none⟩) (q + 1) cap4) = l5 := ⟨_, rfl⟩
                  rw [hl5] at hX5 hll
                  rw [Hn.out] at hX5
                  have Hmk := Lib.hid (fun x u => by have := hmk x u; rw [hl5] at this; exact this : ∀ (x : TN) (u : Value), (l5 ++ [(x, u)]).map (fun y => y.1) = addKid (l.map (fun y => y.1)) P x)
                  have HX5 := Lib.hid hX5
                  have Hll := Lib.hid hll
                  clear hmap hX5 c4 f4 hmk hll hl5
                  obtain ⟨W5, hW5⟩ : ∃ W5, w4.setCell ⟨g, P * 4 + 3, none⟩ (.slice (some ⟨g4, 0, none⟩) (q + 1) cap4) = W5 := ⟨_, rfl⟩
                  have hb5 : Blk W5 wo.heap.size 30 #[.int .i64 K, .int .i32 V2, .int .i64 L, .slice none 0 0] := by rw [← hW5]; exact (HBLK.out.below HB4.out hbx2).other _ hgx
                  have hB5 : Below w.heap.size w W5 := by
                    rw [← hW5]
                    exact (below_then (below_then HB.out HBX.out HB.out.size) HB4.out (by have := HB.out.size; omega)).setCell hlo _
                  have hrow5 : W5.ownsRow w.heap.size 30 4 (.slice (some ⟨g, 0, none⟩) n cap) n (treeC l5) := by
                    have h := HX5.out.own.row
                    rw [Hll.out, hW5] at h
                    exact h
                  rw [hW5] at HX5 ⊢
                  have e0 : W5.cell? ⟨wo.heap.size, 0, none⟩ = some (.int .i64 K) := hb5.cell 0
                  have e1 : W5.cell? ⟨wo.heap.size, 1, none⟩ = some (.int .i32 V2) := hb5.cell 1
                  have e2 : W5.cell? ⟨wo.heap.size, 2, none⟩ = some (.int .i64 L) := hb5.cell 2
                  have e3 : W5.cell? ⟨wo.heap.size, 3, none⟩ = some (.slice none 0 0) := hb5.cell 3
                  have HB5 := Lib.hid hB5
                  have HR5 := Lib.hid hrow5
                  clear hb5 hB5 hrow5 hW5 e4
                  go_wp2_with (at_builtin; refine wpAppAt eltTree rfl _ _ rfl w.heap.size _ n _ rfl (HR5.out.alloc _) ⟨W5.heap.size, 0, none⟩ 1 1 (nodeC (⟨K, V2, L, []⟩, .slice none 0 0)) rfl rfl (RdAt.blk (Blk.new _ _ _)) (by intro u hu; simp only [nodeC, List.mem_cons, List.not_mem_nil, or_false] at hu; rcases hu with rfl | rfl | rfl | rfl <;> rfl) (by omega) (by decide) (by have := HB5.out.size; simp; omega) ?_; intro v6 w6 hown6 hgr6 hq1 hq2; clear hq1 hq2; have HO6 := Lib.hid hown6; have HG6 := Lib.hid hgr6; clear hown6 hgr6)
                  go_roundw
                  case rel =>
                    refine ⟨i + 2, _, by omega, by go_num, Lib.hid (TreeX.push (HX5.out.below ((Below.refl _ _).alloc (Nat.le_refl _) _)) ⟨K, V2, L, []⟩ rfl (by rw [Hll.out]; omega) (by rw [Hll.out]; exact HO6.out) HG6.out), Lib.hid ?_, Lib.hid (below_grown (HB5.out.alloc HB5.out.size _) HG6.out (by have := HB5.out.size; simp; omega) (by intro b h; cases h; exact hlo))⟩
                    rw [Hmk.out]
                    have hml : (l.map (·.1)).length = n := by rw [List.length_map, Hn.out]
                    refine HI.out.add (by omega) (by omega) (by rw [nd_map l P hPl]; exact HK.out) (by rw [nd_map l P hPl, Hq.out]; omega) rfl ⟨hL0, hL1⟩ hK
                  case measure => simp [intOf]; omega
      · go_wp2_with fail
        go_ret
        exact ⟨_, _, rfl, HX.out, HI.out, HB.out⟩
    · go_wp2_with fail
      go_ret
      exact ⟨_, _, rfl, HX.out, HI.out, HB.out⟩
end Go.Proofs.Ytagcdnhkgndhcaa
