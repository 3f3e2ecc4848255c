/- Walks: tree.value, tree.Value, tree.Tasks. -/
import Derived.Test.YtagcdnhkgndhcaaTreeB
set_option linter.unusedVariables false
set_option linter.unusedSimpArgs false
namespace Go.Proofs.Ytagcdnhkgndhcaa
open Go.RowKit Go.Hoist

def valF (t : List TN) : Nat → Nat → Int
  | 0, _ => 0
  | f + 1, i =>
    let x := t.getD i default
    if x.kind = 1 then x.val else if x.kind = 4 then wrap32 (valF t f (x.kids.getD 0 0).toNat - valF t f (x.kids.getD 1 0).toNat)
    else if x.kind = 3 then x.kids.foldl (fun v k => wrap32 (v * valF t f k.toNat)) 1 else x.kids.foldl (fun v k => wrap32 (v + valF t f k.toNat)) 0

set_option maxHeartbeats 400000 in
theorem c_wadd (a b : Int) (w : World) : Calls Try.prog 93 #[.int .i32 a, .int .i32 b] w fun e w' => e = .returned (.int .i32 (wrap32 (a + b))) ∧ w = w' := by
  go_enter Try.func93, Try.ntmps93
  go_wp2
  go_ret
  exact ⟨rfl, rfl⟩
set_option maxHeartbeats 400000 in
theorem c_wsub (a b : Int) (w : World) : Calls Try.prog 92 #[.int .i32 a, .int .i32 b] w fun e w' => e = .returned (.int .i32 (wrap32 (a - b))) ∧ w = w' := by
  go_enter Try.func92, Try.ntmps92
  go_wp2
  go_ret
  exact ⟨rfl, rfl⟩
set_option maxHeartbeats 400000 in
theorem c_wmul (a b : Int) (w : World) : Calls Try.prog 94 #[.int .i32 a, .int .i32 b] w fun e w' => e = .returned (.int .i32 (wrap32 (a * b))) ∧ w = w' := by
  go_enter Try.func94, Try.ntmps94
  go_wp2
  go_ret
  exact ⟨rfl, rfl⟩

/-- What a right tree has, node by node. -/
def Good (t : List TN) : Prop := t.length ≤ 64 ∧ ∀ i, i < t.length → ∃ L, nodeOk t i L = true
theorem Good.kid {t : List TN} (h : Good t) {i j : Nat} (hi : i < t.length) (hj : j < (t.getD i default).kids.length) : (i : Int) < (t.getD i default).kids.getD j 0 ∧ (t.getD i default).kids.getD j 0 < t.length := by
  obtain ⟨L, h1⟩ := h.2 i hi
  simp only [nodeOk, Bool.and_eq_true] at h1
  have h2 := (kidsOk_iff _ _ _).1 h1.1.1.1
  have h3 : ∀ j, j < (t.getD i default).kids.length → (i : Int) < (t.getD i default).kids.getD j 0 := fun j => by
    induction j with
    | zero => intro hj; have := (h2 0 hj).1; simpa using this
    | succ j ih =>
      intro hj
      have h4 := (h2 (j + 1) hj).1
      have h5 := ih (by omega)
      simp only [Nat.add_one_ne_zero, if_false, Nat.add_sub_cancel] at h4
      omega
  exact ⟨h3 j hj, (h2 j hj).2⟩
theorem Good.diff {t : List TN} (h : Good t) {i : Nat} (hi : i < t.length) (hk : (t.getD i default).kind = 4) : (t.getD i default).kids.length = 2 := by
  obtain ⟨L, h1⟩ := h.2 i hi
  simp only [nodeOk, Bool.and_eq_true] at h1
  have := h1.2
  rw [hk] at this
  simpa using this

set_option maxHeartbeats 1600000 in
set_option maxRecDepth 100000 in
theorem c_value (tb cap : Nat) (t : List TN) (hg : Good t) : ∀ (f i : Nat) (w : World), TreeAt w w.heap.size tb t → i < t.length → t.length - i ≤ f →
    Calls Try.prog 44 #[.slice (some ⟨tb, 0, none⟩) t.length cap, .int .i64 i] w fun e w' => e = .returned (.int .i32 (valF t f i)) ∧ Below w.heap.size w w' := by
  intro f
  induction f with
  | zero => intro i w _ h1 h2; omega
  | succ f ih =>
    intro i w ht hi hf
    have hlen := hg.1
    obtain ⟨g1, g2, g3, ka, kc, g4, g5, g6⟩ := ht.2.2 i hi
    have hkid : ∀ j, j < (t.getD i default).kids.length → _ := fun j hj => hg.kid hi hj
    have hdiff := hg.diff hi
    obtain ⟨x, hx⟩ : ∃ x, t.getD i default = x := ⟨_, rfl⟩
    have hval : valF t (f + 1) i = (if x.kind = 1 then x.val else if x.kind = 4 then wrap32 (valF t f (x.kids.getD 0 0).toNat - valF t f (x.kids.getD 1 0).toNat)
      else if x.kind = 3 then x.kids.foldl (fun v k => wrap32 (v * valF t f k.toNat)) 1 else x.kids.foldl (fun v k => wrap32 (v + valF t f k.toNat)) 0) := by rw [← hx]; rfl
    rw [hx] at g1 g2 g3 g4 g5 g6 hkid hdiff
    -- a call at a kid
    have call : ∀ (k : Int) (w1 : World), (i : Int) < k → k < t.length → Below w.heap.size w w1 → Calls Try.prog 44 #[.slice (some ⟨tb, 0, none⟩) t.length cap, .int .i64 k] w1 fun e w' => e = .returned (.int .i32 (valF t f k.toNat)) ∧ Below w1.heap.size w1 w' := fun k w1 h1 h2 hb => by
      obtain ⟨m, rfl⟩ := Int.eq_ofNat_of_zero_le (show 0 ≤ k by omega)
      have ht1 : TreeAt w1 w1.heap.size tb t := by
        have := ht.below hb (Nat.le_refl _)
        obtain ⟨a1, a2, a3⟩ := this
        refine ⟨Nat.lt_of_lt_of_le a1 hb.size, a2, fun j hj => ?_⟩
        obtain ⟨b1, b2, b3, ka', kc', b4, b5, b6⟩ := a3 j hj
        exact ⟨b1, b2, b3, ka', kc', b4, b5, b6.imp id (fun ⟨b, c1, c2, c3⟩ => ⟨b, c1, Nat.lt_of_lt_of_le c2 hb.size, c3⟩)⟩
      exact ih m w1 ht1 (by omega) (by omega)
    obtain ⟨n, hn⟩ : ∃ n, t.length = n := ⟨_, rfl⟩
    rw [hn] at call hi hlen hkid hf ⊢
    obtain ⟨m, hm⟩ : ∃ m, x.kids.length = m := ⟨_, rfl⟩
    rw [hm] at g4 g5 hkid hdiff
    obtain ⟨kind, hkind⟩ : ∃ y, x.kind = y := ⟨_, rfl⟩
    obtain ⟨val, hvl⟩ : ∃ y, x.val = y := ⟨_, rfl⟩
    obtain ⟨label, hlabel⟩ : ∃ y, x.label = y := ⟨_, rfl⟩
    rw [hkind] at g1 hval hdiff
    rw [hvl] at g2 hval
    rw [hlabel] at g3
    have htb := ht.1
    clear ht ih hg
    have Hval := Lib.hid hval; clear hval
    have Hx := Lib.hid hx; clear hx
    have Hn := Lib.hid hn; clear hn
    have Hm := Lib.hid hm; clear hm
    have Hkind := Lib.hid hkind; clear hkind
    have Hvl := Lib.hid hvl; clear hvl
    have Hlabel := Lib.hid hlabel; clear hlabel
    have Hkid := Lib.hid hkid; clear hkid
    have Hcall := Lib.hid call; clear call
    have Hdiff := Lib.hid hdiff; clear hdiff
    have H6 := Lib.hid g6; clear g6
    by_cases h1 : kind = 1
    · subst h1
      go_enter Try.func44, Try.ntmps44
      go_wp2_with fail
      go_ret
      exact ⟨ret_int (by rw [Hval.out]; rfl), (Below.refl _ _).alloc (Nat.le_refl _) _⟩
    · have hk1 : (kind == 1) = false := by simpa using h1
      by_cases h4 : kind = 4
      · subst h4
        have hm2 := Hdiff.out rfl
        obtain ⟨kb, rfl, hkb, hkc⟩ : ∃ b, ka = some ⟨b, 0, none⟩ ∧ b < w.heap.size ∧ ∀ j, j < x.kids.length → w.cell? ⟨b, j, none⟩ = some (.int .i64 (x.kids.getD j 0)) := by
          rcases H6.out with h | h
          · have := Hm.out; rw [h] at this; simp at this; omega
          · exact h
        subst hm2
        have f0 := hkc 0 (by rw [Hm.out]; omega)
        have f1 := hkc 1 (by rw [Hm.out]; omega)
        obtain ⟨hy1, hy2⟩ := Hkid.out 0 (by omega)
        obtain ⟨hz1, hz2⟩ := Hkid.out 1 (by omega)
        clear hkc
        obtain ⟨y, hy⟩ : ∃ y, x.kids.getD 0 0 = y := ⟨_, rfl⟩
        obtain ⟨z, hz⟩ : ∃ z, x.kids.getD 1 0 = z := ⟨_, rfl⟩
        rw [hy] at f0 hy1 hy2
        rw [hz] at f1 hz1 hz2
        have hfin : valF t (f + 1) i = wrap32 (valF t f y.toNat - valF t f z.toNat) := by rw [Hval.out, if_neg (by decide), if_pos rfl, hy, hz]
        have Hfin := Lib.hid hfin; clear hfin
        have Hy := Lib.hid hy; clear hy
        have Hz := Lib.hid hz; clear hz
        go_enter Try.func44, Try.ntmps44
        go_wp2_with fail
        refine wp_region_segs [(8, 5), (10, 5)] [[0, 1, 2, 3, 4, 6, 7, 8, 9, 10, 5], [11, 12, 13]] 53 mixed rfl (by kernel_rfl) ?_
        simp only [wpU, pick, List.filterMap_cons, List.filterMap_nil, List.getElem?_toArray, List.getElem?_cons_zero, List.getElem?_cons_succ]
        have hb0 : Below w.heap.size w (w.alloc (.cells #[.int .i64 4, .int .i32 val, .int .i64 label, .slice (some ⟨kb, 0, none⟩) 2 kc] 30)).drew := ((Below.refl _ _).alloc (Nat.le_refl _) _).drew
        have HB0 := Lib.hid hb0; clear hb0
        go_wp2_with fail
        refine (Hcall.out y _ hy1 hy2 HB0.out).mono ?_
        rintro e w1 ⟨rfl, hb1⟩
        have c3 : w1.cell? ⟨w.heap.size, 3, none⟩ = some (.slice (some ⟨kb, 0, none⟩) 2 kc) := by
          rw [hb1.cell (p := ⟨w.heap.size, 3, none⟩) (by simp)]
          simp
        have c1 : w1.cell? ⟨kb, 1, none⟩ = some (.int .i64 z) := by
          rw [hb1.cell (p := ⟨kb, 1, none⟩) (by simp; omega), HB0.out.cell (p := ⟨kb, 1, none⟩) hkb]
          exact f1
        have hb1' : Below w.heap.size w w1 := HB0.out.trans ⟨hb1.os, hb1.tape, hb1.output, hb1.size, fun q hq => hb1.block q (by simp; omega)⟩
        have HB1 := Lib.hid hb1'; clear hb1' hb1
        go_wp2_with fail
        refine ⟨rfl, ?_, ?_⟩
        · intro l hl
          have hl' : l = 8 ∨ l = 10 := by simpa [racing, raceOf] using hl
          rcases hl' with rfl | rfl
          · intro _
            go_simp
          · intro _
            go_simp
        · go_wp2_with fail
          refine (Hcall.out z _ hz1 hz2 HB1.out).mono ?_
          rintro e w2 ⟨rfl, hb2⟩
          have hb2' : Below w.heap.size w w2 := HB1.out.trans ⟨hb2.os, hb2.tape, hb2.output, hb2.size, fun q hq => hb2.block q (Nat.lt_of_lt_of_le hq HB1.out.size)⟩
          have HB2 := Lib.hid hb2'; clear hb2' hb2
          go_wp2_with (go_at_call 92; refine (c_wsub _ _ _).mono ?_; rintro e w3 ⟨rfl, rfl⟩)
          refine ⟨rfl, ?_, ?_⟩
          · intro l hl
            simp [racing, raceOf] at hl
          · go_wp2_with fail
            go_ret
            exact ⟨ret_int Hfin.out.symm, HB2.out⟩
      · have hk4 : (kind == 4) = false := by simpa using h4
        by_cases h3 : kind = 3
        · subst h3
          go_enter Try.func44, Try.ntmps44
          go_wp2_with fail
          go_loopw [6, 41] (fun out v wr => ∃ j : Nat, j ≤ m ∧ v = .int .i64 j ∧ out = .int .i32 ((x.kids.take j).foldl (fun v k => wrap32 (v * valF t f k.toNat)) 1) ∧ Hid (Below w.heap.size w wr)) (fun _ v _ => m - (intOf v).toNat)
          case atStart => exact ⟨0, by omega, rfl, rfl, (Below.refl _ _).alloc (Nat.le_refl _) _⟩
          case round =>
            obtain ⟨j, hj, rfl, rfl, hb⟩ := hrel
            by_cases hlt : j < m
            · obtain ⟨kb, rfl, hkb, hkc⟩ : ∃ b, ka = some ⟨b, 0, none⟩ ∧ b < w.heap.size ∧ ∀ j, j < x.kids.length → w.cell? ⟨b, j, none⟩ = some (.int .i64 (x.kids.getD j 0)) := by
                rcases H6.out with h | h
                · have := Hm.out; rw [h] at this; simp at this; omega
                · exact h
              have f1 : wr.cell? ⟨kb, j, none⟩ = some (.int .i64 (x.kids.getD j 0)) := (hb.out.cell (p := ⟨kb, j, none⟩) hkb).trans (hkc j (by rw [Hm.out]; exact hlt))
              clear hkc
              have hs := take_snoc x.kids j (by rw [Hm.out]; exact hlt)
              obtain ⟨hy1, hy2⟩ := Hkid.out j hlt
              obtain ⟨y, hy⟩ : ∃ y, x.kids.getD j 0 = y := ⟨_, rfl⟩
              rw [hy] at f1 hs hy1 hy2
              obtain ⟨acc, hacc⟩ : ∃ acc, (x.kids.take j).foldl (fun v k => wrap32 (v * valF t f k.toNat)) 1 = acc := ⟨_, rfl⟩
              have hnext : (x.kids.take (j + 1)).foldl (fun v k => wrap32 (v * valF t f k.toNat)) 1 = wrap32 (acc * valF t f y.toNat) := by rw [hs, List.foldl_append, hacc]; rfl
              rw [hacc]
              have Hs := Lib.hid hs; clear hs
              have Hy := Lib.hid hy; clear hy
              have Hacc := Lib.hid hacc; clear hacc
              have Hnext := Lib.hid hnext; clear hnext
              have Hc := Hcall.out y wr hy1 hy2 hb.out
              have HC := Lib.hid Hc; clear Hc
              go_wp2_with (first | (go_at_call 44; refine (HC.out).mono ?_; rintro e w1 ⟨rfl, hb1⟩; have HB1 := Lib.hid hb1; clear hb1) | (go_at_call 94; refine (c_wmul _ _ _).mono ?_; rintro e w2 ⟨rfl, rfl⟩))
              go_roundw
              case rel =>
                refine ⟨j + 1, by omega, by go_num, by rw [Hnext.out], ?_⟩
                exact hb.out.trans ⟨HB1.out.os, HB1.out.tape, HB1.out.output, HB1.out.size, fun q hq => HB1.out.block q (Nat.lt_of_lt_of_le hq hb.out.size)⟩
              case measure => simp [intOf]; omega
            · obtain rfl : j = m := by omega
              have hall : x.kids.take j = x.kids := List.take_of_length_le (by rw [Hm.out]; exact Nat.le_refl _)
              have hfin : valF t (f + 1) i = (x.kids.take j).foldl (fun v k => wrap32 (v * valF t f k.toNat)) 1 := by rw [Hval.out, hall]; simp [h1]
              have Hfin := Lib.hid hfin; clear hfin
              clear hall
              go_wp2_with fail
              go_ret
              exact ⟨ret_int Hfin.out.symm, hb.out⟩
        · have hk3 : (kind == 3) = false := by simpa using h3
          go_enter Try.func44, Try.ntmps44
          go_wp2_with fail
          go_loopw [6, 41] (fun out v wr => ∃ j : Nat, j ≤ m ∧ v = .int .i64 j ∧ out = .int .i32 ((x.kids.take j).foldl (fun v k => wrap32 (v + valF t f k.toNat)) 0) ∧ Hid (Below w.heap.size w wr)) (fun _ v _ => m - (intOf v).toNat)
          case atStart => exact ⟨0, by omega, rfl, rfl, (Below.refl _ _).alloc (Nat.le_refl _) _⟩
          case round =>
            obtain ⟨j, hj, rfl, rfl, hb⟩ := hrel
            by_cases hlt : j < m
            · obtain ⟨kb, rfl, hkb, hkc⟩ : ∃ b, ka = some ⟨b, 0, none⟩ ∧ b < w.heap.size ∧ ∀ j, j < x.kids.length → w.cell? ⟨b, j, none⟩ = some (.int .i64 (x.kids.getD j 0)) := by
                rcases H6.out with h | h
                · have := Hm.out; rw [h] at this; simp at this; omega
                · exact h
              have f1 : wr.cell? ⟨kb, j, none⟩ = some (.int .i64 (x.kids.getD j 0)) := (hb.out.cell (p := ⟨kb, j, none⟩) hkb).trans (hkc j (by rw [Hm.out]; exact hlt))
              clear hkc
              have hs := take_snoc x.kids j (by rw [Hm.out]; exact hlt)
              obtain ⟨hy1, hy2⟩ := Hkid.out j hlt
              obtain ⟨y, hy⟩ : ∃ y, x.kids.getD j 0 = y := ⟨_, rfl⟩
              rw [hy] at f1 hs hy1 hy2
              obtain ⟨acc, hacc⟩ : ∃ acc, (x.kids.take j).foldl (fun v k => wrap32 (v + valF t f k.toNat)) 0 = acc := ⟨_, rfl⟩
              have hnext : (x.kids.take (j + 1)).foldl (fun v k => wrap32 (v + valF t f k.toNat)) 0 = wrap32 (acc + valF t f y.toNat) := by rw [hs, List.foldl_append, hacc]; rfl
              rw [hacc]
              have Hs := Lib.hid hs; clear hs
              have Hy := Lib.hid hy; clear hy
              have Hacc := Lib.hid hacc; clear hacc
              have Hnext := Lib.hid hnext; clear hnext
              have Hc := Hcall.out y wr hy1 hy2 hb.out
              have HC := Lib.hid Hc; clear Hc
              go_wp2_with (first | (go_at_call 44; refine (HC.out).mono ?_; rintro e w1 ⟨rfl, hb1⟩; have HB1 := Lib.hid hb1; clear hb1) | (go_at_call 93; refine (c_wadd _ _ _).mono ?_; rintro e w2 ⟨rfl, rfl⟩))
              go_roundw
              case rel =>
                refine ⟨j + 1, by omega, by go_num, by rw [Hnext.out], ?_⟩
                exact hb.out.trans ⟨HB1.out.os, HB1.out.tape, HB1.out.output, HB1.out.size, fun q hq => HB1.out.block q (Nat.lt_of_lt_of_le hq hb.out.size)⟩
              case measure => simp [intOf]; omega
            · obtain rfl : j = m := by omega
              have hall : x.kids.take j = x.kids := List.take_of_length_le (by rw [Hm.out]; exact Nat.le_refl _)
              have hfin : valF t (f + 1) i = (x.kids.take j).foldl (fun v k => wrap32 (v + valF t f k.toNat)) 0 := by rw [Hval.out, hall]; simp [h1, h4, h3]
              have Hfin := Lib.hid hfin; clear hfin
              clear hall
              go_wp2_with fail
              go_ret
              exact ⟨ret_int Hfin.out.symm, hb.out⟩
theorem rightM_good {t : List TN} {L : Int} (h : rightM t L = true) : Good t := by
  simp only [rightM, Bool.and_eq_true, decide_eq_true_eq, List.all_eq_true, List.mem_range] at h
  exact ⟨h.1.1.2, fun i hi => ⟨L, h.1.2 i hi⟩⟩
theorem rightM_pos {t : List TN} {L : Int} (h : rightM t L = true) : 1 ≤ t.length := by
  simp only [rightM, Bool.and_eq_true, decide_eq_true_eq] at h
  exact h.1.1.1
/-- tree.Right, whatever the length. -/
theorem c_right (tb cap : Nat) (labels : Int) (t : List TN) (w : World) (ht : TreeAt w w.heap.size tb t) :
    Calls Try.prog 16 #[.slice (some ⟨tb, 0, none⟩) t.length cap, .int .i64 labels] w fun e w' => e = .returned (.bool (rightM t labels)) ∧ Below w.heap.size w w' := by
  by_cases h : 1 ≤ t.length ∧ t.length ≤ 64
  · exact c_right_in tb cap labels t w ht h.1 h.2
  · have hf : rightM t labels = false := by
      cases hr : rightM t labels with
      | false => rfl
      | true => exact absurd ⟨rightM_pos hr, (rightM_good hr).1⟩ h
    rw [hf]
    exact c_right_len _ _ _ _ _ (by omega) ht.2.1

set_option maxHeartbeats 400000 in
set_option maxRecDepth 100000 in
theorem c_Value (tb cap : Nat) (t : List TN) (w : World) (ht : TreeAt w w.heap.size tb t) :
    Calls Try.prog 13 #[.slice (some ⟨tb, 0, none⟩) t.length cap] w fun e w' => e = .returned (.tuple #[.int .i32 (if rightM t 16 then valF t t.length 0 else 0), .bool (rightM t 16)]) ∧ Below w.heap.size w w' := by
  have hc := c_right tb cap 16 t w ht
  by_cases hr : rightM t 16 = true
  · have hpos := rightM_pos hr
    have hv := fun w1 h => c_value tb cap t (rightM_good hr) t.length 0 w1 h hpos (by omega)
    rw [hr] at hc ⊢
    obtain ⟨n, hn⟩ : ∃ n, t.length = n := ⟨_, rfl⟩
    rw [hn] at hc hv hpos ⊢
    have Hc := Lib.hid hc; clear hc
    have Hv := Lib.hid hv; clear hv
    have Ht := Lib.hid ht; clear ht
    have Hn := Lib.hid hn; clear hn
    have Hr := Lib.hid hr; clear hr
    go_enter Try.func13, Try.ntmps13
    go_wp2_with fail
    refine Hc.out.mono ?_
    rintro e w1 ⟨rfl, hb⟩
    have Hb := Lib.hid hb; clear hb
    go_wp2_with fail
    have ht1 : TreeAt w1 w1.heap.size tb t := by
      obtain ⟨a1, a2, a3⟩ := Ht.out.below Hb.out (Nat.le_refl _)
      refine ⟨Nat.lt_of_lt_of_le a1 Hb.out.size, a2, fun j hj => ?_⟩
      obtain ⟨b1, b2, b3, ka', kc', b4, b5, b6⟩ := a3 j hj
      exact ⟨b1, b2, b3, ka', kc', b4, b5, b6.imp id (fun ⟨b, c1, c2, c3⟩ => ⟨b, c1, Nat.lt_of_lt_of_le c2 Hb.out.size, c3⟩)⟩
    refine (Hv.out w1 ht1).mono ?_
    rintro e w2 ⟨rfl, hb2⟩
    have Hb2 := Lib.hid hb2; clear hb2
    clear ht1
    go_wp2_with fail
    go_ret2
    exact ⟨rfl, Hb.out.trans ⟨Hb2.out.os, Hb2.out.tape, Hb2.out.output, Hb2.out.size, fun q hq => Hb2.out.block q (Nat.lt_of_lt_of_le hq Hb.out.size)⟩⟩
  · have hr' : rightM t 16 = false := by simpa using hr
    rw [hr'] at hc ⊢
    have Hc := Lib.hid hc; clear hc
    clear ht hr hr'
    go_enter Try.func13, Try.ntmps13
    go_wp2_with fail
    refine Hc.out.mono ?_
    rintro e w1 ⟨rfl, hb⟩
    have Hb := Lib.hid hb; clear hb
    go_wp2_with fail
    go_ret2
    exact ⟨rfl, Hb.out⟩
end Go.Proofs.Ytagcdnhkgndhcaa
