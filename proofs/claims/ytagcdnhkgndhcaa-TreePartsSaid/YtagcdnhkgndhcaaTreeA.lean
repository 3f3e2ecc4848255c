/- Walks: package tree, the check. -/
import Derived.Test.YtagcdnhkgndhcaaTreeM
set_option linter.unusedVariables false
set_option linter.unusedSimpArgs false
namespace Go.Proofs.Ytagcdnhkgndhcaa
open Go.RowKit Go.Hoist

def OfAt (w : World) (ob : Nat) (ofs : List Int) : Prop := Blk w ob 3 (ofs.map (Value.int .i64)).toArray

set_option maxHeartbeats 400000 in
set_option maxRecDepth 100000 in
theorem c_kid (ofv ob x n : Nat) (ofs : List Int) (w : World) (hn : ofs.length = n) (hx : x < n) (hn2 : n ≤ 64) (hb : ∀ y ∈ ofs, 0 ≤ y ∧ y ≤ 1099511627776)
    (h0 : w.cell? ⟨ofv, 0, none⟩ = some (.slice (some ⟨ob, 0, none⟩) n n)) (h1 : OfAt w ob ofs) :
    Calls Try.prog 47 #[.int .i64 x, .pointer (some ⟨ofv, 0, none⟩)] w
     fun e w' => e = .returned (.tuple #[]) ∧ OfAt w' ob (bump ofs [(x : Int)]) ∧ ∃ v, w' = w.setCell ⟨ob, x, none⟩ v := by
  obtain ⟨c, hcd⟩ : ∃ c, ofs.getD x 0 = c := ⟨_, rfl⟩
  have hc : w.cell? ⟨ob, x, none⟩ = some (.int .i64 c) := by
    rw [Blk.cell h1, ← hcd]
    simp [List.getElem?_map, List.getElem?_eq_getElem (show x < ofs.length by omega), List.getD_eq_getElem?_getD]
  have hf : w.frozen? ⟨ob, x, none⟩ = false := Blk.free h1 x
  have hm : 0 ≤ c ∧ c ≤ 1099511627776 := by
    refine hb _ ?_
    rw [← hcd, List.getD_eq_getElem?_getD, List.getElem?_eq_getElem (show x < ofs.length by omega)]
    exact List.getElem_mem _
  obtain ⟨hm1, hm2⟩ := hm
  have hend : OfAt (w.setCell ⟨ob, x, none⟩ (.int .i64 (c + 1))) ob (bump ofs [(x : Int)]) := by
    have := Blk.set h1 x (.int .i64 (c + 1))
    unfold OfAt
    simp only [bump, Int.toNat_natCast, hcd]
    rw [List.map_set]
    simpa using this
  clear hcd hn hb h1
  go_enter Try.func47, Try.ntmps47
  go_wp2_with fail
  go_end0
  exact ⟨rfl, hend, _, rfl⟩

/-- What holds of the counts while a node's kids are told. -/
structure NodeInv (w0 wr : World) (B ofv ob n : Nat) (ofs : List Int) : Prop where
  of_ : OfAt wr ob ofs
  len : ofs.length = n
  below : Below B w0 wr
  var : wr.cell? ⟨ofv, 0, none⟩ = some (.slice (some ⟨ob, 0, none⟩) n n)

theorem nodeOk_not {t : List TN} {i : Nat} {labels : Int} (h : kidsOk t.length i (t.getD i default).kids = false) : nodeOk t i labels = false := by
  unfold nodeOk
  simp only [h, Bool.false_and]

set_option maxHeartbeats 800000 in
set_option maxRecDepth 100000 in
theorem c_node (B tb cap ofv ob i : Nat) (labels : Int) (t : List TN) (ofs : List Int) (M : Nat) (w : World) (ht : TreeAt w B tb t) (hi : i < t.length) (hlen : t.length ≤ 64)
    (hB : B ≤ w.heap.size) (hofv : B ≤ ofv) (hob : B ≤ ob) (hne : ofv ≠ ob) (hinv : NodeInv w w B ofv ob t.length ofs) (hb : ∀ y ∈ ofs, 0 ≤ y ∧ y ≤ M) (hM : M + (t.getD i default).kids.length ≤ 1099511627776) :
    Calls Try.prog 46 #[.slice (some ⟨tb, 0, none⟩) t.length cap, .int .i64 i, .int .i64 labels, .func (.func 47) #[] #[.pointer (some ⟨ofv, 0, none⟩)]] w
     fun e w' => e = .returned (.bool (nodeOk t i labels)) ∧ Below B w w' ∧ (nodeOk t i labels = true → NodeInv w w' B ofv ob t.length (bump ofs (t.getD i default).kids)) := by
  obtain ⟨ht1, ht2, ht3⟩ := ht
  obtain ⟨g1, g2, g3, ka, kc, g4, g5, g6⟩ := ht3 i hi
  obtain ⟨x, hx⟩ : ∃ x, t.getD i default = x := ⟨_, rfl⟩
  have hnot := @nodeOk_not t i labels
  rw [hx] at g1 g2 g3 g4 g5 g6 hM hnot
  obtain ⟨n, hn⟩ : ∃ n, t.length = n := ⟨_, rfl⟩
  rw [hn] at hi hlen ht2 hinv hnot
  obtain ⟨m, hm⟩ : ∃ m, x.kids.length = m := ⟨_, rfl⟩
  rw [hm] at g4 g5 hM
  obtain ⟨kind, hkind⟩ : ∃ y, x.kind = y := ⟨_, rfl⟩
  obtain ⟨label, hlabel⟩ : ∃ y, x.label = y := ⟨_, rfl⟩
  rw [hkind] at g1
  rw [hlabel] at g3
  rw [hn, hx]
  have Hnot := Lib.hid hnot; clear hnot
  have Hx := Lib.hid hx; clear hx
  have Hn := Lib.hid hn; clear hn
  have Hm := Lib.hid hm; clear hm
  have Hkind := Lib.hid hkind; clear hkind
  have Hlabel := Lib.hid hlabel; clear hlabel
  have Hb := Lib.hid hb; clear hb
  have Hinv := Lib.hid hinv; clear hinv
  have H6 := Lib.hid g6; clear g6
  have H3 := Lib.hid ht3; clear ht3
  go_enter Try.func46, Try.ntmps46
  go_wp2_with fail
  go_loopw [24] (fun v wr => ∃ k : Nat, k ≤ m ∧ v = .int .i64 k ∧ NodeInv w wr B ofv ob n (bump ofs (x.kids.take k)) ∧ Hid (∀ j, j < k → (if j = 0 then (i : Int) else x.kids.getD (j - 1) 0) < x.kids.getD j 0 ∧ x.kids.getD j 0 < n)) (fun v _ => m - (intOf v).toNat)
  case atStart => exact ⟨0, by omega, rfl, Hinv.out, fun j hj => by omega⟩
  case round =>
    obtain ⟨k, hk, rfl, hN, hpre⟩ := hrel
    have hbel := hN.below
    have e1 : wr.cell? ⟨tb, i * 4, none⟩ = some (.int .i64 kind) := (hbel.cell (p := ⟨tb, _, none⟩) ht1).trans g1
    have e3 : wr.cell? ⟨tb, i * 4 + 2, none⟩ = some (.int .i64 label) := (hbel.cell (p := ⟨tb, _, none⟩) ht1).trans g3
    have e4 : wr.cell? ⟨tb, i * 4 + 3, none⟩ = some (.slice ka m kc) := (hbel.cell (p := ⟨tb, _, none⟩) ht1).trans g4
    have hbs : B ≤ wr.heap.size := Nat.le_trans hB hbel.size
    have HN := Lib.hid hN; clear hN
    have Hbel := Lib.hid hbel; clear hbel
    clear g1 g2 g3 g4
    by_cases hlt : k < m
    · -- one more kid
      obtain ⟨kb, rfl, hkb, hkc⟩ : ∃ b, ka = some ⟨b, 0, none⟩ ∧ b < B ∧ ∀ j, j < x.kids.length → w.cell? ⟨b, j, none⟩ = some (.int .i64 (x.kids.getD j 0)) := by
        rcases H6.out with h | h
        · have := Hm.out; rw [h] at this; simp at this; omega
        · exact h
      have hcell : ∀ j, j < m → wr.cell? ⟨kb, j, none⟩ = some (.int .i64 (x.kids.getD j 0)) := fun j hj => (Hbel.out.cell (p := ⟨kb, j, none⟩) hkb).trans (hkc j (by rw [Hm.out]; exact hj))
      clear hkc
      obtain ⟨y, hy⟩ : ∃ y, x.kids.getD k 0 = y := ⟨_, rfl⟩
      have f1 := hcell k hlt
      rw [hy] at f1
      have hbad : ∀ z : Int, ¬ ((if k = 0 then (i : Int) else x.kids.getD (k - 1) 0) < y ∧ y < n) → nodeOk t i labels = false := fun _ hno => by
        refine Hnot.out ?_
        cases hc : kidsOk n i x.kids with
        | false => rfl
        | true => exact absurd (by have := (kidsOk_iff n x.kids i).1 hc k (by rw [Hm.out]; exact hlt); rwa [hy] at this) hno
      have Hbad := Lib.hid hbad; clear hbad
      have Hy := Lib.hid hy; clear hy
      by_cases hA : y ≤ i
      · clear hcell
        have hno : ¬ ((if k = 0 then (i : Int) else x.kids.getD (k - 1) 0) < y ∧ y < n) := fun ⟨h1, h2⟩ => by
          by_cases hk0 : k = 0
          · rw [if_pos hk0] at h1; omega
          · -- the one ahead of it is behind i
            have : ∀ j, j < k → (i : Int) < x.kids.getD j 0 := fun j hj => by
              induction j with
              | zero => have := hpre 0 hj; simpa using this.1
              | succ j ih => have := (hpre (j + 1) hj).1; have := ih (by omega); simp at *; omega
            rw [if_neg hk0] at h1
            have := this (k - 1) (by omega)
            omega
        have Hno := Lib.hid hno; clear hno
        go_wp2_with fail
        go_ret
        exact ⟨ret_bool (Hbad.out 0 Hno.out).symm, Hbel.out, fun h => by rw [Hbad.out 0 Hno.out] at h; cases h⟩
      · by_cases hC : (n : Int) ≤ y
        · clear hcell
          have hno : ¬ ((if k = 0 then (i : Int) else x.kids.getD (k - 1) 0) < y ∧ y < n) := fun ⟨h1, h2⟩ => by omega
          have Hno := Lib.hid hno; clear hno
          go_wp2_with fail
          go_ret
          exact ⟨ret_bool (Hbad.out 0 Hno.out).symm, Hbel.out, fun h => by rw [Hbad.out 0 Hno.out] at h; cases h⟩
        · have tell : (if k = 0 then (i : Int) else x.kids.getD (k - 1) 0) < y → Calls Try.prog 47 #[.int .i64 y, .pointer (some ⟨ofv, 0, none⟩)] wr fun e w' => e = .returned (.tuple #[]) ∧ NodeInv w w' B ofv ob n (bump ofs (x.kids.take (k + 1))) := fun hlast => by
            have hlen' : (bump ofs (x.kids.take k)).length = n := HN.out.len
            obtain ⟨yn, rfl⟩ := Int.eq_ofNat_of_zero_le (show 0 ≤ y by omega)
            refine (c_kid ofv ob yn n (bump ofs (x.kids.take k)) wr hlen' (by omega) hlen ?_ HN.out.var HN.out.of_).mono ?_
            · intro v hv
              have := bump_bound _ _ Hb.out v hv
              have hl : (x.kids.take k).length ≤ m := by rw [List.length_take, Hm.out]; omega
              omega
            · rintro e w' ⟨rfl, h1, v, rfl⟩
              refine ⟨rfl, ?_, ?_, HN.out.below.setCell hob _, ?_⟩
              · rw [take_snoc x.kids k (by rw [Hm.out]; exact hlt), bump_append, Hy.out]
                exact h1
              · rw [bump_length]; rw [bump_length] at hlen'; exact hlen'
              · rw [World.cell?_setCell_other _ _ _ _ (by intro e; injection e with e; exact hne e.symm)]
                exact HN.out.var
          have Htell := Lib.hid tell; clear tell
          by_cases hk0 : k = 0
          · subst hk0
            clear hcell
            go_wp2_with (go_at_call 47; refine (Htell.out (by simp; omega)).mono ?_; rintro e w1 ⟨rfl, hN1⟩; have HN1 := Lib.hid hN1; clear hN1)
            go_roundw
            case rel =>
              refine ⟨1, by omega, rfl, HN1.out, fun j hj => ?_⟩
              obtain rfl : j = 0 := by omega
              have := Hy.out
              exact ⟨by rw [if_pos rfl]; omega, by omega⟩
            case measure => simp [intOf]; omega
          · obtain ⟨z, hz⟩ : ∃ z, x.kids.getD (k - 1) 0 = z := ⟨_, rfl⟩
            have f2 := hcell (k - 1) (by omega)
            rw [hz] at f2
            have Hz := Lib.hid hz; clear hz
            clear hcell
            by_cases hD : y ≤ z
            · have hno : ¬ ((if k = 0 then (i : Int) else x.kids.getD (k - 1) 0) < y ∧ y < n) := fun ⟨h1, h2⟩ => by rw [if_neg hk0, Hz.out] at h1; omega
              have Hno := Lib.hid hno; clear hno
              go_wp2_with fail
              go_ret
              exact ⟨ret_bool (Hbad.out 0 Hno.out).symm, Hbel.out, fun h => by rw [Hbad.out 0 Hno.out] at h; cases h⟩
            · go_wp2_with (go_at_call 47; refine (Htell.out (by rw [if_neg hk0, Hz.out]; omega)).mono ?_; rintro e w1 ⟨rfl, hN1⟩; have HN1 := Lib.hid hN1; clear hN1)
              go_roundw
              case rel =>
                refine ⟨k + 1, by omega, by go_num, HN1.out, fun j hj => ?_⟩
                by_cases hjk : j < k
                · exact hpre j hjk
                · obtain rfl : j = k := by omega
                  have := Hy.out
                  have := Hz.out
                  exact ⟨by rw [if_neg hk0]; omega, by omega⟩
              case measure => simp [intOf]; omega
    · obtain rfl : k = m := by omega
      have hkids : kidsOk n i x.kids = true := (kidsOk_iff n x.kids i).2 (by rw [Hm.out]; exact hpre)
      have hfin : nodeOk t i labels = (decide (0 ≤ label) && decide (label < labels) && (if kind = 1 then decide (k = 0) else if kind = 2 ∨ kind = 3 then decide (k ≤ 8) else if kind = 4 then decide (k = 2) else false)) := by
        unfold nodeOk
        simp only [Hx.out, Hn.out, hkids, Hlabel.out, Hkind.out, Hm.out, Bool.true_and]
      have hin : NodeInv w wr B ofv ob n (bump ofs x.kids) := by
        have := HN.out
        rwa [List.take_of_length_le (by rw [Hm.out]; exact Nat.le_refl _)] at this
      have Hin := Lib.hid hin; clear hin
      have Hkids := Lib.hid hkids; clear hkids
      have Hfin := Lib.hid hfin; clear hfin
      go_wp2_with fail
      all_goals go_ret
      all_goals refine ⟨ret_bool (Eq.trans ?_ Hfin.out.symm), Hbel.out, fun _ => Hin.out⟩
      all_goals (try simp only [beq_iff_eq, beq_eq_false_iff_ne] at *)
      all_goals (try simp [*])
      all_goals first
        | (intro _; exfalso; omega)
        | (intro _ _; exfalso; omega)
        | omega
        | (rw [Bool.eq_iff_iff]; simp only [beq_iff_eq, decide_eq_true_eq]; omega)
end Go.Proofs.Ytagcdnhkgndhcaa
