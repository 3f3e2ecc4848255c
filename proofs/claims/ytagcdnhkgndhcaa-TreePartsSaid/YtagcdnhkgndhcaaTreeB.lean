/- Walks: tree.Right. -/
import Derived.Test.YtagcdnhkgndhcaaTreeA
set_option linter.unusedVariables false
set_option linter.unusedSimpArgs false
namespace Go.Proofs.Ytagcdnhkgndhcaa
open Go.RowKit Go.Hoist

theorem run_make_ints (n : Nat) (hn : n ≤ 4096) (w : World) : (Instr.makeSlice 28 (.int .i64 n) (.int .i64 n)).run Try.prog w = .ok (.slice (some ⟨w.heap.size, 0, none⟩) n n) (w.alloc (.cells ((List.replicate n 0).map (Value.int .i64)).toArray 3)) := by
  obtain ⟨i, hi, hz, hs, hb⟩ : ∃ i, Try.prog.info? 3 = some i ∧ i.zero = some (.int .i64 0) ∧ i.size = 1 ∧ i.bytes = 8 := by
    have h : (Try.prog.info? 3).map (fun i => (i.zero, i.size, i.bytes)) = some (some (.int .i64 0), 1, 8) := by kernel_rfl
    cases hi : Try.prog.info? 3 with
    | none => rw [hi] at h; cases h
    | some i =>
      rw [hi] at h
      simp only [Option.map_some, Option.some.injEq, Prod.mk.injEq] at h
      exact ⟨i, rfl, h.1, h.2.1, h.2.2⟩
  have := run_make (P := Try.prog) w 28 3 i (.int .i64 0) (by kernel_rfl) hi hz .i64 .i64 n n (by omega) (Int.le_refl _) (by rw [hb]; omega) (by omega)
  rw [this]
  have e : (madeCells (Value.int .i64 0).cells ((n : Int).toNat * i.size)) = ((List.replicate n 0).map (Value.int .i64)).toArray := by
    apply Array.toList_inj.1
    rw [hs, Nat.mul_one, Int.toNat_natCast]
    show (madeCells #[Value.int .i64 0] n).toList = _
    rw [toList_madeCells_one]
    simp
  rw [e]
  simp

set_option maxHeartbeats 800000 in
set_option maxRecDepth 100000 in
theorem c_right_len (a : Option Addr) (n cap : Nat) (labels : Int) (w : World) (h : n = 0 ∨ 64 < n) (hn : n ≤ 65536) :
    Calls Try.prog 16 #[.slice a n cap, .int .i64 labels] w fun e w' => e = .returned (.bool false) ∧ Below w.heap.size w w' := by
  rcases h with h | h
  · subst h
    go_enter Try.func16, Try.ntmps16
    go_wp2_with fail
    go_ret
    exact ⟨rfl, Below.refl _ _⟩
  · go_enter Try.func16, Try.ntmps16
    go_wp2_with fail
    go_ret
    exact ⟨rfl, Below.refl _ _⟩

set_option maxHeartbeats 800000 in
set_option maxRecDepth 100000 in
theorem c_right_in (tb cap : Nat) (labels : Int) (t : List TN) (w : World) (ht : TreeAt w w.heap.size tb t) (h1 : 1 ≤ t.length) (h2 : t.length ≤ 64) :
    Calls Try.prog 16 #[.slice (some ⟨tb, 0, none⟩) t.length cap, .int .i64 labels] w fun e w' => e = .returned (.bool (rightM t labels)) ∧ Below w.heap.size w w' := by
  obtain ⟨n, hn⟩ : ∃ n, t.length = n := ⟨_, rfl⟩
  rw [hn] at h1 h2 ⊢
  have hmk := run_make_ints n (by omega)
  have Hn := Lib.hid hn; clear hn
  have Ht := Lib.hid ht; clear ht
  go_enter Try.func16, Try.ntmps16
  go_wp2_with fail
  go_loopw [22] (fun v wr => ∃ i : Nat, i ≤ n ∧ v = .int .i64 i ∧ NodeInv w wr w.heap.size (w.heap.size + 1) w.heap.size n (ofsUpto t i) ∧ Hid (∀ j, j < i → nodeOk t j labels = true)) (fun v _ => n - (intOf v).toNat)
  case atStart =>
    refine ⟨0, by omega, rfl, ⟨?_, by simp [ofsUpto, Hn.out], ?_, ?_⟩, fun j hj => by omega⟩
    · have h := (Blk.new w 3 (Array.replicate n (Value.int .i64 0))).alloc (.cells #[.slice (some ⟨w.heap.size, 0, none⟩) n n] 28)
      unfold OfAt
      simpa only [ofsUpto, Hn.out, List.map_replicate, List.toArray_replicate] using h
    · exact ((Below.refl _ _).alloc (Nat.le_refl _) _).alloc (by simp) _
    · have h := Blk.new (w.alloc (.cells (Array.replicate n (Value.int .i64 0)) 3)) 28 #[.slice (some ⟨w.heap.size, 0, none⟩) n n]
      have h2 := Blk.cell h 0
      simp only [World.size_alloc] at h2
      exact h2
  case round =>
    obtain ⟨i, hi, rfl, hN, hpre⟩ := hrel
    have hvar := hN.var
    have HN := Lib.hid hN; clear hN
    by_cases hlt : i < n
    · have hB : w.heap.size ≤ wr.heap.size := HN.out.below.size
      have tell : Calls Try.prog 46 #[.slice (some ⟨tb, 0, none⟩) n cap, .int .i64 i, .int .i64 labels, .func (.func 47) #[] #[.pointer (some ⟨w.heap.size + 1, 0, none⟩)]] wr
          fun e w' => e = .returned (.bool (nodeOk t i labels)) ∧ Hid (Below w.heap.size w w') ∧ Hid (nodeOk t i labels = true → NodeInv w w' w.heap.size (w.heap.size + 1) w.heap.size n (ofsUpto t (i + 1))) := by
        have htr : TreeAt wr w.heap.size tb t := Ht.out.below HN.out.below (Nat.le_refl _)
        have hk : (t.getD i default).kids.length ≤ 65536 := by
          obtain ⟨_, _, _, _, _, _, h, _⟩ := Ht.out.2.2 i (by rw [Hn.out]; exact hlt)
          exact h
        have hbound : ∀ i, i ≤ n → ∀ y ∈ ofsUpto t i, 0 ≤ y ∧ y ≤ ((i * 65536 : Nat) : Int) := fun i => by
          induction i with
          | zero => intro _ y hy; simp only [ofsUpto] at hy; rw [List.mem_replicate] at hy; omega
          | succ i ih =>
            intro hi y hy
            have h1 := bump_bound _ _ (ih (by omega)) y hy
            have h2 : (t.getD i default).kids.length ≤ 65536 := by
              obtain ⟨_, _, _, _, _, _, h, _⟩ := Ht.out.2.2 i (by rw [Hn.out]; omega)
              exact h
            omega
        have h := c_node w.heap.size tb cap (w.heap.size + 1) w.heap.size i labels t (ofsUpto t i) (i * 65536) wr htr (by rw [Hn.out]; exact hlt) (by rw [Hn.out]; exact h2) hB (by omega) (Nat.le_refl _) (by omega)
          (by rw [Hn.out]; exact ⟨HN.out.of_, HN.out.len, Below.refl _ _, HN.out.var⟩) (hbound i hi) (by omega)
        rw [Hn.out] at h
        exact h.mono fun e w' ⟨h1, h2, h3⟩ => ⟨h1, HN.out.below.trans h2, fun hok => ⟨(h3 hok).of_, (h3 hok).len, HN.out.below.trans (h3 hok).below, (h3 hok).var⟩⟩
      by_cases hok : nodeOk t i labels = true
      · rw [hok] at tell
        have Htell := Lib.hid tell; clear tell
        have Hok := Lib.hid hok; clear hok
        go_wp2_with (go_at_call 46; refine (Htell.out).mono ?_; rintro e w1 ⟨rfl, hB1, hN1⟩)
        go_roundw
        case rel =>
          refine ⟨i + 1, by omega, by go_num, hN1.out (by trivial), fun j hj => ?_⟩
          by_cases hji : j < i
          · exact hpre j hji
          · obtain rfl : j = i := by omega
            exact Hok.out
        case measure => simp [intOf]; omega
      · have hno : nodeOk t i labels = false := by simpa using hok
        clear hok
        rw [hno] at tell
        have Htell := Lib.hid tell; clear tell
        have hfin : rightM t labels = false := by
          cases h : rightM t labels with
          | false => rfl
          | true =>
            simp only [rightM, Bool.and_eq_true, List.all_eq_true, List.mem_range] at h
            have := h.1.2 i (by rw [Hn.out]; exact hlt)
            rw [hno] at this
            cases this
        have Hfin := Lib.hid hfin; clear hfin
        clear hno
        go_wp2_with (go_at_call 46; refine (Htell.out).mono ?_; rintro e w1 ⟨rfl, hB1, hN1⟩)
        go_ret
        exact ⟨ret_bool Hfin.out.symm, hB1.out⟩
    · obtain rfl : i = n := by omega
      have hall : (List.range t.length).all (fun j => nodeOk t j labels) = true := by
        simp only [List.all_eq_true, List.mem_range, Hn.out]
        exact hpre
      have hlen2 := HN.out.len
      have hcells : ∀ j, j < i → wr.cell? ⟨w.heap.size, j, none⟩ = some (.int .i64 ((ofsUpto t i).getD j 0)) := fun j hj => by
        rw [Blk.cell HN.out.of_]
        simp [List.getElem?_map, List.getElem?_eq_getElem (show j < (ofsUpto t i).length by omega), List.getD_eq_getElem?_getD]
      have hfin : rightM t labels = ((ofsUpto t i).drop 1).all (fun x => decide (x = 1)) := by
        unfold rightM
        rw [Hn.out, ← Hn.out, hall, Hn.out]
        simp [h1, h2]
      have Hfin := Lib.hid hfin; clear hfin
      have Hall := Lib.hid hall; clear hall
      have Hlen2 := Lib.hid hlen2; clear hlen2
      have Hcells := Lib.hid hcells; clear hcells
      have Hpre := hpre
      have hBel := HN.out.below
      have HBel := Lib.hid hBel; clear hBel
      by_cases hi1 : i = 1
      · subst hi1
        have hone : rightM t labels = true := by
          rw [Hfin.out]
          have : ((ofsUpto t 1).drop 1) = [] := List.drop_eq_nil_of_le (by rw [Hlen2.out]; exact Nat.le_refl _)
          rw [this]
          rfl
        have Hone := Lib.hid hone; clear hone
        go_wp2_with fail
        refine wp_loop_rounds 1 ?_
        rw [rounds_succ]
        go_wp2_with fail
        go_ret
        exact ⟨ret_bool Hone.out.symm, HBel.out⟩
      · go_wp2_with fail
        go_loop [35] (fun v => ∃ j : Nat, j ≤ i - 1 ∧ v = .int .i64 j ∧ Hid (∀ p, p < j → (ofsUpto t i).getD (p + 1) 0 = 1)) (fun v => i - 1 - (intOf v).toNat)
        case atStart => exact ⟨0, by omega, rfl, fun p hp => by omega⟩
        case round =>
          obtain ⟨j, hj, rfl, hq⟩ := hrel
          by_cases hjl : j < i - 1
          · obtain ⟨c, hc⟩ : ∃ c, (ofsUpto t i).getD (1 + j) 0 = c := ⟨_, rfl⟩
            have f1 := Hcells.out (1 + j) (by omega)
            rw [hc] at f1
            have Hc := Lib.hid hc; clear hc
            by_cases hc1 : c = 1
            · subst hc1
              go_wp2_with fail
              go_round
              case rel =>
                refine ⟨j + 1, by omega, by go_num, fun p hp => ?_⟩
                by_cases hpj : p < j
                · exact hq p hpj
                · obtain rfl : p = j := by omega
                  rw [Nat.add_comm]
                  exact Hc.out
              case measure => simp [intOf]; omega
            · have hno : rightM t labels = false := by
                rw [Hfin.out]
                refine List.all_eq_false.2 ⟨c, ?_, by simpa using hc1⟩
                have hl := Hlen2.out
                have : ((ofsUpto t i).drop 1)[j]? = some c := by
                  rw [List.getElem?_drop, ← Hc.out, List.getD_eq_getElem?_getD, List.getElem?_eq_getElem (by omega)]
                  rfl
                exact List.mem_of_getElem? this
              have Hno := Lib.hid hno; clear hno
              have hcb : (c != 1) = true := by rw [bne_iff_ne]; exact hc1
              go_wp2_with fail
              go_ret
              exact ⟨ret_bool Hno.out.symm, HBel.out⟩
          · obtain rfl : j = i - 1 := by omega
            have hyes : rightM t labels = true := by
              rw [Hfin.out]
              refine List.all_eq_true.2 fun x hx => ?_
              obtain ⟨p, hp, rfl⟩ := List.getElem_of_mem hx
              have hl := Hlen2.out
              have hp' : p < i - 1 := by simp at hp; omega
              have := hq p hp'
              rw [List.getD_eq_getElem?_getD, List.getElem?_eq_getElem (by omega)] at this
              simp only [Option.getD_some] at this
              simp only [List.getElem_drop, decide_eq_true_eq]
              rw [← this]
              congr 1
              omega
            have Hyes := Lib.hid hyes; clear hyes
            go_wp2_with fail
            go_ret
            exact ⟨ret_bool Hyes.out.symm, HBel.out⟩
end Go.Proofs.Ytagcdnhkgndhcaa
