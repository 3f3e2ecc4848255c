/- Walks: package tree: the code of a node. -/
import Derived.Test.YtagcdnhkgndhcaaTreeC
import Derived.Test.YtagcdnhkgndhcaaPlan
import Derived.Test.YtagcdnhkgndhcaaOwn
import Derived.WideMake
import Derived.Deep.DeepCutAuto
import Derived.Deep.CutBlock
set_option linter.unusedVariables false
set_option linter.unusedSimpArgs false
namespace Go.Proofs.Ytagcdnhkgndhcaa
open Go.RowKit Go.Hoist

set_option maxHeartbeats 400000 in
theorem c_in (op arg : Int) (w : World) (h1 : -2147483648 ≤ arg) (h2 : arg ≤ 2147483647) : Calls Try.prog 95 #[.int .i64 op, .int .i64 arg] w fun e w' => e = .returned (.agg #[.int .i64 op, .int .i32 arg]) ∧ Below w.heap.size w w' := by
  go_enter Try.func95, Try.ntmps95
  go_wp2_with fail
  exact bodyPost_ret (v := .agg #[.int .i64 op, .int .i32 arg]) (by simp [results, Try.results95, go_sem]) rfl ⟨rfl, (Below.refl _ _).alloc (Nat.le_refl _) _⟩

/-! ### The map of three operations -/
theorem push_set (xs : Array Obj) (a b : Obj) : (xs.push a).setIfInBounds xs.size b = xs.push b := by
  cases xs with
  | mk l => simp [List.set_append]
theorem ins_top (w : World) (r : Nat) (h : w.heap.size = r) (es : Array MapEntry) (c : Nat) (k v : Int) (hf : Instr.findNow (.int .i64) (.int .i64 k) es.toList 0 = some none) :
    (Instr.mapUpdate 171 (.map (some r)) (.int .i64 k) (.int .i64 v)).run Try.prog (w.alloc (.map es c)) = .ok () (w.alloc (.map (es.push { key := .int .i64 k, val := .int .i64 v, born := c }) (c + 1))) := by
  subst h
  have hm : Try.prog.underlying 171 = some (.map 3 3) := by kernel_rfl
  have hk : Try.prog.underlying 3 = some (.int .i64) := by kernel_rfl
  have hb : (w.alloc (.map es c)).heap[w.heap.size]? = some (.map es c) := heap_alloc_new w _
  have hc : (Instr.checkKey false 10000 3 (.int .i64 k)).run Try.prog (w.alloc (.map es c)) = .ok () (w.alloc (.map es c)) := MapKept.run_checkKey (k := .int .i64 k) hk (by simp [MapKept.IsKey]) false 9999
  have hs : ({ (w.alloc (.map es c)) with heap := (w.alloc (.map es c)).heap.setIfInBounds w.heap.size (.map (es.push { key := .int .i64 k, val := .int .i64 v, born := c }) (c + 1)) } : World) = w.alloc (.map (es.push { key := .int .i64 k, val := .int .i64 v, born := c }) (c + 1)) := by
    exact congrArg (fun h => ({ w with heap := h } : World)) (push_set _ _ _)
  simp [Instr.mapUpdate, run_underlying hm, MapKept.run_getObj_map hb, hc, MapKept.run_findKey hk hf, MapKept.run_setObj_map _ hb, Result.andThen]
  exact hs
def opsMap : Array MapEntry := #[{ key := .int .i64 2, val := .int .i64 4, born := 0 }, { key := .int .i64 3, val := .int .i64 6, born := 1 }, { key := .int .i64 4, val := .int .i64 5, born := 2 }]
def mapOp (k : Int) : Int := if k = 2 then 4 else if k = 3 then 6 else 5
theorem look_ops (w : World) (r : Nat) (hb : w.heap[r]? = some (.map opsMap 3)) (k : Int) (h : k = 2 ∨ k = 3 ∨ k = 4) : (Instr.lookup 171 (.map (some r)) (.int .i64 k) false).run Try.prog w = .ok (.int .i64 (mapOp k)) w := by
  have hm : Try.prog.underlying 171 = some (.map 3 3) := by kernel_rfl
  have hk : Try.prog.underlying 3 = some (.int .i64) := by kernel_rfl
  have hc : (Instr.checkKey false 10000 3 (.int .i64 k)).run Try.prog w = .ok () w := MapKept.run_checkKey (k := .int .i64 k) hk (by simp [MapKept.IsKey]) false 9999
  have he : opsMap.isEmpty = false := rfl
  rcases h with rfl | rfl | rfl
  · have hf : Instr.findNow (.int .i64) (.int .i64 2) opsMap.toList 0 = some (some (0, .int .i64 4)) := rfl
    simp [Instr.lookup, run_underlying hm, MapKept.run_getObj_map hb, he, hc, MapKept.run_findKey hk hf, Result.andThen, mapOp]
  · have hf : Instr.findNow (.int .i64) (.int .i64 3) opsMap.toList 0 = some (some (1, .int .i64 6)) := rfl
    simp [Instr.lookup, run_underlying hm, MapKept.run_getObj_map hb, he, hc, MapKept.run_findKey hk hf, Result.andThen, mapOp]
  · have hf : Instr.findNow (.int .i64) (.int .i64 4) opsMap.toList 0 = some (some (2, .int .i64 5)) := rfl
    simp [Instr.lookup, run_underlying hm, MapKept.run_getObj_map hb, he, hc, MapKept.run_findKey hk hf, Result.andThen, mapOp]
theorem ins0 (w : World) (r : Nat) (h : w.heap.size = r) : (Instr.mapUpdate 171 (.map (some r)) (.int .i64 2) (.int .i64 4)).run Try.prog (w.alloc (.map #[] 0)) = .ok () (w.alloc (.map #[{ key := .int .i64 2, val := .int .i64 4, born := 0 }] 1)) := ins_top w r h #[] 0 2 4 rfl
theorem ins1 (w : World) (r : Nat) (h : w.heap.size = r) : (Instr.mapUpdate 171 (.map (some r)) (.int .i64 3) (.int .i64 6)).run Try.prog (w.alloc (.map #[{ key := .int .i64 2, val := .int .i64 4, born := 0 }] 1)) = .ok () (w.alloc (.map #[{ key := .int .i64 2, val := .int .i64 4, born := 0 }, { key := .int .i64 3, val := .int .i64 6, born := 1 }] 2)) := ins_top w r h _ 1 3 6 rfl
theorem ins2 (w : World) (r : Nat) (h : w.heap.size = r) : (Instr.mapUpdate 171 (.map (some r)) (.int .i64 4) (.int .i64 5)).run Try.prog (w.alloc (.map #[{ key := .int .i64 2, val := .int .i64 4, born := 0 }, { key := .int .i64 3, val := .int .i64 6, born := 1 }] 2)) = .ok () (w.alloc (.map opsMap 3)) := ins_top w r h _ 2 4 5 rfl


theorem heap_keep {w : World} {b : Nat} {o : Obj} (p : Obj) (h : w.heap[b]? = some o) : (w.alloc p).heap[b]? = some o := by
  have hl := (Array.getElem?_eq_some_iff.1 h).1
  show (w.heap.push _)[b]? = _
  rw [Array.getElem?_push, if_neg (by omega)]
  exact h
theorem grown_other {w w' : World} {base : Nat} {e : TypeId} {size : Nat} {v : Value} {n : Nat} {xs : List Value} {b : Nat} {o : Obj} (hown : w.ownsRow base e size v n xs) (hg : w.grownBy w' v.ownBlock) (hb : w.heap[b]? = some o) (hne : ∀ cs fr, o ≠ .cells cs e fr) : w'.heap[b]? = some o := by
  rw [hg.block b (Array.getElem?_eq_some_iff.1 hb).1 (fun h => ?_)]
  · exact hb
  · rcases hown.2 with ⟨h5, _⟩ | ⟨g, cap, cur, h5, h6, h7, h8⟩
    · rw [h5] at h; cases h
    · rw [h5] at h
      simp only [Value.ownBlock, Option.some.injEq] at h
      subst h
      rw [hb] at h7
      exact hne _ _ (Option.some.inj h7)
theorem grown_blk {w w' : World} {base : Nat} {e T : TypeId} {size : Nat} {v : Value} {n : Nat} {xs : List Value} {b : Nat} {cs : Array Value} (hown : w.ownsRow base e size v n xs) (hg : w.grownBy w' v.ownBlock) (hb : Blk w b T cs) (hne : T ≠ e) : Blk w' b T cs :=
  grown_other hown hg hb (fun cs' fr h => by cases h; exact hne rfl)

/-! ### The code -/
def icells (l : List (Int × Int)) : List Value := l.flatMap fun p => [.int .i64 p.1, .int .i32 p.2]
theorem icells_append (l m : List (Int × Int)) : icells (l ++ m) = icells l ++ icells m := by simp [icells]
theorem icells_one (l : List (Int × Int)) : ∀ u ∈ icells l, u.oneCell' = true := by
  intro u hu
  simp only [icells, List.mem_flatMap, List.mem_cons, List.not_mem_nil, or_false] at hu
  obtain ⟨p, _, rfl | rfl⟩ := hu <;> rfl
theorem icells_length (l : List (Int × Int)) : (icells l).length = l.length * 2 := by
  induction l with
  | nil => rfl
  | cons p l ih => simp only [icells, List.flatMap_cons, List.length_append, List.length_cons, List.length_nil] at ih ⊢; omega
def forkI (t : List TN) (k : Int) : List (Int × Int) := [(1, (t.getD k.toNat default).label), (1, 0), (20, k)]
def foldI (kind : Int) : List (Int × Int) := [(21, 0), (12, 1), (mapOp kind, 0), (13, 1)]
def forksM (t : List TN) (ks : List Int) : List (Int × Int) := ks.flatMap (forkI t)
def foldsM (kind : Int) (m : Nat) : List (Int × Int) := (List.replicate m (foldI kind)).flatten
def codeM (t : List TN) (i : Nat) : List (Int × Int) :=
  let x := t.getD i default
  if x.kind = 1 then [(1, x.val), (25, 0)]
  else if x.kids.length = 0 ∧ x.kind = 3 then [(1, 1), (25, 0)]
  else if x.kids.length = 0 then [(1, 0), (25, 0)]
  else forksM t x.kids ++ [(21, 0), (13, 1)] ++ foldsM x.kind (x.kids.length - 1) ++ [(12, 1), (25, 0)]
theorem codeM_eq (t : List TN) (i : Nat) (x : TN) (h : t.getD i default = x) : codeM t i = if x.kind = 1 then [(1, x.val), (25, 0)]
  else if x.kids.length = 0 ∧ x.kind = 3 then [(1, 1), (25, 0)]
  else if x.kids.length = 0 then [(1, 0), (25, 0)]
  else forksM t x.kids ++ [(21, 0), (13, 1)] ++ foldsM x.kind (x.kids.length - 1) ++ [(12, 1), (25, 0)] := by
  subst h
  rfl
theorem forksM_length (t : List TN) (ks : List Int) : (forksM t ks).length = ks.length * 3 := by
  induction ks with
  | nil => rfl
  | cons k ks ih => simp only [forksM, List.flatMap_cons, List.length_append, forkI, List.length_cons, List.length_nil] at ih ⊢; omega
theorem forksM_succ (t : List TN) (ks : List Int) (j : Nat) (h : j < ks.length) : forksM t (ks.take (j + 1)) = forksM t (ks.take j) ++ forkI t (ks.getD j 0) := by
  rw [take_snoc ks j h]
  simp [forksM]
theorem foldsM_length (kind : Int) (m : Nat) : (foldsM kind m).length = m * 4 := by
  induction m with
  | zero => rfl
  | succ m ih => simp only [foldsM, List.replicate_succ, List.flatten_cons, List.length_append, foldI, List.length_cons, List.length_nil] at ih ⊢; omega
theorem foldsM_succ (kind : Int) (m : Nat) : foldsM kind (m + 1) = foldsM kind m ++ foldI kind := by
  simp [foldsM, List.replicate_succ', List.flatten_append]
theorem eltInstr : Elt Try.prog 39 38 (.agg #[.int .i64 0, .int .i32 0]) 2 16 := ⟨by kernel_rfl, by kernel_rfl, by kernel_rfl, by decide⟩
theorem own_build (w : World) (base : Nat) (e : TypeId) (size n : Nat) (cs : Array Value) (xs : List Value) (hx : cs.toList = xs) (hb : base ≤ w.heap.size) (hn : n ≤ 65536) (hs : cs.size = n * size) : (w.alloc (.cells cs e)).ownsRow base e size (.slice (some ⟨w.heap.size, 0, none⟩) n n) n xs := by
  subst hx
  refine ⟨by simpa using hs, .inr ⟨w.heap.size, n, cs, rfl, hb, heap_alloc_new w _, Nat.le_refl _, by unfold maxLen; omega, hs, ?_⟩⟩
  rw [← hs]
  exact List.take_of_length_le (by simp)

/-- Lists of kids whose spare room is known. -/
def CapAt (w : World) (tb : Nat) (t : List TN) : Prop := ∀ i, i < t.length → ∀ a c, w.cell? ⟨tb, i * 4 + 3, none⟩ = some (.slice a (t.getD i default).kids.length c) → (t.getD i default).kids.length ≤ c ∧ c ≤ 9223372036854775807
/-- What the code needs of a tree: labels that fit. -/
theorem Good.label {t : List TN} {L : Int} (h : rightM t L = true) (hL : L ≤ 16) {i : Nat} (hi : i < t.length) : 0 ≤ (t.getD i default).label ∧ (t.getD i default).label ≤ 15 := by
  simp only [rightM, Bool.and_eq_true, decide_eq_true_eq, List.all_eq_true, List.mem_range] at h
  have := h.1.2 i hi
  simp only [nodeOk, Bool.and_eq_true, decide_eq_true_eq] at this
  omega
theorem Good.kind {t : List TN} {L : Int} (h : rightM t L = true) {i : Nat} (hi : i < t.length) : ((t.getD i default).kind = 1 ∧ (t.getD i default).kids.length = 0) ∨ (((t.getD i default).kind = 2 ∨ (t.getD i default).kind = 3 ∨ (t.getD i default).kind = 4) ∧ (t.getD i default).kids.length ≤ 8) := by
  simp only [rightM, Bool.and_eq_true, decide_eq_true_eq, List.all_eq_true, List.mem_range] at h
  have := h.1.2 i hi
  simp only [nodeOk, Bool.and_eq_true] at this
  have h2 := this.2
  split at h2
  · rename_i h1
    exact .inl ⟨h1, by simpa using h2⟩
  · split at h2
    · rename_i h1
      refine .inr ⟨?_, of_decide_eq_true h2⟩
      rcases h1 with h1 | h1
      · exact .inl h1
      · exact .inr (.inl h1)
    · split at h2
      · rename_i h1
        exact .inr ⟨.inr (.inr h1), by have := of_decide_eq_true h2; omega⟩
      · cases h2

set_option maxHeartbeats 1600000 in
set_option maxRecDepth 100000 in
theorem c_code (tb cap : Nat) (t : List TN) (i : Nat) (w : World) (ht : TreeAt w w.heap.size tb t) (hi : i < t.length) (hr : rightM t 16 = true) (hcap : CapAt w tb t) :
    Calls Try.prog 45 #[.slice (some ⟨tb, 0, none⟩) t.length cap, .int .i64 i] w fun e w' => ∃ v, e = .returned v ∧ w'.ownsRow w.heap.size 38 2 v (codeM t i).length (icells (codeM t i)) ∧ Below w.heap.size w w' := by
  have hkids := fun (k : Nat) (hk : k < (t.getD i default).kids.length) => (rightM_good hr).kid hi hk
  have hlab := fun (j : Nat) (hj : j < t.length) => Good.label hr (Int.le_refl _) hj
  have hkind4 := Good.kind hr hi
  have hn64 := (rightM_good hr).1
  clear hr
  obtain ⟨n, hn⟩ : ∃ n, t.length = n := ⟨_, rfl⟩
  obtain ⟨g1, g2, g3, ka, kc, g4, g5, g6⟩ := ht.2.2 i hi
  obtain ⟨hkc1, hkc2⟩ := hcap i hi _ _ g4
  clear hcap
  obtain ⟨x, hx⟩ : ∃ x, t.getD i default = x := ⟨_, rfl⟩
  have hcode := codeM_eq t i x hx
  rw [hx] at g1 g2 g3 g4 g5 g6 hkids hkind4 hkc1
  rw [hn] at hi hkids hlab hn64 ⊢
  obtain ⟨kind, hkind⟩ : ∃ y, x.kind = y := ⟨_, rfl⟩
  rw [hkind] at g1 hkind4 hcode
  have hmk := @run_makeMap Try.prog
  have i0 := ins0
  have i1 := ins1
  have i2 := ins2
  have HT := Lib.hid ht; clear ht
  have Hcode := Lib.hid hcode; clear hcode
  have Hkids := Lib.hid hkids; clear hkids
  have Hlab := Lib.hid hlab; clear hlab
  have H6 := Lib.hid g6; clear g6
  have Hn := Lib.hid hn; clear hn
  clear hkind hx
  by_cases h1 : kind = 1
  · subst h1
    clear hkind4
    go_enter Try.func45, Try.ntmps45
    go_wp2_with fail
    have HB := Lib.hid ((((Below.refl _ w).alloc (Nat.le_refl _) (.cells #[.int .i64 1, .int .i32 x.val, .int .i64 x.label, .slice ka x.kids.length kc] 30)).alloc (by simp) (.map opsMap 3)).drew)
    refine wp_region_tree [(1, 3)] (.seg [0, 1, 2, 3] (.seg [4, 5] (.done))) 94 mixed rfl (by kernel_rfl) ?_
    simp only [wpV, pick, List.filterMap_cons, List.filterMap_nil, List.getElem?_toArray, List.getElem?_cons_zero, List.getElem?_cons_succ]
    go_wp2_with (go_at_call 95; refine (c_in _ _ _ (by omega) (by omega)).mono ?_; rintro e w1 ⟨rfl, hb1⟩; have e1 := (hb1.cell (p := ⟨w.heap.size, 1, none⟩) (by simp; omega)).trans (by simp : _ = some (Value.int .i32 x.val)); replace HB := Lib.hid (below_then HB.out hb1 HB.out.size); clear hb1)
    refine ⟨rfl, (fun l hl => by have hl' : l = 1 := (by simp [racing, raceOf] at hl; omega); subst hl'; intro _; go_simp), ?_⟩
    go_wp2_with fail
    refine ⟨rfl, (fun l hl => by simp [racing, raceOf] at hl), ?_⟩
    go_wp2_with fail
    go_ret
    refine ⟨_, rfl, ?_, HB.out.alloc HB.out.size _⟩
    have hc : codeM t i = [(1, x.val), (25, 0)] := by rw [Hcode.out]; simp
    rw [hc]
    exact own_build _ _ _ _ _ _ _ rfl HB.out.size (by decide) rfl
  · have hk1 : (kind == 1) = false := by simpa using h1
    have hk234 : kind = 2 ∨ kind = 3 ∨ kind = 4 := by omega
    obtain ⟨m, hm⟩ : ∃ m, x.kids.length = m := ⟨_, rfl⟩
    have hm8 : m ≤ 8 := by omega
    rw [hm] at g4 g5 Hkids hkc1
    rw [hm] at Hcode
    clear hkind4
    have Hm := Lib.hid hm; clear hm
    have hsz0 : w.heap.size ≤ (((w.alloc (.cells #[.int .i64 kind, .int .i32 x.val, .int .i64 x.label, .slice ka m kc] 30)).alloc (.map opsMap 3))).heap.size := by simp; omega
    have HB := Lib.hid ((((Below.refl _ w).alloc (Nat.le_refl _) (.cells #[.int .i64 kind, .int .i32 x.val, .int .i64 x.label, .slice ka m kc] 30)).alloc (by simp) (.map opsMap 3)))
    by_cases hm0 : m = 0
    · subst hm0
      by_cases h3 : kind = 3
      · subst h3
        go_enter Try.func45, Try.ntmps45
        go_wp2_with ((go_at_call 95; refine (c_in _ _ _ (by omega) (by omega)).mono ?_; rintro e w1 ⟨rfl, hb1⟩; have hs1 := hb1.size; replace HB := Lib.hid (below_then HB.out hb1 HB.out.size); clear hb1))
        go_ret
        refine ⟨_, rfl, ?_, HB.out.alloc HB.out.size _⟩
        have hc : codeM t i = [(1, 1), (25, 0)] := by rw [Hcode.out]; simp
        rw [hc]
        exact own_build _ _ _ _ _ _ _ rfl HB.out.size (by decide) rfl
      · have hk3 : (kind == 3) = false := by simpa using h3
        go_enter Try.func45, Try.ntmps45
        go_wp2_with ((go_at_call 95; refine (c_in _ _ _ (by omega) (by omega)).mono ?_; rintro e w1 ⟨rfl, hb1⟩; have hs1 := hb1.size; replace HB := Lib.hid (below_then HB.out hb1 HB.out.size); clear hb1))
        go_ret
        refine ⟨_, rfl, ?_, HB.out.alloc HB.out.size _⟩
        have hc : codeM t i = [(1, 0), (25, 0)] := by rw [Hcode.out]; simp [h1, h3]
        rw [hc]
        exact own_build _ _ _ _ _ _ _ rfl HB.out.size (by decide) rfl
    · have hc : codeM t i = forksM t x.kids ++ [(21, 0), (13, 1)] ++ foldsM kind (m - 1) ++ [(12, 1), (25, 0)] := by rw [Hcode.out]; simp [h1, hm0]
      have Hc := Lib.hid hc; clear hc
      have hmpos : 0 < m := by omega
      have hm0' : ((m : Int) == 0) = false := by simpa using hm0
      obtain ⟨kb, rfl, hkb, hkc⟩ : ∃ b, ka = some ⟨b, 0, none⟩ ∧ b < w.heap.size ∧ ∀ j, j < x.kids.length → w.cell? ⟨b, j, none⟩ = some (.int .i64 (x.kids.getD j 0)) := by
        rcases H6.out with h | h
        · have := Hm.out; rw [h] at this; simp at this; omega
        · exact h
      have Hkc := Lib.hid hkc; clear hkc
      go_enter Try.func45, Try.ntmps45
      go_wp2_with fail
      obtain ⟨W1, hW1⟩ : ∃ W1, ((w.alloc (.cells #[.int .i64 kind, .int .i32 x.val, .int .i64 x.label, .slice (some ⟨kb, 0, none⟩) m kc] 30)).alloc (.map opsMap 3)) = W1 := ⟨_, rfl⟩
      have hX : Blk W1 w.heap.size 30 #[.int .i64 kind, .int .i32 x.val, .int .i64 x.label, .slice (some ⟨kb, 0, none⟩) m kc] := by rw [← hW1]; exact (Blk.new w _ _).alloc _
      have hM : W1.heap[w.heap.size + 1]? = some (.map opsMap 3) := by rw [← hW1]; have := heap_alloc_new (w.alloc (.cells #[.int .i64 kind, .int .i32 x.val, .int .i64 x.label, .slice (some ⟨kb, 0, none⟩) m kc] 30)) (.map opsMap 3); simpa using this
      rw [hW1] at HB hsz0 ⊢
      have HX := Lib.hid hX; clear hX
      have HM := Lib.hid hM; clear hM hW1
      go_loopw [49, 7] (fun v u wr => ∃ j : Nat, j ≤ m ∧ v = .int .i64 j ∧ Hid (wr.ownsRow w.heap.size 38 2 u (forksM t (x.kids.take j)).length (icells (forksM t (x.kids.take j)))) ∧ Hid (Below w.heap.size w wr) ∧ Hid (Blk wr w.heap.size 30 #[.int .i64 kind, .int .i32 x.val, .int .i64 x.label, .slice (some ⟨kb, 0, none⟩) m kc]) ∧ Hid (wr.heap[w.heap.size + 1]? = some (.map opsMap 3))) (fun v _ _ => m - (intOf v).toNat)
      case atStart => exact ⟨0, by omega, rfl, Lib.hid ⟨rfl, .inl ⟨rfl, rfl⟩⟩, HB, HX, HM⟩
      case round =>
        clear HB HX HM
        obtain ⟨j, hj, rfl, HO, HB, HX, HM⟩ := hrel
        have hln := forksM_length t (x.kids.take j)
        have hlt0 : (x.kids.take j).length ≤ 8 := by simp only [List.length_take]; omega
        by_cases hlt : j < m
        · obtain ⟨hy1, hy2⟩ := Hkids.out j hlt
          have hs := forksM_succ t x.kids j (by rw [Hm.out]; exact hlt)
          have hcell := (HB.out.cell (p := ⟨kb, j, none⟩) hkb).trans (Hkc.out j (by rw [Hm.out]; exact hlt))
          obtain ⟨y, hy⟩ : ∃ y, x.kids.getD j 0 = y := ⟨_, rfl⟩
          rw [hy] at hy1 hy2 hs hcell
          obtain ⟨k, rfl⟩ := Int.eq_ofNat_of_zero_le (show 0 ≤ y by omega)
          have hkn : k < n := by omega
          obtain ⟨hl1, hl2⟩ := Hlab.out k hkn
          have hT := HT.out.below HB.out (Nat.le_refl _)
          obtain ⟨_, _, lc, _⟩ := hT.2.2 k (by rw [Hn.out]; exact hkn)
          obtain ⟨lb, hlb⟩ : ∃ lb, (t.getD k default).label = lb := ⟨_, rfl⟩
          rw [hlb] at lc hl1 hl2
          have hf : forkI t (k : Int) = [(1, lb), (1, 0), (20, (k : Int))] := by unfold forkI; rw [Int.toNat_natCast, hlb]
          rw [hf] at hs
          have Hs := Lib.hid hs; clear hs
          clear hf hlb hy hT
          obtain ⟨q, hq⟩ : ∃ q, (forksM t (x.kids.take j)).length = q := ⟨_, rfl⟩
          rw [hq] at HO hln
          have Hq := Lib.hid hq; clear hq
          have hln' : q ≤ 24 := by omega
          clear hln hlt0
          go_wp2_with (first | (go_at_call 95; refine (c_in _ _ _ (by omega) (by omega)).mono ?_; rintro e w1 ⟨rfl, hb1⟩; have hs1 := hb1.size; replace HB := Lib.hid (below_then HB.out hb1 HB.out.size); replace HX := Lib.hid (HX.out.below hb1 HX.out.lt); replace HM := Lib.hid ((hb1.block _ (Array.getElem?_eq_some_iff.1 HM.out).1).trans HM.out); replace HO := Lib.hid (own_below HO.out hb1); have e0 := HX.out.cell 0; clear hb1) | (at_builtin; refine wpAppAt eltInstr rfl _ _ rfl w.heap.size _ _ _ rfl (HO.out.alloc _) ⟨w1.heap.size, 0, none⟩ 3 3 (icells [(1, lb), (1, 0), (20, (k : Int))]) rfl rfl (RdAt.blk (Blk.new _ _ _)) (icells_one _) (by omega) (by decide) (by have := HB.out.size; simp; omega) ?_; intro u2 w2 hown2 hgr2 _ _; have HO2 := Lib.hid hown2; have HG2 := Lib.hid hgr2; clear hown2 hgr2))
          go_roundw
          case rel => exact ⟨j + 1, by omega, by go_num, Lib.hid (by rw [Hs.out, icells_append, List.length_append, Hq.out]; exact HO2.out), Lib.hid (below_grown (HB.out.alloc HB.out.size _) HG2.out (by have := HB.out.size; simp; omega) (own_ge HO.out)), Lib.hid (grown_blk (HO.out.alloc _) HG2.out (HX.out.alloc _) (by decide)), Lib.hid (grown_other (HO.out.alloc _) HG2.out (heap_keep _ HM.out) (fun _ _ h => by cases h))⟩
          case measure => simp [intOf]; omega
        · obtain rfl : j = m := by omega
          have htk : x.kids.take j = x.kids := List.take_of_length_le (by rw [Hm.out]; exact Nat.le_refl _)
          rw [htk] at HO hln
          rw [Hm.out] at hln
          clear htk hlt0
          obtain ⟨q, hq⟩ : ∃ q, (forksM t x.kids).length = q := ⟨_, rfl⟩
          rw [hq] at HO hln
          have Hq := Lib.hid hq; clear hq
          have hln' : q ≤ 24 := by omega
          clear hln
          have e3 := HX.out.cell 3
          by_cases hkk : kc = 1
          · subst hkk
            go_wp2_with (first | (go_at_call 95; refine (c_in _ _ _ (by omega) (by omega)).mono ?_; rintro e w1 ⟨rfl, hb1⟩; have hs1 := hb1.size; replace HB := Lib.hid (below_then HB.out hb1 HB.out.size); replace HX := Lib.hid (HX.out.below hb1 HX.out.lt); replace HM := Lib.hid ((hb1.block _ (Array.getElem?_eq_some_iff.1 HM.out).1).trans HM.out); replace HO := Lib.hid (own_below HO.out hb1); have e0 := HX.out.cell 0; clear hb1) | (at_builtin; refine wpAppAt eltInstr rfl _ _ rfl w.heap.size _ _ _ rfl (HO.out.alloc _) ⟨w1.heap.size, 0, none⟩ 2 2 (icells [(21, 0), (13, 1)]) rfl rfl (RdAt.blk (Blk.new _ _ _)) (icells_one _) (by omega) (by decide) (by have := HB.out.size; simp; omega) ?_; intro u2 w2 hown2 hgr2 _ _; have HO2 := Lib.hid hown2; have HG2 := Lib.hid hgr2; clear hown2 hgr2; have hX2 := grown_blk (HO.out.alloc _) HG2.out (HX.out.alloc _) (by decide); have hM2 := grown_other (HO.out.alloc _) HG2.out (heap_keep _ HM.out) (fun _ _ h => by cases h); have hB2 := below_grown (HB.out.alloc HB.out.size _) HG2.out (by have := HB.out.size; simp; omega) (own_ge HO.out); replace HX := Lib.hid hX2; replace HM := Lib.hid hM2; replace HB := Lib.hid hB2; clear hX2 hM2 hB2 HG2; have e3 := HX.out.cell 3))
            clear e3 e0
            have HY : Hid (∃ vv, Blk w2 w.heap.size 30 #[.int .i64 kind, .int .i32 x.val, .int .i64 x.label, vv]) := Lib.hid ⟨_, HX.out⟩
            go_loopw [75, 7] (fun v u wr => ∃ j2 : Nat, j2 ≤ j - 1 ∧ v = .int .i64 j2 ∧ Hid (wr.ownsRow w.heap.size 38 2 u (q + 2 + j2 * 4) (icells (forksM t x.kids ++ [(21, 0), (13, 1)] ++ foldsM kind j2))) ∧ Hid (Below w.heap.size w wr) ∧ Hid (∃ vv, Blk wr w.heap.size 30 #[.int .i64 kind, .int .i32 x.val, .int .i64 x.label, vv]) ∧ Hid (wr.heap[w.heap.size + 1]? = some (.map opsMap 3))) (fun v _ _ => j - (intOf v).toNat)
            case atStart => exact ⟨0, by omega, rfl, Lib.hid (by have := HO2.out; rw [← icells_append] at this; simpa [foldsM] using this), HB, HY, HM⟩
            case round =>
              clear HB HX HM HO HO2 HY
              obtain ⟨j2, hj2, rfl, HO, HB, HY, HM⟩ := hrel
              obtain ⟨vv, hX⟩ := HY.out
              have HX := Lib.hid hX; clear hX HY
              have e0 := HX.out.cell 0
              by_cases hlt2 : j2 < j - 1
              · exfalso; omega
              · obtain rfl : j2 = j - 1 := by omega
                go_wp2_with (first | (go_at_call 95; refine (c_in _ _ _ (by omega) (by omega)).mono ?_; rintro e w1 ⟨rfl, hb1⟩; have hs1 := hb1.size; replace HB := Lib.hid (below_then HB.out hb1 HB.out.size); replace HX := Lib.hid (HX.out.below hb1 HX.out.lt); replace HM := Lib.hid ((hb1.block _ (Array.getElem?_eq_some_iff.1 HM.out).1).trans HM.out); replace HO := Lib.hid (own_below HO.out hb1); have e0 := HX.out.cell 0; clear hb1) | (at_builtin; refine wpAppAt eltInstr rfl _ _ rfl w.heap.size _ _ _ rfl (HO.out.alloc _) ⟨w1.heap.size, 0, none⟩ 2 2 (icells [(12, 1), (25, 0)]) rfl rfl (RdAt.blk (Blk.new _ _ _)) (icells_one _) (by omega) (by decide) (by have := HB.out.size; simp; omega) ?_; intro u2 w2 hown2 hgr2 _ _; have HO2 := Lib.hid hown2; have HG2 := Lib.hid hgr2; clear hown2 hgr2))
                go_ret
                refine ⟨_, rfl, ?_, below_grown (HB.out.alloc HB.out.size _) HG2.out (by have := HB.out.size; simp; omega) (own_ge HO.out)⟩
                have h := HO2.out
                rw [← icells_append] at h
                rw [Hc.out]
                have hl : (forksM t x.kids ++ [(21, 0), (13, 1)] ++ foldsM kind (j - 1) ++ [(12, 1), (25, 0)]).length = q + 2 + (j - 1) * 4 + 2 := by
                  simp only [List.length_append, List.length_cons, List.length_nil, foldsM_length, Hq.out]
                rw [hl]
                exact h
          · go_wp2_with (first | (go_at_call 95; refine (c_in _ _ _ (by omega) (by omega)).mono ?_; rintro e w1 ⟨rfl, hb1⟩; have hs1 := hb1.size; replace HB := Lib.hid (below_then HB.out hb1 HB.out.size); replace HX := Lib.hid (HX.out.below hb1 HX.out.lt); replace HM := Lib.hid ((hb1.block _ (Array.getElem?_eq_some_iff.1 HM.out).1).trans HM.out); replace HO := Lib.hid (own_below HO.out hb1); have e0 := HX.out.cell 0; clear hb1) | (at_builtin; refine wpAppAt eltInstr rfl _ _ rfl w.heap.size _ _ _ rfl (HO.out.alloc _) ⟨w1.heap.size, 0, none⟩ 2 2 (icells [(21, 0), (13, 1)]) rfl rfl (RdAt.blk (Blk.new _ _ _)) (icells_one _) (by omega) (by decide) (by have := HB.out.size; simp; omega) ?_; intro u2 w2 hown2 hgr2 _ _; have HO2 := Lib.hid hown2; have HG2 := Lib.hid hgr2; clear hown2 hgr2; have hX2 := grown_blk (HO.out.alloc _) HG2.out (HX.out.alloc _) (by decide); have hM2 := grown_other (HO.out.alloc _) HG2.out (heap_keep _ HM.out) (fun _ _ h => by cases h); have hB2 := below_grown (HB.out.alloc HB.out.size _) HG2.out (by have := HB.out.size; simp; omega) (own_ge HO.out); replace HX := Lib.hid hX2; replace HM := Lib.hid hM2; replace HB := Lib.hid hB2; clear hX2 hM2 hB2 HG2; have e3 := HX.out.cell 3))
            clear e3 e0
            have HY : Hid (∃ vv, Blk w2 w.heap.size 30 #[.int .i64 kind, .int .i32 x.val, .int .i64 x.label, vv]) := Lib.hid ⟨_, HX.out⟩
            go_loopw [75, 7] (fun v u wr => ∃ j2 : Nat, j2 ≤ j - 1 ∧ v = .int .i64 j2 ∧ Hid (wr.ownsRow w.heap.size 38 2 u (q + 2 + j2 * 4) (icells (forksM t x.kids ++ [(21, 0), (13, 1)] ++ foldsM kind j2))) ∧ Hid (Below w.heap.size w wr) ∧ Hid (∃ vv, Blk wr w.heap.size 30 #[.int .i64 kind, .int .i32 x.val, .int .i64 x.label, vv]) ∧ Hid (wr.heap[w.heap.size + 1]? = some (.map opsMap 3))) (fun v _ _ => j - (intOf v).toNat)
            case atStart => exact ⟨0, by omega, rfl, Lib.hid (by have := HO2.out; rw [← icells_append] at this; simpa [foldsM] using this), HB, HY, HM⟩
            case round =>
              clear HB HX HM HO HO2 HY
              obtain ⟨j2, hj2, rfl, HO, HB, HY, HM⟩ := hrel
              obtain ⟨vv, hX⟩ := HY.out
              have HX := Lib.hid hX; clear hX HY
              have e0 := HX.out.cell 0
              by_cases hlt2 : j2 < j - 1
              · have Hs := Lib.hid (foldsM_succ kind j2)
                go_upto_region 18 with fail
                have HMd : Hid (wr.drew.heap[w.heap.size + 1]? = some (.map opsMap 3)) := Lib.hid HM.out
                have HBd := Lib.hid HB.out.drew
                have HXd := Lib.hid HX.out.drew
                have HOd := Lib.hid (own_below HO.out ((Below.refl _ wr).drew))
                clear HM HB HX HO
                have HM := HMd
                have HB := HBd
                have HX := HXd
                have HO := HOd
                clear HMd HBd HXd HOd e0
                have e0 := HX.out.cell 0
                refine wp_region_tree [(5, 1), (5, 2)] (.seg [0, 3, 4, 5] (.fork (.seg [1] (.fork (.seg [2] (.seg [6, 7, 8, 9, 10, 11] (.done))) (.seg [6, 2] (.seg [7, 8, 9, 10, 11] (.done))))) (.seg [6, 1] (.seg [2] (.seg [7, 8, 9, 10, 11] (.done)))))) 94 mixed rfl (by kernel_rfl) ?_
                simp only [wpV, pick, List.filterMap_cons, List.filterMap_nil, List.getElem?_toArray, List.getElem?_cons_zero, List.getElem?_cons_succ]
                go_wp2_with ((go_at_call 95; refine (c_in _ _ _ (by omega) (by omega)).mono ?_; rintro e w1 ⟨rfl, hb1⟩; have hs1 := hb1.size; replace HB := Lib.hid (below_then HB.out hb1 HB.out.size); replace HX := Lib.hid (HX.out.below hb1 HX.out.lt); replace HM := Lib.hid ((hb1.block _ (Array.getElem?_eq_some_iff.1 HM.out).1).trans HM.out); replace HO := Lib.hid (own_below HO.out hb1); have e0 := HX.out.cell 0; clear hb1))
                refine ⟨rfl, (fun l hl => by simp [racing, raceOf] at hl), ?_⟩
                refine ⟨?_, ?_⟩
                · go_wp2_with ((go_at_call 95; refine (c_in _ _ _ (by omega) (by omega)).mono ?_; rintro e w1 ⟨rfl, hb1⟩; have hs1 := hb1.size; replace HB := Lib.hid (below_then HB.out hb1 HB.out.size); replace HX := Lib.hid (HX.out.below hb1 HX.out.lt); replace HM := Lib.hid ((hb1.block _ (Array.getElem?_eq_some_iff.1 HM.out).1).trans HM.out); replace HO := Lib.hid (own_below HO.out hb1); have e0 := HX.out.cell 0; clear hb1))
                  refine ⟨rfl, (fun l hl => by have hl' : l = 5 := (by simp [racing, raceOf] at hl; omega); subst hl'; intro _; go_simp), ?_⟩
                  refine ⟨?_, ?_⟩
                  · go_wp2_with ((go_at_call 95; refine (c_in _ _ _ (by omega) (by omega)).mono ?_; rintro e w1 ⟨rfl, hb1⟩; have hs1 := hb1.size; replace HB := Lib.hid (below_then HB.out hb1 HB.out.size); replace HX := Lib.hid (HX.out.below hb1 HX.out.lt); replace HM := Lib.hid ((hb1.block _ (Array.getElem?_eq_some_iff.1 HM.out).1).trans HM.out); replace HO := Lib.hid (own_below HO.out hb1); have e0 := HX.out.cell 0; clear hb1))
                    refine ⟨rfl, (fun l hl => by have hl' : l = 5 := (by simp [racing, raceOf] at hl; omega); subst hl'; intro _; go_simp), ?_⟩
                    have lk := look_ops _ _ HM.out kind hk234
                    go_step
                    go_step
                    go_step
                    (go_at_call 95; refine (c_in _ _ _ (by omega) (by omega)).mono ?_; rintro e w1 ⟨rfl, hb1⟩; have hs1 := hb1.size; replace HB := Lib.hid (below_then HB.out hb1 HB.out.size); replace HX := Lib.hid (HX.out.below hb1 HX.out.lt); replace HM := Lib.hid ((hb1.block _ (Array.getElem?_eq_some_iff.1 HM.out).1).trans HM.out); replace HO := Lib.hid (own_below HO.out hb1); have e0 := HX.out.cell 0; clear hb1)
                    go_simp
                    go_step
                    go_step
                    (go_at_call 95; refine (c_in _ _ _ (by omega) (by omega)).mono ?_; rintro e w1 ⟨rfl, hb1⟩; have hs1 := hb1.size; replace HB := Lib.hid (below_then HB.out hb1 HB.out.size); replace HX := Lib.hid (HX.out.below hb1 HX.out.lt); replace HM := Lib.hid ((hb1.block _ (Array.getElem?_eq_some_iff.1 HM.out).1).trans HM.out); replace HO := Lib.hid (own_below HO.out hb1); have e0 := HX.out.cell 0; clear hb1)
                    go_simp
                    go_step
                    go_step
                    go_step
                    refine wpAppAt eltInstr rfl _ _ rfl w.heap.size _ (q + 2 + j2 * 4) _ rfl (HO.out.alloc _) ⟨w1.heap.size, 0, none⟩ 4 4 (icells [(21, 0), (12, 1), (mapOp kind, 0), (13, 1)]) rfl rfl (RdAt.blk (Blk.new _ _ _)) (icells_one _) (by omega) (by decide) (by have := HB.out.size; simp; omega) ?_
                    intro u2 w2 hown2 hgr2 _ _; have HO2 := Lib.hid hown2; have HG2 := Lib.hid hgr2; clear hown2 hgr2
                    go_wp2_with fail
                    refine ⟨rfl, (fun l hl => by simp [racing, raceOf] at hl), ?_⟩
                    go_wp2_with fail
                    go_roundw
                    case rel => exact ⟨j2 + 1, by omega, by go_num, Lib.hid (by have h := HO2.out; rw [← icells_append, show q + 2 + j2 * 4 + 4 = q + 2 + (j2 + 1) * 4 by omega] at h; rw [Hs.out, foldI, ← List.append_assoc]; exact h), Lib.hid (below_grown (HB.out.alloc HB.out.size _) HG2.out (by have := HB.out.size; simp; omega) (own_ge HO.out)), Lib.hid ⟨_, grown_blk (HO.out.alloc _) HG2.out (HX.out.alloc _) (by decide)⟩, Lib.hid (grown_other (HO.out.alloc _) HG2.out (heap_keep _ HM.out) (fun _ _ h => by cases h))⟩
                    case measure => simp [intOf]; omega
                  · have lk := look_ops _ _ HM.out kind hk234
                    go_wp2_with ((go_at_call 95; refine (c_in _ _ _ (by omega) (by omega)).mono ?_; rintro e w1 ⟨rfl, hb1⟩; have hs1 := hb1.size; replace HB := Lib.hid (below_then HB.out hb1 HB.out.size); replace HX := Lib.hid (HX.out.below hb1 HX.out.lt); replace HM := Lib.hid ((hb1.block _ (Array.getElem?_eq_some_iff.1 HM.out).1).trans HM.out); replace HO := Lib.hid (own_below HO.out hb1); have e0 := HX.out.cell 0; clear hb1))
                    refine ⟨rfl, (fun l hl => by have hl' : l = 5 := (by simp [racing, raceOf] at hl; omega); subst hl'; intro _; go_simp), ?_⟩
                    go_step
                    (go_at_call 95; refine (c_in _ _ _ (by omega) (by omega)).mono ?_; rintro e w1 ⟨rfl, hb1⟩; have hs1 := hb1.size; replace HB := Lib.hid (below_then HB.out hb1 HB.out.size); replace HX := Lib.hid (HX.out.below hb1 HX.out.lt); replace HM := Lib.hid ((hb1.block _ (Array.getElem?_eq_some_iff.1 HM.out).1).trans HM.out); replace HO := Lib.hid (own_below HO.out hb1); have e0 := HX.out.cell 0; clear hb1)
                    go_simp
                    go_step
                    go_step
                    (go_at_call 95; refine (c_in _ _ _ (by omega) (by omega)).mono ?_; rintro e w1 ⟨rfl, hb1⟩; have hs1 := hb1.size; replace HB := Lib.hid (below_then HB.out hb1 HB.out.size); replace HX := Lib.hid (HX.out.below hb1 HX.out.lt); replace HM := Lib.hid ((hb1.block _ (Array.getElem?_eq_some_iff.1 HM.out).1).trans HM.out); replace HO := Lib.hid (own_below HO.out hb1); have e0 := HX.out.cell 0; clear hb1)
                    go_simp
                    go_step
                    go_step
                    go_step
                    refine wpAppAt eltInstr rfl _ _ rfl w.heap.size _ (q + 2 + j2 * 4) _ rfl (HO.out.alloc _) ⟨w1.heap.size, 0, none⟩ 4 4 (icells [(21, 0), (12, 1), (mapOp kind, 0), (13, 1)]) rfl rfl (RdAt.blk (Blk.new _ _ _)) (icells_one _) (by omega) (by decide) (by have := HB.out.size; simp; omega) ?_
                    intro u2 w2 hown2 hgr2 _ _; have HO2 := Lib.hid hown2; have HG2 := Lib.hid hgr2; clear hown2 hgr2
                    go_wp2_with fail
                    refine ⟨rfl, (fun l hl => by simp [racing, raceOf] at hl), ?_⟩
                    go_wp2_with fail
                    go_roundw
                    case rel => exact ⟨j2 + 1, by omega, by go_num, Lib.hid (by have h := HO2.out; rw [← icells_append, show q + 2 + j2 * 4 + 4 = q + 2 + (j2 + 1) * 4 by omega] at h; rw [Hs.out, foldI, ← List.append_assoc]; exact h), Lib.hid (below_grown (HB.out.alloc HB.out.size _) HG2.out (by have := HB.out.size; simp; omega) (own_ge HO.out)), Lib.hid ⟨_, grown_blk (HO.out.alloc _) HG2.out (HX.out.alloc _) (by decide)⟩, Lib.hid (grown_other (HO.out.alloc _) HG2.out (heap_keep _ HM.out) (fun _ _ h => by cases h))⟩
                    case measure => simp [intOf]; omega
                · have lk := look_ops _ _ HM.out kind hk234
                  go_wp2_with ((go_at_call 95; refine (c_in _ _ _ (by omega) (by omega)).mono ?_; rintro e w1 ⟨rfl, hb1⟩; have hs1 := hb1.size; replace HB := Lib.hid (below_then HB.out hb1 HB.out.size); replace HX := Lib.hid (HX.out.below hb1 HX.out.lt); replace HM := Lib.hid ((hb1.block _ (Array.getElem?_eq_some_iff.1 HM.out).1).trans HM.out); replace HO := Lib.hid (own_below HO.out hb1); have e0 := HX.out.cell 0; clear hb1))
                  refine ⟨rfl, (fun l hl => by have hl' : l = 5 := (by simp [racing, raceOf] at hl; omega); subst hl'; intro _; go_simp), ?_⟩
                  go_wp2_with ((go_at_call 95; refine (c_in _ _ _ (by omega) (by omega)).mono ?_; rintro e w1 ⟨rfl, hb1⟩; have hs1 := hb1.size; replace HB := Lib.hid (below_then HB.out hb1 HB.out.size); replace HX := Lib.hid (HX.out.below hb1 HX.out.lt); replace HM := Lib.hid ((hb1.block _ (Array.getElem?_eq_some_iff.1 HM.out).1).trans HM.out); replace HO := Lib.hid (own_below HO.out hb1); have e0 := HX.out.cell 0; clear hb1))
                  refine ⟨rfl, (fun l hl => by have hl' : l = 5 := (by simp [racing, raceOf] at hl; omega); subst hl'; intro _; go_simp), ?_⟩
                  go_step
                  (go_at_call 95; refine (c_in _ _ _ (by omega) (by omega)).mono ?_; rintro e w1 ⟨rfl, hb1⟩; have hs1 := hb1.size; replace HB := Lib.hid (below_then HB.out hb1 HB.out.size); replace HX := Lib.hid (HX.out.below hb1 HX.out.lt); replace HM := Lib.hid ((hb1.block _ (Array.getElem?_eq_some_iff.1 HM.out).1).trans HM.out); replace HO := Lib.hid (own_below HO.out hb1); have e0 := HX.out.cell 0; clear hb1)
                  go_simp
                  go_step
                  go_step
                  (go_at_call 95; refine (c_in _ _ _ (by omega) (by omega)).mono ?_; rintro e w1 ⟨rfl, hb1⟩; have hs1 := hb1.size; replace HB := Lib.hid (below_then HB.out hb1 HB.out.size); replace HX := Lib.hid (HX.out.below hb1 HX.out.lt); replace HM := Lib.hid ((hb1.block _ (Array.getElem?_eq_some_iff.1 HM.out).1).trans HM.out); replace HO := Lib.hid (own_below HO.out hb1); have e0 := HX.out.cell 0; clear hb1)
                  go_simp
                  go_step
                  go_step
                  go_step
                  refine wpAppAt eltInstr rfl _ _ rfl w.heap.size _ (q + 2 + j2 * 4) _ rfl (HO.out.alloc _) ⟨w1.heap.size, 0, none⟩ 4 4 (icells [(21, 0), (12, 1), (mapOp kind, 0), (13, 1)]) rfl rfl (RdAt.blk (Blk.new _ _ _)) (icells_one _) (by omega) (by decide) (by have := HB.out.size; simp; omega) ?_
                  intro u2 w2 hown2 hgr2 _ _; have HO2 := Lib.hid hown2; have HG2 := Lib.hid hgr2; clear hown2 hgr2
                  go_wp2_with fail
                  refine ⟨rfl, (fun l hl => by simp [racing, raceOf] at hl), ?_⟩
                  go_wp2_with fail
                  go_roundw
                  case rel => exact ⟨j2 + 1, by omega, by go_num, Lib.hid (by have h := HO2.out; rw [← icells_append, show q + 2 + j2 * 4 + 4 = q + 2 + (j2 + 1) * 4 by omega] at h; rw [Hs.out, foldI, ← List.append_assoc]; exact h), Lib.hid (below_grown (HB.out.alloc HB.out.size _) HG2.out (by have := HB.out.size; simp; omega) (own_ge HO.out)), Lib.hid ⟨_, grown_blk (HO.out.alloc _) HG2.out (HX.out.alloc _) (by decide)⟩, Lib.hid (grown_other (HO.out.alloc _) HG2.out (heap_keep _ HM.out) (fun _ _ h => by cases h))⟩
                  case measure => simp [intOf]; omega
              · obtain rfl : j2 = j - 1 := by omega
                go_wp2_with (first | (go_at_call 95; refine (c_in _ _ _ (by omega) (by omega)).mono ?_; rintro e w1 ⟨rfl, hb1⟩; have hs1 := hb1.size; replace HB := Lib.hid (below_then HB.out hb1 HB.out.size); replace HX := Lib.hid (HX.out.below hb1 HX.out.lt); replace HM := Lib.hid ((hb1.block _ (Array.getElem?_eq_some_iff.1 HM.out).1).trans HM.out); replace HO := Lib.hid (own_below HO.out hb1); have e0 := HX.out.cell 0; clear hb1) | (at_builtin; refine wpAppAt eltInstr rfl _ _ rfl w.heap.size _ _ _ rfl (HO.out.alloc _) ⟨w1.heap.size, 0, none⟩ 2 2 (icells [(12, 1), (25, 0)]) rfl rfl (RdAt.blk (Blk.new _ _ _)) (icells_one _) (by omega) (by decide) (by have := HB.out.size; simp; omega) ?_; intro u2 w2 hown2 hgr2 _ _; have HO2 := Lib.hid hown2; have HG2 := Lib.hid hgr2; clear hown2 hgr2))
                go_ret
                refine ⟨_, rfl, ?_, below_grown (HB.out.alloc HB.out.size _) HG2.out (by have := HB.out.size; simp; omega) (own_ge HO.out)⟩
                have h := HO2.out
                rw [← icells_append] at h
                rw [Hc.out]
                have hl : (forksM t x.kids ++ [(21, 0), (13, 1)] ++ foldsM kind (j - 1) ++ [(12, 1), (25, 0)]).length = q + 2 + (j - 1) * 4 + 2 := by
                  simp only [List.length_append, List.length_cons, List.length_nil, foldsM_length, Hq.out]
                rw [hl]
                exact h
end Go.Proofs.Ytagcdnhkgndhcaa

