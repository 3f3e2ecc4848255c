/- A region that draws its order may be walked along a plan: what changes nothing is taken early; where two operations that change something may come up in either order, the plan forks. Conditions: a Bool over the region's text and the plan; what is loaded beside a call reads the same behind it. -/
import Derived.Test.YtagcdnhkgndhcaaHoist
set_option linter.unusedVariables false
set_option linter.unusedSimpArgs false
namespace Go.Hoist

section
variable {P : Program} {ops : Array Oper} {R : Nat → Nat → Bool} {K : Act → World → Prop}

/-! ### 1. One step, whatever follows -/
def stepK (P : Program) (ops : Array Oper) (R : Nat → Nat → Bool) (i : Nat) (k : Held → Act → World → Prop) (D : Held) (a : Act) (w : World) : Prop :=
  ∃ o, ops[i]? = some o ∧
    if quiet P o then ∃ v, Yld P ops o a w v ∧ k (keep ops i o a v D) (a.put o.dst v) w
    else wpOp P ops Dead i (fun a' w' => Sound P R D i w' ∧ k D a' w') a w
def MonoK (k : Held → Act → World → Prop) : Prop := ∀ D D' a w, (∀ x, x ∈ D' → x ∈ D) → k D a w → k D' a w
theorem MonoK.step {i : Nat} {k : Held → Act → World → Prop} (hk : MonoK k) : MonoK (stepK P ops R i k) := by
  rintro D D' a w hd ⟨o, ho, h⟩
  refine ⟨o, ho, ?_⟩
  split
  · rename_i hq
    simp only [hq, if_true] at h
    obtain ⟨v, hy, h⟩ := h
    exact ⟨v, hy, hk _ _ _ _ (keep_mono hd) h⟩
  · rename_i hq
    rw [if_neg hq] at h
    exact wpOp_mono (fun a' w' ⟨h1, h2⟩ => ⟨h1.mono hd, hk _ _ _ _ hd h2⟩) h
theorem stepK_under {i : Nat} {k k' : Held → Act → World → Prop} (hc : ∀ D a w, k D a w → k' D a w) {D : Held} {a : Act} {w : World} (h : stepK P ops R i k D a w) : stepK P ops R i k' D a w := by
  obtain ⟨o, ho, h⟩ := h
  refine ⟨o, ho, ?_⟩
  split
  · rename_i hq
    simp only [hq, if_true] at h
    obtain ⟨v, hy, h⟩ := h
    exact ⟨v, hy, hc _ _ _ h⟩
  · rename_i hq
    rw [if_neg hq] at h
    exact wpOp_mono (fun a' w' ⟨h1, h2⟩ => ⟨h1, hc _ _ _ h2⟩) h
theorem Yld.only {o : Oper} {a : Act} {w : World} {v v' : Value} (h : Yld P ops o a w v) (h' : Yld P ops o a w v') : v = v' := by
  rcases h with ⟨h1, h2, _⟩ | ⟨h1, h2⟩ <;> rcases h' with ⟨g1, g2, _⟩ | ⟨g1, g2⟩
  · rw [h2] at g2
    simpa using g2
  · rw [h1] at g1; cases g1
  · rw [h1] at g1; cases g1
  · rw [h2, g2]
theorem stepK_and {i : Nat} {o : Oper} (hi : ops[i]? = some o) (hq : quiet P o = true) {k k' : Held → Act → World → Prop} {D : Held} {a : Act} {w : World} (h : stepK P ops R i k D a w) (h' : stepK P ops R i k' D a w) : stepK P ops R i (fun D a w => k D a w ∧ k' D a w) D a w := by
  obtain ⟨o1, ho1, h⟩ := h
  obtain ⟨o2, ho2, h'⟩ := h'
  obtain rfl : o1 = o := Option.some.inj (ho1.symm.trans hi)
  obtain rfl : o2 = o1 := Option.some.inj (ho2.symm.trans hi)
  simp only [hq, if_true] at h h'
  obtain ⟨v, hy, h⟩ := h
  obtain ⟨v', hy', h'⟩ := h'
  obtain rfl := hy.only hy'
  refine ⟨_, hi, ?_⟩
  simp only [hq, if_true]
  exact ⟨v, hy, h, h'⟩

/-- Two that stand so may change places. -/
theorem stepK_swap {i x : Nat} {oi ox : Oper} {k : Held → Act → World → Prop} (hk : MonoK k) {D : Held} {a : Act} {w : World} (hi : ops[i]? = some oi) (hx : ops[x]? = some ox) (hsi : noSel oi = true) (hsx : noSel ox = true)
    (hq : quiet P oi = true) (hap : oi.apart ops ox = true) (hc : quiet P ox = true ∨ blind P oi = true ∨ R i x = true) (h : stepK P ops R i (stepK P ops R x k) D a w) : stepK P ops R x (stepK P ops R i k) D a w := by
  obtain ⟨h1, h2, h3⟩ := Oper.apart_spec hap
  obtain ⟨o, ho, h⟩ := h
  obtain rfl : o = oi := Option.some.inj (ho.symm.trans hi)
  simp only [hq, if_true] at h
  obtain ⟨v, hy, o', ho', h⟩ := h
  obtain rfl : o' = ox := Option.some.inj (ho'.symm.trans hx)
  refine ⟨o', hx, ?_⟩
  have same_x : Same ops o' a (a.put o.dst v) := Same.put (noSel_spec hsx) (⟨rfl, rfl⟩ : Same ops o' a a) _ _ h1
  by_cases hqx : quiet P o' = true
  · simp only [hqx, if_true] at h ⊢
    obtain ⟨u, hu, h⟩ := h
    have same_x' : Same ops o' (a.put o.dst v) a := ⟨same_x.1.symm, same_x.2.symm⟩
    have same_i : Same ops o a (a.put o'.dst u) := Same.put (noSel_spec hsi) (⟨rfl, rfl⟩ : Same ops o a a) _ _ h3
    refine ⟨u, same_x'.yld hu, o, hi, ?_⟩
    simp only [hq, if_true]
    refine ⟨v, same_i.yld hy, ?_⟩
    rw [same_i.keep, Act.put_comm _ _ _ (fun d hd he => h2 d he hd)]
    refine hk _ _ _ _ (fun z hz => ?_) h
    rw [same_x.keep]
    exact keep_swap z hz
  · rw [if_neg hqx] at h ⊢
    have h4 := wpOp_put' hx hap (noSel_spec hsi) (noSel_spec hsx) h
    refine wpOp_mono (fun a' w' ⟨hs, h5, h6⟩ => ⟨h5.mono (fun z hz => ?_), o, hi, ?_⟩) h4
    · unfold Hoist.keep
      split
      · exact List.mem_cons_of_mem _ hz
      · exact hz
    · simp only [hq, if_true]
      refine ⟨v, ?_, ?_⟩
      · rcases hy with ⟨g1, g2, g3⟩ | ⟨g1, g2⟩
        · refine .inl ⟨hs.2.trans g1, ?_, fun hb w'' => by rw [hs.1]; exact g3 hb w''⟩
          rw [hs.1]
          rcases hc with hc | hc | hc
          · exact absurd hc hqx
          · exact g3 hc w'
          · exact h5 (i, execOp a.eval o, v) (by simp [Hoist.keep, g1]) hc
        · exact .inr ⟨hs.2.trans g1, g2⟩
      · rw [hs.keep]
        exact h6

/-! ### 2. Plans -/
inductive Plan where
  | done
  | step (i : Nat) (p : Plan)
  | fork (p q : Plan)

def wpP (P : Program) (ops : Array Oper) (R : Nat → Nat → Bool) (K : Act → World → Prop) : Plan → Held → Act → World → Prop
  | .done => fun _ a w => K a w
  | .step i p => stepK P ops R i (wpP P ops R K p)
  | .fork p q => fun D a w => wpP P ops R K p D a w ∧ wpP P ops R K q D a w
theorem wpP_mono : ∀ p : Plan, MonoK (wpP P ops R K p)
  | .done => fun _ _ _ _ _ h => h
  | .step i p => (wpP_mono p).step
  | .fork p q => fun D D' a w hd h => ⟨wpP_mono p D D' a w hd h.1, wpP_mono q D D' a w hd h.2⟩

def Plan.paths : Plan → List (List Nat)
  | .done => [[]]
  | .step i p => p.paths.map (i :: ·)
  | .fork p q => p.paths ++ q.paths
theorem Plan.paths_ne : ∀ p : Plan, p.paths ≠ []
  | .done => by simp [Plan.paths]
  | .step i p => by simp [Plan.paths, Plan.paths_ne p]
  | .fork p q => by simp [Plan.paths, Plan.paths_ne p]
def soft (P : Program) (ops : Array Oper) (i : Nat) : Bool := match ops[i]? with
  | some o => quiet P o
  | none => true
/-- Takes a quiet one out. -/
def Plan.rm (x : Nat) : Plan → Plan
  | .done => .done
  | .step i p => if i = x then p else .step i (p.rm x)
  | .fork p q => .fork (p.rm x) (q.rm x)
def Plan.fl (s : Nat → Bool) : Plan → List Nat
  | .done => []
  | .step i p => if s i then p.fl s else [i]
  | .fork p q => p.fl s ++ q.fl s
/-- The part where the first loud one is this one, it being out. -/
def Plan.sel (s : Nat → Bool) (x : Nat) : Plan → Plan
  | .done => .done
  | .step i p => if i = x then p else .step i (p.sel s x)
  | .fork p q => if (p.fl s).contains x then p.sel s x else q.sel s x
def Plan.wf (s : Nat → Bool) : Plan → Bool
  | .done => true
  | .step _ p => p.wf s
  | .fork p q => p.wf s && q.wf s && (p.fl s).all (fun x => !(q.fl s).contains x)
theorem Plan.rm_paths (x : Nat) : ∀ p : Plan, (p.rm x).paths = p.paths.map (·.erase x)
  | .done => rfl
  | .step i p => by
    simp only [Plan.rm, Plan.paths]
    split
    · rename_i h
      subst h
      simp [List.map_map, Function.comp_def]
    · rename_i h
      simp only [Plan.paths, Plan.rm_paths x p, List.map_map]
      refine List.map_congr_left fun l _ => ?_
      simp [List.erase_cons_tail (show ¬ (i == x) = true by simpa using h)]
  | .fork p q => by simp [Plan.rm, Plan.paths, Plan.rm_paths x p, Plan.rm_paths x q]
theorem Plan.rm_fl {s : Nat → Bool} {x : Nat} (hx : s x = true) : ∀ p : Plan, (p.rm x).fl s = p.fl s
  | .done => rfl
  | .step i p => by
    simp only [Plan.rm]
    split
    · rename_i h
      subst h
      simp [Plan.fl, hx]
    · simp [Plan.fl, Plan.rm_fl hx p]
  | .fork p q => by simp [Plan.rm, Plan.fl, Plan.rm_fl hx p, Plan.rm_fl hx q]
theorem Plan.rm_wf {s : Nat → Bool} {x : Nat} (hx : s x = true) : ∀ p : Plan, p.wf s = true → (p.rm x).wf s = true
  | .done, _ => rfl
  | .step i p, h => by
    simp only [Plan.rm]
    split
    · exact h
    · exact Plan.rm_wf hx p h
  | .fork p q, h => by
    simp only [Plan.wf, Bool.and_eq_true] at h
    simp only [Plan.rm, Plan.wf, Bool.and_eq_true, Plan.rm_fl hx]
    exact ⟨⟨Plan.rm_wf hx p h.1.1, Plan.rm_wf hx q h.1.2⟩, h.2⟩
theorem Plan.sel_wf {s : Nat → Bool} {x : Nat} : ∀ p : Plan, p.wf s = true → (p.sel s x).wf s = true
  | .done, _ => rfl
  | .step i p, h => by
    simp only [Plan.sel]
    split
    · exact h
    · exact Plan.sel_wf p h
  | .fork p q, h => by
    simp only [Plan.wf, Bool.and_eq_true] at h
    simp only [Plan.sel]
    split
    · exact Plan.sel_wf p h.1.1
    · exact Plan.sel_wf q h.1.2
/-- The loud ones of a list. -/
def loud (s : Nat → Bool) (l : List Nat) : List Nat := l.filter (fun i => !s i)
theorem Plan.fl_path {s : Nat → Bool} : ∀ (p : Plan) (l : List Nat) (x : Nat) (r : List Nat), l ∈ p.paths → loud s l = x :: r → x ∈ p.fl s
  | .done, l, x, r, h, hl => by
    simp only [Plan.paths, List.mem_singleton] at h
    subst h
    simp [loud] at hl
  | .step i p, l, x, r, h, hl => by
    simp only [Plan.paths, List.mem_map] at h
    obtain ⟨l, h, rfl⟩ := h
    simp only [Plan.fl]
    simp only [loud, List.filter_cons] at hl
    split
    · rename_i hs
      simp only [hs, Bool.not_true, Bool.false_eq_true, if_false] at hl
      exact Plan.fl_path p l x r h hl
    · rename_i hs
      simp only [hs, Bool.not_false, if_true, List.cons.injEq] at hl
      simp [hl.1]
  | .fork p q, l, x, r, h, hl => by
    simp only [Plan.paths, List.mem_append] at h
    simp only [Plan.fl, List.mem_append]
    rcases h with h | h
    · exact .inl (Plan.fl_path p l x r h hl)
    · exact .inr (Plan.fl_path q l x r h hl)
/-- Each way of the selected part is a way of the whole, and the other way round. -/
theorem Plan.sel_paths {s : Nat → Bool} {x : Nat} (hx : s x = false) : ∀ p : Plan, p.wf s = true → x ∈ p.fl s →
    (∀ l ∈ (p.sel s x).paths, ∃ l0 ∈ p.paths, ∃ r, loud s l0 = x :: r ∧ l = l0.erase x) ∧ (∀ l0 ∈ p.paths, ∀ r, loud s l0 = x :: r → l0.erase x ∈ (p.sel s x).paths)
  | .done, _, h => by simp [Plan.fl] at h
  | .step i p, hw, h => by
    simp only [Plan.fl] at h
    simp only [Plan.sel, Plan.paths]
    by_cases e : i = x
    · subst e
      simp only [if_true]
      refine ⟨fun l hl => ⟨i :: l, List.mem_map.2 ⟨l, hl, rfl⟩, loud s l, by simp [loud, List.filter_cons, hx], by simp⟩, fun l0 hl0 r hr => ?_⟩
      obtain ⟨l, hl, rfl⟩ := List.mem_map.1 hl0
      simpa using hl
    · rw [if_neg e]
      have hs : s i = true := by
        cases hs : s i with
        | true => rfl
        | false => rw [hs] at h; simp at h; exact absurd h.symm e
      rw [hs, if_pos rfl] at h
      obtain ⟨h1, h2⟩ := Plan.sel_paths hx p hw h
      have er : ∀ l : List Nat, (i :: l).erase x = i :: l.erase x := fun l => List.erase_cons_tail (by simpa using e)
      have lo : ∀ l : List Nat, loud s (i :: l) = loud s l := fun l => by simp [loud, List.filter_cons, hs]
      simp only [Plan.paths]
      refine ⟨fun l hl => ?_, fun l0 hl0 r hr => ?_⟩
      · obtain ⟨l2, hl2, rfl⟩ := List.mem_map.1 hl
        obtain ⟨l0, h3, r, h4, rfl⟩ := h1 l2 hl2
        exact ⟨i :: l0, List.mem_map.2 ⟨l0, h3, rfl⟩, r, by rw [lo]; exact h4, (er l0).symm⟩
      · obtain ⟨l, hl, rfl⟩ := List.mem_map.1 hl0
        rw [er]
        rw [lo] at hr
        exact List.mem_map.2 ⟨_, h2 l hl r hr, rfl⟩
  | .fork p q, hw, h => by
    simp only [Plan.wf, Bool.and_eq_true, List.all_eq_true, Bool.not_eq_true'] at hw
    simp only [Plan.fl, List.mem_append] at h
    simp only [Plan.sel]
    split
    · rename_i hc
      have hp : x ∈ p.fl s := by simpa using hc
      obtain ⟨h1, h2⟩ := Plan.sel_paths hx p hw.1.1 hp
      refine ⟨fun l hl => ?_, fun l0 hl0 r hr => ?_⟩
      · obtain ⟨l0, h3, h4⟩ := h1 l hl
        exact ⟨l0, List.mem_append_left _ h3, h4⟩
      · rcases List.mem_append.1 hl0 with hl0 | hl0
        · exact h2 l0 hl0 r hr
        · have := Plan.fl_path q l0 x r hl0 hr
          have h5 := hw.2 x hp
          simp [this] at h5
    · rename_i hc
      have hq : x ∈ q.fl s := h.resolve_left (by simpa using hc)
      obtain ⟨h1, h2⟩ := Plan.sel_paths hx q hw.1.2 hq
      refine ⟨fun l hl => ?_, fun l0 hl0 r hr => ?_⟩
      · obtain ⟨l0, h3, h4⟩ := h1 l hl
        exact ⟨l0, List.mem_append_right _ h3, h4⟩
      · rcases List.mem_append.1 hl0 with hl0 | hl0
        · have := Plan.fl_path p l0 x r hl0 hr
          simp [this] at hc
        · exact h2 l0 hl0 r hr

/-! ### 3. One that may come up now comes first -/
def pairB (ops : Array Oper) (anc : List (List Nat)) (i x : Nat) : Bool := !edge ops i x && i != x && !(anc.getD i []).contains x
def pairS (P : Program) (ops : Array Oper) (R : Nat → Nat → Bool) (anc : List (List Nat)) (i x : Nat) : Bool :=
  (anc.getD x []).contains i || (!soft P ops i && !soft P ops x) || (match ops[i]?, ops[x]? with
    | some oi, some ox => quiet P oi && oi.apart ops ox && (quiet P ox || blind P oi || R i x)
    | _, _ => false)
/-- Along a path: each may be passed by each later one, unless that one can come up only behind a loud one that this one is not behind. -/
def pathS (P : Program) (ops : Array Oper) (R : Nat → Nat → Bool) (anc : List (List Nat)) : List Nat → Bool
  | [] => true
  | i :: r => r.all (fun x => pairS P ops R anc i x || (!soft P ops i && r.any fun l => !soft P ops l && (anc.getD x []).contains l)) && pathS P ops R anc r
/-- What is asked of a path. -/
def PathOk (P : Program) (ops : Array Oper) (R : Nat → Nat → Bool) (anc : List (List Nat)) (l : List Nat) : Prop := l.Pairwise (fun i y => pairB ops anc i y = true) ∧ pathS P ops R anc l = true
theorem PathOk.tail {anc : List (List Nat)} {i : Nat} {l : List Nat} (h : PathOk P ops R anc (i :: l)) : PathOk P ops R anc l := by
  refine ⟨(List.pairwise_cons.1 h.1).2, ?_⟩
  have := h.2
  simp only [pathS, Bool.and_eq_true] at this
  exact this.2
theorem PathOk.head {anc : List (List Nat)} {i x : Nat} {l : List Nat} (h : PathOk P ops R anc (i :: l)) (hx : x ∈ l) (hf : ∀ j ∈ l, (anc.getD x []).contains j = false) : pairS P ops R anc i x = true := by
  have := h.2
  simp only [pathS, Bool.and_eq_true, List.all_eq_true, Bool.or_eq_true, List.any_eq_true] at this
  rcases this.1 x hx with h1 | ⟨_, j, hj, h2⟩
  · exact h1
  · rw [hf j hj] at h2
    cases h2.2
theorem pathS_erase {anc : List (List Nat)} {x : Nat} : ∀ (l : List Nat), pathS P ops R anc l = true → (soft P ops x = true ∨ ∃ r, l.filter (fun i => !soft P ops i) = x :: r) → pathS P ops R anc (l.erase x) = true
  | [], h, _ => h
  | i :: l, h, hx => by
    by_cases e : i = x
    · subst e
      simp only [pathS, Bool.and_eq_true] at h
      simpa using h.2
    · rw [List.erase_cons_tail (by simpa using e)]
      simp only [pathS, Bool.and_eq_true, List.all_eq_true, Bool.or_eq_true, List.any_eq_true] at h ⊢
      have hx' : soft P ops x = true ∨ (soft P ops i = true ∧ ∃ r, l.filter (fun i => !soft P ops i) = x :: r) := by
        rcases hx with hx | ⟨r, hr⟩
        · exact .inl hx
        · cases hs : soft P ops i with
          | true =>
            simp only [List.filter_cons, hs, Bool.not_true, Bool.false_eq_true, if_false] at hr
            exact .inr ⟨rfl, r, hr⟩
          | false =>
            simp only [List.filter_cons, hs, Bool.not_false, if_true, List.cons.injEq] at hr
            exact absurd hr.1 e
      refine ⟨fun y hy => ?_, pathS_erase l h.2 (hx'.imp id (fun h => h.2))⟩
      rcases h.1 y (List.mem_of_mem_erase hy) with h1 | ⟨h1, j, hj, h2⟩
      · exact .inl h1
      · refine .inr ⟨h1, j, ?_, h2⟩
        have hne : j ≠ x := fun e => by
          subst e
          rcases hx' with hx' | ⟨hx', _⟩
          · rw [hx'] at h2; simp at h2
          · rw [hx'] at h1; simp at h1
        exact (List.mem_erase_of_ne hne).2 hj
theorem PathOk.erase {anc : List (List Nat)} {x : Nat} {l : List Nat} (h : PathOk P ops R anc l) (hx : soft P ops x = true ∨ ∃ r, l.filter (fun i => !soft P ops i) = x :: r) : PathOk P ops R anc (l.erase x) :=
  ⟨h.1.sublist List.erase_sublist, pathS_erase l h.2 hx⟩
theorem pairS_swap {anc : List (List Nat)} {i x : Nat} {oi ox : Oper} {k : Held → Act → World → Prop} (hk : MonoK k) {D : Held} {a : Act} {w : World} (hns : ops.all noSel = true) (hi : ops[i]? = some oi) (hx : ops[x]? = some ox)
    (ha : (anc.getD x []).contains i = false) (hs : soft P ops i = true ∨ soft P ops x = true) (h3 : pairS P ops R anc i x = true) (h : stepK P ops R i (stepK P ops R x k) D a w) : stepK P ops R x (stepK P ops R i k) D a w := by
  have hn := Array.all_eq_true_iff_forall_mem.1 hns
  simp only [pairS, ha, hi, hx, Bool.false_or, Bool.and_eq_true, Bool.or_eq_true, Bool.not_eq_true'] at h3
  rcases h3 with h4 | ⟨⟨h4, h5⟩, h6⟩
  · rcases hs with hs | hs
    · rw [hs] at h4; exact absurd h4.1 (by simp)
    · rw [hs] at h4; exact absurd h4.2 (by simp)
  · exact stepK_swap hk hi hx (hn _ (Array.mem_of_getElem? hi)) (hn _ (Array.mem_of_getElem? hx)) h4 h5 (by rcases h6 with (h | h) | h <;> simp [h]) h

theorem rm_front {anc : List (List Nat)} {x : Nat} {ox : Oper} (hns : ops.all noSel = true) (hx : ops[x]? = some ox) (hq : quiet P ox = true) : ∀ (p : Plan), (∀ l ∈ p.paths, x ∈ l ∧ PathOk P ops R anc l ∧ (∀ i ∈ l, (anc.getD x []).contains i = false) ∧ ∀ i ∈ l, i < ops.size) →
    ∀ D a w, wpP P ops R K p D a w → stepK P ops R x (wpP P ops R K (p.rm x)) D a w
  | .done, h, _, _, _, _ => by
    have := (h [] (by simp [Plan.paths])).1
    cases this
  | .step i p, h, D, a, w, hw => by
    simp only [Plan.rm]
    by_cases e : i = x
    · subst e
      simpa [wpP] using hw
    · rw [if_neg e]
      have h' : ∀ l ∈ p.paths, x ∈ l ∧ PathOk P ops R anc l ∧ (∀ i ∈ l, (anc.getD x []).contains i = false) ∧ ∀ i ∈ l, i < ops.size := fun l hl => by
        obtain ⟨h1, h2, h3, h4⟩ := h (i :: l) (List.mem_map.2 ⟨l, hl, rfl⟩)
        exact ⟨(List.mem_cons.1 h1).resolve_left (fun h => e h.symm), h2.tail, fun j hj => h3 j (List.mem_cons_of_mem _ hj), fun j hj => h4 j (List.mem_cons_of_mem _ hj)⟩
      have h2 := stepK_under (rm_front hns hx hq p h') hw
      obtain ⟨l, hl⟩ : ∃ l, l ∈ p.paths := List.exists_mem_of_ne_nil _ (Plan.paths_ne p)
      obtain ⟨g1, g2, g3, g4⟩ := h (i :: l) (List.mem_map.2 ⟨l, hl, rfl⟩)
      exact pairS_swap (wpP_mono _) hns (Array.getElem?_eq_getElem (g4 i List.mem_cons_self)) hx (g3 i List.mem_cons_self) (.inr (by simp [soft, hx, hq])) (g2.head (h' l hl).1 (h' l hl).2.2.1) h2
  | .fork p q, h, D, a, w, hw => stepK_and hx hq (rm_front hns hx hq p (fun l hl => h l (List.mem_append_left _ hl)) D a w hw.1) (rm_front hns hx hq q (fun l hl => h l (List.mem_append_right _ hl)) D a w hw.2)
theorem sel_front {anc : List (List Nat)} {x : Nat} {ox : Oper} (hns : ops.all noSel = true) (hx : ops[x]? = some ox) : ∀ (p : Plan), x ∈ p.fl (soft P ops) → (∀ l ∈ p.paths, x ∈ l ∧ PathOk P ops R anc l ∧ (∀ i ∈ l, (anc.getD x []).contains i = false) ∧ ∀ i ∈ l, i < ops.size) →
    ∀ D a w, wpP P ops R K p D a w → stepK P ops R x (wpP P ops R K (p.sel (soft P ops) x)) D a w
  | .done, h, _, _, _, _, _ => by simp [Plan.fl] at h
  | .step i p, hf, h, D, a, w, hw => by
    simp only [Plan.sel]
    simp only [Plan.fl] at hf
    by_cases e : i = x
    · subst e
      simpa [wpP] using hw
    · rw [if_neg e]
      have hs : soft P ops i = true := by
        cases hs : soft P ops i with
        | true => rfl
        | false => rw [hs] at hf; simp at hf; exact absurd hf.symm e
      rw [hs, if_pos rfl] at hf
      have h' : ∀ l ∈ p.paths, x ∈ l ∧ PathOk P ops R anc l ∧ (∀ i ∈ l, (anc.getD x []).contains i = false) ∧ ∀ i ∈ l, i < ops.size := fun l hl => by
        obtain ⟨h1, h2, h3, h4⟩ := h (i :: l) (List.mem_map.2 ⟨l, hl, rfl⟩)
        exact ⟨(List.mem_cons.1 h1).resolve_left (fun h => e h.symm), h2.tail, fun j hj => h3 j (List.mem_cons_of_mem _ hj), fun j hj => h4 j (List.mem_cons_of_mem _ hj)⟩
      have h2 := stepK_under (sel_front hns hx p hf h') hw
      obtain ⟨l, hl⟩ : ∃ l, l ∈ p.paths := List.exists_mem_of_ne_nil _ (Plan.paths_ne p)
      obtain ⟨g1, g2, g3, g4⟩ := h (i :: l) (List.mem_map.2 ⟨l, hl, rfl⟩)
      exact pairS_swap (wpP_mono _) hns (Array.getElem?_eq_getElem (g4 i List.mem_cons_self)) hx (g3 i List.mem_cons_self) (.inl hs) (g2.head (h' l hl).1 (h' l hl).2.2.1) h2
  | .fork p q, hf, h, D, a, w, hw => by
    simp only [Plan.sel]
    simp only [Plan.fl, List.mem_append] at hf
    split
    · rename_i hc
      exact sel_front hns hx p (by simpa using hc) (fun l hl => h l (List.mem_append_left _ hl)) D a w hw.1
    · rename_i hc
      exact sel_front hns hx q (hf.resolve_left (by simpa using hc)) (fun l hl => h l (List.mem_append_right _ hl)) D a w hw.2

/-! ### 4. Whatever is drawn -/
structure Fits (P : Program) (ops : Array Oper) (R : Nat → Nat → Bool) (anc : List (List Nat)) (p : Plan) (c : List Nat) : Prop where
  wf : p.wf (soft P ops) = true
  paths : ∀ l ∈ p.paths, l.Perm c ∧ PathOk P ops R anc l
  full : ∀ t : List Nat, t.Perm (loud (soft P ops) c) → t.Pairwise (fun i x => (anc.getD i []).contains x = false) → ∃ l ∈ p.paths, loud (soft P ops) l = t
theorem loud_erase_soft {s : Nat → Bool} {x : Nat} (hx : s x = true) (l : List Nat) : loud s (l.erase x) = loud s l := by
  induction l with
  | nil => rfl
  | cons i l ih =>
    by_cases e : i = x
    · subst e
      simp [loud, List.filter_cons, hx]
    · rw [List.erase_cons_tail (by simpa using e)]
      simp only [loud, List.filter_cons] at ih ⊢
      rw [ih]
theorem loud_erase_loud {s : Nat → Bool} {x : Nat} (hx : s x = false) (l : List Nat) : loud s (l.erase x) = (loud s l).erase x := by
  induction l with
  | nil => rfl
  | cons i l ih =>
    by_cases e : i = x
    · subst e
      simp [loud, List.filter_cons, hx]
    · rw [List.erase_cons_tail (by simpa using e)]
      simp only [loud, List.filter_cons] at ih ⊢
      split
      · rw [List.erase_cons_tail (by simpa using e), ih]
      · exact ih
theorem Fits.pathOf {anc : List (List Nat)} {p : Plan} {c : List Nat} (h : Fits P ops R anc p c) : ∃ l ∈ p.paths, l.Perm c ∧ PathOk P ops R anc l := by
  obtain ⟨l, hl⟩ := List.exists_mem_of_ne_nil _ (Plan.paths_ne p)
  exact ⟨l, hl, h.paths l hl⟩
theorem Fits.nodup {anc : List (List Nat)} {p : Plan} {c : List Nat} (h : Fits P ops R anc p c) : c.Nodup := by
  obtain ⟨l, _, h1, h2⟩ := h.pathOf
  exact h1.nodup_iff.1 (h2.1.imp (fun {i y} hiy => by
    simp only [pairB, Bool.and_eq_true, bne_iff_ne] at hiy
    exact hiy.1.2))
theorem Fits.front {anc : List (List Nat)} {p : Plan} {c : List Nat} {x : Nat} (h : Fits P ops R anc p c) (hns : ops.all noSel = true) (hx : x < ops.size) (hc : x ∈ c) (hf : ∀ i ∈ c, (anc.getD x []).contains i = false) (hlt : ∀ i ∈ c, i < ops.size) {D : Held} {a : Act} {w : World} (hw : wpP P ops R K p D a w) :
    ∃ p', Fits P ops R anc p' (c.erase x) ∧ stepK P ops R x (wpP P ops R K p') D a w := by
  have hox : ops[x]? = some ops[x] := Array.getElem?_eq_getElem hx
  have hnd := h.nodup
  have hall : ∀ l ∈ p.paths, x ∈ l ∧ PathOk P ops R anc l ∧ (∀ i ∈ l, (anc.getD x []).contains i = false) ∧ ∀ i ∈ l, i < ops.size := fun l hl => by
    obtain ⟨h1, h2⟩ := h.paths l hl
    exact ⟨h1.mem_iff.2 hc, h2, fun i hi => hf i (h1.mem_iff.1 hi), fun i hi => hlt i (h1.mem_iff.1 hi)⟩
  have hpe : ∀ l ∈ p.paths, (soft P ops x = true ∨ ∃ r, l.filter (fun i => !soft P ops i) = x :: r) → (l.erase x).Perm (c.erase x) ∧ PathOk P ops R anc (l.erase x) := fun l hl hx => by
    obtain ⟨h1, h2⟩ := h.paths l hl
    exact ⟨h1.erase x, h2.erase hx⟩
  cases hq : quiet P ops[x] with
  | true =>
    have hs : soft P ops x = true := by simp [soft, hox, hq]
    refine ⟨p.rm x, ⟨Plan.rm_wf hs p h.wf, fun l hl => ?_, fun t ht hp => ?_⟩, rm_front hns hox hq p hall D a w hw⟩
    · rw [Plan.rm_paths] at hl
      obtain ⟨l0, hl0, rfl⟩ := List.mem_map.1 hl
      exact hpe l0 hl0 (.inl hs)
    · rw [loud_erase_soft hs] at ht
      obtain ⟨l, hl, he⟩ := h.full t ht hp
      refine ⟨l.erase x, ?_, by rw [loud_erase_soft hs]; exact he⟩
      rw [Plan.rm_paths]
      exact List.mem_map.2 ⟨l, hl, rfl⟩
  | false =>
    have hs : soft P ops x = false := by simp [soft, hox, hq]
    have hxl : x ∈ loud (soft P ops) c := by
      unfold loud
      exact List.mem_filter.2 ⟨hc, by simp [hs]⟩
    have key : ∀ t : List Nat, t.Perm (loud (soft P ops) (c.erase x)) → t.Pairwise (fun i x => (anc.getD i []).contains x = false) → ∃ l ∈ p.paths, loud (soft P ops) l = x :: t := fun t ht hp => by
      refine h.full (x :: t) ?_ (List.Pairwise.cons (fun y hy => hf y ?_) hp)
      · rw [loud_erase_loud hs] at ht
        exact (List.Perm.cons x ht).trans (List.perm_cons_erase hxl).symm
      · have := ht.mem_iff.1 hy
        unfold loud at this
        exact List.mem_of_mem_erase (List.mem_filter.1 this).1
    have hfl : x ∈ p.fl (soft P ops) := by
      obtain ⟨l0, hl0, h1, h2⟩ := h.pathOf
      have h3 : (loud (soft P ops) (l0.erase x)).Perm (loud (soft P ops) (c.erase x)) := (h1.erase x).filter _
      obtain ⟨l, hl, he⟩ := key _ h3 ((h2.1.imp (fun {i y} hiy => by
        simp only [pairB, Bool.and_eq_true, Bool.not_eq_true'] at hiy
        exact hiy.2)).sublist (List.filter_sublist.trans List.erase_sublist))
      exact Plan.fl_path p l x _ hl he
    obtain ⟨g1, g2⟩ := Plan.sel_paths hs p h.wf hfl
    refine ⟨p.sel (soft P ops) x, ⟨Plan.sel_wf p h.wf, fun l hl => ?_, fun t ht hp => ?_⟩, sel_front hns hox p hfl hall D a w hw⟩
    · obtain ⟨l0, hl0, r, hr, rfl⟩ := g1 l hl
      exact hpe l0 hl0 (.inr ⟨r, hr⟩)
    · obtain ⟨l, hl, he⟩ := key t ht hp
      refine ⟨l.erase x, g2 l hl t he, ?_⟩
      rw [loud_erase_loud hs, he]
      simp

theorem wpP_end : ∀ (p : Plan), (∀ l ∈ p.paths, l = []) → ∀ D a w, wpP P ops R K p D a w → K a w
  | .done, _, _, _, _, h => h
  | .step i p, h, _, _, _, _ => by
    obtain ⟨l, hl⟩ := List.exists_mem_of_ne_nil _ (Plan.paths_ne p)
    have := h (i :: l) (List.mem_map.2 ⟨l, hl, rfl⟩)
    cases this
  | .fork p q, h, D, a, w, hw => wpP_end p (fun l hl => h l (List.mem_append_left _ hl)) D a w hw.1

theorem wpAny_of_plan {anc : List (List Nat)} {Q : Exit → Act → World → Prop} (hK : ∀ a w, K a w → Q .normal a w) (hns : ops.all noSel = true) (ha : ancOk ops anc = true) (hself : ∀ j, j < ops.size → edge ops j j = false) :
    ∀ (n : Nat) (c : List Nat) (p : Plan) (listed : Array Bool) (D : Held) (a : Act) (w : World), c.length = n → Fits P ops R anc p c → (∀ i ∈ c, i < ops.size) → listed.size = ops.size →
      (∀ j, j < ops.size → (listed.getD j true = false ↔ j ∈ c)) → (∀ x y, x < ops.size → edge ops x y = true → listed.getD x true = true → listed.getD y false = true) →
      (∀ x y, x < ops.size → edge ops x y = true → y < ops.size) →
      wpP P ops R K p D a w → wpAny P .any ops Q n listed a w := by
  intro n
  induction n with
  | zero =>
    intro c p listed D a w hl hp hlt hsz hls hcl hin h
    obtain rfl := List.eq_nil_of_length_eq_zero hl
    refine ⟨?_, hK _ _ (wpP_end p (fun l hl => List.perm_nil.1 (hp.paths l hl).1) D a w h)⟩
    cases hr : Region.ready .any ops listed with
    | nil => rfl
    | cons z zs =>
      obtain ⟨h0, o, ho, _⟩ := mem_ready.1 (show z ∈ Region.ready .any ops listed by rw [hr]; exact List.mem_cons_self)
      have := (hls z (Array.getElem?_eq_some_iff.1 ho).1).1 h0
      cases this
  | succ n ih =>
    intro c p listed D a w hl hp hlt hsz hls hcl hin h
    have toF : ∀ j, j < ops.size → listed.getD j false = listed.getD j true := fun j hj => by simp [show j < listed.size by omega]
    refine ⟨fun hr => ?_, fun x hx => ?_⟩
    · exfalso
      obtain ⟨l, hlp, hpe, hpw⟩ := hp.pathOf
      cases l with
      | nil => have := hpe.length_eq; rw [hl] at this; cases this
      | cons z zs =>
        have hzc : z ∈ c := hpe.mem_iff.1 List.mem_cons_self
        have hz := hlt z hzc
        have hoz : ops[z]? = some ops[z] := Array.getElem?_eq_getElem hz
        have : z ∈ Region.ready .any ops listed := mem_ready.2 ⟨(hls z hz).2 hzc, _, hoz, fun e he hb => by
          have hed := edge_mk hoz he hb
          have hlt' := hin z e.on hz hed
          rw [toF _ hlt']
          cases hle : listed.getD e.on true with
          | true => rfl
          | false =>
            have hmem := hpe.mem_iff.2 ((hls e.on hlt').1 hle)
            rcases List.mem_cons.1 hmem with heq | hmem
            · rw [heq, hself z hz] at hed; cases hed
            · have := (List.pairwise_cons.1 hpw.1).1 e.on hmem
              simp only [pairB, hed, Bool.not_true, Bool.false_and] at this
              cases this⟩
        rw [hr] at this
        cases this
    · obtain ⟨h0, o, ho, hall⟩ := mem_ready.1 hx
      have hxlt := (Array.getElem?_eq_some_iff.1 ho).1
      have hxc := (hls x hxlt).1 h0
      have hnd : c.Nodup := hp.nodup
      have hf : ∀ i ∈ c, (anc.getD x []).contains i = false := fun i hi => by
        cases hc : (anc.getD x []).contains i with
        | false => rfl
        | true =>
          exfalso
          have hil : listed.getD i false = false := by rw [toF _ (hlt i hi)]; exact (hls i (hlt i hi)).2 hi
          obtain ⟨_, y, hy, hyl⟩ := anc_unlisted ha hcl hsz hil x x (Nat.le_refl _) hxlt hc
          obtain ⟨e, he, hb, rfl⟩ := edge_spec ho hy
          rw [hall e he hb] at hyl
          cases hyl
      obtain ⟨p', hp', h1⟩ := hp.front hns hxlt hxc hf hlt h
      have hlen : (c.erase x).length = n := by rw [List.length_erase_of_mem hxc]; omega
      have hlt' : ∀ i ∈ c.erase x, i < ops.size := fun i hi => hlt i (List.mem_of_mem_erase hi)
      have hsz' : (listed.setIfInBounds x true).size = ops.size := by simpa using hsz
      have hls' : ∀ j, j < ops.size → ((listed.setIfInBounds x true).getD j true = false ↔ j ∈ c.erase x) := fun j hj => by
        by_cases e : x = j
        · subst e
          have : ¬ x ∈ c.erase x := fun hm => (List.Nodup.mem_erase_iff hnd).1 hm |>.1 rfl
          simp [show x < listed.size by omega, this]
        · rw [getD_set_ne true e, hls j hj, List.Nodup.mem_erase_iff hnd]
          exact ⟨fun h => ⟨fun e' => e e'.symm, h⟩, fun h => h.2⟩
      have hcl' : ∀ p y, p < ops.size → edge ops p y = true → (listed.setIfInBounds x true).getD p true = true → (listed.setIfInBounds x true).getD y false = true := fun p y hp' he hl' => by
        by_cases e : x = p
        · subst e
          obtain ⟨ed, hed, hb, rfl⟩ := edge_spec ho he
          exact getD_set_true (hall ed hed hb)
        · rw [getD_set_ne true e] at hl'
          exact getD_set_true (hcl p y hp' he hl')
      obtain ⟨o', ho', h2⟩ := h1
      obtain rfl : o' = o := Option.some.inj (ho'.symm.trans ho)
      split at h2
      · obtain ⟨v, hy, h3⟩ := h2
        exact hy.wpOp ho (ih _ _ _ _ _ _ hlen hp' hlt' hsz' hls' hcl' hin h3)
      · exact wpOp_dead (fun a' w' ⟨_, h3⟩ => ih _ _ _ _ _ _ hlen hp' hlt' hsz' hls' hcl' hin h3) h2

/-! ### 5. The conditions, as a Bool -/
def exts (anc : List (List Nat)) : Nat → List Nat → List (List Nat)
  | 0, _ => [[]]
  | n + 1, rem => rem.flatMap fun x => if rem.all (fun y => x == y || !(anc.getD x []).contains y) then (exts anc n (rem.erase x)).map (x :: ·) else []
theorem mem_exts {anc : List (List Nat)} : ∀ (n : Nat) (rem t : List Nat), rem.length = n → t.Perm rem → t.Pairwise (fun i x => (anc.getD i []).contains x = false) → t ∈ exts anc n rem
  | 0, rem, t, hl, hp, _ => by
    obtain rfl := List.eq_nil_of_length_eq_zero hl
    simp [exts, List.perm_nil.1 hp]
  | n + 1, rem, [], hl, hp, _ => by
    have := hp.length_eq
    rw [hl] at this
    cases this
  | n + 1, rem, x :: t, hl, hp, hw => by
    have hx : x ∈ rem := hp.mem_iff.1 List.mem_cons_self
    obtain ⟨h1, h2⟩ := List.pairwise_cons.1 hw
    have hpe : t.Perm (rem.erase x) := List.cons_perm_iff_perm_erase.1 hp |>.2
    simp only [exts]
    refine List.mem_flatMap.2 ⟨x, hx, ?_⟩
    rw [if_pos]
    · exact List.mem_map.2 ⟨t, mem_exts n _ t (by rw [List.length_erase_of_mem hx]; omega) hpe h2, rfl⟩
    · simp only [List.all_eq_true, Bool.or_eq_true, beq_iff_eq, Bool.not_eq_true']
      intro y hy
      by_cases e : x = y
      · exact .inl e
      · refine .inr (h1 y ?_)
        rcases List.mem_cons.1 (hp.mem_iff.2 hy) with h | h
        · exact absurd h.symm e
        · exact h
def pairsB (ops : Array Oper) (anc : List (List Nat)) : List Nat → Bool
  | [] => true
  | i :: r => r.all (fun x => pairB ops anc i x) && pairsB ops anc r
theorem pairsB_pairwise {anc : List (List Nat)} : ∀ {l : List Nat}, pairsB ops anc l = true → l.Pairwise (fun i x => pairB ops anc i x = true)
  | [], _ => List.Pairwise.nil
  | i :: r, h => by
    simp only [pairsB, Bool.and_eq_true, List.all_eq_true] at h
    exact List.Pairwise.cons h.1 (pairsB_pairwise h.2)
def planOk (P : Program) (ops : Array Oper) (R : Nat → Nat → Bool) (anc : List (List Nat)) (p : Plan) : Bool :=
  p.wf (soft P ops) && p.paths.all (fun l => l.isPerm (List.range ops.size) && pairsB ops anc l && pathS P ops R anc l) &&
  (exts anc (loud (soft P ops) (List.range ops.size)).length (loud (soft P ops) (List.range ops.size))).all (fun t => p.paths.any fun l => loud (soft P ops) l == t) &&
  (List.range ops.size).all (fun j => !edge ops j j) && ops.all noSel && ancOk ops anc
theorem planOk_fits {anc : List (List Nat)} {p : Plan} (h : planOk P ops R anc p = true) : Fits P ops R anc p (List.range ops.size) := by
  simp only [planOk, Bool.and_eq_true, List.all_eq_true] at h
  obtain ⟨⟨⟨⟨⟨h1, h2⟩, h3⟩, _⟩, _⟩, _⟩ := h
  refine ⟨h1, fun l hl => ⟨List.isPerm_iff.1 (h2 l hl).1.1, pairsB_pairwise (h2 l hl).1.2, (h2 l hl).2⟩, fun t ht hp => ?_⟩
  obtain ⟨l, hl, he⟩ := List.any_eq_true.1 (h3 t (mem_exts _ _ t rfl ht hp))
  exact ⟨l, hl, by simpa using he⟩

/-- **A region that draws its order, walked along a plan.** -/
theorem wp_region_plan {id : Nat} {Q : Exit → Act → World → Prop} {a : Act} {w : World} (anc : List (List Nat)) (p : Plan) (hm : P.follows .mixedOrders = true) (hin : edgesIn ops = true)
    (hok : planOk P ops R anc p = true) (h : wpP P ops R (Q .normal) p [] a { w with drawn := w.drawn + 1 }) : (Code.region id ops true).wp P Q a w := by
  have hfit := planOk_fits hok
  simp only [planOk, Bool.and_eq_true, List.all_eq_true, List.mem_range, Bool.not_eq_true'] at hok
  obtain ⟨⟨⟨_, h4⟩, h5⟩, h6⟩ := hok
  refine wp_region_any hm ?_
  have hlen : (List.range ops.size).length = ops.size := List.length_range
  refine wpAny_of_plan (anc := anc) (R := R) (K := Q .normal) (fun _ _ h => h) h5 h6 h4 _ (List.range ops.size) p _ [] a _ hlen hfit (fun i hi => List.mem_range.1 hi) (by simp) (fun j hj => ?_) (fun x y hx he hl => ?_) (fun x y hx he => ?_) h
  · simp [hj]
  · simp [hx] at hl
  · have hox : ops[x]? = some ops[x] := Array.getElem?_eq_getElem hx
    obtain ⟨e, hed, hb, rfl⟩ := edge_spec hox he
    have := List.all_eq_true.1 hin x (List.mem_range.2 hx)
    rw [hox] at this
    have := Array.all_eq_true_iff_forall_mem.1 this e hed
    simpa [hb] using this

/-! ### 6. A plan of segments -/
inductive Tree where
  | done
  | seg (s : List Nat) (t : Tree)
  | fork (t u : Tree)
def stepsP : List Nat → Plan → Plan
  | [], p => p
  | i :: s, p => .step i (stepsP s p)
def Tree.plan : Tree → Plan
  | .done => .done
  | .seg s t => stepsP s t.plan
  | .fork t u => .fork t.plan u.plan
def stepsK (P : Program) (ops : Array Oper) (R : Nat → Nat → Bool) : List Nat → (Held → Act → World → Prop) → Held → Act → World → Prop
  | [], k => k
  | i :: s, k => stepK P ops R i (stepsK P ops R s k)
theorem wpP_steps (p : Plan) : ∀ s : List Nat, wpP P ops R K (stepsP s p) = stepsK P ops R s (wpP P ops R K p)
  | [] => rfl
  | i :: s => by
    show stepK P ops R i (wpP P ops R K (stepsP s p)) = _
    rw [wpP_steps p s]
    rfl
def wpV (P : Program) (ops : Array Oper) (R : Nat → Nat → Bool) (K : Act → World → Prop) : List Nat → Tree → Act → World → Prop
  | _, .done, a, w => K a w
  | done, .seg s t, a, w => wpList P ops (Exit.then (fun a' w' => typedAll ops (pick ops s) a' = true ∧ (∀ l ∈ racing R (done ++ s) s, Reload P ops a' w' l) ∧ wpV P ops R K (done ++ s) t a' w') Dead) (pick ops s) a w
  | done, .fork t u, a, w => wpV P ops R K done t a w ∧ wpV P ops R K done u a w

/-- Through a segment. -/
theorem stepsK_of_seg {racy : Nat → Bool} {Kend : Act → World → Prop} {k : Held → Act → World → Prop} (hns : ops.all noSel = true) (all : List Nat) (last : Option Nat) :
    ∀ (s2 done : List Nat) (D : Held) (a : Act) (w : World), done ++ s2 = all → (s2 ≠ [] → s2.getLast? = last) →
      (∀ i ∈ s2, i < ops.size) → (∀ l e, R l e = true → racy l = true) → staysAll ops racy s2 = true → (∀ i ∈ done, ∀ j ∈ s2, stays ops racy i j = true) →
      segOk R all s2 = true → (∀ i ∈ s2, ∀ o, ops[i]? = some o → racy i = true → ∃ d, o.dst = some d) →
      (∀ i ∈ s2, ∀ o d, ops[i]? = some o → needTyped o = true ∨ racy i = true → o.dst = some d → d ∉ o.looksAt ops) →
      (∀ a' w', Kend a' w' → typedAll ops (pick ops s2) a' = true) →
      (∀ a' w', Kend a' w' → ∀ e, last = some e → ∀ l ∈ all, R l e = true → Reload P ops a' w' l) →
      (∀ D a' w', Kend a' w' → a'.tmps.size = a.tmps.size → Cons ops racy all D a' → k D a' w') →
      (∀ i ∈ s2, ∀ o d, ops[i]? = some o → o.dst = some d → d < a.tmps.size) →
      Cons ops racy done D a →
      wpList P ops (Exit.then Kend Dead) (pick ops s2) a w → stepsK P ops R s2 k D a w := by
  intro s2
  induction s2 with
  | nil =>
    intro done D a w hd _ _ _ _ _ _ _ _ _ _ hK _ hC h
    rw [List.append_nil] at hd
    exact hK D a w h rfl (hd ▸ hC)
  | cons i s2 ih =>
    intro done D a w hd hlast hlt hracy hst hst' hseg hdst hself hty hre hK hsz hC h
    have hi := hlt i List.mem_cons_self
    have hoi : ops[i]? = some ops[i] := Array.getElem?_eq_getElem hi
    have hpick : pick ops (i :: s2) = ops[i] :: pick ops s2 := by simp [pick, hoi]
    rw [hpick] at h
    have hst0 := hst
    simp only [staysAll, Bool.and_eq_true, List.all_eq_true] at hst
    have hstI : ∀ k ∈ done, stays ops racy k i = true := fun k hk => hst' k hk i List.mem_cons_self
    have hd2 : (done ++ [i]) ++ s2 = all := by rw [← hd]; simp
    have hlast2 : s2 ≠ [] → s2.getLast? = last := fun hne => by
      rw [← hlast (by simp)]
      cases s2 with
      | nil => exact absurd rfl hne
      | cons j s3 => simp [List.getLast?_cons_cons]
    have hst2 : ∀ k ∈ done ++ [i], ∀ j ∈ s2, stays ops racy k j = true := fun k hk j hj => by
      rcases List.mem_append.1 hk with hk | hk
      · exact hst' k hk j (List.mem_cons_of_mem _ hj)
      · obtain rfl := List.mem_singleton.1 hk
        exact hst.1 j hj
    have hseg2 : segOk R all s2 = true := by
      cases s2 with
      | nil => rfl
      | cons j s3 => simp only [segOk, Bool.and_eq_true] at hseg; exact hseg.2
    have hty2 : ∀ a' w', Kend a' w' → typedAll ops (pick ops s2) a' = true := fun a' w' hk => by
      have := hty a' w' hk
      rw [hpick] at this
      simp only [typedAll, List.all_cons, Bool.and_eq_true] at this
      exact this.2
    have go : ∀ (D' : Held) (a' : Act) (w' : World), a'.tmps.size = a.tmps.size → Cons ops racy (done ++ [i]) D' a' → wpList P ops (Exit.then Kend Dead) (pick ops s2) a' w' → stepsK P ops R s2 k D' a' w' := fun D' a' w' hs hc hl =>
      ih (done ++ [i]) D' a' w' hd2 hlast2 (fun j hj => hlt j (List.mem_cons_of_mem _ hj)) hracy hst.2 hst2 hseg2 (fun j hj => hdst j (List.mem_cons_of_mem _ hj)) (fun j hj => hself j (List.mem_cons_of_mem _ hj)) hty2 hre
        (fun D a'' w'' h1 h2 h3 => hK D a'' w'' h1 (h2.trans hs) h3) (fun j hj o d ho hdd => by rw [hs]; exact hsz j (List.mem_cons_of_mem _ hj) o d ho hdd) hc hl
    have hh := wpOp_of_wpList hoi h
    refine ⟨ops[i], hoi, ?_⟩
    split
    · rename_i hq
      have hnx : ∀ v, wpList P ops (Exit.then Kend Dead) (pick ops s2) (a.put ops[i].dst v) w → Yld P ops ops[i] a w v → ∃ v, Yld P ops ops[i] a w v ∧ stepsK P ops R s2 k (keep ops i ops[i] a v D) (a.put ops[i].dst v) w := fun v hv hy => by
        refine ⟨v, hy, go _ _ w (put_size _ _ _) ?_ hv⟩
        intro x hx
        unfold Hoist.keep at hx
        have old : x ∈ D → x.1 ∈ done ++ [i] ∧ (racy x.1 = true → ∃ o d, ops[x.1]? = some o ∧ o.dst = some d ∧ d < (a.put ops[i].dst v).tmps.size ∧ wantedAt ops o (a.put ops[i].dst v) = true ∧ x.2.1 = execOp (a.put ops[i].dst v).eval o ∧ x.2.2 = (a.put ops[i].dst v).tmps.getD d undef) :=
          fun hx => hC.put hns hoi hstI (put_size _ _ _) (fun t ht => put_other ht) x hx
        split at hx
        · rename_i hw
          rcases List.mem_cons.1 hx with rfl | hx
          · refine ⟨by simp, fun hr => ?_⟩
            obtain ⟨d, hdd⟩ := hdst i List.mem_cons_self _ hoi hr
            have hnl := hself i List.mem_cons_self _ d hoi (.inr hr) hdd
            have hlt' := hsz i List.mem_cons_self _ d hoi hdd
            have hlook : ∀ t, t ∈ ops[i].looksAt ops → (a.put ops[i].dst v).tmps.getD t undef = a.tmps.getD t undef := fun t ht => put_other (fun e => by rw [hdd] at e; cases e; exact hnl ht)
            have hn := Array.all_eq_true_iff_forall_mem.1 hns _ (Array.mem_of_getElem? hoi)
            refine ⟨ops[i], d, hoi, hdd, by rw [put_size]; exact hlt', (yielded_same hlook).trans hw, (execOp_congr _ (noSel_spec hn) (eval_same hlook)).symm, ?_⟩
            rw [hdd]
            simp [Act.put, hlt']
          · exact old hx
        · exact old hx
      -- the values that it wants
      have htyped : wantedAt ops ops[i] a = true → typed a.eval ops[i] = true := fun hw => by
        cases hnt : needTyped ops[i] with
        | false => exact typed_of hnt _
        | true =>
          obtain ⟨a', w', hk, ht⟩ := reach _ _ _ h
          have h1 := hty a' w' hk
          rw [hpick] at h1
          simp only [typedAll, List.all_cons, Bool.and_eq_true, Bool.or_eq_true, Bool.not_eq_true'] at h1
          have hlook : ∀ t, t ∈ ops[i].looksAt ops → a'.tmps.getD t undef = a.tmps.getD t undef := fun t htl => ht t fun o ho e => by
            rcases List.mem_cons.1 ho with rfl | ho
            · exact hself i List.mem_cons_self _ t hoi (.inl hnt) e htl
            · obtain ⟨j, hj, hjo⟩ := List.mem_filterMap.1 ho
              have := hst.1 j hj
              simp only [stays, hoi, hjo, e, hnt, Bool.true_or, Bool.not_true, Bool.false_or, Bool.and_eq_true, Bool.not_eq_true', List.contains_eq_mem, decide_eq_false_iff_not] at this
              exact this.1 htl
          rcases h1.1 with h1 | h1
          · have he := eval_same hlook
            rw [← h1]
            have hn : ∀ x ∈ ops[i].op.operands, a.eval x = a'.eval x := fun x hx => (he x hx).symm
            unfold typed
            cases hop : ops[i].op <;> rw [hop] at hn <;> simp only [Op.operands] at hn <;> dsimp only
            case binOp op t x y t' => rw [hn x (by simp), hn y (by simp)]
            case convert s d x => rw [hn x (by simp)]
            case nilCheck x => rw [hn x (by simp)]
          · rw [yielded_same hlook, hw] at h1
            cases h1
      unfold wpOp at hh
      simp only [hoi] at hh
      by_cases hw : wantedAt ops ops[i] a = true
      · have hw' : Region.wanted ops[i] (yielded ops a.tmps) = true := hw
        rw [if_pos hw'] at hh
        rcases hh with hh | ⟨_, hl⟩
        · unfold Oper.wp at hh
          have run : (∃ v, (execOp a.eval ops[i]).run P w = .ok (.value v) w ∧ (blind P ops[i] = true → ∀ w', (execOp a.eval ops[i]).run P w' = .ok (.value v) w')) ∨ (∃ x w', (execOp a.eval ops[i]).run P w = .halt x w') := by
            by_cases hb : blind P ops[i] = true
            · rcases blind_run hb (htyped hw) with ⟨v, hv⟩ | hn
              · exact .inl ⟨v, hv w, fun _ => hv⟩
              · exact .inr (hn w)
            · have hp : peek ops[i] = true := by simpa [quiet, hb] using hq
              rcases peek_run (P := P) hp a.eval w with ⟨v, hv⟩ | hn
              · exact .inl ⟨v, hv, fun h => absurd h hb⟩
              · exact .inr hn
          rcases run with ⟨v, hv, hv'⟩ | ⟨x, w', hx⟩
          · rw [hv] at hh
            exact hnx v hh (.inl ⟨hw, hv, hv'⟩)
          · rw [hx] at hh
            cases x <;> simp only [Oper.upon] at hh
            exact hh.elim
        · exact (Dead.lets hl).elim
      · have hw' : ¬ Region.wanted ops[i] (yielded ops a.tmps) = true := hw
        rw [if_neg hw'] at hh
        exact hnx undef hh (.inr ⟨by simpa using hw, rfl⟩)
    · rename_i hq
      refine wpOp_mono (fun a' w' ⟨⟨h1, h2⟩, h3⟩ => ?_) (wpOp_track hoi hh)
      have hC' := hC.put hns hoi hstI h1 h2
      refine ⟨fun x hx hr => ?_, go D a' w' h1 hC' h3⟩
      have hxd := (hC x hx).1
      have hxall : x.1 ∈ all := by rw [← hd]; exact List.mem_append_left _ hxd
      cases s2 with
      | cons j s3 =>
        simp only [segOk, Bool.and_eq_true, List.all_eq_true, Bool.not_eq_true'] at hseg
        have := hseg.1 x.1 hxall
        rw [hr] at this
        cases this
      | nil =>
        have hk : Kend a' w' := h3
        have hl : last = some i := by rw [← hlast (by simp)]; rfl
        have h4 := hre a' w' hk i hl x.1 hxall hr
        obtain ⟨o, d, ho, hdd, _, hw, h5, h6⟩ := (hC' x hx).2 (hracy _ _ hr)
        simp only [Reload, ho, hdd] at h4
        rw [h5, h6]
        exact h4 hw


def treeOk (ops : Array Oper) (R : Nat → Nat → Bool) (racy : Nat → Bool) : List Nat → Tree → Bool
  | _, .done => true
  | done, .seg s t => s.all (fun i => decide (i < ops.size)) && staysAll ops racy s && done.all (fun i => s.all fun j => stays ops racy i j) && segOk R (done ++ s) s && treeOk ops R racy (done ++ s) t
  | done, .fork t u => treeOk ops R racy done t && treeOk ops R racy done u

theorem wpP_of_wpV {racy : Nat → Bool} {n : Nat} (hns : ops.all noSel = true) (hracy : ∀ l e, R l e = true → racy l = true) (hself : selfOk ops racy n = true) :
    ∀ (t : Tree) (done : List Nat) (D : Held) (a : Act) (w : World), treeOk ops R racy done t = true → a.tmps.size = n → Cons ops racy done D a → wpV P ops R K done t a w → wpP P ops R K t.plan D a w
  | .done, done, D, a, w, _, _, _, h => h
  | .fork t u, done, D, a, w, hok, hsz, hC, h => by
    simp only [treeOk, Bool.and_eq_true] at hok
    exact ⟨wpP_of_wpV hns hracy hself t done D a w hok.1 hsz hC h.1, wpP_of_wpV hns hracy hself u done D a w hok.2 hsz hC h.2⟩
  | .seg seg more, done, D, a, w, hok, hsz, hC, h => by
    simp only [treeOk, Bool.and_eq_true, List.all_eq_true, decide_eq_true_eq] at hok
    obtain ⟨⟨⟨⟨hlt, hs1⟩, hst'⟩, hseg⟩, hmore⟩ := hok
    have hself' := hself
    simp only [selfOk, List.all_eq_true, List.mem_range] at hself
    have selfAt : ∀ i o d, ops[i]? = some o → o.dst = some d → d < n ∧ (needTyped o = true ∨ racy i = true → d ∉ o.looksAt ops) := fun i o d ho hd => by
      have := hself i (Array.getElem?_eq_some_iff.1 ho).1
      simp only [ho, hd, Bool.and_eq_true, decide_eq_true_eq, Bool.or_eq_true, Bool.not_eq_true', Bool.or_eq_false_iff, List.contains_eq_mem, decide_eq_false_iff_not] at this
      refine ⟨this.1, fun h hm => ?_⟩
      rcases this.2 with h' | h'
      · rcases h with h | h <;> simp [h'.1, h'.2] at h
      · exact h' hm
    show wpP P ops R K (stepsP seg more.plan) D a w
    rw [wpP_steps]
    refine stepsK_of_seg (racy := racy) (Kend := fun a' w' => typedAll ops (pick ops seg) a' = true ∧ (∀ l ∈ racing R (done ++ seg) seg, Reload P ops a' w' l) ∧ wpV P ops R K (done ++ seg) more a' w')
      hns (done ++ seg) seg.getLast? seg done D a w rfl (fun _ => rfl) hlt hracy hs1 hst' hseg
      (fun i hi o ho hr => ?_) (fun i hi o d ho hn hd => (selfAt i o d ho hd).2 hn) (fun a' w' hk => hk.1) (fun a' w' hk e he l hl hr => hk.2.1 l (racing_mem he hl hr)) (fun D' a' w' hk hs hC' => ?_)
      (fun i hi o d ho hd => hsz ▸ (selfAt i o d ho hd).1) hC h
    · cases hd : o.dst with
      | some d => exact ⟨d, rfl⟩
      | none =>
        have := hself i (Array.getElem?_eq_some_iff.1 ho).1
        simp only [ho, hd, hr] at this
        cases this
    · exact wpP_of_wpV hns hracy hself' more (done ++ seg) D' a' w' hmore (hs.trans hsz) hC' hk.2.2

def checkT (P : Program) (ops : Array Oper) (pairs : List (Nat × Nat)) (t : Tree) (n : Nat) : Bool :=
  edgesIn ops && planOk P ops (raceOf pairs) (ancs ops) t.plan && treeOk ops (raceOf pairs) (racyOf pairs) [] t && selfOk ops (racyOf pairs) n

/-- **A region that draws its order, walked along a tree of segments: 'pairs': which load races with which call; each segment that is followed by another ends with one that races, or nothing races with it; where two that are no mere look may come up in either order: a fork.** -/
theorem wp_region_tree {id : Nat} {Q : Exit → Act → World → Prop} {a : Act} {w : World} {l : List Oper} (pairs : List (Nat × Nat)) (t : Tree) (n : Nat) (hm : P.follows .mixedOrders = true) (hn : a.tmps.size = n)
    (hok : checkT P l.toArray pairs t n = true) (h : wpV P l.toArray (raceOf pairs) (Q .normal) [] t a w.drew) : (Code.region id l.toArray true).wp P Q a w := by
  simp only [checkT, Bool.and_eq_true] at hok
  obtain ⟨⟨⟨h1, h2⟩, h3⟩, h5⟩ := hok
  have h2' := h2
  simp only [planOk, Bool.and_eq_true] at h2'
  obtain ⟨⟨_, g2⟩, _⟩ := h2'
  refine wp_region_plan (R := raceOf pairs) (ancs l.toArray) t.plan hm h1 h2 ?_
  refine wpP_of_wpV (racy := racyOf pairs) (n := n) g2 (fun l e h => ?_) h5 t [] [] a _ h3 hn (fun x hx => by cases hx) h
  obtain ⟨p, hp, hp'⟩ := List.any_eq_true.1 h
  simp only [Bool.and_eq_true] at hp'
  exact List.any_eq_true.2 ⟨p, hp, hp'.1⟩
end
end Go.Hoist
