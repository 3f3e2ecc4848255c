/- Walks: package tree: Compile, Tasks, Label. -/
import Derived.Test.YtagcdnhkgndhcaaTreeD
import Derived.Test.YtagcdnhkgndhcaaLatA
set_option linter.unusedVariables false
set_option linter.unusedSimpArgs false
namespace Go.Proofs.Ytagcdnhkgndhcaa
open Go.RowKit Go.Hoist

/-- Rows within rows, all of them one's own. -/
def NestOwn (w : World) (lo : Nat) (eo ei : TypeId) (si : Nat) (v : Value) (a : Nat) (F : Nat → Nat × List Value) : Prop :=
  ∃ xs, w.ownsRow lo eo 1 v a xs ∧ ∀ i, i < a → ∃ u, xs[i]? = some u ∧ w.ownsRow lo ei si u (F i).1 (F i).2
theorem NestOwn.nil (w : World) (lo : Nat) (eo ei : TypeId) (si : Nat) (F : Nat → Nat × List Value) : NestOwn w lo eo ei si (.slice none 0 0) 0 F := ⟨[], ⟨rfl, .inl ⟨rfl, rfl⟩⟩, fun i hi => absurd hi (by omega)⟩
theorem NestOwn.below {w w' : World} {lo : Nat} {eo ei : TypeId} {si : Nat} {v : Value} {a : Nat} {F : Nat → Nat × List Value} (h : NestOwn w lo eo ei si v a F) (hb : Below w.heap.size w w') : NestOwn w' lo eo ei si v a F := by
  obtain ⟨xs, h1, h2⟩ := h
  refine ⟨xs, own_below h1 hb, fun i hi => ?_⟩
  obtain ⟨u, h3, h4⟩ := h2 i hi
  exact ⟨u, h3, own_below h4 hb⟩
theorem own_grown {w w' : World} {lo lo' : Nat} {e e' : TypeId} {size size' : Nat} {v v' : Value} {n n' : Nat} {xs xs' : List Value} (h : w.ownsRow lo e size v n xs) (hown : w.ownsRow lo' e' size' v' n' xs') (hg : w.grownBy w' v'.ownBlock) (hne : e ≠ e') : w'.ownsRow lo e size v n xs := by
  refine ⟨h.1, ?_⟩
  rcases h.2 with h2 | ⟨g, cap, cur, h2, h3, h4, h5⟩
  · exact .inl h2
  · exact .inr ⟨g, cap, cur, h2, h3, grown_blk hown hg (show Blk w g e cur from h4) hne, h5⟩
theorem NestOwn.snoc {w w' : World} {lo : Nat} {eo ei : TypeId} {si : Nat} {v v' u : Value} {a : Nat} {F : Nat → Nat × List Value} {xs : List Value} (hne : ei ≠ eo) (hv : w.ownsRow lo eo 1 v a xs) (h2 : ∀ i, i < a → ∃ u, xs[i]? = some u ∧ w.ownsRow lo ei si u (F i).1 (F i).2)
    (hu : w.ownsRow lo ei si u (F a).1 (F a).2) (h3 : w'.ownsRow lo eo 1 v' (a + 1) (xs ++ [u])) (hg : w.grownBy w' v.ownBlock) : NestOwn w' lo eo ei si v' (a + 1) F := by
  have hl : xs.length = a := by have := hv.1; omega
  refine ⟨_, h3, fun i hi => ?_⟩
  by_cases hlt : i < a
  · obtain ⟨u, h4, h5⟩ := h2 i hlt
    exact ⟨u, by rw [List.getElem?_append_left (by omega)]; exact h4, own_grown h5 hv hg hne⟩
  · obtain rfl : i = a := by omega
    exact ⟨u, by rw [List.getElem?_append_right (by omega), hl, Nat.sub_self]; rfl, own_grown hu hv hg hne⟩

theorem CapAt.below {w w' : World} {tb : Nat} {t : List TN} (h : CapAt w tb t) (hb : Below w.heap.size w w') (hl : tb < w.heap.size) : CapAt w' tb t := fun i hi a c hc => h i hi a c ((hb.cell (p := ⟨tb, _, none⟩) hl).symm.trans hc)
def codeF (t : List TN) (i : Nat) : Nat × List Value := ((codeM t i).length, icells (codeM t i))
theorem eltImage : Elt Try.prog 34 39 (.slice none 0 0) 1 24 := ⟨by kernel_rfl, by kernel_rfl, rfl, by decide⟩
theorem TreeAt.mono {w : World} {B B' tb : Nat} {t : List TN} (h : TreeAt w B tb t) (hb : B ≤ B') : TreeAt w B' tb t := by
  obtain ⟨a1, a2, a3⟩ := h
  refine ⟨Nat.lt_of_lt_of_le a1 hb, a2, fun j hj => ?_⟩
  obtain ⟨b1, b2, b3, ka', kc', b4, b5, b6⟩ := a3 j hj
  exact ⟨b1, b2, b3, ka', kc', b4, b5, b6.imp id (fun ⟨b, c1, c2, c3⟩ => ⟨b, c1, Nat.lt_of_lt_of_le c2 hb, c3⟩)⟩

set_option maxHeartbeats 800000 in
set_option maxRecDepth 100000 in
theorem c_Compile (tb cap : Nat) (t : List TN) (w : World) (ht : TreeAt w w.heap.size tb t) (hcap : CapAt w tb t) :
    Calls Try.prog 15 #[.slice (some ⟨tb, 0, none⟩) t.length cap] w fun e w' => ∃ v, e = .returned (.tuple #[v, .bool (rightM t 16)]) ∧ (rightM t 16 = true → NestOwn w' w.heap.size 39 38 2 v t.length (codeF t)) ∧ Below w.heap.size w w' := by
  have hc := c_right tb cap 16 t w ht
  cases hr : rightM t 16 with
  | false =>
    rw [hr] at hc
    have Hc := Lib.hid hc
    clear hc hcap ht hr
    go_enter Try.func15, Try.ntmps15
    go_wp2_with fail
    refine Hc.out.mono ?_
    rintro e w1 ⟨rfl, hb⟩
    have Hb := Lib.hid hb; clear hb
    go_wp2_with fail
    go_ret2
    exact ⟨_, rfl, (fun h => by cases h), Hb.out⟩
  | true =>
    rw [hr] at hc
    have Hc := Lib.hid hc
    have hn64 := (rightM_good hr).1
    have Hcode := Lib.hid (fun (i : Nat) (w1 : World) (hi : i < t.length) (hb : Below w.heap.size w w1) => c_code tb cap t i w1 ((ht.below hb (Nat.le_refl _)).mono hb.size) hi hr (hcap.below hb ht.1))
    clear hc hcap ht hr
    obtain ⟨n, hn⟩ : ∃ n, t.length = n := ⟨_, rfl⟩
    rw [hn] at Hc hn64 Hcode ⊢
    clear hn
    go_enter Try.func15, Try.ntmps15
    go_wp2_with fail
    refine Hc.out.mono ?_
    rintro e w1 ⟨rfl, hb⟩
    have Hb := Lib.hid hb; clear hb
    go_wp2_with fail
    go_loopw [11, 4] (fun v u wr => ∃ a : Nat, a ≤ n ∧ v = .int .i64 a ∧ Hid (NestOwn wr w.heap.size 39 38 2 u a (codeF t)) ∧ Hid (Below w.heap.size w wr)) (fun v _ _ => n - (intOf v).toNat)
    case atStart => exact ⟨0, by omega, rfl, Lib.hid (NestOwn.nil _ _ _ _ _ _), Hb⟩
    case round =>
      obtain ⟨a, ha, rfl, HO, HB⟩ := hrel
      obtain ⟨xs, hx1, hx2⟩ := HO.out
      have HX1 := Lib.hid hx1; clear hx1
      have HX2 := Lib.hid hx2; clear hx2
      by_cases hlt : a < n
      · have HC := Lib.hid (Hcode.out a wr hlt HB.out)
        go_wp2_with (first | (go_at_call 45; refine (HC.out).mono ?_; rintro e w2 ⟨v1, rfl, hv1, hb1⟩; obtain ⟨ad, c1, hsh⟩ := own_shape hv1; subst hsh; have HV1 := Lib.hid (own_mono hv1 HB.out.size); have hs1 := hb1.size; have hs0 := HB.out.size; have HB2 := Lib.hid (below_then HB.out hb1 HB.out.size); have HX1' := Lib.hid (own_below HX1.out hb1); have HX2' := Lib.hid (fun i hi => (HX2.out i hi).imp fun u h => And.intro h.1 (own_below h.2 hb1)); clear hv1 hb1) | (at_builtin; refine wpAppAt eltImage rfl _ _ rfl w.heap.size _ _ _ rfl (HX1'.out.alloc _) ⟨w2.heap.size, 0, none⟩ 1 1 [_] rfl rfl (RdAt.blk (Blk.new _ _ _)) (by intro u hu; rw [List.mem_singleton] at hu; subst hu; rfl) (by omega) (by decide) (by simp; omega) ?_; intro u' w3 hown2 hgr2 _ _; have HO2 := Lib.hid hown2; have HG2 := Lib.hid hgr2; clear hown2 hgr2))
        go_roundw
        case rel => exact ⟨a + 1, by omega, by go_num, Lib.hid (NestOwn.snoc (by decide) (HX1'.out.alloc _) (fun i hi => (HX2'.out i hi).imp fun u h => And.intro h.1 (h.2.alloc _)) (HV1.out.alloc _) HO2.out HG2.out), Lib.hid (below_grown (HB2.out.alloc (by omega) _) HG2.out (by simp; omega) (own_ge HX1'.out))⟩
        case measure => simp [intOf]; omega
      · obtain rfl : a = n := by omega
        go_wp2_with fail
        go_ret2
        exact ⟨_, rfl, (fun _ => HO.out), HB.out⟩

set_option maxHeartbeats 400000 in
set_option maxRecDepth 100000 in
theorem c_Tasks (tb cap : Nat) (t : List TN) (w : World) (ht : TreeAt w w.heap.size tb t) :
    Calls Try.prog 43 #[.slice (some ⟨tb, 0, none⟩) t.length cap] w fun e w' => e = .returned (.int .i64 (if rightM t 16 then t.length else 0)) ∧ Below w.heap.size w w' := by
  have hc := c_right tb cap 16 t w ht
  cases hr : rightM t 16 with
  | false =>
    rw [hr] at hc
    have Hc := Lib.hid hc
    clear hc ht hr
    go_enter Try.func43, Try.ntmps43
    go_wp2_with fail
    refine Hc.out.mono ?_
    rintro e w1 ⟨rfl, hb⟩
    have Hb := Lib.hid hb; clear hb
    go_wp2_with fail
    go_ret
    exact ⟨rfl, Hb.out⟩
  | true =>
    rw [hr] at hc
    have Hc := Lib.hid hc
    clear hc ht hr
    go_enter Try.func43, Try.ntmps43
    go_wp2_with fail
    refine Hc.out.mono ?_
    rintro e w1 ⟨rfl, hb⟩
    have Hb := Lib.hid hb; clear hb
    go_wp2_with fail
    go_ret
    exact ⟨rfl, Hb.out⟩

def labelM (q : List (List Bool)) (n : Nat) (bot : Int) (t : List TN) : Int := t.foldl (fun o x => atM n (joinM q) o x.label (-1)) bot
set_option maxHeartbeats 400000 in
set_option maxRecDepth 100000 in
theorem c_Label_nil (tb cap : Nat) (t : List TN) (w : World) :
    Calls Try.prog 42 #[.pointer none, .slice (some ⟨tb, 0, none⟩) t.length cap] w fun e w' => e = .returned (.tuple #[.int .i64 0, .bool false]) ∧ w = w' := by
  go_enter Try.func42, Try.ntmps42
  go_wp2_with fail
  go_ret2
  exact ⟨rfl, rfl⟩
set_option maxHeartbeats 800000 in
set_option maxRecDepth 100000 in
theorem c_Label (tb cap : Nat) (t : List TN) (w : World) (ht : TreeAt w w.heap.size tb t) (n p : Nat) (q : List (List Bool)) (vl vj vm : Value) (top bot : Int) (hn : n ≤ 16) (hl : LatR w w.heap.size p n q vl vj vm top bot) :
    Calls Try.prog 42 #[.pointer (some ⟨p, 0, none⟩), .slice (some ⟨tb, 0, none⟩) t.length cap] w fun e w' => e = .returned (.tuple #[.int .i64 (if rightM t n then labelM q n bot t else 0), .bool (rightM t n)]) ∧ Below w.heap.size w w' := by
  have hc := c_right tb cap n t w ht
  have h90 := c_Len n p _ q vl vj vm top bot w hl
  have H90 := Lib.hid h90; clear h90
  cases hr : rightM t n with
  | false =>
    rw [hr] at hc
    have Hc := Lib.hid hc
    clear hc ht hr hl
    go_enter Try.func42, Try.ntmps42
    go_wp2_with (first | (go_at_call 90; refine (H90.out).mono ?_; rintro e w1 ⟨rfl, rfl⟩) | (go_at_call 16; refine (Hc.out).mono ?_; rintro e w1 ⟨rfl, hb⟩; have Hb := Lib.hid hb; clear hb))
    go_ret2
    exact ⟨rfl, Hb.out⟩
  | true =>
    rw [hr] at hc
    have Hc := Lib.hid hc
    have HT := Lib.hid ht
    have HL := Lib.hid hl
    have hn64 := (rightM_good hr).1
    clear hc ht hr hl
    obtain ⟨m, hm⟩ : ∃ m, t.length = m := ⟨_, rfl⟩
    rw [hm] at Hc hn64 ⊢
    have Hm := Lib.hid hm; clear hm
    go_enter Try.func42, Try.ntmps42
    go_wp2_with (first | (go_at_call 90; refine (H90.out).mono ?_; rintro e w1 ⟨rfl, rfl⟩) | (go_at_call 16; refine (Hc.out).mono ?_; rintro e w1 ⟨rfl, hb⟩; have H91 := Lib.hid (c_Bottom n p _ q vl vj vm top bot w1 (HL.out.below hb)); have Hb := Lib.hid hb; clear hb) | (go_at_call 91; refine (H91.out).mono ?_; rintro e w2 ⟨rfl, rfl⟩))
    go_loopw [22, 6] (fun v u wr => ∃ a : Nat, a ≤ m ∧ v = .int .i64 a ∧ u = .int .i64 (labelM q n bot (t.take a)) ∧ Hid (Below w.heap.size w wr)) (fun v _ _ => m - (intOf v).toNat)
    case atStart => exact ⟨0, by omega, rfl, rfl, Hb⟩
    case round =>
      obtain ⟨a, ha, rfl, rfl, HB⟩ := hrel
      by_cases hlt : a < m
      · have hT := HT.out.below HB.out (Nat.le_refl _)
        obtain ⟨g1, g2, g3, ka, kc, g4, _, _⟩ := hT.2.2 a (by rw [Hm.out]; exact hlt)
        obtain ⟨x, hx⟩ : ∃ x, t.getD a default = x := ⟨_, rfl⟩
        rw [hx] at g1 g2 g3 g4
        have hs : labelM q n bot (t.take (a + 1)) = atM n (joinM q) (labelM q n bot (t.take a)) x.label (-1) := by
          have ha' : a < t.length := by rw [Hm.out]; exact hlt
          unfold labelM
          rw [List.take_succ_eq_append_getElem ha', List.foldl_append, ← hx]
          simp [List.getD_eq_getElem?_getD, ha']
        have Hs := Lib.hid hs
        clear hs hx hT
        obtain ⟨o, ho⟩ : ∃ o, labelM q n bot (t.take a) = o := ⟨_, rfl⟩
        rw [ho] at Hs ⊢
        clear ho
        have hB1 : Below w.heap.size w (wr.alloc (.cells #[.int .i64 x.kind, .int .i32 x.val, .int .i64 x.label, .slice ka x.kids.length kc] 30)) := HB.out.alloc HB.out.size _
        have H86 := Lib.hid (c_Join n o x.label p _ q vl vj vm top bot _ hn (HL.out.below hB1))
        have HB1 := Lib.hid hB1; clear hB1
        go_wp2_with (go_at_call 86; refine (H86.out).mono ?_; rintro e w2 ⟨rfl, rfl⟩)
        go_roundw
        case rel => exact ⟨a + 1, by omega, by go_num, by rw [Hs.out], HB1⟩
        case measure => simp [intOf]; omega
      · obtain rfl : a = m := by omega
        have htk : t.take a = t := List.take_of_length_le (by rw [Hm.out]; exact Nat.le_refl _)
        rw [htk]
        clear htk
        go_wp2_with fail
        go_ret2
        exact ⟨rfl, HB.out⟩
end Go.Proofs.Ytagcdnhkgndhcaa
