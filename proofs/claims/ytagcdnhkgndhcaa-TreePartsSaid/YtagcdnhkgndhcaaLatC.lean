/- Walks: package lattice: New. -/
import Derived.Test.YtagcdnhkgndhcaaLatB
import Derived.Test.YtagcdnhkgndhcaaTreeB
import Derived.Deep.DeepCutAuto
import Derived.Deep.CutBlock
set_option linter.unusedVariables false
set_option linter.unusedSimpArgs false
namespace Go.Proofs.Ytagcdnhkgndhcaa
open Go.RowKit Go.Hoist

def okAt (q : List (List Bool)) (a b : Nat) : Bool := (leastM q (upperM q a b)).isSome && (greatestM q (lowerM q a b)).isSome
def okAll (q : List (List Bool)) : Bool := (List.range q.length).all fun a => (List.range q.length).all fun b => okAt q a b
def latM (q : List (List Bool)) : Bool := allM q (reflM q) && allM q (antiM q) && allM q (transM q) && okAll q
def fM (q : List (List Bool)) : Nat → Nat → Nat → Int
  | 0 => leqM q
  | 1 => joinM q
  | _ => meetM q
def topM (q : List (List Bool)) (n : Nat) : Nat → Int
  | 0 => 0
  | a + 1 => atM n (joinM q) (topM q n a) a (-1)
def botM (q : List (List Bool)) (n : Nat) : Nat → Int
  | 0 => 0
  | a + 1 => atM n (meetM q) (botM q n a) a (-1)
/-- The state between two rows. -/
structure Outer (w00 w : World) (n a p : Nat) (q : List (List Bool)) (top bot : Int) (vv : Nat → Value) : Prop where
  bel : Below w00.heap.size w00 w
  hp : w00.heap.size ≤ p
  obj : Blk w p 164 #[vv 0, vv 1, vv 2, .int .i64 top, .int .i64 bot]
  g : ∀ i, i < 3 → GridOwn w w00.heap.size (vv i) a n (fM q i)
  sep : ∀ i j, i < 3 → j < 3 → i ≠ j → Sep (vv i) (vv j)
theorem Outer.below {w00 w w' : World} {n a p : Nat} {q : List (List Bool)} {top bot : Int} {vv : Nat → Value} (h : Outer w00 w n a p q top bot vv) (hb : Below w.heap.size w w') : Outer w00 w' n a p q top bot vv :=
  ⟨below_then h.bel hb h.bel.size, h.hp, h.obj.below hb h.obj.lt, fun i hi => (h.g i hi).below hb, h.sep⟩
/-- The three rows in hand. -/
structure Row3 (w0 w : World) (n : Nat) (bf bj bm : Nat) (gf gj gm : Nat → Int) : Prop where
  bel : Below w0.heap.size w0 w
  lf : w0.heap.size ≤ bf
  lj : w0.heap.size ≤ bj
  lm : w0.heap.size ≤ bm
  d1 : bf ≠ bj
  d2 : bf ≠ bm
  d3 : bj ≠ bm
  f : Blk w bf 3 (rowC n gf)
  j : Blk w bj 3 (rowC n gj)
  m : Blk w bm 3 (rowC n gm)
theorem Row3.below {w0 w w' : World} {n bf bj bm : Nat} {gf gj gm : Nat → Int} (h : Row3 w0 w n bf bj bm gf gj gm) (hb : Below w.heap.size w w') : Row3 w0 w' n bf bj bm gf gj gm :=
  ⟨below_then h.bel hb h.bel.size, h.lf, h.lj, h.lm, h.d1, h.d2, h.d3, h.f.below hb h.f.lt, h.j.below hb h.j.lt, h.m.below hb h.m.lt⟩
theorem Row3.setF {w0 w : World} {n bf bj bm : Nat} {gf gj gm : Nat → Int} (h : Row3 w0 w n bf bj bm gf gj gm) {c : Nat} (hc : c < n) (x : Int) : Row3 w0 (w.setCell ⟨bf, c, none⟩ (.int .i64 x)) n bf bj bm (upd gf c x) gj gm :=
  ⟨h.bel.setCell h.lf _, h.lf, h.lj, h.lm, h.d1, h.d2, h.d3, by rw [← rowC_set x hc]; exact h.f.set c _, h.j.other _ h.d1, h.m.other _ h.d2⟩
theorem Row3.setJM {w0 w : World} {n bf bj bm : Nat} {gf gj gm : Nat → Int} (h : Row3 w0 w n bf bj bm gf gj gm) {c : Nat} (hc : c < n) (x y : Int) : Row3 w0 ((w.setCell ⟨bj, c, none⟩ (.int .i64 x)).setCell ⟨bm, c, none⟩ (.int .i64 y)) n bf bj bm gf (upd gj c x) (upd gm c y) :=
  ⟨(h.bel.setCell h.lj _).setCell h.lm _, h.lf, h.lj, h.lm, h.d1, h.d2, h.d3, (h.f.other _ (fun e => h.d1 e.symm)).other _ (fun e => h.d2 e.symm), by rw [← rowC_set x hc]; exact (h.j.set c _).other _ (fun e => h.d3 e.symm), by rw [← rowC_set y hc]; exact (h.m.other _ h.d3).set c _⟩
theorem Row3.ext {w0 w : World} {n bf bj bm : Nat} {gf gj gm gf' gj' gm' : Nat → Int} (h : Row3 w0 w n bf bj bm gf gj gm) (hf : ∀ j, j < n → gf j = gf' j) (hj : ∀ j, j < n → gj j = gj' j) (hm : ∀ j, j < n → gm j = gm' j) : Row3 w0 w n bf bj bm gf' gj' gm' :=
  ⟨h.bel, h.lf, h.lj, h.lm, h.d1, h.d2, h.d3, by rw [← rowC_ext hf]; exact h.f, by rw [← rowC_ext hj]; exact h.j, by rw [← rowC_ext hm]; exact h.m⟩
/-- What stands in a row of which b places have been filled. -/
def pre (g : Nat → Int) (b j : Nat) : Int := if j < b then g j else 0
theorem pre_succ (g : Nat → Int) (b j : Nat) : upd (pre g b) b (g b) j = pre g (b + 1) j := by
  unfold upd pre
  by_cases e : j = b
  · subst e; simp
  · by_cases h : j < b
    · simp [e, h, show j < b + 1 by omega]
    · simp [e, h, show ¬ j < b + 1 by omega]
theorem pre_same {g : Nat → Int} {b : Nat} (h : g b = 0) (j : Nat) : pre g b j = pre g (b + 1) j := by
  unfold pre
  by_cases e : j = b
  · subst e; simp [h]
  · by_cases h : j < b
    · simp [h, show j < b + 1 by omega]
    · simp [h, show ¬ j < b + 1 by omega]
theorem pre_full {g : Nat → Int} {n j : Nat} (h : j < n) : pre g n j = g j := by simp [pre, h]

theorem T3_of {w00 w0 w : World} {n a p : Nat} {q : List (List Bool)} {vv : Nat → Value} {bf bj bm : Nat} {x0 x1 x2 : Option Addr} {y0 y1 y2 : Nat} (hO : Outer w00 w n a p q 0 0 vv) (hR : Row3 w0 w n bf bj bm (pre (leqM q a) n) (pre (joinM q a) n) (pre (meetM q a) n)) (hl : w00.heap.size ≤ w0.heap.size)
    (h0 : vv 0 = .slice x0 a y0) (h1 : vv 1 = .slice x1 a y1) (h2 : vv 2 = .slice x2 a y2) :
    T3 w00 w n a p #[.slice x0 a y0, .slice x1 a y1, .slice x2 a y2, .int .i64 0, .int .i64 0] (fM q) (tri3 (.slice (some ⟨bf, 0, none⟩) n n) (.slice (some ⟨bj, 0, none⟩) n n) (.slice (some ⟨bm, 0, none⟩) n n)) vv (fun _ => a) (fun _ => none) := by
  refine ⟨hO.bel, ?_, hO.g, hO.sep, (fun i b _ h => by cases h), fun i hi => ?_⟩
  · rw [← h0, ← h1, ← h2]
    exact hO.obj
  · match i, hi with
    | 0, _ => exact ⟨bf, rfl, Nat.le_trans hl hR.lf, by have h := hR.f; rw [rowC_ext (g' := leqM q a) (fun j hj => pre_full hj)] at h; exact h⟩
    | 1, _ => exact ⟨bj, rfl, Nat.le_trans hl hR.lj, by have h := hR.j; rw [rowC_ext (g' := joinM q a) (fun j hj => pre_full hj)] at h; exact h⟩
    | 2, _ => exact ⟨bm, rfl, Nat.le_trans hl hR.lm, by have h := hR.m; rw [rowC_ext (g' := meetM q a) (fun j hj => pre_full hj)] at h; exact h⟩
/-- An object that changes, and nothing of the grids. -/
theorem Outer.setObj {w00 w : World} {n a p : Nat} {q : List (List Bool)} {vv : Nat → Value} {cs : Array Value} (hb : Below w00.heap.size w00 w) (hp : w00.heap.size ≤ p) (ho : Blk w p 164 cs) (hg : ∀ i, i < 3 → GridOwn w w00.heap.size (vv i) a n (fM q i)) (o : Nat) (x : Value) :
    Below w00.heap.size w00 (w.setCell ⟨p, o, none⟩ x) ∧ Blk (w.setCell ⟨p, o, none⟩ x) p 164 (cs.setIfInBounds o x) ∧ ∀ i, i < 3 → GridOwn (w.setCell ⟨p, o, none⟩ x) w00.heap.size (vv i) a n (fM q i) := by
  refine ⟨hb.setCell hp _, ho.set o x, fun i hi => (hg i hi).same (fun b hb => ?_) (fun b cs' h => ?_)⟩
  · obtain ⟨cs', h, _⟩ := (hg i hi).blk b hb
    have : p ≠ b := fun e => by subst e; have := (ho.eq h).2; revert this; decide
    simp [World.setCell, Array.getElem?_modify, this]
  · have : p ≠ b := fun e => by subst e; have := (ho.eq h).2; revert this; decide
    simp [World.setCell, Array.getElem?_modify, this]
theorem T3.finish {w00 w : World} {n a p : Nat} {q : List (List Bool)} {x y z : Value} {t b : Int} {u v : Nat → Value} {al : Nat → Nat} {k : Nat → Option Nat} (h : T3 w00 w n a p #[x, y, z, .int .i64 t, .int .i64 b] (fM q) u v al k) (hp : w00.heap.size ≤ p) (ha : ∀ i, i < 3 → al i = a + 1) :
    Hid (Outer w00 (((w.setCell ⟨p, 0, none⟩ (v 0)).setCell ⟨p, 1, none⟩ (v 1)).setCell ⟨p, 2, none⟩ (v 2)) n (a + 1) p q t b v) := by
  have hg : ∀ i, i < 3 → GridOwn w w00.heap.size (v i) (a + 1) n (fM q i) := fun i hi => ha i hi ▸ h.g i hi
  obtain ⟨b1, o1, g1⟩ := Outer.setObj h.bel hp h.obj hg 0 (v 0)
  obtain ⟨b2, o2, g2⟩ := Outer.setObj b1 hp o1 g1 1 (v 1)
  obtain ⟨b3, o3, g3⟩ := Outer.setObj b2 hp o2 g2 2 (v 2)
  exact Lib.hid ⟨b3, hp, o3, g3, h.sep⟩

theorem Outer.lat {w00 w : World} {n p : Nat} {q : List (List Bool)} {top bot : Int} {vv : Nat → Value} (h : Outer w00 w n n p q top bot vv) (hn : 0 < n) : LatR w w.heap.size p n q (vv 0) (vv 1) (vv 2) top bot :=
  ⟨h.obj.lt, h.obj, (h.g 0 (by decide)).grid hn, (h.g 1 (by decide)).grid hn, (h.g 2 (by decide)).grid hn⟩
theorem Outer.setTB {w00 w : World} {n a p : Nat} {q : List (List Bool)} {top bot : Int} {vv : Nat → Value} (h : Outer w00 w n a p q top bot vv) (x y : Int) :
    Hid (Outer w00 ((w.drew.setCell ⟨p, 3, none⟩ (.int .i64 x)).setCell ⟨p, 4, none⟩ (.int .i64 y)) n a p q x y vv) := by
  obtain ⟨b1, o1, g1⟩ := Outer.setObj (w := w.drew) h.bel.drew h.hp h.obj.drew h.g 3 (.int .i64 x)
  obtain ⟨b2, o2, g2⟩ := Outer.setObj b1 h.hp o1 g1 4 (.int .i64 y)
  exact Lib.hid ⟨b2, h.hp, o2, g2, h.sep⟩

def zeros (n : Nat) : Obj := .cells (Array.replicate n (.int .i64 0)) 3
theorem row3_made (w : World) (n bf bj bm : Nat) (hf : bf = w.heap.size ∨ bf = w.heap.size + 1 ∨ bf = w.heap.size + 1 + 1) (hj : bj = w.heap.size ∨ bj = w.heap.size + 1 ∨ bj = w.heap.size + 1 + 1) (hm : bm = w.heap.size ∨ bm = w.heap.size + 1 ∨ bm = w.heap.size + 1 + 1) (hd : bf ≠ bj ∧ bf ≠ bm ∧ bj ≠ bm) :
    Row3 w (((w.alloc (zeros n)).alloc (zeros n)).alloc (zeros n)).drew n bf bj bm (fun _ => 0) (fun _ => 0) (fun _ => 0) := by
  have hb : Below w.heap.size w (((w.alloc (zeros n)).alloc (zeros n)).alloc (zeros n)).drew := ((((Below.refl _ _).alloc (by simp) _).alloc (by simp) _).alloc (by simp; omega) _).drew
  have hz : Array.replicate n (Value.int .i64 0) = rowC n fun _ => 0 := by rw [← rowC_zero]; simp
  have key : ∀ b, (b = w.heap.size ∨ b = w.heap.size + 1 ∨ b = w.heap.size + 1 + 1) → Blk (((w.alloc (zeros n)).alloc (zeros n)).alloc (zeros n)).drew b 3 (rowC n fun _ => 0) := fun b hb => by
    rw [← hz]
    rcases hb with rfl | rfl | rfl
    · exact (((Blk.new w 3 _).alloc _).alloc _).drew
    · have := (Blk.new (w.alloc (zeros n)) 3 (Array.replicate n (Value.int .i64 0))).alloc (zeros n)
      rw [show (w.alloc (zeros n)).heap.size = w.heap.size + 1 by simp] at this
      exact this.drew
    · have := Blk.new ((w.alloc (zeros n)).alloc (zeros n)) 3 (Array.replicate n (Value.int .i64 0))
      rw [show ((w.alloc (zeros n)).alloc (zeros n)).heap.size = w.heap.size + 1 + 1 by simp] at this
      exact this.drew
  obtain ⟨d1, d2, d3⟩ := hd
  exact ⟨hb, by omega, by omega, by omega, d1, d2, d3, key bf hf, key bj hj, key bm hm⟩

set_option maxHeartbeats 16000000 in
set_option maxRecDepth 100000 in
theorem c_New (q : List (List Bool)) (v : Value) (w : World) (hq : TabAt w w.heap.size v q) :
    Calls Try.prog 40 #[v] w fun e w' => (latM q = true ∧ (∃ p vl vj vm, e = .returned (.tuple #[.pointer (some ⟨p, 0, none⟩), .int .i64 0]) ∧ w.heap.size ≤ p ∧ LatR w' w'.heap.size p q.length q vl vj vm (topM q q.length q.length) (botM q q.length q.length)) ∨ latM q = false ∧ e = .returned (.tuple #[.pointer none, .int .i64 23])) ∧ Below w.heap.size w w' := by
  have H78 := Lib.hid (c_Square q _ v w hq)
  have H79 := Lib.hid (c_Reflexive q v w hq)
  have H80 := Lib.hid (fun w1 (h : Below w.heap.size w w1) => c_Antisymmetric q v w1 ((hq.below h).mono h.size))
  have H81 := Lib.hid (fun w1 (h : Below w.heap.size w w1) => c_Transitive q v w1 ((hq.below h).mono h.size))
  by_cases hlat4 : (allM q (reflM q) && allM q (antiM q) && allM q (transM q)) = true
  · have hlat : latM q = okAll q := by unfold latM; rw [hlat4, Bool.true_and]
    simp only [Bool.and_eq_true] at hlat4
    obtain ⟨⟨hr, ha⟩, ht⟩ := hlat4
    have hs : squareM q = true := by
      unfold allM at hr
      simp only [Bool.and_eq_true] at hr
      exact hr.1
    rw [hr] at H79
    rw [hs] at H78
    have H80' := Lib.hid (fun w1 h => ha ▸ H80.out w1 h)
    have H81' := Lib.hid (fun w1 h => ht ▸ H81.out w1 h)
    clear H80 H81
    have Hq := Lib.hid hq
    have Hlat := Lib.hid hlat; clear hlat
    obtain ⟨hpos, hlen⟩ := squareM_len hs
    have Hs := Lib.hid hs
    have hmk := run_make_ints q.length (by omega)
    obtain ⟨qb, qo, qc, rb, ro, rc, rfl, hsq⟩ := hq.square hs
    clear hq hr ha ht hs
    have Hsq := Lib.hid hsq; clear hsq
    go_enter Try.func40, Try.ntmps40
    go_wp2_with (first | (go_at_call 78; refine (H78.out).mono ?_; rintro e w' ⟨rfl, rfl⟩) | (go_at_call 79; refine (H79.out).mono ?_; rintro e w1 ⟨rfl, hb1⟩; have HB1 := Lib.hid hb1; clear hb1) | (go_at_call 80; refine (H80'.out _ HB1.out).mono ?_; rintro e w2 ⟨rfl, hb2⟩; have HB2 := Lib.hid (below_then HB1.out hb2 HB1.out.size); clear hb2) | (go_at_call 81; refine (H81'.out _ HB2.out).mono ?_; rintro e w3 ⟨rfl, hb3⟩; have HB3 := Lib.hid (below_then HB2.out hb3 HB2.out.size); clear hb3))
    go_loopw [37] (fun v wr => ∃ a : Nat, a ≤ q.length ∧ v = .int .i64 a ∧ Hid (∃ vv, Outer w wr q.length a w3.heap.size q 0 0 vv) ∧ Hid (∀ i, i < a → ∀ j, j < q.length → okAt q i j = true)) (fun v _ => q.length - (intOf v).toNat)
    case atStart =>
      refine ⟨0, by omega, rfl, ⟨fun _ => .slice none 0 0, ?_, HB3.out.size, Blk.new _ _ _, fun i hi => GridOwn.nil _ _ _ _, fun i j _ _ _ b hb => by cases hb⟩, fun i hi => absurd hi (by omega)⟩
      exact HB3.out.alloc HB3.out.size _
    case round =>
      rename World => w0
      obtain ⟨a, ha, rfl, hout, hok⟩ := hrel
      by_cases hlt : a < q.length
      · obtain ⟨vv, hout⟩ := hout.out
        have HO := Lib.hid hout; clear hout
        go_upto_region 7 with fail
        go_cut [6, 7, 8] (fun f j m wx => ∃ bf bj bm, f = .slice (some ⟨bf, 0, none⟩) q.length q.length ∧ j = .slice (some ⟨bj, 0, none⟩) q.length q.length ∧ m = .slice (some ⟨bm, 0, none⟩) q.length q.length ∧ Hid (Row3 w0 wx q.length bf bj bm (fun _ => 0) (fun _ => 0) (fun _ => 0)))
        case first =>
          refine wp_region_tree [] (.seg [0, 1, 3, 4, 6, 7] (.fork (.seg [2, 9] (.fork (.seg [5, 10, 8, 11] (.done)) (.seg [8, 5, 10, 11] (.done)))) (.fork (.seg [5] (.fork (.seg [2, 9, 10, 8, 11] (.done)) (.seg [8, 2, 9, 10, 11] (.done)))) (.seg [8] (.fork (.seg [2, 9, 5, 10, 11] (.done)) (.seg [5, 2, 9, 10, 11] (.done))))))) 155 mixed rfl (by kernel_rfl) ?_
          simp only [wpV, pick, List.filterMap_cons, List.filterMap_nil, List.getElem?_toArray, List.getElem?_cons_zero, List.getElem?_cons_succ]
          go_wp2_with fail
          refine ⟨rfl, (fun l hl => by simp [racing, raceOf] at hl), ?_⟩
          refine ⟨?_, ?_⟩
          · go_wp2_with fail
            refine ⟨rfl, (fun l hl => by simp [racing, raceOf] at hl), ?_⟩
            refine ⟨?_, ?_⟩
            · go_wp2_with fail
              refine ⟨rfl, (fun l hl => by simp [racing, raceOf] at hl), ?_⟩
              go_wp2_with fail
              go_meet
              case rel => exact ⟨_, _, _, rfl, rfl, rfl, Lib.hid (row3_made w0 q.length _ _ _ (by omega) (by omega) (by omega) (by omega))⟩
            · go_wp2_with fail
              refine ⟨rfl, (fun l hl => by simp [racing, raceOf] at hl), ?_⟩
              go_wp2_with fail
              go_meet
              case rel => exact ⟨_, _, _, rfl, rfl, rfl, Lib.hid (row3_made w0 q.length _ _ _ (by omega) (by omega) (by omega) (by omega))⟩
          · refine ⟨?_, ?_⟩
            · go_wp2_with fail
              refine ⟨rfl, (fun l hl => by simp [racing, raceOf] at hl), ?_⟩
              refine ⟨?_, ?_⟩
              · go_wp2_with fail
                refine ⟨rfl, (fun l hl => by simp [racing, raceOf] at hl), ?_⟩
                go_wp2_with fail
                go_meet
                case rel => exact ⟨_, _, _, rfl, rfl, rfl, Lib.hid (row3_made w0 q.length _ _ _ (by omega) (by omega) (by omega) (by omega))⟩
              · go_wp2_with fail
                refine ⟨rfl, (fun l hl => by simp [racing, raceOf] at hl), ?_⟩
                go_wp2_with fail
                go_meet
                case rel => exact ⟨_, _, _, rfl, rfl, rfl, Lib.hid (row3_made w0 q.length _ _ _ (by omega) (by omega) (by omega) (by omega))⟩
            · go_wp2_with fail
              refine ⟨rfl, (fun l hl => by simp [racing, raceOf] at hl), ?_⟩
              refine ⟨?_, ?_⟩
              · go_wp2_with fail
                refine ⟨rfl, (fun l hl => by simp [racing, raceOf] at hl), ?_⟩
                go_wp2_with fail
                go_meet
                case rel => exact ⟨_, _, _, rfl, rfl, rfl, Lib.hid (row3_made w0 q.length _ _ _ (by omega) (by omega) (by omega) (by omega))⟩
              · go_wp2_with fail
                refine ⟨rfl, (fun l hl => by simp [racing, raceOf] at hl), ?_⟩
                go_wp2_with fail
                go_meet
                case rel => exact ⟨_, _, _, rfl, rfl, rfl, Lib.hid (row3_made w0 q.length _ _ _ (by omega) (by omega) (by omega) (by omega))⟩
        case rest =>
          obtain ⟨bf, bj, bm, rfl, rfl, rfl, hrow⟩ := hcut
          go_wp2_with fail
          go_loopw [51] (fun v wr2 => ∃ b : Nat, b ≤ q.length ∧ v = .int .i64 b ∧ Hid (Row3 w0 wr2 q.length bf bj bm (pre (leqM q a) b) (pre (joinM q a) b) (pre (meetM q a) b)) ∧ Hid (∀ j, j < b → okAt q a j = true)) (fun v _ => q.length - (intOf v).toNat)
          case atStart => exact ⟨0, by omega, rfl, hrow, fun j hj => absurd hj (by omega)⟩
          case round =>
            rename World => wr2
            obtain ⟨b, hb, rfl, hrow2, hok2⟩ := hrel
            by_cases hlt2 : b < q.length
            · have hR := hrow2.out
              have hBW := below_then HO.out.bel hR.bel HO.out.bel.size
              have hS := Hsq.out.below hBW
              have hra := hS.rows a hlt
              have hca := hS.cells a b hlt hlt2
              have hff := hR.f.free b
              have hfc : wr2.cell? ⟨bf, b, none⟩ = some (.int .i64 (pre (leqM q a) b b)) := by rw [hR.f.cell]; exact rowC_get hlt2
              clear hS
              have HR := Lib.hid hR; clear hR hrow2
              have HBW := Lib.hid hBW; clear hBW
              cases hbit : bit q a b with
              | true =>
                rw [hbit] at hca
                have hR' : Row3 w0 (wr2.setCell ⟨bf, b, none⟩ (.int .i64 1)) q.length bf bj bm (pre (leqM q a) (b + 1)) (pre (joinM q a) b) (pre (meetM q a) b) :=
                  (HR.out.setF hlt2 1).ext (fun j _ => by have h1 : leqM q a b = 1 := by unfold leqM; rw [hbit]; rfl
                                                          rw [← h1]; exact pre_succ _ _ _) (fun _ _ => rfl) (fun _ _ => rfl)
                have HR' := Lib.hid hR'; clear hR'
                have Hbit := Lib.hid hbit; clear hbit
                go_upto_region 13 with fail
                clear hra hca hff hfc
                generalize wr2.setCell ⟨bf, b, none⟩ (.int .i64 1) = w4 at HR' ⊢
                have hBW4 := below_then HO.out.bel HR'.out.bel HO.out.bel.size
                have hT : TabAt w4 w4.heap.size (.slice (some ⟨qb, qo, none⟩) q.length qc) q := (Hq.out.below hBW4).mono hBW4.size
                have H83 := Lib.hid (c_upper q a b _ w4 hT Hs.out hlt hlt2)
                have HBW4 := Lib.hid hBW4; clear hBW4
                have HT := Lib.hid hT; clear hT
                have hul : (upperM q a b).length ≤ 16 := Nat.le_trans (thoseM_length _ _) hlen
                have hll : (lowerM q a b).length ≤ 16 := Nat.le_trans (thoseM_length _ _) hlen
                have hno : okAt q a b = false → latM q = false := fun h => by
                  rw [Hlat.out]
                  unfold okAll
                  exact List.all_eq_false.2 ⟨a, List.mem_range.2 hlt, by simpa using ⟨b, hlt2, h⟩⟩
                have hokd : okAt q a b = ((leastM q (upperM q a b)).isSome && (greatestM q (lowerM q a b)).isSome) := rfl
                cases hx1 : (leastM q (upperM q a b)).isSome <;> cases hx2 : (greatestM q (lowerM q a b)).isSome <;> rw [hx1, hx2] at hokd
                all_goals
                  have Hno := Lib.hid hno; clear hno
                  have Hokd := Lib.hid hokd; clear hokd
                  have Hx1 := Lib.hid hx1; clear hx1
                  have Hx2 := Lib.hid hx2; clear hx2
                  go_wp2_with (first | (go_at_call 83; refine (H83.out).mono ?_; rintro e w5 ⟨u, rfl, hu, hb5⟩; have HB5 := Lib.hid hb5; have H82 := Lib.hid (c_least q (upperM q a b) _ u w5 ((HT.out.below hb5).mono hb5.size) hu hul); clear hb5 hu) | (go_at_call 82; refine (H82.out).mono ?_; rintro e w6 ⟨rfl, hb6⟩; simp only [optI, Hx1.out]; have HB6 := Lib.hid (below_then HB5.out hb6 HB5.out.size); have H85 := Lib.hid (c_lower q a b _ w6 ((HT.out.below HB6.out).mono HB6.out.size) Hs.out hlt hlt2); clear hb6) | (go_at_call 85; refine (H85.out).mono ?_; rintro e w7 ⟨u', rfl, hu, hb7⟩; have HB7 := Lib.hid (below_then HB6.out hb7 HB6.out.size); have H84 := Lib.hid (c_greatest q (lowerM q a b) _ u' w7 ((HT.out.below HB7.out).mono HB7.out.size) hu hll); clear hb7 hu) | (go_at_call 84; refine (H84.out).mono ?_; rintro e w8 ⟨rfl, hb8⟩; simp only [optI, Hx2.out]; have HB8 := Lib.hid (below_then HB7.out hb8 HB7.out.size); clear hb8; have hR8 := HR'.out.below HB8.out; have hjc : w8.cell? ⟨bj, b, none⟩ = some (.int .i64 (pre (joinM q a) b b)) := (by rw [hR8.j.cell]; exact rowC_get hlt2); have hjf := hR8.j.free b; have hmc : w8.cell? ⟨bm, b, none⟩ = some (.int .i64 (pre (meetM q a) b b)) := (by rw [hR8.m.cell]; exact rowC_get hlt2); have hmf := hR8.m.free b; have hd3 := hR8.d3; have HR8 := Lib.hid hR8; clear hR8))
                · go_ret2
                  exact ⟨.inr ⟨Hno.out Hokd.out, rfl⟩, below_then HBW4.out HB8.out HBW4.out.size⟩
                · go_ret2
                  exact ⟨.inr ⟨Hno.out Hokd.out, rfl⟩, below_then HBW4.out HB8.out HBW4.out.size⟩
                · go_ret2
                  exact ⟨.inr ⟨Hno.out Hokd.out, rfl⟩, below_then HBW4.out HB8.out HBW4.out.size⟩
                · go_roundw
                  case rel => exact ⟨b + 1, by omega, by go_num, Lib.hid ((HR8.out.setJM hlt2 _ _).ext (fun _ _ => rfl) (fun j _ => pre_succ (joinM q a) b j) (fun j _ => pre_succ (meetM q a) b j)), Lib.hid (fun j hj => (Nat.lt_or_ge j b).elim (fun h => hok2.out j h) (fun h => (show j = b by omega) ▸ Hokd.out))⟩
                  case measure => simp [intOf]; omega
              | false =>
                rw [hbit] at hca
                have hR' : Row3 w0 wr2 q.length bf bj bm (pre (leqM q a) (b + 1)) (pre (joinM q a) b) (pre (meetM q a) b) :=
                  HR.out.ext (fun j _ => pre_same (by unfold leqM; rw [hbit]; rfl) _) (fun _ _ => rfl) (fun _ _ => rfl)
                have HR' := Lib.hid hR'; clear hR'
                have Hbit := Lib.hid hbit; clear hbit
                go_upto_region 13 with fail
                clear hra hca hff hfc
                rename World => w4
                have hBW4 := below_then HO.out.bel HR'.out.bel HO.out.bel.size
                have hT : TabAt w4 w4.heap.size (.slice (some ⟨qb, qo, none⟩) q.length qc) q := (Hq.out.below hBW4).mono hBW4.size
                have H83 := Lib.hid (c_upper q a b _ w4 hT Hs.out hlt hlt2)
                have HBW4 := Lib.hid hBW4; clear hBW4
                have HT := Lib.hid hT; clear hT
                have hul : (upperM q a b).length ≤ 16 := Nat.le_trans (thoseM_length _ _) hlen
                have hll : (lowerM q a b).length ≤ 16 := Nat.le_trans (thoseM_length _ _) hlen
                have hno : okAt q a b = false → latM q = false := fun h => by
                  rw [Hlat.out]
                  unfold okAll
                  exact List.all_eq_false.2 ⟨a, List.mem_range.2 hlt, by simpa using ⟨b, hlt2, h⟩⟩
                have hokd : okAt q a b = ((leastM q (upperM q a b)).isSome && (greatestM q (lowerM q a b)).isSome) := rfl
                cases hx1 : (leastM q (upperM q a b)).isSome <;> cases hx2 : (greatestM q (lowerM q a b)).isSome <;> rw [hx1, hx2] at hokd
                all_goals
                  have Hno := Lib.hid hno; clear hno
                  have Hokd := Lib.hid hokd; clear hokd
                  have Hx1 := Lib.hid hx1; clear hx1
                  have Hx2 := Lib.hid hx2; clear hx2
                  go_wp2_with (first | (go_at_call 83; refine (H83.out).mono ?_; rintro e w5 ⟨u, rfl, hu, hb5⟩; have HB5 := Lib.hid hb5; have H82 := Lib.hid (c_least q (upperM q a b) _ u w5 ((HT.out.below hb5).mono hb5.size) hu hul); clear hb5 hu) | (go_at_call 82; refine (H82.out).mono ?_; rintro e w6 ⟨rfl, hb6⟩; simp only [optI, Hx1.out]; have HB6 := Lib.hid (below_then HB5.out hb6 HB5.out.size); have H85 := Lib.hid (c_lower q a b _ w6 ((HT.out.below HB6.out).mono HB6.out.size) Hs.out hlt hlt2); clear hb6) | (go_at_call 85; refine (H85.out).mono ?_; rintro e w7 ⟨u', rfl, hu, hb7⟩; have HB7 := Lib.hid (below_then HB6.out hb7 HB6.out.size); have H84 := Lib.hid (c_greatest q (lowerM q a b) _ u' w7 ((HT.out.below HB7.out).mono HB7.out.size) hu hll); clear hb7 hu) | (go_at_call 84; refine (H84.out).mono ?_; rintro e w8 ⟨rfl, hb8⟩; simp only [optI, Hx2.out]; have HB8 := Lib.hid (below_then HB7.out hb8 HB7.out.size); clear hb8; have hR8 := HR'.out.below HB8.out; have hjc : w8.cell? ⟨bj, b, none⟩ = some (.int .i64 (pre (joinM q a) b b)) := (by rw [hR8.j.cell]; exact rowC_get hlt2); have hjf := hR8.j.free b; have hmc : w8.cell? ⟨bm, b, none⟩ = some (.int .i64 (pre (meetM q a) b b)) := (by rw [hR8.m.cell]; exact rowC_get hlt2); have hmf := hR8.m.free b; have hd3 := hR8.d3; have HR8 := Lib.hid hR8; clear hR8))
                · go_ret2
                  exact ⟨.inr ⟨Hno.out Hokd.out, rfl⟩, below_then HBW4.out HB8.out HBW4.out.size⟩
                · go_ret2
                  exact ⟨.inr ⟨Hno.out Hokd.out, rfl⟩, below_then HBW4.out HB8.out HBW4.out.size⟩
                · go_ret2
                  exact ⟨.inr ⟨Hno.out Hokd.out, rfl⟩, below_then HBW4.out HB8.out HBW4.out.size⟩
                · go_roundw
                  case rel => exact ⟨b + 1, by omega, by go_num, Lib.hid ((HR8.out.setJM hlt2 _ _).ext (fun _ _ => rfl) (fun j _ => pre_succ (joinM q a) b j) (fun j _ => pre_succ (meetM q a) b j)), Lib.hid (fun j hj => (Nat.lt_or_ge j b).elim (fun h => hok2.out j h) (fun h => (show j = b by omega) ▸ Hokd.out))⟩
                  case measure => simp [intOf]; omega
            · obtain rfl : b = q.length := by omega
              have hR := hrow2.out
              have hO2 := HO.out.below hR.bel
              obtain ⟨x0, y0, hv0⟩ := (hO2.g 0 (by decide)).slice
              obtain ⟨x1, y1, hv1⟩ := (hO2.g 1 (by decide)).slice
              obtain ⟨x2, y2, hv2⟩ := (hO2.g 2 (by decide)).slice
              have hT : T3 w wr2 q.length a w3.heap.size #[.slice x0 a y0, .slice x1 a y1, .slice x2 a y2, .int .i64 0, .int .i64 0] (fM q) (tri3 (.slice (some ⟨bf, 0, none⟩) q.length q.length) (.slice (some ⟨bj, 0, none⟩) q.length q.length) (.slice (some ⟨bm, 0, none⟩) q.length q.length)) vv (fun _ => a) (fun _ => none) := T3_of hO2 hR HO.out.bel.size hv0 hv1 hv2
              have HT0 := Lib.hid hT; clear hT
              have HV0 := Lib.hid hv0; clear hv0
              have HV1 := Lib.hid hv1; clear hv1
              have HV2 := Lib.hid hv2; clear hv2
              clear hR hO2
              go_upto_region 19 with fail
              have e0 : wr2.cell? ⟨w3.heap.size, 0, none⟩ = some (.slice x0 a y0) := HT0.out.obj.cell 0
              have e1 : wr2.cell? ⟨w3.heap.size, 1, none⟩ = some (.slice x1 a y1) := HT0.out.obj.cell 1
              have e2 : wr2.cell? ⟨w3.heap.size, 2, none⟩ = some (.slice x2 a y2) := HT0.out.obj.cell 2
              have Hok3 : Hid (∀ i, i < a + 1 → ∀ j, j < q.length → okAt q i j = true) := Lib.hid (fun i hi j hj => (Nat.lt_or_ge i a).elim (fun h => hok.out i h j hj) (fun h => (show i = a by omega) ▸ hok2.out j hj))
              refine wp_region_tree [(6, 8), (6, 15), (6, 22), (13, 8), (13, 9), (13, 15), (13, 22), (20, 8), (20, 9), (20, 15), (20, 16), (20, 22)] (.seg [0, 1, 2, 3, 4, 5, 6, 7, 10, 11, 12, 13, 14, 17, 18, 19, 20, 21] (.fork (.seg [8] (.fork (.seg [9] (.fork (.seg [15] (.fork (.seg [16] (.seg [22] (.seg [23, 24, 25, 26, 27, 28, 29, 30, 31, 32] (.done)))) (.seg [22] (.seg [16] (.seg [23, 24, 25, 26, 27, 28, 29, 30, 31, 32] (.done)))))) (.seg [22] (.seg [15] (.seg [16] (.seg [23, 24, 25, 26, 27, 28, 29, 30, 31, 32] (.done))))))) (.fork (.seg [15] (.fork (.seg [9] (.fork (.seg [16] (.seg [22] (.seg [23, 24, 25, 26, 27, 28, 29, 30, 31, 32] (.done)))) (.seg [22] (.seg [16] (.seg [23, 24, 25, 26, 27, 28, 29, 30, 31, 32] (.done)))))) (.seg [22] (.seg [9] (.seg [16] (.seg [23, 24, 25, 26, 27, 28, 29, 30, 31, 32] (.done))))))) (.seg [22] (.fork (.seg [9] (.seg [15] (.seg [16] (.seg [23, 24, 25, 26, 27, 28, 29, 30, 31, 32] (.done))))) (.seg [15] (.seg [9] (.seg [16] (.seg [23, 24, 25, 26, 27, 28, 29, 30, 31, 32] (.done)))))))))) (.fork (.seg [15] (.fork (.seg [8] (.fork (.seg [9] (.fork (.seg [16] (.seg [22] (.seg [23, 24, 25, 26, 27, 28, 29, 30, 31, 32] (.done)))) (.seg [22] (.seg [16] (.seg [23, 24, 25, 26, 27, 28, 29, 30, 31, 32] (.done)))))) (.seg [22] (.seg [9] (.seg [16] (.seg [23, 24, 25, 26, 27, 28, 29, 30, 31, 32] (.done))))))) (.seg [22] (.seg [8] (.seg [9] (.seg [16] (.seg [23, 24, 25, 26, 27, 28, 29, 30, 31, 32] (.done)))))))) (.seg [22] (.fork (.seg [8] (.fork (.seg [9] (.seg [15] (.seg [16] (.seg [23, 24, 25, 26, 27, 28, 29, 30, 31, 32] (.done))))) (.seg [15] (.seg [9] (.seg [16] (.seg [23, 24, 25, 26, 27, 28, 29, 30, 31, 32] (.done))))))) (.seg [15] (.seg [8] (.seg [9] (.seg [16] (.seg [23, 24, 25, 26, 27, 28, 29, 30, 31, 32] (.done))))))))))) 155 mixed rfl (by kernel_rfl) ?_
              simp only [wpV, pick, List.filterMap_cons, List.filterMap_nil, List.getElem?_toArray, List.getElem?_cons_zero, List.getElem?_cons_succ]
              go_wp2_with fail
              refine ⟨rfl, (fun l hl => by simp [racing, raceOf] at hl), ?_⟩
              refine ⟨?_, ?_⟩
              · go_wp2_with fail
                have hT := HT0.out.build 0 (by decide) (wr2.heap.size) (by simp)
                change T3 w (wr2.alloc (.cells #[Value.slice (some ⟨bf, 0, none⟩) q.length q.length] 28)) _ _ _ _ _ _ _ _ _ at hT
                have HT1 := Lib.hid hT; clear hT
                refine ⟨rfl, (fun l hl => by have e0 : (wr2.alloc (.cells #[Value.slice (some ⟨bf, 0, none⟩) q.length q.length] 28)).cell? ⟨w3.heap.size, 0, none⟩ = some (Value.slice x0 a y0) := HT1.out.obj.cell 0; have e1 : (wr2.alloc (.cells #[Value.slice (some ⟨bf, 0, none⟩) q.length q.length] 28)).cell? ⟨w3.heap.size, 1, none⟩ = some (Value.slice x1 a y1) := HT1.out.obj.cell 1; have e2 : (wr2.alloc (.cells #[Value.slice (some ⟨bf, 0, none⟩) q.length q.length] 28)).cell? ⟨w3.heap.size, 2, none⟩ = some (Value.slice x2 a y2) := HT1.out.obj.cell 2; have hl' : l = 6 ∨ l = 13 ∨ l = 20 := (by simp [racing, raceOf] at hl; omega); rcases hl' with rfl | rfl | rfl <;> (intro _; go_simp)), ?_⟩
                refine ⟨?_, ?_⟩
                · refine T3.walk HT1.out.drew 0 (by decide) rfl (by omega) rfl _ _ rfl _ 1 rfl HV0.out.symm rfl ?_
                  intro ad0 cc0 wa0 hT
                  have HT2 := Lib.hid hT
                  clear hT
                  go_wp2_with fail
                  refine ⟨rfl, (fun l hl => by have e0 : wa0.cell? ⟨w3.heap.size, 0, none⟩ = some (Value.slice x0 a y0) := HT2.out.obj.cell 0; have e1 : wa0.cell? ⟨w3.heap.size, 1, none⟩ = some (Value.slice x1 a y1) := HT2.out.obj.cell 1; have e2 : wa0.cell? ⟨w3.heap.size, 2, none⟩ = some (Value.slice x2 a y2) := HT2.out.obj.cell 2; have hl' : l = 6 ∨ l = 13 ∨ l = 20 := (by simp [racing, raceOf] at hl; omega); rcases hl' with rfl | rfl | rfl <;> (intro _; go_simp)), ?_⟩
                  refine ⟨?_, ?_⟩
                  · go_wp2_with fail
                    have hT := HT2.out.build 1 (by decide) (wa0.heap.size) (by simp)
                    change T3 w (wa0.alloc (.cells #[Value.slice (some ⟨bj, 0, none⟩) q.length q.length] 28)) _ _ _ _ _ _ _ _ _ at hT
                    have HT3 := Lib.hid hT; clear hT
                    refine ⟨rfl, (fun l hl => by have e0 : (wa0.alloc (.cells #[Value.slice (some ⟨bj, 0, none⟩) q.length q.length] 28)).cell? ⟨w3.heap.size, 0, none⟩ = some (Value.slice x0 a y0) := HT3.out.obj.cell 0; have e1 : (wa0.alloc (.cells #[Value.slice (some ⟨bj, 0, none⟩) q.length q.length] 28)).cell? ⟨w3.heap.size, 1, none⟩ = some (Value.slice x1 a y1) := HT3.out.obj.cell 1; have e2 : (wa0.alloc (.cells #[Value.slice (some ⟨bj, 0, none⟩) q.length q.length] 28)).cell? ⟨w3.heap.size, 2, none⟩ = some (Value.slice x2 a y2) := HT3.out.obj.cell 2; have hl' : l = 6 ∨ l = 13 ∨ l = 20 := (by simp [racing, raceOf] at hl; omega); rcases hl' with rfl | rfl | rfl <;> (intro _; go_simp)), ?_⟩
                    refine ⟨?_, ?_⟩
                    · refine T3.walk HT3.out 1 (by decide) rfl (by omega) rfl _ _ rfl _ 1 rfl HV1.out.symm rfl ?_
                      intro ad1 cc1 wa1 hT
                      have HT4 := Lib.hid hT
                      clear hT
                      go_wp2_with fail
                      refine ⟨rfl, (fun l hl => by have e0 : wa1.cell? ⟨w3.heap.size, 0, none⟩ = some (Value.slice x0 a y0) := HT4.out.obj.cell 0; have e1 : wa1.cell? ⟨w3.heap.size, 1, none⟩ = some (Value.slice x1 a y1) := HT4.out.obj.cell 1; have e2 : wa1.cell? ⟨w3.heap.size, 2, none⟩ = some (Value.slice x2 a y2) := HT4.out.obj.cell 2; have hl' : l = 6 ∨ l = 13 ∨ l = 20 := (by simp [racing, raceOf] at hl; omega); rcases hl' with rfl | rfl | rfl <;> (intro _; go_simp)), ?_⟩
                      go_wp2_with fail
                      have hT := HT4.out.build 2 (by decide) (wa1.heap.size) (by simp)
                      change T3 w (wa1.alloc (.cells #[Value.slice (some ⟨bm, 0, none⟩) q.length q.length] 28)) _ _ _ _ _ _ _ _ _ at hT
                      have HT5 := Lib.hid hT; clear hT
                      refine ⟨rfl, (fun l hl => by have e0 : (wa1.alloc (.cells #[Value.slice (some ⟨bm, 0, none⟩) q.length q.length] 28)).cell? ⟨w3.heap.size, 0, none⟩ = some (Value.slice x0 a y0) := HT5.out.obj.cell 0; have e1 : (wa1.alloc (.cells #[Value.slice (some ⟨bm, 0, none⟩) q.length q.length] 28)).cell? ⟨w3.heap.size, 1, none⟩ = some (Value.slice x1 a y1) := HT5.out.obj.cell 1; have e2 : (wa1.alloc (.cells #[Value.slice (some ⟨bm, 0, none⟩) q.length q.length] 28)).cell? ⟨w3.heap.size, 2, none⟩ = some (Value.slice x2 a y2) := HT5.out.obj.cell 2; have hl' : l = 6 ∨ l = 13 ∨ l = 20 := (by simp [racing, raceOf] at hl; omega); rcases hl' with rfl | rfl | rfl <;> (intro _; go_simp)), ?_⟩
                      refine T3.walk HT5.out 2 (by decide) rfl (by omega) rfl _ _ rfl _ 1 rfl HV2.out.symm rfl ?_
                      intro ad2 cc2 wa2 hT
                      have HT6 := Lib.hid hT
                      clear hT
                      have e0 : wa2.cell? ⟨w3.heap.size, 0, none⟩ = some (Value.slice x0 a y0) := HT6.out.obj.cell 0
                      have e1 : wa2.cell? ⟨w3.heap.size, 1, none⟩ = some (Value.slice x1 a y1) := HT6.out.obj.cell 1
                      have e2 : wa2.cell? ⟨w3.heap.size, 2, none⟩ = some (Value.slice x2 a y2) := HT6.out.obj.cell 2
                      have f0 := HT6.out.obj.free 0
                      have f1 := HT6.out.obj.free 1
                      have f2 := HT6.out.obj.free 2
                      go_wp2_with fail
                      refine ⟨rfl, (fun l hl => by simp [racing, raceOf] at hl), ?_⟩
                      go_wp2_with fail
                      go_roundw
                      case rel => exact ⟨a + 1, by omega, by go_num, Lib.hid ⟨_, (HT6.out.finish HO.out.hp (fun i hi => by match i, hi with | 0, _ => rfl | 1, _ => rfl | 2, _ => rfl)).out⟩, Hok3⟩
                      case measure => simp [intOf]; omega
                    · go_wp2_with fail
                      have hT := HT3.out.build 2 (by decide) (wa0.heap.size + 1) (by simp)
                      change T3 w ((wa0.alloc (.cells #[Value.slice (some ⟨bj, 0, none⟩) q.length q.length] 28)).alloc (.cells #[Value.slice (some ⟨bm, 0, none⟩) q.length q.length] 28)) _ _ _ _ _ _ _ _ _ at hT
                      have HT4 := Lib.hid hT; clear hT
                      refine ⟨rfl, (fun l hl => by have e0 : ((wa0.alloc (.cells #[Value.slice (some ⟨bj, 0, none⟩) q.length q.length] 28)).alloc (.cells #[Value.slice (some ⟨bm, 0, none⟩) q.length q.length] 28)).cell? ⟨w3.heap.size, 0, none⟩ = some (Value.slice x0 a y0) := HT4.out.obj.cell 0; have e1 : ((wa0.alloc (.cells #[Value.slice (some ⟨bj, 0, none⟩) q.length q.length] 28)).alloc (.cells #[Value.slice (some ⟨bm, 0, none⟩) q.length q.length] 28)).cell? ⟨w3.heap.size, 1, none⟩ = some (Value.slice x1 a y1) := HT4.out.obj.cell 1; have e2 : ((wa0.alloc (.cells #[Value.slice (some ⟨bj, 0, none⟩) q.length q.length] 28)).alloc (.cells #[Value.slice (some ⟨bm, 0, none⟩) q.length q.length] 28)).cell? ⟨w3.heap.size, 2, none⟩ = some (Value.slice x2 a y2) := HT4.out.obj.cell 2; have hl' : l = 6 ∨ l = 13 ∨ l = 20 := (by simp [racing, raceOf] at hl; omega); rcases hl' with rfl | rfl | rfl <;> (intro _; go_simp)), ?_⟩
                      refine T3.walk HT4.out 1 (by decide) rfl (by omega) rfl _ _ rfl _ 1 rfl HV1.out.symm rfl ?_
                      intro ad1 cc1 wa1 hT
                      have HT5 := Lib.hid hT
                      clear hT
                      go_wp2_with fail
                      refine ⟨rfl, (fun l hl => by have e0 : wa1.cell? ⟨w3.heap.size, 0, none⟩ = some (Value.slice x0 a y0) := HT5.out.obj.cell 0; have e1 : wa1.cell? ⟨w3.heap.size, 1, none⟩ = some (Value.slice x1 a y1) := HT5.out.obj.cell 1; have e2 : wa1.cell? ⟨w3.heap.size, 2, none⟩ = some (Value.slice x2 a y2) := HT5.out.obj.cell 2; have hl' : l = 6 ∨ l = 13 ∨ l = 20 := (by simp [racing, raceOf] at hl; omega); rcases hl' with rfl | rfl | rfl <;> (intro _; go_simp)), ?_⟩
                      refine T3.walk HT5.out 2 (by decide) rfl (by omega) rfl _ _ rfl _ 1 rfl HV2.out.symm rfl ?_
                      intro ad2 cc2 wa2 hT
                      have HT6 := Lib.hid hT
                      clear hT
                      have e0 : wa2.cell? ⟨w3.heap.size, 0, none⟩ = some (Value.slice x0 a y0) := HT6.out.obj.cell 0
                      have e1 : wa2.cell? ⟨w3.heap.size, 1, none⟩ = some (Value.slice x1 a y1) := HT6.out.obj.cell 1
                      have e2 : wa2.cell? ⟨w3.heap.size, 2, none⟩ = some (Value.slice x2 a y2) := HT6.out.obj.cell 2
                      have f0 := HT6.out.obj.free 0
                      have f1 := HT6.out.obj.free 1
                      have f2 := HT6.out.obj.free 2
                      go_wp2_with fail
                      refine ⟨rfl, (fun l hl => by simp [racing, raceOf] at hl), ?_⟩
                      go_wp2_with fail
                      go_roundw
                      case rel => exact ⟨a + 1, by omega, by go_num, Lib.hid ⟨_, (HT6.out.finish HO.out.hp (fun i hi => by match i, hi with | 0, _ => rfl | 1, _ => rfl | 2, _ => rfl)).out⟩, Hok3⟩
                      case measure => simp [intOf]; omega
                  · go_wp2_with fail
                    have hT := HT2.out.build 2 (by decide) (wa0.heap.size) (by simp)
                    change T3 w (wa0.alloc (.cells #[Value.slice (some ⟨bm, 0, none⟩) q.length q.length] 28)) _ _ _ _ _ _ _ _ _ at hT
                    have HT3 := Lib.hid hT; clear hT
                    refine ⟨rfl, (fun l hl => by have e0 : (wa0.alloc (.cells #[Value.slice (some ⟨bm, 0, none⟩) q.length q.length] 28)).cell? ⟨w3.heap.size, 0, none⟩ = some (Value.slice x0 a y0) := HT3.out.obj.cell 0; have e1 : (wa0.alloc (.cells #[Value.slice (some ⟨bm, 0, none⟩) q.length q.length] 28)).cell? ⟨w3.heap.size, 1, none⟩ = some (Value.slice x1 a y1) := HT3.out.obj.cell 1; have e2 : (wa0.alloc (.cells #[Value.slice (some ⟨bm, 0, none⟩) q.length q.length] 28)).cell? ⟨w3.heap.size, 2, none⟩ = some (Value.slice x2 a y2) := HT3.out.obj.cell 2; have hl' : l = 6 ∨ l = 13 ∨ l = 20 := (by simp [racing, raceOf] at hl; omega); rcases hl' with rfl | rfl | rfl <;> (intro _; go_simp)), ?_⟩
                    go_wp2_with fail
                    have hT := HT3.out.build 1 (by decide) (wa0.heap.size + 1) (by simp)
                    change T3 w ((wa0.alloc (.cells #[Value.slice (some ⟨bm, 0, none⟩) q.length q.length] 28)).alloc (.cells #[Value.slice (some ⟨bj, 0, none⟩) q.length q.length] 28)) _ _ _ _ _ _ _ _ _ at hT
                    have HT4 := Lib.hid hT; clear hT
                    refine ⟨rfl, (fun l hl => by have e0 : ((wa0.alloc (.cells #[Value.slice (some ⟨bm, 0, none⟩) q.length q.length] 28)).alloc (.cells #[Value.slice (some ⟨bj, 0, none⟩) q.length q.length] 28)).cell? ⟨w3.heap.size, 0, none⟩ = some (Value.slice x0 a y0) := HT4.out.obj.cell 0; have e1 : ((wa0.alloc (.cells #[Value.slice (some ⟨bm, 0, none⟩) q.length q.length] 28)).alloc (.cells #[Value.slice (some ⟨bj, 0, none⟩) q.length q.length] 28)).cell? ⟨w3.heap.size, 1, none⟩ = some (Value.slice x1 a y1) := HT4.out.obj.cell 1; have e2 : ((wa0.alloc (.cells #[Value.slice (some ⟨bm, 0, none⟩) q.length q.length] 28)).alloc (.cells #[Value.slice (some ⟨bj, 0, none⟩) q.length q.length] 28)).cell? ⟨w3.heap.size, 2, none⟩ = some (Value.slice x2 a y2) := HT4.out.obj.cell 2; have hl' : l = 6 ∨ l = 13 ∨ l = 20 := (by simp [racing, raceOf] at hl; omega); rcases hl' with rfl | rfl | rfl <;> (intro _; go_simp)), ?_⟩
                    refine T3.walk HT4.out 1 (by decide) rfl (by omega) rfl _ _ rfl _ 1 rfl HV1.out.symm rfl ?_
                    intro ad1 cc1 wa1 hT
                    have HT5 := Lib.hid hT
                    clear hT
                    go_wp2_with fail
                    refine ⟨rfl, (fun l hl => by have e0 : wa1.cell? ⟨w3.heap.size, 0, none⟩ = some (Value.slice x0 a y0) := HT5.out.obj.cell 0; have e1 : wa1.cell? ⟨w3.heap.size, 1, none⟩ = some (Value.slice x1 a y1) := HT5.out.obj.cell 1; have e2 : wa1.cell? ⟨w3.heap.size, 2, none⟩ = some (Value.slice x2 a y2) := HT5.out.obj.cell 2; have hl' : l = 6 ∨ l = 13 ∨ l = 20 := (by simp [racing, raceOf] at hl; omega); rcases hl' with rfl | rfl | rfl <;> (intro _; go_simp)), ?_⟩
                    refine T3.walk HT5.out 2 (by decide) rfl (by omega) rfl _ _ rfl _ 1 rfl HV2.out.symm rfl ?_
                    intro ad2 cc2 wa2 hT
                    have HT6 := Lib.hid hT
                    clear hT
                    have e0 : wa2.cell? ⟨w3.heap.size, 0, none⟩ = some (Value.slice x0 a y0) := HT6.out.obj.cell 0
                    have e1 : wa2.cell? ⟨w3.heap.size, 1, none⟩ = some (Value.slice x1 a y1) := HT6.out.obj.cell 1
                    have e2 : wa2.cell? ⟨w3.heap.size, 2, none⟩ = some (Value.slice x2 a y2) := HT6.out.obj.cell 2
                    have f0 := HT6.out.obj.free 0
                    have f1 := HT6.out.obj.free 1
                    have f2 := HT6.out.obj.free 2
                    go_wp2_with fail
                    refine ⟨rfl, (fun l hl => by simp [racing, raceOf] at hl), ?_⟩
                    go_wp2_with fail
                    go_roundw
                    case rel => exact ⟨a + 1, by omega, by go_num, Lib.hid ⟨_, (HT6.out.finish HO.out.hp (fun i hi => by match i, hi with | 0, _ => rfl | 1, _ => rfl | 2, _ => rfl)).out⟩, Hok3⟩
                    case measure => simp [intOf]; omega
                · refine ⟨?_, ?_⟩
                  · go_wp2_with fail
                    have hT := HT1.out.build 1 (by decide) (wr2.heap.size + 1) (by simp)
                    change T3 w ((wr2.alloc (.cells #[Value.slice (some ⟨bf, 0, none⟩) q.length q.length] 28)).alloc (.cells #[Value.slice (some ⟨bj, 0, none⟩) q.length q.length] 28)) _ _ _ _ _ _ _ _ _ at hT
                    have HT2 := Lib.hid hT; clear hT
                    refine ⟨rfl, (fun l hl => by have e0 : ((wr2.alloc (.cells #[Value.slice (some ⟨bf, 0, none⟩) q.length q.length] 28)).alloc (.cells #[Value.slice (some ⟨bj, 0, none⟩) q.length q.length] 28)).cell? ⟨w3.heap.size, 0, none⟩ = some (Value.slice x0 a y0) := HT2.out.obj.cell 0; have e1 : ((wr2.alloc (.cells #[Value.slice (some ⟨bf, 0, none⟩) q.length q.length] 28)).alloc (.cells #[Value.slice (some ⟨bj, 0, none⟩) q.length q.length] 28)).cell? ⟨w3.heap.size, 1, none⟩ = some (Value.slice x1 a y1) := HT2.out.obj.cell 1; have e2 : ((wr2.alloc (.cells #[Value.slice (some ⟨bf, 0, none⟩) q.length q.length] 28)).alloc (.cells #[Value.slice (some ⟨bj, 0, none⟩) q.length q.length] 28)).cell? ⟨w3.heap.size, 2, none⟩ = some (Value.slice x2 a y2) := HT2.out.obj.cell 2; have hl' : l = 6 ∨ l = 13 ∨ l = 20 := (by simp [racing, raceOf] at hl; omega); rcases hl' with rfl | rfl | rfl <;> (intro _; go_simp)), ?_⟩
                    refine ⟨?_, ?_⟩
                    · refine T3.walk HT2.out.drew 0 (by decide) rfl (by omega) rfl _ _ rfl _ 1 rfl HV0.out.symm rfl ?_
                      intro ad0 cc0 wa0 hT
                      have HT3 := Lib.hid hT
                      clear hT
                      go_wp2_with fail
                      refine ⟨rfl, (fun l hl => by have e0 : wa0.cell? ⟨w3.heap.size, 0, none⟩ = some (Value.slice x0 a y0) := HT3.out.obj.cell 0; have e1 : wa0.cell? ⟨w3.heap.size, 1, none⟩ = some (Value.slice x1 a y1) := HT3.out.obj.cell 1; have e2 : wa0.cell? ⟨w3.heap.size, 2, none⟩ = some (Value.slice x2 a y2) := HT3.out.obj.cell 2; have hl' : l = 6 ∨ l = 13 ∨ l = 20 := (by simp [racing, raceOf] at hl; omega); rcases hl' with rfl | rfl | rfl <;> (intro _; go_simp)), ?_⟩
                      refine ⟨?_, ?_⟩
                      · refine T3.walk HT3.out 1 (by decide) rfl (by omega) rfl _ _ rfl _ 1 rfl HV1.out.symm rfl ?_
                        intro ad1 cc1 wa1 hT
                        have HT4 := Lib.hid hT
                        clear hT
                        go_wp2_with fail
                        refine ⟨rfl, (fun l hl => by have e0 : wa1.cell? ⟨w3.heap.size, 0, none⟩ = some (Value.slice x0 a y0) := HT4.out.obj.cell 0; have e1 : wa1.cell? ⟨w3.heap.size, 1, none⟩ = some (Value.slice x1 a y1) := HT4.out.obj.cell 1; have e2 : wa1.cell? ⟨w3.heap.size, 2, none⟩ = some (Value.slice x2 a y2) := HT4.out.obj.cell 2; have hl' : l = 6 ∨ l = 13 ∨ l = 20 := (by simp [racing, raceOf] at hl; omega); rcases hl' with rfl | rfl | rfl <;> (intro _; go_simp)), ?_⟩
                        go_wp2_with fail
                        have hT := HT4.out.build 2 (by decide) (wa1.heap.size) (by simp)
                        change T3 w (wa1.alloc (.cells #[Value.slice (some ⟨bm, 0, none⟩) q.length q.length] 28)) _ _ _ _ _ _ _ _ _ at hT
                        have HT5 := Lib.hid hT; clear hT
                        refine ⟨rfl, (fun l hl => by have e0 : (wa1.alloc (.cells #[Value.slice (some ⟨bm, 0, none⟩) q.length q.length] 28)).cell? ⟨w3.heap.size, 0, none⟩ = some (Value.slice x0 a y0) := HT5.out.obj.cell 0; have e1 : (wa1.alloc (.cells #[Value.slice (some ⟨bm, 0, none⟩) q.length q.length] 28)).cell? ⟨w3.heap.size, 1, none⟩ = some (Value.slice x1 a y1) := HT5.out.obj.cell 1; have e2 : (wa1.alloc (.cells #[Value.slice (some ⟨bm, 0, none⟩) q.length q.length] 28)).cell? ⟨w3.heap.size, 2, none⟩ = some (Value.slice x2 a y2) := HT5.out.obj.cell 2; have hl' : l = 6 ∨ l = 13 ∨ l = 20 := (by simp [racing, raceOf] at hl; omega); rcases hl' with rfl | rfl | rfl <;> (intro _; go_simp)), ?_⟩
                        refine T3.walk HT5.out 2 (by decide) rfl (by omega) rfl _ _ rfl _ 1 rfl HV2.out.symm rfl ?_
                        intro ad2 cc2 wa2 hT
                        have HT6 := Lib.hid hT
                        clear hT
                        have e0 : wa2.cell? ⟨w3.heap.size, 0, none⟩ = some (Value.slice x0 a y0) := HT6.out.obj.cell 0
                        have e1 : wa2.cell? ⟨w3.heap.size, 1, none⟩ = some (Value.slice x1 a y1) := HT6.out.obj.cell 1
                        have e2 : wa2.cell? ⟨w3.heap.size, 2, none⟩ = some (Value.slice x2 a y2) := HT6.out.obj.cell 2
                        have f0 := HT6.out.obj.free 0
                        have f1 := HT6.out.obj.free 1
                        have f2 := HT6.out.obj.free 2
                        go_wp2_with fail
                        refine ⟨rfl, (fun l hl => by simp [racing, raceOf] at hl), ?_⟩
                        go_wp2_with fail
                        go_roundw
                        case rel => exact ⟨a + 1, by omega, by go_num, Lib.hid ⟨_, (HT6.out.finish HO.out.hp (fun i hi => by match i, hi with | 0, _ => rfl | 1, _ => rfl | 2, _ => rfl)).out⟩, Hok3⟩
                        case measure => simp [intOf]; omega
                      · go_wp2_with fail
                        have hT := HT3.out.build 2 (by decide) (wa0.heap.size) (by simp)
                        change T3 w (wa0.alloc (.cells #[Value.slice (some ⟨bm, 0, none⟩) q.length q.length] 28)) _ _ _ _ _ _ _ _ _ at hT
                        have HT4 := Lib.hid hT; clear hT
                        refine ⟨rfl, (fun l hl => by have e0 : (wa0.alloc (.cells #[Value.slice (some ⟨bm, 0, none⟩) q.length q.length] 28)).cell? ⟨w3.heap.size, 0, none⟩ = some (Value.slice x0 a y0) := HT4.out.obj.cell 0; have e1 : (wa0.alloc (.cells #[Value.slice (some ⟨bm, 0, none⟩) q.length q.length] 28)).cell? ⟨w3.heap.size, 1, none⟩ = some (Value.slice x1 a y1) := HT4.out.obj.cell 1; have e2 : (wa0.alloc (.cells #[Value.slice (some ⟨bm, 0, none⟩) q.length q.length] 28)).cell? ⟨w3.heap.size, 2, none⟩ = some (Value.slice x2 a y2) := HT4.out.obj.cell 2; have hl' : l = 6 ∨ l = 13 ∨ l = 20 := (by simp [racing, raceOf] at hl; omega); rcases hl' with rfl | rfl | rfl <;> (intro _; go_simp)), ?_⟩
                        refine T3.walk HT4.out 1 (by decide) rfl (by omega) rfl _ _ rfl _ 1 rfl HV1.out.symm rfl ?_
                        intro ad1 cc1 wa1 hT
                        have HT5 := Lib.hid hT
                        clear hT
                        go_wp2_with fail
                        refine ⟨rfl, (fun l hl => by have e0 : wa1.cell? ⟨w3.heap.size, 0, none⟩ = some (Value.slice x0 a y0) := HT5.out.obj.cell 0; have e1 : wa1.cell? ⟨w3.heap.size, 1, none⟩ = some (Value.slice x1 a y1) := HT5.out.obj.cell 1; have e2 : wa1.cell? ⟨w3.heap.size, 2, none⟩ = some (Value.slice x2 a y2) := HT5.out.obj.cell 2; have hl' : l = 6 ∨ l = 13 ∨ l = 20 := (by simp [racing, raceOf] at hl; omega); rcases hl' with rfl | rfl | rfl <;> (intro _; go_simp)), ?_⟩
                        refine T3.walk HT5.out 2 (by decide) rfl (by omega) rfl _ _ rfl _ 1 rfl HV2.out.symm rfl ?_
                        intro ad2 cc2 wa2 hT
                        have HT6 := Lib.hid hT
                        clear hT
                        have e0 : wa2.cell? ⟨w3.heap.size, 0, none⟩ = some (Value.slice x0 a y0) := HT6.out.obj.cell 0
                        have e1 : wa2.cell? ⟨w3.heap.size, 1, none⟩ = some (Value.slice x1 a y1) := HT6.out.obj.cell 1
                        have e2 : wa2.cell? ⟨w3.heap.size, 2, none⟩ = some (Value.slice x2 a y2) := HT6.out.obj.cell 2
                        have f0 := HT6.out.obj.free 0
                        have f1 := HT6.out.obj.free 1
                        have f2 := HT6.out.obj.free 2
                        go_wp2_with fail
                        refine ⟨rfl, (fun l hl => by simp [racing, raceOf] at hl), ?_⟩
                        go_wp2_with fail
                        go_roundw
                        case rel => exact ⟨a + 1, by omega, by go_num, Lib.hid ⟨_, (HT6.out.finish HO.out.hp (fun i hi => by match i, hi with | 0, _ => rfl | 1, _ => rfl | 2, _ => rfl)).out⟩, Hok3⟩
                        case measure => simp [intOf]; omega
                    · go_wp2_with fail
                      have hT := HT2.out.build 2 (by decide) (wr2.heap.size + 1 + 1) (by simp)
                      change T3 w (((wr2.alloc (.cells #[Value.slice (some ⟨bf, 0, none⟩) q.length q.length] 28)).alloc (.cells #[Value.slice (some ⟨bj, 0, none⟩) q.length q.length] 28)).alloc (.cells #[Value.slice (some ⟨bm, 0, none⟩) q.length q.length] 28)) _ _ _ _ _ _ _ _ _ at hT
                      have HT3 := Lib.hid hT; clear hT
                      refine ⟨rfl, (fun l hl => by have e0 : (((wr2.alloc (.cells #[Value.slice (some ⟨bf, 0, none⟩) q.length q.length] 28)).alloc (.cells #[Value.slice (some ⟨bj, 0, none⟩) q.length q.length] 28)).alloc (.cells #[Value.slice (some ⟨bm, 0, none⟩) q.length q.length] 28)).cell? ⟨w3.heap.size, 0, none⟩ = some (Value.slice x0 a y0) := HT3.out.obj.cell 0; have e1 : (((wr2.alloc (.cells #[Value.slice (some ⟨bf, 0, none⟩) q.length q.length] 28)).alloc (.cells #[Value.slice (some ⟨bj, 0, none⟩) q.length q.length] 28)).alloc (.cells #[Value.slice (some ⟨bm, 0, none⟩) q.length q.length] 28)).cell? ⟨w3.heap.size, 1, none⟩ = some (Value.slice x1 a y1) := HT3.out.obj.cell 1; have e2 : (((wr2.alloc (.cells #[Value.slice (some ⟨bf, 0, none⟩) q.length q.length] 28)).alloc (.cells #[Value.slice (some ⟨bj, 0, none⟩) q.length q.length] 28)).alloc (.cells #[Value.slice (some ⟨bm, 0, none⟩) q.length q.length] 28)).cell? ⟨w3.heap.size, 2, none⟩ = some (Value.slice x2 a y2) := HT3.out.obj.cell 2; have hl' : l = 6 ∨ l = 13 ∨ l = 20 := (by simp [racing, raceOf] at hl; omega); rcases hl' with rfl | rfl | rfl <;> (intro _; go_simp)), ?_⟩
                      refine T3.walk HT3.out.drew 0 (by decide) rfl (by omega) rfl _ _ rfl _ 1 rfl HV0.out.symm rfl ?_
                      intro ad0 cc0 wa0 hT
                      have HT4 := Lib.hid hT
                      clear hT
                      go_wp2_with fail
                      refine ⟨rfl, (fun l hl => by have e0 : wa0.cell? ⟨w3.heap.size, 0, none⟩ = some (Value.slice x0 a y0) := HT4.out.obj.cell 0; have e1 : wa0.cell? ⟨w3.heap.size, 1, none⟩ = some (Value.slice x1 a y1) := HT4.out.obj.cell 1; have e2 : wa0.cell? ⟨w3.heap.size, 2, none⟩ = some (Value.slice x2 a y2) := HT4.out.obj.cell 2; have hl' : l = 6 ∨ l = 13 ∨ l = 20 := (by simp [racing, raceOf] at hl; omega); rcases hl' with rfl | rfl | rfl <;> (intro _; go_simp)), ?_⟩
                      refine T3.walk HT4.out 1 (by decide) rfl (by omega) rfl _ _ rfl _ 1 rfl HV1.out.symm rfl ?_
                      intro ad1 cc1 wa1 hT
                      have HT5 := Lib.hid hT
                      clear hT
                      go_wp2_with fail
                      refine ⟨rfl, (fun l hl => by have e0 : wa1.cell? ⟨w3.heap.size, 0, none⟩ = some (Value.slice x0 a y0) := HT5.out.obj.cell 0; have e1 : wa1.cell? ⟨w3.heap.size, 1, none⟩ = some (Value.slice x1 a y1) := HT5.out.obj.cell 1; have e2 : wa1.cell? ⟨w3.heap.size, 2, none⟩ = some (Value.slice x2 a y2) := HT5.out.obj.cell 2; have hl' : l = 6 ∨ l = 13 ∨ l = 20 := (by simp [racing, raceOf] at hl; omega); rcases hl' with rfl | rfl | rfl <;> (intro _; go_simp)), ?_⟩
                      refine T3.walk HT5.out 2 (by decide) rfl (by omega) rfl _ _ rfl _ 1 rfl HV2.out.symm rfl ?_
                      intro ad2 cc2 wa2 hT
                      have HT6 := Lib.hid hT
                      clear hT
                      have e0 : wa2.cell? ⟨w3.heap.size, 0, none⟩ = some (Value.slice x0 a y0) := HT6.out.obj.cell 0
                      have e1 : wa2.cell? ⟨w3.heap.size, 1, none⟩ = some (Value.slice x1 a y1) := HT6.out.obj.cell 1
                      have e2 : wa2.cell? ⟨w3.heap.size, 2, none⟩ = some (Value.slice x2 a y2) := HT6.out.obj.cell 2
                      have f0 := HT6.out.obj.free 0
                      have f1 := HT6.out.obj.free 1
                      have f2 := HT6.out.obj.free 2
                      go_wp2_with fail
                      refine ⟨rfl, (fun l hl => by simp [racing, raceOf] at hl), ?_⟩
                      go_wp2_with fail
                      go_roundw
                      case rel => exact ⟨a + 1, by omega, by go_num, Lib.hid ⟨_, (HT6.out.finish HO.out.hp (fun i hi => by match i, hi with | 0, _ => rfl | 1, _ => rfl | 2, _ => rfl)).out⟩, Hok3⟩
                      case measure => simp [intOf]; omega
                  · go_wp2_with fail
                    have hT := HT1.out.build 2 (by decide) (wr2.heap.size + 1) (by simp)
                    change T3 w ((wr2.alloc (.cells #[Value.slice (some ⟨bf, 0, none⟩) q.length q.length] 28)).alloc (.cells #[Value.slice (some ⟨bm, 0, none⟩) q.length q.length] 28)) _ _ _ _ _ _ _ _ _ at hT
                    have HT2 := Lib.hid hT; clear hT
                    refine ⟨rfl, (fun l hl => by have e0 : ((wr2.alloc (.cells #[Value.slice (some ⟨bf, 0, none⟩) q.length q.length] 28)).alloc (.cells #[Value.slice (some ⟨bm, 0, none⟩) q.length q.length] 28)).cell? ⟨w3.heap.size, 0, none⟩ = some (Value.slice x0 a y0) := HT2.out.obj.cell 0; have e1 : ((wr2.alloc (.cells #[Value.slice (some ⟨bf, 0, none⟩) q.length q.length] 28)).alloc (.cells #[Value.slice (some ⟨bm, 0, none⟩) q.length q.length] 28)).cell? ⟨w3.heap.size, 1, none⟩ = some (Value.slice x1 a y1) := HT2.out.obj.cell 1; have e2 : ((wr2.alloc (.cells #[Value.slice (some ⟨bf, 0, none⟩) q.length q.length] 28)).alloc (.cells #[Value.slice (some ⟨bm, 0, none⟩) q.length q.length] 28)).cell? ⟨w3.heap.size, 2, none⟩ = some (Value.slice x2 a y2) := HT2.out.obj.cell 2; have hl' : l = 6 ∨ l = 13 ∨ l = 20 := (by simp [racing, raceOf] at hl; omega); rcases hl' with rfl | rfl | rfl <;> (intro _; go_simp)), ?_⟩
                    refine ⟨?_, ?_⟩
                    · refine T3.walk HT2.out.drew 0 (by decide) rfl (by omega) rfl _ _ rfl _ 1 rfl HV0.out.symm rfl ?_
                      intro ad0 cc0 wa0 hT
                      have HT3 := Lib.hid hT
                      clear hT
                      go_wp2_with fail
                      refine ⟨rfl, (fun l hl => by have e0 : wa0.cell? ⟨w3.heap.size, 0, none⟩ = some (Value.slice x0 a y0) := HT3.out.obj.cell 0; have e1 : wa0.cell? ⟨w3.heap.size, 1, none⟩ = some (Value.slice x1 a y1) := HT3.out.obj.cell 1; have e2 : wa0.cell? ⟨w3.heap.size, 2, none⟩ = some (Value.slice x2 a y2) := HT3.out.obj.cell 2; have hl' : l = 6 ∨ l = 13 ∨ l = 20 := (by simp [racing, raceOf] at hl; omega); rcases hl' with rfl | rfl | rfl <;> (intro _; go_simp)), ?_⟩
                      go_wp2_with fail
                      have hT := HT3.out.build 1 (by decide) (wa0.heap.size) (by simp)
                      change T3 w (wa0.alloc (.cells #[Value.slice (some ⟨bj, 0, none⟩) q.length q.length] 28)) _ _ _ _ _ _ _ _ _ at hT
                      have HT4 := Lib.hid hT; clear hT
                      refine ⟨rfl, (fun l hl => by have e0 : (wa0.alloc (.cells #[Value.slice (some ⟨bj, 0, none⟩) q.length q.length] 28)).cell? ⟨w3.heap.size, 0, none⟩ = some (Value.slice x0 a y0) := HT4.out.obj.cell 0; have e1 : (wa0.alloc (.cells #[Value.slice (some ⟨bj, 0, none⟩) q.length q.length] 28)).cell? ⟨w3.heap.size, 1, none⟩ = some (Value.slice x1 a y1) := HT4.out.obj.cell 1; have e2 : (wa0.alloc (.cells #[Value.slice (some ⟨bj, 0, none⟩) q.length q.length] 28)).cell? ⟨w3.heap.size, 2, none⟩ = some (Value.slice x2 a y2) := HT4.out.obj.cell 2; have hl' : l = 6 ∨ l = 13 ∨ l = 20 := (by simp [racing, raceOf] at hl; omega); rcases hl' with rfl | rfl | rfl <;> (intro _; go_simp)), ?_⟩
                      refine T3.walk HT4.out 1 (by decide) rfl (by omega) rfl _ _ rfl _ 1 rfl HV1.out.symm rfl ?_
                      intro ad1 cc1 wa1 hT
                      have HT5 := Lib.hid hT
                      clear hT
                      go_wp2_with fail
                      refine ⟨rfl, (fun l hl => by have e0 : wa1.cell? ⟨w3.heap.size, 0, none⟩ = some (Value.slice x0 a y0) := HT5.out.obj.cell 0; have e1 : wa1.cell? ⟨w3.heap.size, 1, none⟩ = some (Value.slice x1 a y1) := HT5.out.obj.cell 1; have e2 : wa1.cell? ⟨w3.heap.size, 2, none⟩ = some (Value.slice x2 a y2) := HT5.out.obj.cell 2; have hl' : l = 6 ∨ l = 13 ∨ l = 20 := (by simp [racing, raceOf] at hl; omega); rcases hl' with rfl | rfl | rfl <;> (intro _; go_simp)), ?_⟩
                      refine T3.walk HT5.out 2 (by decide) rfl (by omega) rfl _ _ rfl _ 1 rfl HV2.out.symm rfl ?_
                      intro ad2 cc2 wa2 hT
                      have HT6 := Lib.hid hT
                      clear hT
                      have e0 : wa2.cell? ⟨w3.heap.size, 0, none⟩ = some (Value.slice x0 a y0) := HT6.out.obj.cell 0
                      have e1 : wa2.cell? ⟨w3.heap.size, 1, none⟩ = some (Value.slice x1 a y1) := HT6.out.obj.cell 1
                      have e2 : wa2.cell? ⟨w3.heap.size, 2, none⟩ = some (Value.slice x2 a y2) := HT6.out.obj.cell 2
                      have f0 := HT6.out.obj.free 0
                      have f1 := HT6.out.obj.free 1
                      have f2 := HT6.out.obj.free 2
                      go_wp2_with fail
                      refine ⟨rfl, (fun l hl => by simp [racing, raceOf] at hl), ?_⟩
                      go_wp2_with fail
                      go_roundw
                      case rel => exact ⟨a + 1, by omega, by go_num, Lib.hid ⟨_, (HT6.out.finish HO.out.hp (fun i hi => by match i, hi with | 0, _ => rfl | 1, _ => rfl | 2, _ => rfl)).out⟩, Hok3⟩
                      case measure => simp [intOf]; omega
                    · go_wp2_with fail
                      have hT := HT2.out.build 1 (by decide) (wr2.heap.size + 1 + 1) (by simp)
                      change T3 w (((wr2.alloc (.cells #[Value.slice (some ⟨bf, 0, none⟩) q.length q.length] 28)).alloc (.cells #[Value.slice (some ⟨bm, 0, none⟩) q.length q.length] 28)).alloc (.cells #[Value.slice (some ⟨bj, 0, none⟩) q.length q.length] 28)) _ _ _ _ _ _ _ _ _ at hT
                      have HT3 := Lib.hid hT; clear hT
                      refine ⟨rfl, (fun l hl => by have e0 : (((wr2.alloc (.cells #[Value.slice (some ⟨bf, 0, none⟩) q.length q.length] 28)).alloc (.cells #[Value.slice (some ⟨bm, 0, none⟩) q.length q.length] 28)).alloc (.cells #[Value.slice (some ⟨bj, 0, none⟩) q.length q.length] 28)).cell? ⟨w3.heap.size, 0, none⟩ = some (Value.slice x0 a y0) := HT3.out.obj.cell 0; have e1 : (((wr2.alloc (.cells #[Value.slice (some ⟨bf, 0, none⟩) q.length q.length] 28)).alloc (.cells #[Value.slice (some ⟨bm, 0, none⟩) q.length q.length] 28)).alloc (.cells #[Value.slice (some ⟨bj, 0, none⟩) q.length q.length] 28)).cell? ⟨w3.heap.size, 1, none⟩ = some (Value.slice x1 a y1) := HT3.out.obj.cell 1; have e2 : (((wr2.alloc (.cells #[Value.slice (some ⟨bf, 0, none⟩) q.length q.length] 28)).alloc (.cells #[Value.slice (some ⟨bm, 0, none⟩) q.length q.length] 28)).alloc (.cells #[Value.slice (some ⟨bj, 0, none⟩) q.length q.length] 28)).cell? ⟨w3.heap.size, 2, none⟩ = some (Value.slice x2 a y2) := HT3.out.obj.cell 2; have hl' : l = 6 ∨ l = 13 ∨ l = 20 := (by simp [racing, raceOf] at hl; omega); rcases hl' with rfl | rfl | rfl <;> (intro _; go_simp)), ?_⟩
                      refine T3.walk HT3.out.drew 0 (by decide) rfl (by omega) rfl _ _ rfl _ 1 rfl HV0.out.symm rfl ?_
                      intro ad0 cc0 wa0 hT
                      have HT4 := Lib.hid hT
                      clear hT
                      go_wp2_with fail
                      refine ⟨rfl, (fun l hl => by have e0 : wa0.cell? ⟨w3.heap.size, 0, none⟩ = some (Value.slice x0 a y0) := HT4.out.obj.cell 0; have e1 : wa0.cell? ⟨w3.heap.size, 1, none⟩ = some (Value.slice x1 a y1) := HT4.out.obj.cell 1; have e2 : wa0.cell? ⟨w3.heap.size, 2, none⟩ = some (Value.slice x2 a y2) := HT4.out.obj.cell 2; have hl' : l = 6 ∨ l = 13 ∨ l = 20 := (by simp [racing, raceOf] at hl; omega); rcases hl' with rfl | rfl | rfl <;> (intro _; go_simp)), ?_⟩
                      refine T3.walk HT4.out 1 (by decide) rfl (by omega) rfl _ _ rfl _ 1 rfl HV1.out.symm rfl ?_
                      intro ad1 cc1 wa1 hT
                      have HT5 := Lib.hid hT
                      clear hT
                      go_wp2_with fail
                      refine ⟨rfl, (fun l hl => by have e0 : wa1.cell? ⟨w3.heap.size, 0, none⟩ = some (Value.slice x0 a y0) := HT5.out.obj.cell 0; have e1 : wa1.cell? ⟨w3.heap.size, 1, none⟩ = some (Value.slice x1 a y1) := HT5.out.obj.cell 1; have e2 : wa1.cell? ⟨w3.heap.size, 2, none⟩ = some (Value.slice x2 a y2) := HT5.out.obj.cell 2; have hl' : l = 6 ∨ l = 13 ∨ l = 20 := (by simp [racing, raceOf] at hl; omega); rcases hl' with rfl | rfl | rfl <;> (intro _; go_simp)), ?_⟩
                      refine T3.walk HT5.out 2 (by decide) rfl (by omega) rfl _ _ rfl _ 1 rfl HV2.out.symm rfl ?_
                      intro ad2 cc2 wa2 hT
                      have HT6 := Lib.hid hT
                      clear hT
                      have e0 : wa2.cell? ⟨w3.heap.size, 0, none⟩ = some (Value.slice x0 a y0) := HT6.out.obj.cell 0
                      have e1 : wa2.cell? ⟨w3.heap.size, 1, none⟩ = some (Value.slice x1 a y1) := HT6.out.obj.cell 1
                      have e2 : wa2.cell? ⟨w3.heap.size, 2, none⟩ = some (Value.slice x2 a y2) := HT6.out.obj.cell 2
                      have f0 := HT6.out.obj.free 0
                      have f1 := HT6.out.obj.free 1
                      have f2 := HT6.out.obj.free 2
                      go_wp2_with fail
                      refine ⟨rfl, (fun l hl => by simp [racing, raceOf] at hl), ?_⟩
                      go_wp2_with fail
                      go_roundw
                      case rel => exact ⟨a + 1, by omega, by go_num, Lib.hid ⟨_, (HT6.out.finish HO.out.hp (fun i hi => by match i, hi with | 0, _ => rfl | 1, _ => rfl | 2, _ => rfl)).out⟩, Hok3⟩
                      case measure => simp [intOf]; omega
              · refine ⟨?_, ?_⟩
                · go_wp2_with fail
                  have hT := HT0.out.build 1 (by decide) (wr2.heap.size) (by simp)
                  change T3 w (wr2.alloc (.cells #[Value.slice (some ⟨bj, 0, none⟩) q.length q.length] 28)) _ _ _ _ _ _ _ _ _ at hT
                  have HT1 := Lib.hid hT; clear hT
                  refine ⟨rfl, (fun l hl => by have e0 : (wr2.alloc (.cells #[Value.slice (some ⟨bj, 0, none⟩) q.length q.length] 28)).cell? ⟨w3.heap.size, 0, none⟩ = some (Value.slice x0 a y0) := HT1.out.obj.cell 0; have e1 : (wr2.alloc (.cells #[Value.slice (some ⟨bj, 0, none⟩) q.length q.length] 28)).cell? ⟨w3.heap.size, 1, none⟩ = some (Value.slice x1 a y1) := HT1.out.obj.cell 1; have e2 : (wr2.alloc (.cells #[Value.slice (some ⟨bj, 0, none⟩) q.length q.length] 28)).cell? ⟨w3.heap.size, 2, none⟩ = some (Value.slice x2 a y2) := HT1.out.obj.cell 2; have hl' : l = 6 ∨ l = 13 ∨ l = 20 := (by simp [racing, raceOf] at hl; omega); rcases hl' with rfl | rfl | rfl <;> (intro _; go_simp)), ?_⟩
                  refine ⟨?_, ?_⟩
                  · go_wp2_with fail
                    have hT := HT1.out.build 0 (by decide) (wr2.heap.size + 1) (by simp)
                    change T3 w ((wr2.alloc (.cells #[Value.slice (some ⟨bj, 0, none⟩) q.length q.length] 28)).alloc (.cells #[Value.slice (some ⟨bf, 0, none⟩) q.length q.length] 28)) _ _ _ _ _ _ _ _ _ at hT
                    have HT2 := Lib.hid hT; clear hT
                    refine ⟨rfl, (fun l hl => by have e0 : ((wr2.alloc (.cells #[Value.slice (some ⟨bj, 0, none⟩) q.length q.length] 28)).alloc (.cells #[Value.slice (some ⟨bf, 0, none⟩) q.length q.length] 28)).cell? ⟨w3.heap.size, 0, none⟩ = some (Value.slice x0 a y0) := HT2.out.obj.cell 0; have e1 : ((wr2.alloc (.cells #[Value.slice (some ⟨bj, 0, none⟩) q.length q.length] 28)).alloc (.cells #[Value.slice (some ⟨bf, 0, none⟩) q.length q.length] 28)).cell? ⟨w3.heap.size, 1, none⟩ = some (Value.slice x1 a y1) := HT2.out.obj.cell 1; have e2 : ((wr2.alloc (.cells #[Value.slice (some ⟨bj, 0, none⟩) q.length q.length] 28)).alloc (.cells #[Value.slice (some ⟨bf, 0, none⟩) q.length q.length] 28)).cell? ⟨w3.heap.size, 2, none⟩ = some (Value.slice x2 a y2) := HT2.out.obj.cell 2; have hl' : l = 6 ∨ l = 13 ∨ l = 20 := (by simp [racing, raceOf] at hl; omega); rcases hl' with rfl | rfl | rfl <;> (intro _; go_simp)), ?_⟩
                    refine ⟨?_, ?_⟩
                    · refine T3.walk HT2.out.drew 0 (by decide) rfl (by omega) rfl _ _ rfl _ 1 rfl HV0.out.symm rfl ?_
                      intro ad0 cc0 wa0 hT
                      have HT3 := Lib.hid hT
                      clear hT
                      go_wp2_with fail
                      refine ⟨rfl, (fun l hl => by have e0 : wa0.cell? ⟨w3.heap.size, 0, none⟩ = some (Value.slice x0 a y0) := HT3.out.obj.cell 0; have e1 : wa0.cell? ⟨w3.heap.size, 1, none⟩ = some (Value.slice x1 a y1) := HT3.out.obj.cell 1; have e2 : wa0.cell? ⟨w3.heap.size, 2, none⟩ = some (Value.slice x2 a y2) := HT3.out.obj.cell 2; have hl' : l = 6 ∨ l = 13 ∨ l = 20 := (by simp [racing, raceOf] at hl; omega); rcases hl' with rfl | rfl | rfl <;> (intro _; go_simp)), ?_⟩
                      refine ⟨?_, ?_⟩
                      · refine T3.walk HT3.out 1 (by decide) rfl (by omega) rfl _ _ rfl _ 1 rfl HV1.out.symm rfl ?_
                        intro ad1 cc1 wa1 hT
                        have HT4 := Lib.hid hT
                        clear hT
                        go_wp2_with fail
                        refine ⟨rfl, (fun l hl => by have e0 : wa1.cell? ⟨w3.heap.size, 0, none⟩ = some (Value.slice x0 a y0) := HT4.out.obj.cell 0; have e1 : wa1.cell? ⟨w3.heap.size, 1, none⟩ = some (Value.slice x1 a y1) := HT4.out.obj.cell 1; have e2 : wa1.cell? ⟨w3.heap.size, 2, none⟩ = some (Value.slice x2 a y2) := HT4.out.obj.cell 2; have hl' : l = 6 ∨ l = 13 ∨ l = 20 := (by simp [racing, raceOf] at hl; omega); rcases hl' with rfl | rfl | rfl <;> (intro _; go_simp)), ?_⟩
                        go_wp2_with fail
                        have hT := HT4.out.build 2 (by decide) (wa1.heap.size) (by simp)
                        change T3 w (wa1.alloc (.cells #[Value.slice (some ⟨bm, 0, none⟩) q.length q.length] 28)) _ _ _ _ _ _ _ _ _ at hT
                        have HT5 := Lib.hid hT; clear hT
                        refine ⟨rfl, (fun l hl => by have e0 : (wa1.alloc (.cells #[Value.slice (some ⟨bm, 0, none⟩) q.length q.length] 28)).cell? ⟨w3.heap.size, 0, none⟩ = some (Value.slice x0 a y0) := HT5.out.obj.cell 0; have e1 : (wa1.alloc (.cells #[Value.slice (some ⟨bm, 0, none⟩) q.length q.length] 28)).cell? ⟨w3.heap.size, 1, none⟩ = some (Value.slice x1 a y1) := HT5.out.obj.cell 1; have e2 : (wa1.alloc (.cells #[Value.slice (some ⟨bm, 0, none⟩) q.length q.length] 28)).cell? ⟨w3.heap.size, 2, none⟩ = some (Value.slice x2 a y2) := HT5.out.obj.cell 2; have hl' : l = 6 ∨ l = 13 ∨ l = 20 := (by simp [racing, raceOf] at hl; omega); rcases hl' with rfl | rfl | rfl <;> (intro _; go_simp)), ?_⟩
                        refine T3.walk HT5.out 2 (by decide) rfl (by omega) rfl _ _ rfl _ 1 rfl HV2.out.symm rfl ?_
                        intro ad2 cc2 wa2 hT
                        have HT6 := Lib.hid hT
                        clear hT
                        have e0 : wa2.cell? ⟨w3.heap.size, 0, none⟩ = some (Value.slice x0 a y0) := HT6.out.obj.cell 0
                        have e1 : wa2.cell? ⟨w3.heap.size, 1, none⟩ = some (Value.slice x1 a y1) := HT6.out.obj.cell 1
                        have e2 : wa2.cell? ⟨w3.heap.size, 2, none⟩ = some (Value.slice x2 a y2) := HT6.out.obj.cell 2
                        have f0 := HT6.out.obj.free 0
                        have f1 := HT6.out.obj.free 1
                        have f2 := HT6.out.obj.free 2
                        go_wp2_with fail
                        refine ⟨rfl, (fun l hl => by simp [racing, raceOf] at hl), ?_⟩
                        go_wp2_with fail
                        go_roundw
                        case rel => exact ⟨a + 1, by omega, by go_num, Lib.hid ⟨_, (HT6.out.finish HO.out.hp (fun i hi => by match i, hi with | 0, _ => rfl | 1, _ => rfl | 2, _ => rfl)).out⟩, Hok3⟩
                        case measure => simp [intOf]; omega
                      · go_wp2_with fail
                        have hT := HT3.out.build 2 (by decide) (wa0.heap.size) (by simp)
                        change T3 w (wa0.alloc (.cells #[Value.slice (some ⟨bm, 0, none⟩) q.length q.length] 28)) _ _ _ _ _ _ _ _ _ at hT
                        have HT4 := Lib.hid hT; clear hT
                        refine ⟨rfl, (fun l hl => by have e0 : (wa0.alloc (.cells #[Value.slice (some ⟨bm, 0, none⟩) q.length q.length] 28)).cell? ⟨w3.heap.size, 0, none⟩ = some (Value.slice x0 a y0) := HT4.out.obj.cell 0; have e1 : (wa0.alloc (.cells #[Value.slice (some ⟨bm, 0, none⟩) q.length q.length] 28)).cell? ⟨w3.heap.size, 1, none⟩ = some (Value.slice x1 a y1) := HT4.out.obj.cell 1; have e2 : (wa0.alloc (.cells #[Value.slice (some ⟨bm, 0, none⟩) q.length q.length] 28)).cell? ⟨w3.heap.size, 2, none⟩ = some (Value.slice x2 a y2) := HT4.out.obj.cell 2; have hl' : l = 6 ∨ l = 13 ∨ l = 20 := (by simp [racing, raceOf] at hl; omega); rcases hl' with rfl | rfl | rfl <;> (intro _; go_simp)), ?_⟩
                        refine T3.walk HT4.out 1 (by decide) rfl (by omega) rfl _ _ rfl _ 1 rfl HV1.out.symm rfl ?_
                        intro ad1 cc1 wa1 hT
                        have HT5 := Lib.hid hT
                        clear hT
                        go_wp2_with fail
                        refine ⟨rfl, (fun l hl => by have e0 : wa1.cell? ⟨w3.heap.size, 0, none⟩ = some (Value.slice x0 a y0) := HT5.out.obj.cell 0; have e1 : wa1.cell? ⟨w3.heap.size, 1, none⟩ = some (Value.slice x1 a y1) := HT5.out.obj.cell 1; have e2 : wa1.cell? ⟨w3.heap.size, 2, none⟩ = some (Value.slice x2 a y2) := HT5.out.obj.cell 2; have hl' : l = 6 ∨ l = 13 ∨ l = 20 := (by simp [racing, raceOf] at hl; omega); rcases hl' with rfl | rfl | rfl <;> (intro _; go_simp)), ?_⟩
                        refine T3.walk HT5.out 2 (by decide) rfl (by omega) rfl _ _ rfl _ 1 rfl HV2.out.symm rfl ?_
                        intro ad2 cc2 wa2 hT
                        have HT6 := Lib.hid hT
                        clear hT
                        have e0 : wa2.cell? ⟨w3.heap.size, 0, none⟩ = some (Value.slice x0 a y0) := HT6.out.obj.cell 0
                        have e1 : wa2.cell? ⟨w3.heap.size, 1, none⟩ = some (Value.slice x1 a y1) := HT6.out.obj.cell 1
                        have e2 : wa2.cell? ⟨w3.heap.size, 2, none⟩ = some (Value.slice x2 a y2) := HT6.out.obj.cell 2
                        have f0 := HT6.out.obj.free 0
                        have f1 := HT6.out.obj.free 1
                        have f2 := HT6.out.obj.free 2
                        go_wp2_with fail
                        refine ⟨rfl, (fun l hl => by simp [racing, raceOf] at hl), ?_⟩
                        go_wp2_with fail
                        go_roundw
                        case rel => exact ⟨a + 1, by omega, by go_num, Lib.hid ⟨_, (HT6.out.finish HO.out.hp (fun i hi => by match i, hi with | 0, _ => rfl | 1, _ => rfl | 2, _ => rfl)).out⟩, Hok3⟩
                        case measure => simp [intOf]; omega
                    · go_wp2_with fail
                      have hT := HT2.out.build 2 (by decide) (wr2.heap.size + 1 + 1) (by simp)
                      change T3 w (((wr2.alloc (.cells #[Value.slice (some ⟨bj, 0, none⟩) q.length q.length] 28)).alloc (.cells #[Value.slice (some ⟨bf, 0, none⟩) q.length q.length] 28)).alloc (.cells #[Value.slice (some ⟨bm, 0, none⟩) q.length q.length] 28)) _ _ _ _ _ _ _ _ _ at hT
                      have HT3 := Lib.hid hT; clear hT
                      refine ⟨rfl, (fun l hl => by have e0 : (((wr2.alloc (.cells #[Value.slice (some ⟨bj, 0, none⟩) q.length q.length] 28)).alloc (.cells #[Value.slice (some ⟨bf, 0, none⟩) q.length q.length] 28)).alloc (.cells #[Value.slice (some ⟨bm, 0, none⟩) q.length q.length] 28)).cell? ⟨w3.heap.size, 0, none⟩ = some (Value.slice x0 a y0) := HT3.out.obj.cell 0; have e1 : (((wr2.alloc (.cells #[Value.slice (some ⟨bj, 0, none⟩) q.length q.length] 28)).alloc (.cells #[Value.slice (some ⟨bf, 0, none⟩) q.length q.length] 28)).alloc (.cells #[Value.slice (some ⟨bm, 0, none⟩) q.length q.length] 28)).cell? ⟨w3.heap.size, 1, none⟩ = some (Value.slice x1 a y1) := HT3.out.obj.cell 1; have e2 : (((wr2.alloc (.cells #[Value.slice (some ⟨bj, 0, none⟩) q.length q.length] 28)).alloc (.cells #[Value.slice (some ⟨bf, 0, none⟩) q.length q.length] 28)).alloc (.cells #[Value.slice (some ⟨bm, 0, none⟩) q.length q.length] 28)).cell? ⟨w3.heap.size, 2, none⟩ = some (Value.slice x2 a y2) := HT3.out.obj.cell 2; have hl' : l = 6 ∨ l = 13 ∨ l = 20 := (by simp [racing, raceOf] at hl; omega); rcases hl' with rfl | rfl | rfl <;> (intro _; go_simp)), ?_⟩
                      refine T3.walk HT3.out.drew 0 (by decide) rfl (by omega) rfl _ _ rfl _ 1 rfl HV0.out.symm rfl ?_
                      intro ad0 cc0 wa0 hT
                      have HT4 := Lib.hid hT
                      clear hT
                      go_wp2_with fail
                      refine ⟨rfl, (fun l hl => by have e0 : wa0.cell? ⟨w3.heap.size, 0, none⟩ = some (Value.slice x0 a y0) := HT4.out.obj.cell 0; have e1 : wa0.cell? ⟨w3.heap.size, 1, none⟩ = some (Value.slice x1 a y1) := HT4.out.obj.cell 1; have e2 : wa0.cell? ⟨w3.heap.size, 2, none⟩ = some (Value.slice x2 a y2) := HT4.out.obj.cell 2; have hl' : l = 6 ∨ l = 13 ∨ l = 20 := (by simp [racing, raceOf] at hl; omega); rcases hl' with rfl | rfl | rfl <;> (intro _; go_simp)), ?_⟩
                      refine T3.walk HT4.out 1 (by decide) rfl (by omega) rfl _ _ rfl _ 1 rfl HV1.out.symm rfl ?_
                      intro ad1 cc1 wa1 hT
                      have HT5 := Lib.hid hT
                      clear hT
                      go_wp2_with fail
                      refine ⟨rfl, (fun l hl => by have e0 : wa1.cell? ⟨w3.heap.size, 0, none⟩ = some (Value.slice x0 a y0) := HT5.out.obj.cell 0; have e1 : wa1.cell? ⟨w3.heap.size, 1, none⟩ = some (Value.slice x1 a y1) := HT5.out.obj.cell 1; have e2 : wa1.cell? ⟨w3.heap.size, 2, none⟩ = some (Value.slice x2 a y2) := HT5.out.obj.cell 2; have hl' : l = 6 ∨ l = 13 ∨ l = 20 := (by simp [racing, raceOf] at hl; omega); rcases hl' with rfl | rfl | rfl <;> (intro _; go_simp)), ?_⟩
                      refine T3.walk HT5.out 2 (by decide) rfl (by omega) rfl _ _ rfl _ 1 rfl HV2.out.symm rfl ?_
                      intro ad2 cc2 wa2 hT
                      have HT6 := Lib.hid hT
                      clear hT
                      have e0 : wa2.cell? ⟨w3.heap.size, 0, none⟩ = some (Value.slice x0 a y0) := HT6.out.obj.cell 0
                      have e1 : wa2.cell? ⟨w3.heap.size, 1, none⟩ = some (Value.slice x1 a y1) := HT6.out.obj.cell 1
                      have e2 : wa2.cell? ⟨w3.heap.size, 2, none⟩ = some (Value.slice x2 a y2) := HT6.out.obj.cell 2
                      have f0 := HT6.out.obj.free 0
                      have f1 := HT6.out.obj.free 1
                      have f2 := HT6.out.obj.free 2
                      go_wp2_with fail
                      refine ⟨rfl, (fun l hl => by simp [racing, raceOf] at hl), ?_⟩
                      go_wp2_with fail
                      go_roundw
                      case rel => exact ⟨a + 1, by omega, by go_num, Lib.hid ⟨_, (HT6.out.finish HO.out.hp (fun i hi => by match i, hi with | 0, _ => rfl | 1, _ => rfl | 2, _ => rfl)).out⟩, Hok3⟩
                      case measure => simp [intOf]; omega
                  · go_wp2_with fail
                    have hT := HT1.out.build 2 (by decide) (wr2.heap.size + 1) (by simp)
                    change T3 w ((wr2.alloc (.cells #[Value.slice (some ⟨bj, 0, none⟩) q.length q.length] 28)).alloc (.cells #[Value.slice (some ⟨bm, 0, none⟩) q.length q.length] 28)) _ _ _ _ _ _ _ _ _ at hT
                    have HT2 := Lib.hid hT; clear hT
                    refine ⟨rfl, (fun l hl => by have e0 : ((wr2.alloc (.cells #[Value.slice (some ⟨bj, 0, none⟩) q.length q.length] 28)).alloc (.cells #[Value.slice (some ⟨bm, 0, none⟩) q.length q.length] 28)).cell? ⟨w3.heap.size, 0, none⟩ = some (Value.slice x0 a y0) := HT2.out.obj.cell 0; have e1 : ((wr2.alloc (.cells #[Value.slice (some ⟨bj, 0, none⟩) q.length q.length] 28)).alloc (.cells #[Value.slice (some ⟨bm, 0, none⟩) q.length q.length] 28)).cell? ⟨w3.heap.size, 1, none⟩ = some (Value.slice x1 a y1) := HT2.out.obj.cell 1; have e2 : ((wr2.alloc (.cells #[Value.slice (some ⟨bj, 0, none⟩) q.length q.length] 28)).alloc (.cells #[Value.slice (some ⟨bm, 0, none⟩) q.length q.length] 28)).cell? ⟨w3.heap.size, 2, none⟩ = some (Value.slice x2 a y2) := HT2.out.obj.cell 2; have hl' : l = 6 ∨ l = 13 ∨ l = 20 := (by simp [racing, raceOf] at hl; omega); rcases hl' with rfl | rfl | rfl <;> (intro _; go_simp)), ?_⟩
                    go_wp2_with fail
                    have hT := HT2.out.build 0 (by decide) (wr2.heap.size + 1 + 1) (by simp)
                    change T3 w (((wr2.alloc (.cells #[Value.slice (some ⟨bj, 0, none⟩) q.length q.length] 28)).alloc (.cells #[Value.slice (some ⟨bm, 0, none⟩) q.length q.length] 28)).alloc (.cells #[Value.slice (some ⟨bf, 0, none⟩) q.length q.length] 28)) _ _ _ _ _ _ _ _ _ at hT
                    have HT3 := Lib.hid hT; clear hT
                    refine ⟨rfl, (fun l hl => by have e0 : (((wr2.alloc (.cells #[Value.slice (some ⟨bj, 0, none⟩) q.length q.length] 28)).alloc (.cells #[Value.slice (some ⟨bm, 0, none⟩) q.length q.length] 28)).alloc (.cells #[Value.slice (some ⟨bf, 0, none⟩) q.length q.length] 28)).cell? ⟨w3.heap.size, 0, none⟩ = some (Value.slice x0 a y0) := HT3.out.obj.cell 0; have e1 : (((wr2.alloc (.cells #[Value.slice (some ⟨bj, 0, none⟩) q.length q.length] 28)).alloc (.cells #[Value.slice (some ⟨bm, 0, none⟩) q.length q.length] 28)).alloc (.cells #[Value.slice (some ⟨bf, 0, none⟩) q.length q.length] 28)).cell? ⟨w3.heap.size, 1, none⟩ = some (Value.slice x1 a y1) := HT3.out.obj.cell 1; have e2 : (((wr2.alloc (.cells #[Value.slice (some ⟨bj, 0, none⟩) q.length q.length] 28)).alloc (.cells #[Value.slice (some ⟨bm, 0, none⟩) q.length q.length] 28)).alloc (.cells #[Value.slice (some ⟨bf, 0, none⟩) q.length q.length] 28)).cell? ⟨w3.heap.size, 2, none⟩ = some (Value.slice x2 a y2) := HT3.out.obj.cell 2; have hl' : l = 6 ∨ l = 13 ∨ l = 20 := (by simp [racing, raceOf] at hl; omega); rcases hl' with rfl | rfl | rfl <;> (intro _; go_simp)), ?_⟩
                    refine T3.walk HT3.out.drew 0 (by decide) rfl (by omega) rfl _ _ rfl _ 1 rfl HV0.out.symm rfl ?_
                    intro ad0 cc0 wa0 hT
                    have HT4 := Lib.hid hT
                    clear hT
                    go_wp2_with fail
                    refine ⟨rfl, (fun l hl => by have e0 : wa0.cell? ⟨w3.heap.size, 0, none⟩ = some (Value.slice x0 a y0) := HT4.out.obj.cell 0; have e1 : wa0.cell? ⟨w3.heap.size, 1, none⟩ = some (Value.slice x1 a y1) := HT4.out.obj.cell 1; have e2 : wa0.cell? ⟨w3.heap.size, 2, none⟩ = some (Value.slice x2 a y2) := HT4.out.obj.cell 2; have hl' : l = 6 ∨ l = 13 ∨ l = 20 := (by simp [racing, raceOf] at hl; omega); rcases hl' with rfl | rfl | rfl <;> (intro _; go_simp)), ?_⟩
                    refine T3.walk HT4.out 1 (by decide) rfl (by omega) rfl _ _ rfl _ 1 rfl HV1.out.symm rfl ?_
                    intro ad1 cc1 wa1 hT
                    have HT5 := Lib.hid hT
                    clear hT
                    go_wp2_with fail
                    refine ⟨rfl, (fun l hl => by have e0 : wa1.cell? ⟨w3.heap.size, 0, none⟩ = some (Value.slice x0 a y0) := HT5.out.obj.cell 0; have e1 : wa1.cell? ⟨w3.heap.size, 1, none⟩ = some (Value.slice x1 a y1) := HT5.out.obj.cell 1; have e2 : wa1.cell? ⟨w3.heap.size, 2, none⟩ = some (Value.slice x2 a y2) := HT5.out.obj.cell 2; have hl' : l = 6 ∨ l = 13 ∨ l = 20 := (by simp [racing, raceOf] at hl; omega); rcases hl' with rfl | rfl | rfl <;> (intro _; go_simp)), ?_⟩
                    refine T3.walk HT5.out 2 (by decide) rfl (by omega) rfl _ _ rfl _ 1 rfl HV2.out.symm rfl ?_
                    intro ad2 cc2 wa2 hT
                    have HT6 := Lib.hid hT
                    clear hT
                    have e0 : wa2.cell? ⟨w3.heap.size, 0, none⟩ = some (Value.slice x0 a y0) := HT6.out.obj.cell 0
                    have e1 : wa2.cell? ⟨w3.heap.size, 1, none⟩ = some (Value.slice x1 a y1) := HT6.out.obj.cell 1
                    have e2 : wa2.cell? ⟨w3.heap.size, 2, none⟩ = some (Value.slice x2 a y2) := HT6.out.obj.cell 2
                    have f0 := HT6.out.obj.free 0
                    have f1 := HT6.out.obj.free 1
                    have f2 := HT6.out.obj.free 2
                    go_wp2_with fail
                    refine ⟨rfl, (fun l hl => by simp [racing, raceOf] at hl), ?_⟩
                    go_wp2_with fail
                    go_roundw
                    case rel => exact ⟨a + 1, by omega, by go_num, Lib.hid ⟨_, (HT6.out.finish HO.out.hp (fun i hi => by match i, hi with | 0, _ => rfl | 1, _ => rfl | 2, _ => rfl)).out⟩, Hok3⟩
                    case measure => simp [intOf]; omega
                · go_wp2_with fail
                  have hT := HT0.out.build 2 (by decide) (wr2.heap.size) (by simp)
                  change T3 w (wr2.alloc (.cells #[Value.slice (some ⟨bm, 0, none⟩) q.length q.length] 28)) _ _ _ _ _ _ _ _ _ at hT
                  have HT1 := Lib.hid hT; clear hT
                  refine ⟨rfl, (fun l hl => by have e0 : (wr2.alloc (.cells #[Value.slice (some ⟨bm, 0, none⟩) q.length q.length] 28)).cell? ⟨w3.heap.size, 0, none⟩ = some (Value.slice x0 a y0) := HT1.out.obj.cell 0; have e1 : (wr2.alloc (.cells #[Value.slice (some ⟨bm, 0, none⟩) q.length q.length] 28)).cell? ⟨w3.heap.size, 1, none⟩ = some (Value.slice x1 a y1) := HT1.out.obj.cell 1; have e2 : (wr2.alloc (.cells #[Value.slice (some ⟨bm, 0, none⟩) q.length q.length] 28)).cell? ⟨w3.heap.size, 2, none⟩ = some (Value.slice x2 a y2) := HT1.out.obj.cell 2; have hl' : l = 6 ∨ l = 13 ∨ l = 20 := (by simp [racing, raceOf] at hl; omega); rcases hl' with rfl | rfl | rfl <;> (intro _; go_simp)), ?_⟩
                  refine ⟨?_, ?_⟩
                  · go_wp2_with fail
                    have hT := HT1.out.build 0 (by decide) (wr2.heap.size + 1) (by simp)
                    change T3 w ((wr2.alloc (.cells #[Value.slice (some ⟨bm, 0, none⟩) q.length q.length] 28)).alloc (.cells #[Value.slice (some ⟨bf, 0, none⟩) q.length q.length] 28)) _ _ _ _ _ _ _ _ _ at hT
                    have HT2 := Lib.hid hT; clear hT
                    refine ⟨rfl, (fun l hl => by have e0 : ((wr2.alloc (.cells #[Value.slice (some ⟨bm, 0, none⟩) q.length q.length] 28)).alloc (.cells #[Value.slice (some ⟨bf, 0, none⟩) q.length q.length] 28)).cell? ⟨w3.heap.size, 0, none⟩ = some (Value.slice x0 a y0) := HT2.out.obj.cell 0; have e1 : ((wr2.alloc (.cells #[Value.slice (some ⟨bm, 0, none⟩) q.length q.length] 28)).alloc (.cells #[Value.slice (some ⟨bf, 0, none⟩) q.length q.length] 28)).cell? ⟨w3.heap.size, 1, none⟩ = some (Value.slice x1 a y1) := HT2.out.obj.cell 1; have e2 : ((wr2.alloc (.cells #[Value.slice (some ⟨bm, 0, none⟩) q.length q.length] 28)).alloc (.cells #[Value.slice (some ⟨bf, 0, none⟩) q.length q.length] 28)).cell? ⟨w3.heap.size, 2, none⟩ = some (Value.slice x2 a y2) := HT2.out.obj.cell 2; have hl' : l = 6 ∨ l = 13 ∨ l = 20 := (by simp [racing, raceOf] at hl; omega); rcases hl' with rfl | rfl | rfl <;> (intro _; go_simp)), ?_⟩
                    refine ⟨?_, ?_⟩
                    · refine T3.walk HT2.out.drew 0 (by decide) rfl (by omega) rfl _ _ rfl _ 1 rfl HV0.out.symm rfl ?_
                      intro ad0 cc0 wa0 hT
                      have HT3 := Lib.hid hT
                      clear hT
                      go_wp2_with fail
                      refine ⟨rfl, (fun l hl => by have e0 : wa0.cell? ⟨w3.heap.size, 0, none⟩ = some (Value.slice x0 a y0) := HT3.out.obj.cell 0; have e1 : wa0.cell? ⟨w3.heap.size, 1, none⟩ = some (Value.slice x1 a y1) := HT3.out.obj.cell 1; have e2 : wa0.cell? ⟨w3.heap.size, 2, none⟩ = some (Value.slice x2 a y2) := HT3.out.obj.cell 2; have hl' : l = 6 ∨ l = 13 ∨ l = 20 := (by simp [racing, raceOf] at hl; omega); rcases hl' with rfl | rfl | rfl <;> (intro _; go_simp)), ?_⟩
                      go_wp2_with fail
                      have hT := HT3.out.build 1 (by decide) (wa0.heap.size) (by simp)
                      change T3 w (wa0.alloc (.cells #[Value.slice (some ⟨bj, 0, none⟩) q.length q.length] 28)) _ _ _ _ _ _ _ _ _ at hT
                      have HT4 := Lib.hid hT; clear hT
                      refine ⟨rfl, (fun l hl => by have e0 : (wa0.alloc (.cells #[Value.slice (some ⟨bj, 0, none⟩) q.length q.length] 28)).cell? ⟨w3.heap.size, 0, none⟩ = some (Value.slice x0 a y0) := HT4.out.obj.cell 0; have e1 : (wa0.alloc (.cells #[Value.slice (some ⟨bj, 0, none⟩) q.length q.length] 28)).cell? ⟨w3.heap.size, 1, none⟩ = some (Value.slice x1 a y1) := HT4.out.obj.cell 1; have e2 : (wa0.alloc (.cells #[Value.slice (some ⟨bj, 0, none⟩) q.length q.length] 28)).cell? ⟨w3.heap.size, 2, none⟩ = some (Value.slice x2 a y2) := HT4.out.obj.cell 2; have hl' : l = 6 ∨ l = 13 ∨ l = 20 := (by simp [racing, raceOf] at hl; omega); rcases hl' with rfl | rfl | rfl <;> (intro _; go_simp)), ?_⟩
                      refine T3.walk HT4.out 1 (by decide) rfl (by omega) rfl _ _ rfl _ 1 rfl HV1.out.symm rfl ?_
                      intro ad1 cc1 wa1 hT
                      have HT5 := Lib.hid hT
                      clear hT
                      go_wp2_with fail
                      refine ⟨rfl, (fun l hl => by have e0 : wa1.cell? ⟨w3.heap.size, 0, none⟩ = some (Value.slice x0 a y0) := HT5.out.obj.cell 0; have e1 : wa1.cell? ⟨w3.heap.size, 1, none⟩ = some (Value.slice x1 a y1) := HT5.out.obj.cell 1; have e2 : wa1.cell? ⟨w3.heap.size, 2, none⟩ = some (Value.slice x2 a y2) := HT5.out.obj.cell 2; have hl' : l = 6 ∨ l = 13 ∨ l = 20 := (by simp [racing, raceOf] at hl; omega); rcases hl' with rfl | rfl | rfl <;> (intro _; go_simp)), ?_⟩
                      refine T3.walk HT5.out 2 (by decide) rfl (by omega) rfl _ _ rfl _ 1 rfl HV2.out.symm rfl ?_
                      intro ad2 cc2 wa2 hT
                      have HT6 := Lib.hid hT
                      clear hT
                      have e0 : wa2.cell? ⟨w3.heap.size, 0, none⟩ = some (Value.slice x0 a y0) := HT6.out.obj.cell 0
                      have e1 : wa2.cell? ⟨w3.heap.size, 1, none⟩ = some (Value.slice x1 a y1) := HT6.out.obj.cell 1
                      have e2 : wa2.cell? ⟨w3.heap.size, 2, none⟩ = some (Value.slice x2 a y2) := HT6.out.obj.cell 2
                      have f0 := HT6.out.obj.free 0
                      have f1 := HT6.out.obj.free 1
                      have f2 := HT6.out.obj.free 2
                      go_wp2_with fail
                      refine ⟨rfl, (fun l hl => by simp [racing, raceOf] at hl), ?_⟩
                      go_wp2_with fail
                      go_roundw
                      case rel => exact ⟨a + 1, by omega, by go_num, Lib.hid ⟨_, (HT6.out.finish HO.out.hp (fun i hi => by match i, hi with | 0, _ => rfl | 1, _ => rfl | 2, _ => rfl)).out⟩, Hok3⟩
                      case measure => simp [intOf]; omega
                    · go_wp2_with fail
                      have hT := HT2.out.build 1 (by decide) (wr2.heap.size + 1 + 1) (by simp)
                      change T3 w (((wr2.alloc (.cells #[Value.slice (some ⟨bm, 0, none⟩) q.length q.length] 28)).alloc (.cells #[Value.slice (some ⟨bf, 0, none⟩) q.length q.length] 28)).alloc (.cells #[Value.slice (some ⟨bj, 0, none⟩) q.length q.length] 28)) _ _ _ _ _ _ _ _ _ at hT
                      have HT3 := Lib.hid hT; clear hT
                      refine ⟨rfl, (fun l hl => by have e0 : (((wr2.alloc (.cells #[Value.slice (some ⟨bm, 0, none⟩) q.length q.length] 28)).alloc (.cells #[Value.slice (some ⟨bf, 0, none⟩) q.length q.length] 28)).alloc (.cells #[Value.slice (some ⟨bj, 0, none⟩) q.length q.length] 28)).cell? ⟨w3.heap.size, 0, none⟩ = some (Value.slice x0 a y0) := HT3.out.obj.cell 0; have e1 : (((wr2.alloc (.cells #[Value.slice (some ⟨bm, 0, none⟩) q.length q.length] 28)).alloc (.cells #[Value.slice (some ⟨bf, 0, none⟩) q.length q.length] 28)).alloc (.cells #[Value.slice (some ⟨bj, 0, none⟩) q.length q.length] 28)).cell? ⟨w3.heap.size, 1, none⟩ = some (Value.slice x1 a y1) := HT3.out.obj.cell 1; have e2 : (((wr2.alloc (.cells #[Value.slice (some ⟨bm, 0, none⟩) q.length q.length] 28)).alloc (.cells #[Value.slice (some ⟨bf, 0, none⟩) q.length q.length] 28)).alloc (.cells #[Value.slice (some ⟨bj, 0, none⟩) q.length q.length] 28)).cell? ⟨w3.heap.size, 2, none⟩ = some (Value.slice x2 a y2) := HT3.out.obj.cell 2; have hl' : l = 6 ∨ l = 13 ∨ l = 20 := (by simp [racing, raceOf] at hl; omega); rcases hl' with rfl | rfl | rfl <;> (intro _; go_simp)), ?_⟩
                      refine T3.walk HT3.out.drew 0 (by decide) rfl (by omega) rfl _ _ rfl _ 1 rfl HV0.out.symm rfl ?_
                      intro ad0 cc0 wa0 hT
                      have HT4 := Lib.hid hT
                      clear hT
                      go_wp2_with fail
                      refine ⟨rfl, (fun l hl => by have e0 : wa0.cell? ⟨w3.heap.size, 0, none⟩ = some (Value.slice x0 a y0) := HT4.out.obj.cell 0; have e1 : wa0.cell? ⟨w3.heap.size, 1, none⟩ = some (Value.slice x1 a y1) := HT4.out.obj.cell 1; have e2 : wa0.cell? ⟨w3.heap.size, 2, none⟩ = some (Value.slice x2 a y2) := HT4.out.obj.cell 2; have hl' : l = 6 ∨ l = 13 ∨ l = 20 := (by simp [racing, raceOf] at hl; omega); rcases hl' with rfl | rfl | rfl <;> (intro _; go_simp)), ?_⟩
                      refine T3.walk HT4.out 1 (by decide) rfl (by omega) rfl _ _ rfl _ 1 rfl HV1.out.symm rfl ?_
                      intro ad1 cc1 wa1 hT
                      have HT5 := Lib.hid hT
                      clear hT
                      go_wp2_with fail
                      refine ⟨rfl, (fun l hl => by have e0 : wa1.cell? ⟨w3.heap.size, 0, none⟩ = some (Value.slice x0 a y0) := HT5.out.obj.cell 0; have e1 : wa1.cell? ⟨w3.heap.size, 1, none⟩ = some (Value.slice x1 a y1) := HT5.out.obj.cell 1; have e2 : wa1.cell? ⟨w3.heap.size, 2, none⟩ = some (Value.slice x2 a y2) := HT5.out.obj.cell 2; have hl' : l = 6 ∨ l = 13 ∨ l = 20 := (by simp [racing, raceOf] at hl; omega); rcases hl' with rfl | rfl | rfl <;> (intro _; go_simp)), ?_⟩
                      refine T3.walk HT5.out 2 (by decide) rfl (by omega) rfl _ _ rfl _ 1 rfl HV2.out.symm rfl ?_
                      intro ad2 cc2 wa2 hT
                      have HT6 := Lib.hid hT
                      clear hT
                      have e0 : wa2.cell? ⟨w3.heap.size, 0, none⟩ = some (Value.slice x0 a y0) := HT6.out.obj.cell 0
                      have e1 : wa2.cell? ⟨w3.heap.size, 1, none⟩ = some (Value.slice x1 a y1) := HT6.out.obj.cell 1
                      have e2 : wa2.cell? ⟨w3.heap.size, 2, none⟩ = some (Value.slice x2 a y2) := HT6.out.obj.cell 2
                      have f0 := HT6.out.obj.free 0
                      have f1 := HT6.out.obj.free 1
                      have f2 := HT6.out.obj.free 2
                      go_wp2_with fail
                      refine ⟨rfl, (fun l hl => by simp [racing, raceOf] at hl), ?_⟩
                      go_wp2_with fail
                      go_roundw
                      case rel => exact ⟨a + 1, by omega, by go_num, Lib.hid ⟨_, (HT6.out.finish HO.out.hp (fun i hi => by match i, hi with | 0, _ => rfl | 1, _ => rfl | 2, _ => rfl)).out⟩, Hok3⟩
                      case measure => simp [intOf]; omega
                  · go_wp2_with fail
                    have hT := HT1.out.build 1 (by decide) (wr2.heap.size + 1) (by simp)
                    change T3 w ((wr2.alloc (.cells #[Value.slice (some ⟨bm, 0, none⟩) q.length q.length] 28)).alloc (.cells #[Value.slice (some ⟨bj, 0, none⟩) q.length q.length] 28)) _ _ _ _ _ _ _ _ _ at hT
                    have HT2 := Lib.hid hT; clear hT
                    refine ⟨rfl, (fun l hl => by have e0 : ((wr2.alloc (.cells #[Value.slice (some ⟨bm, 0, none⟩) q.length q.length] 28)).alloc (.cells #[Value.slice (some ⟨bj, 0, none⟩) q.length q.length] 28)).cell? ⟨w3.heap.size, 0, none⟩ = some (Value.slice x0 a y0) := HT2.out.obj.cell 0; have e1 : ((wr2.alloc (.cells #[Value.slice (some ⟨bm, 0, none⟩) q.length q.length] 28)).alloc (.cells #[Value.slice (some ⟨bj, 0, none⟩) q.length q.length] 28)).cell? ⟨w3.heap.size, 1, none⟩ = some (Value.slice x1 a y1) := HT2.out.obj.cell 1; have e2 : ((wr2.alloc (.cells #[Value.slice (some ⟨bm, 0, none⟩) q.length q.length] 28)).alloc (.cells #[Value.slice (some ⟨bj, 0, none⟩) q.length q.length] 28)).cell? ⟨w3.heap.size, 2, none⟩ = some (Value.slice x2 a y2) := HT2.out.obj.cell 2; have hl' : l = 6 ∨ l = 13 ∨ l = 20 := (by simp [racing, raceOf] at hl; omega); rcases hl' with rfl | rfl | rfl <;> (intro _; go_simp)), ?_⟩
                    go_wp2_with fail
                    have hT := HT2.out.build 0 (by decide) (wr2.heap.size + 1 + 1) (by simp)
                    change T3 w (((wr2.alloc (.cells #[Value.slice (some ⟨bm, 0, none⟩) q.length q.length] 28)).alloc (.cells #[Value.slice (some ⟨bj, 0, none⟩) q.length q.length] 28)).alloc (.cells #[Value.slice (some ⟨bf, 0, none⟩) q.length q.length] 28)) _ _ _ _ _ _ _ _ _ at hT
                    have HT3 := Lib.hid hT; clear hT
                    refine ⟨rfl, (fun l hl => by have e0 : (((wr2.alloc (.cells #[Value.slice (some ⟨bm, 0, none⟩) q.length q.length] 28)).alloc (.cells #[Value.slice (some ⟨bj, 0, none⟩) q.length q.length] 28)).alloc (.cells #[Value.slice (some ⟨bf, 0, none⟩) q.length q.length] 28)).cell? ⟨w3.heap.size, 0, none⟩ = some (Value.slice x0 a y0) := HT3.out.obj.cell 0; have e1 : (((wr2.alloc (.cells #[Value.slice (some ⟨bm, 0, none⟩) q.length q.length] 28)).alloc (.cells #[Value.slice (some ⟨bj, 0, none⟩) q.length q.length] 28)).alloc (.cells #[Value.slice (some ⟨bf, 0, none⟩) q.length q.length] 28)).cell? ⟨w3.heap.size, 1, none⟩ = some (Value.slice x1 a y1) := HT3.out.obj.cell 1; have e2 : (((wr2.alloc (.cells #[Value.slice (some ⟨bm, 0, none⟩) q.length q.length] 28)).alloc (.cells #[Value.slice (some ⟨bj, 0, none⟩) q.length q.length] 28)).alloc (.cells #[Value.slice (some ⟨bf, 0, none⟩) q.length q.length] 28)).cell? ⟨w3.heap.size, 2, none⟩ = some (Value.slice x2 a y2) := HT3.out.obj.cell 2; have hl' : l = 6 ∨ l = 13 ∨ l = 20 := (by simp [racing, raceOf] at hl; omega); rcases hl' with rfl | rfl | rfl <;> (intro _; go_simp)), ?_⟩
                    refine T3.walk HT3.out.drew 0 (by decide) rfl (by omega) rfl _ _ rfl _ 1 rfl HV0.out.symm rfl ?_
                    intro ad0 cc0 wa0 hT
                    have HT4 := Lib.hid hT
                    clear hT
                    go_wp2_with fail
                    refine ⟨rfl, (fun l hl => by have e0 : wa0.cell? ⟨w3.heap.size, 0, none⟩ = some (Value.slice x0 a y0) := HT4.out.obj.cell 0; have e1 : wa0.cell? ⟨w3.heap.size, 1, none⟩ = some (Value.slice x1 a y1) := HT4.out.obj.cell 1; have e2 : wa0.cell? ⟨w3.heap.size, 2, none⟩ = some (Value.slice x2 a y2) := HT4.out.obj.cell 2; have hl' : l = 6 ∨ l = 13 ∨ l = 20 := (by simp [racing, raceOf] at hl; omega); rcases hl' with rfl | rfl | rfl <;> (intro _; go_simp)), ?_⟩
                    refine T3.walk HT4.out 1 (by decide) rfl (by omega) rfl _ _ rfl _ 1 rfl HV1.out.symm rfl ?_
                    intro ad1 cc1 wa1 hT
                    have HT5 := Lib.hid hT
                    clear hT
                    go_wp2_with fail
                    refine ⟨rfl, (fun l hl => by have e0 : wa1.cell? ⟨w3.heap.size, 0, none⟩ = some (Value.slice x0 a y0) := HT5.out.obj.cell 0; have e1 : wa1.cell? ⟨w3.heap.size, 1, none⟩ = some (Value.slice x1 a y1) := HT5.out.obj.cell 1; have e2 : wa1.cell? ⟨w3.heap.size, 2, none⟩ = some (Value.slice x2 a y2) := HT5.out.obj.cell 2; have hl' : l = 6 ∨ l = 13 ∨ l = 20 := (by simp [racing, raceOf] at hl; omega); rcases hl' with rfl | rfl | rfl <;> (intro _; go_simp)), ?_⟩
                    refine T3.walk HT5.out 2 (by decide) rfl (by omega) rfl _ _ rfl _ 1 rfl HV2.out.symm rfl ?_
                    intro ad2 cc2 wa2 hT
                    have HT6 := Lib.hid hT
                    clear hT
                    have e0 : wa2.cell? ⟨w3.heap.size, 0, none⟩ = some (Value.slice x0 a y0) := HT6.out.obj.cell 0
                    have e1 : wa2.cell? ⟨w3.heap.size, 1, none⟩ = some (Value.slice x1 a y1) := HT6.out.obj.cell 1
                    have e2 : wa2.cell? ⟨w3.heap.size, 2, none⟩ = some (Value.slice x2 a y2) := HT6.out.obj.cell 2
                    have f0 := HT6.out.obj.free 0
                    have f1 := HT6.out.obj.free 1
                    have f2 := HT6.out.obj.free 2
                    go_wp2_with fail
                    refine ⟨rfl, (fun l hl => by simp [racing, raceOf] at hl), ?_⟩
                    go_wp2_with fail
                    go_roundw
                    case rel => exact ⟨a + 1, by omega, by go_num, Lib.hid ⟨_, (HT6.out.finish HO.out.hp (fun i hi => by match i, hi with | 0, _ => rfl | 1, _ => rfl | 2, _ => rfl)).out⟩, Hok3⟩
                    case measure => simp [intOf]; omega
      · obtain rfl : a = q.length := by omega
        obtain ⟨vv, hO⟩ := hout.out
        have hlatT : latM q = true := by
          rw [Hlat.out]
          unfold okAll
          simp only [List.all_eq_true, List.mem_range]
          exact fun i hi j hj => hok.out i hi j hj
        have HO := Lib.hid hO; clear hO
        have HLT := Lib.hid hlatT; clear hlatT
        go_wp2_with fail
        go_loopw [130] (fun v wr => ∃ a : Nat, a ≤ q.length ∧ v = .int .i64 a ∧ Hid (Outer w wr q.length q.length w3.heap.size q (topM q q.length a) (botM q q.length a) vv)) (fun v _ => q.length - (intOf v).toNat)
        case atStart => exact ⟨0, by omega, rfl, HO⟩
        case round =>
          rename World => w5
          obtain ⟨a, ha, rfl, hout2⟩ := hrel
          by_cases hlt2 : a < q.length
          · have hL := (hout2.out.lat hpos).below (Below.refl _ w5).drew
            have e3 : w5.cell? ⟨w3.heap.size, 3, none⟩ = some (.int .i64 (topM q q.length a)) := hout2.out.obj.cell 3
            have e4 : w5.cell? ⟨w3.heap.size, 4, none⟩ = some (.int .i64 (botM q q.length a)) := hout2.out.obj.cell 4
            have f3 := hout2.out.obj.free 3
            have f4 := hout2.out.obj.free 4
            have H86 := Lib.hid (c_Join q.length (topM q q.length a) a _ _ q _ _ _ _ _ _ hlen hL)
            have H87 := Lib.hid (c_Meet q.length (botM q q.length a) a _ _ q _ _ _ _ _ _ hlen hL)
            clear hL
            go_upto_region 24 with fail
            refine wp_region_tree [(13, 8)] (.seg [0, 1, 2, 3, 4, 5, 6, 7, 9, 10, 11, 12, 13, 14, 8] (.seg [15, 16, 17, 18, 19, 20, 21] (.done))) 155 mixed rfl (by kernel_rfl) ?_
            simp only [wpV, pick, List.filterMap_cons, List.filterMap_nil, List.getElem?_toArray, List.getElem?_cons_zero, List.getElem?_cons_succ]
            go_wp2_with (go_at_call 86; refine (H86.out).mono ?_; rintro e w' ⟨rfl, rfl⟩)
            refine ⟨rfl, (fun l hl => by have hl' : l = 13 := (by simp [racing, raceOf] at hl; omega); subst hl'; intro _; go_simp), ?_⟩
            go_wp2_with (go_at_call 87; refine (H87.out).mono ?_; rintro e w' ⟨rfl, rfl⟩)
            refine ⟨rfl, (fun l hl => by simp [racing, raceOf] at hl), ?_⟩
            go_wp2_with fail
            go_roundw
            case rel => exact ⟨a + 1, by omega, by go_num, hout2.out.setTB _ _⟩
            case measure => simp [intOf]; omega
          · obtain rfl : a = q.length := by omega
            go_wp2_with fail
            go_ret2
            exact ⟨.inl ⟨HLT.out, _, _, _, _, rfl, HO.out.hp, hout2.out.lat hpos⟩, hout2.out.bel⟩
  · have hlat : latM q = false := by
      unfold latM
      cases h : (allM q (reflM q) && allM q (antiM q) && allM q (transM q)) with
      | false => rfl
      | true => exact absurd h hlat4
    have Hlat := Lib.hid hlat; clear hlat
    have Hno := Lib.hid hlat4; clear hlat4
    obtain ⟨qa, qb, qo, qc, ra, rb, ro, rc, rfl, hright⟩ := hq
    clear hright
    cases h0 : squareM q with
    | false =>
      rw [h0] at H78
      clear h0
      go_enter Try.func40, Try.ntmps40
      go_wp2_with (first | (go_at_call 78; refine (H78.out).mono ?_; rintro e w' ⟨rfl, rfl⟩))
      go_ret2
      exact ⟨.inr ⟨Hlat.out, rfl⟩, Below.refl _ _⟩
    | true =>
      rw [h0] at H78
      clear h0
      cases h1 : allM q (reflM q) with
      | false =>
        rw [h1] at H79
        clear h1
        go_enter Try.func40, Try.ntmps40
        go_wp2_with (first | (go_at_call 78; refine (H78.out).mono ?_; rintro e w' ⟨rfl, rfl⟩) | (go_at_call 79; refine (H79.out).mono ?_; rintro e w1 ⟨rfl, hb1⟩; have HB1 := Lib.hid hb1; clear hb1))
        go_ret2
        exact ⟨.inr ⟨Hlat.out, rfl⟩, HB1.out⟩
      | true =>
        have h1' := h1
        rw [h1] at H79
        clear h1
        have H1 := Lib.hid h1'; clear h1'
        cases h2 : allM q (antiM q) with
        | false =>
          have H80' := Lib.hid (fun w1 h => h2 ▸ H80.out w1 h)
          clear h2 H80
          go_enter Try.func40, Try.ntmps40
          go_wp2_with (first | (go_at_call 78; refine (H78.out).mono ?_; rintro e w' ⟨rfl, rfl⟩) | (go_at_call 79; refine (H79.out).mono ?_; rintro e w1 ⟨rfl, hb1⟩; have HB1 := Lib.hid hb1; clear hb1) | (go_at_call 80; refine (H80'.out _ HB1.out).mono ?_; rintro e w2 ⟨rfl, hb2⟩; have HB2 := Lib.hid (below_then HB1.out hb2 HB1.out.size); clear hb2))
          go_ret2
          exact ⟨.inr ⟨Hlat.out, rfl⟩, HB2.out⟩
        | true =>
          have H80' := Lib.hid (fun w1 h => h2 ▸ H80.out w1 h)
          have H2 := Lib.hid h2
          clear h2 H80
          have h3 : allM q (transM q) = false := by
            cases h : allM q (transM q) with
            | false => rfl
            | true => exact absurd (by rw [H1.out, H2.out, h]; rfl) Hno.out
          have H81' := Lib.hid (fun w1 h => h3 ▸ H81.out w1 h)
          clear h3 H81
          go_enter Try.func40, Try.ntmps40
          go_wp2_with (first | (go_at_call 78; refine (H78.out).mono ?_; rintro e w' ⟨rfl, rfl⟩) | (go_at_call 79; refine (H79.out).mono ?_; rintro e w1 ⟨rfl, hb1⟩; have HB1 := Lib.hid hb1; clear hb1) | (go_at_call 80; refine (H80'.out _ HB1.out).mono ?_; rintro e w2 ⟨rfl, hb2⟩; have HB2 := Lib.hid (below_then HB1.out hb2 HB1.out.size); clear hb2) | (go_at_call 81; refine (H81'.out _ HB2.out).mono ?_; rintro e w3 ⟨rfl, hb3⟩; have HB3 := Lib.hid (below_then HB2.out hb3 HB2.out.size); clear hb3))
          go_ret2
          exact ⟨.inr ⟨Hlat.out, rfl⟩, HB3.out⟩
end Go.Proofs.Ytagcdnhkgndhcaa

