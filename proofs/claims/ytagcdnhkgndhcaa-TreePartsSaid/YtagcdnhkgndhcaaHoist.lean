/- A region that draws its order may be walked in one order of our own: operations that change nothing are taken early; conditions: a Bool over the region's text, what is loaded beside a call reads the same behind it. -/
import Derived.OrdersHeld
import Derived.Tactics
set_option linter.unusedVariables false
set_option linter.unusedSimpArgs false
namespace Go.Hoist

/-! ### 1. What does not look at the world -/
section
variable {P : Program} {α β : Type}

/-- It always halts. -/
def No (P : Program) (s : Sem α) : Prop := ∀ w, ∃ h w', s.run P w = .halt h w'
/-- It comes to one thing, whatever the world, and leaves the world; or it always halts. -/
def Bl (P : Program) (s : Sem α) : Prop := (∃ a, ∀ w, s.run P w = .ok a w) ∨ No P s

theorem No.bl {s : Sem α} (h : No P s) : Bl P s := .inr h
theorem No.halt (x : Halt) : No P (Sem.halt (α := α) x) := fun w => ⟨x, w, rfl⟩
theorem No.bind_left {s : Sem α} (h : No P s) (f : α → Sem β) : No P (s >>= f) := fun w => by
  obtain ⟨x, w', e⟩ := h w
  exact ⟨x, w', by simp [Sem.run_bind, e, Result.andThen]⟩
theorem No.bind_right {s : Sem α} {f : α → Sem β} (h : ∀ a, No P (f a)) : No P (s >>= f) := fun w => by
  cases e : s.run P w with
  | ok a w' => obtain ⟨x, w'', e'⟩ := h a w'; exact ⟨x, w'', by simp [Sem.run_bind, e, e', Result.andThen]⟩
  | halt x w' => exact ⟨x, w', by simp [Sem.run_bind, e, Result.andThen]⟩
theorem Bl.pure (a : α) : Bl P (Pure.pure a : Sem α) := .inl ⟨a, fun _ => rfl⟩
theorem Bl.halt (x : Halt) : Bl P (Sem.halt (α := α) x) := (No.halt x).bl
theorem Bl.bind {s : Sem α} {f : α → Sem β} (h : Bl P s) (hf : ∀ a, Bl P (f a)) : Bl P (s >>= f) := by
  rcases h with ⟨a, ha⟩ | h
  · rcases hf a with ⟨b, hb⟩ | hn
    · exact .inl ⟨b, fun w => by simp [Sem.run_bind, ha w, hb w, Result.andThen]⟩
    · refine .inr fun w => ?_
      obtain ⟨x, w', e⟩ := hn w
      exact ⟨x, w', by simp [Sem.run_bind, ha w, e, Result.andThen]⟩
  · exact .inr (No.bind_left h f)
theorem Bl.program : Bl P Go.program := .inl ⟨P, fun _ => rfl⟩
theorem Bl.ite {c : Prop} [Decidable c] {s t : Sem α} (h : Bl P s) (h' : Bl P t) : Bl P (if c then s else t) := by split <;> assumption

theorem No.goPanic (v : Value) : No P (goPanic (α := α) v) := No.halt _
theorem No.runtimePanic (e : RuntimeError) : No P (Go.runtimePanic (α := α) e) := by
  unfold Go.runtimePanic
  refine No.bind_right fun p => ?_
  cases e <;> dsimp only
  all_goals first
    | exact No.goPanic _
    | (refine No.bind_right fun _ => ?_; refine No.bind_right fun _ => ?_; exact No.goPanic _)
theorem No.boundsPanic (k : IntKind) (x y : Int) (c : BoundsCode) : No P (Go.boundsPanic (α := α) k x y c) := by
  unfold Go.boundsPanic
  dsimp only
  split
  · exact No.bind_right fun _ => No.runtimePanic _
  · exact No.bind_right fun _ => No.runtimePanic _
theorem Bl.typeInfo (t : TypeId) : Bl P (Go.typeInfo t) := by
  unfold Go.typeInfo
  repeat' (first | exact Bl.pure _ | exact Bl.halt _ | exact Bl.program | (refine Bl.bind ?_ (fun _ => ?_)) | split | (intro _) | (dsimp only))
theorem Bl.underlying (t : TypeId) : Bl P (Go.underlying t) := by
  unfold Go.underlying
  repeat' (first | exact Bl.pure _ | exact Bl.halt _ | exact Bl.program | (refine Bl.bind ?_ (fun _ => ?_)) | split | (intro _) | (dsimp only))
theorem Bl.sizeOf (t : TypeId) : Bl P (Go.sizeOf t) := by
  unfold Go.sizeOf
  repeat' (first | exact Bl.pure _ | exact Bl.halt _ | exact Bl.program | exact Bl.typeInfo _ | (refine Bl.bind ?_ (fun _ => ?_)) | split | (intro _) | (dsimp only))
theorem Bl.zeroValue (t : TypeId) : Bl P (Go.zeroValue t) := by
  unfold Go.zeroValue
  repeat' (first | exact Bl.pure _ | exact Bl.halt _ | exact Bl.program | exact Bl.typeInfo _ | (refine Bl.bind ?_ (fun _ => ?_)) | split | (intro _) | (dsimp only))
theorem Bl.isAgg (t : TypeId) : Bl P (Go.isAgg t) := by
  unfold Go.isAgg
  repeat' (first | exact Bl.pure _ | exact Bl.halt _ | exact Bl.program | exact Bl.underlying _ | (refine Bl.bind ?_ (fun _ => ?_)) | split | (intro _) | (dsimp only))
theorem Bl.asIntOf (v : Value) : Bl P (Go.asIntOf v) := by
  unfold Go.asIntOf
  repeat' (first | exact Bl.pure _ | exact Bl.halt _ | exact Bl.program | (refine Bl.bind ?_ (fun _ => ?_)) | split | (intro _) | (dsimp only))
theorem Bl.asBool (v : Value) : Bl P (Go.asBool v) := by
  unfold Go.asBool
  repeat' (first | exact Bl.pure _ | exact Bl.halt _ | exact Bl.program | (refine Bl.bind ?_ (fun _ => ?_)) | split | (intro _) | (dsimp only))
theorem Bl.asAgg (v : Value) : Bl P (Go.asAgg v) := by
  unfold Go.asAgg
  repeat' (first | exact Bl.pure _ | exact Bl.halt _ | exact Bl.program | (refine Bl.bind ?_ (fun _ => ?_)) | split | (intro _) | (dsimp only))
theorem Bl.sureAddr (v : Value) : Bl P (Instr.sureAddr v) := by
  unfold Instr.sureAddr
  repeat' (first | exact Bl.pure _ | exact Bl.halt _ | exact Bl.program | (refine Bl.bind ?_ (fun _ => ?_)) | split | (intro _) | (dsimp only))
theorem Bl.asAddr (v : Value) : Bl P (Go.asAddr v) := by
  unfold Go.asAddr
  repeat' (first | exact Bl.pure _ | exact Bl.halt _ | exact Bl.program | exact (No.runtimePanic _).bl | (refine Bl.bind ?_ (fun _ => ?_)) | split | (intro _) | (dsimp only))
theorem Bl.extract (v : Value) (i : Nat) : Bl P (Instr.extract v i) := by
  unfold Instr.extract
  repeat' (first | exact Bl.pure _ | exact Bl.halt _ | exact Bl.program | (refine Bl.bind ?_ (fun _ => ?_)) | split | (intro _) | (dsimp only))
theorem Bl.part (t : TypeId) (cs : Array Value) (o : Nat) : Bl P (Go.part t cs o) := by
  unfold Go.part
  repeat' (first | exact Bl.pure _ | exact Bl.halt _ | exact Bl.program | exact Bl.isAgg _ | exact Bl.sizeOf _ | (refine Bl.bind ?_ (fun _ => ?_)) | split | (intro _) | (dsimp only))
theorem Bl.field (t : TypeId) (x : Value) (f : Nat) : Bl P (Instr.field t x f) := by
  unfold Instr.field
  repeat' (first | exact Bl.pure _ | exact Bl.halt _ | exact Bl.program | exact Bl.underlying _ | exact Bl.part _ _ _ | exact Bl.asAgg _ | (refine Bl.bind ?_ (fun _ => ?_)) | split | (intro _) | (dsimp only))
theorem Bl.indexAt (t : TypeId) (x i : Value) : Bl P (Instr.indexAt t x i) := by
  unfold Instr.indexAt
  repeat' (first | exact Bl.pure _ | exact Bl.halt _ | exact Bl.program | exact Bl.asIntOf _ | exact Bl.underlying _ | exact Bl.sureAddr _ | exact Bl.sizeOf _ | exact (No.boundsPanic _ _ _ _).bl | (refine Bl.bind ?_ (fun _ => ?_)) | split | (intro _) | (dsimp only))
theorem Bl.index (t : TypeId) (x i : Value) : Bl P (Instr.index t x i) := by
  unfold Instr.index
  repeat' (first | exact Bl.pure _ | exact Bl.halt _ | exact Bl.program | exact Bl.asIntOf _ | exact Bl.underlying _ | exact Bl.part _ _ _ | exact Bl.sizeOf _ | exact (No.boundsPanic _ _ _ _).bl | (refine Bl.bind ?_ (fun _ => ?_)) | split | (intro _) | (dsimp only))
theorem Bl.sliceBound (x : Value) (y : Nat) (c : BoundsCode) : Bl P (Instr.sliceBound x y c) := by
  unfold Instr.sliceBound
  repeat' (first | exact Bl.pure _ | exact Bl.halt _ | exact Bl.program | exact Bl.asIntOf _ | exact (No.boundsPanic _ _ _ _).bl | (refine Bl.bind ?_ (fun _ => ?_)) | split | (intro _) | (dsimp only))
theorem Bl.sliceBounds (b : Bool) (n c : Nat) (lo hi mx : Option Value) : Bl P (Instr.sliceBounds b n c lo hi mx) := by
  unfold Instr.sliceBounds
  repeat' (first | exact Bl.pure _ | exact Bl.halt _ | exact Bl.program | exact Bl.sliceBound _ _ _ | (refine Bl.bind ?_ (fun _ => ?_)) | split | (intro _) | (dsimp only))
theorem Bl.slice (t : TypeId) (x : Value) (lo hi mx : Option Value) : Bl P (Instr.slice t x lo hi mx) := by
  unfold Instr.slice
  repeat' (first | exact Bl.pure _ | exact Bl.halt _ | exact Bl.program | exact Bl.underlying _ | exact Bl.sliceBounds _ _ _ _ _ _ | exact Bl.sizeOf _ | exact Bl.asAddr _ | (refine Bl.bind ?_ (fun _ => ?_)) | split | (intro _) | (dsimp only))
theorem Bl.sliceAt (t : TypeId) (x : Value) (lo hi mx : Option Value) : Bl P (Instr.sliceAt t x lo hi mx) := by
  unfold Instr.sliceAt
  repeat' (first | exact Bl.pure _ | exact Bl.halt _ | exact Bl.program | exact Bl.underlying _ | exact Bl.sliceBounds _ _ _ _ _ _ | exact Bl.sizeOf _ | exact Bl.sureAddr _ | exact Bl.slice _ _ _ _ _ | (refine Bl.bind ?_ (fun _ => ?_)) | split | (intro _) | (dsimp only))
theorem Bl.makeInterface (t : TypeId) (x : Value) : Bl P (Instr.makeInterface t x) := by
  unfold Instr.makeInterface
  repeat' (first | exact Bl.pure _ | exact Bl.halt _ | exact Bl.program | exact Bl.underlying _ | (refine Bl.bind ?_ (fun _ => ?_)) | split | (intro _) | (dsimp only))
theorem Bl.unary (op : UnOp) (x : Value) : Bl P (Op.unary op x) := by
  unfold Op.unary Op.intArith Op.intBits
  repeat' (first | exact Bl.pure _ | exact Bl.halt _ | split | dsimp only)
/-- Two whole numbers. -/
theorem Bl.binOp (op : BinOp) (t : TypeId) (k j : IntKind) (a b : Int) : Bl P (Go.binOp op t (.int k a) (.int j b)) := by
  cases op <;> simp only [Go.binOp] <;> (try unfold Op.shift) <;> (try unfold Op.intArith) <;> (try unfold Op.intDiv) <;> (try unfold Op.intBits) <;> (try unfold Op.intCmp)
  all_goals repeat' (first | exact Bl.pure _ | exact Bl.halt _ | exact (No.runtimePanic _).bl | split | dsimp only)
theorem Bl.eqGuard (op : BinOp) (t : TypeId) (x y : Operand) (k j : IntKind) (a b : Int) : Bl P (Go.eqGuard op t x y (.int k a) (.int j b)) := by
  unfold Go.eqGuard
  cases op <;> exact Bl.pure _
theorem Bl.convert (s d : TypeId) (k : IntKind) (n : Int) (kd : IntKind) (hd : P.underlying d = some (.int kd)) : Bl P (Go.convert s d (.int k n)) := by
  unfold Go.convert
  refine Bl.bind (Bl.underlying _) fun ds => ?_
  refine Or.inl ⟨.int kd (kd.wrap n), fun w => ?_⟩
  simp [Sem.run_bind, run_underlying hd, Result.andThen, Conv.intToInt, go_sem]
theorem Bl.len (t : TypeId) (e : TypeId) (ts : Array TypeId) (ty : TypeId) (xs : Array Value) (ht : ts[0]? = some t) (hu : P.underlying t = some (.slice e)) : Bl P (Builtin.len_ ts ty xs) := by
  unfold Builtin.len_
  rw [ht]
  cases xs[0]? with
  | none => exact Bl.halt _
  | some x =>
    dsimp only
    have e0 : ∀ w, (Go.underlying t).run P w = .ok (.slice e) w := run_underlying hu
    cases x
    case slice a n c => exact Or.inl ⟨goInt n, fun w => by simp [Sem.run_bind, e0, Result.andThen, go_sem]⟩
    all_goals exact Or.inr fun w => ⟨_, w, by simp [Sem.run_bind, e0, Result.andThen]; rfl⟩
theorem Bl.mapM {γ δ : Type} {f : γ → Sem δ} (h : ∀ x, Bl P (f x)) : ∀ l : List γ, Bl P (l.mapM f)
  | [] => by simp only [List.mapM_nil]; exact Bl.pure _
  | x :: l => by
    simp only [List.mapM_cons]
    exact (h x).bind fun _ => (Bl.mapM h l).bind fun _ => Bl.pure _
theorem Bl.build (t : TypeId) (ps : Array (Nat × Value)) : Bl P (Instr.build t ps) := by
  unfold Instr.build
  refine (Bl.zeroValue _).bind fun z => (Bl.underlying _).bind fun d => ?_
  split
  · refine Bl.bind ?_ fun places => ?_
    · rw [Array.mapM_eq_mapM_toList]
      exact (Bl.mapM (fun f => (Bl.sizeOf _).bind fun _ => Bl.pure _) _).bind fun _ => Bl.pure _
    · repeat' (first | exact Bl.pure _ | exact Bl.halt _ | split | dsimp only)
  · refine (Bl.sizeOf _).bind fun _ => ?_
    repeat' (first | exact Bl.pure _ | exact Bl.halt _ | split | dsimp only)
  · exact Bl.halt _

theorem Bl.fieldAt (s : TypeId) (x : Value) (f : Nat) {fields : Array Field} {g : Field} {i : TypeInfo} (hs : P.underlying s = some (.struct fields)) (hg : fields[f]? = some g)
    (hi : P.info? g.type = some i) (hz : i.size ≠ 0) : Bl P (Instr.fieldAt s x f) := by
  have e0 : ∀ w, (Go.underlying s).run P w = .ok (.struct fields) w := run_underlying hs
  have e1 : ∀ w, (Go.sizeOf g.type).run P w = .ok i.size w := fun w => by
    show Sem.run P (Go.typeInfo g.type >>= fun i => Pure.pure i.size) w = _
    rw [Sem.run_bind]
    show Result.andThen (Sem.run P (match P.info? g.type with | some i => Pure.pure i | none => stuck "no such type") w) _ = _
    rw [hi]
    rfl
  unfold Instr.fieldAt
  cases x
  case pointer a =>
    cases a with
    | some a => exact Or.inl ⟨.pointer (some (a.add g.offset)), fun w => by simp [Sem.run_bind, e0, e1, hg, hz, Result.andThen, Instr.sureAddr, fieldPlace, go_sem]⟩
    | none => exact Or.inr fun w => ⟨_, w, by simp [Sem.run_bind, e0, hg, Result.andThen, Instr.sureAddr]; rfl⟩
  all_goals exact Or.inr fun w => ⟨_, w, by simp [Sem.run_bind, e0, hg, Result.andThen, Instr.sureAddr]; rfl⟩

/-! ### 2. Which operations do not look at the world; which values they want -/
def blindField (P : Program) (s : TypeId) (f : Nat) : Bool :=
  match P.underlying s with
  | some (.struct fields) => match fields[f]? with
    | some g => match P.info? g.type with
      | some i => i.size != 0
      | none => false
    | none => false
  | _ => false
def blindLen (P : Program) (ts : Array TypeId) : Bool :=
  match ts[0]? with
  | some t => match P.underlying t with
    | some (.slice _) => true
    | _ => false
  | none => false
def blindConv (P : Program) (d : TypeId) : Bool :=
  match P.underlying d with
  | some (.int _) => true
  | _ => false
def blindCall (P : Program) (c : Call) : Bool :=
  match c.callee with
  | .builtin .len => blindLen P c.argTypes
  | _ => false
def blindOp (P : Program) : Op → Bool
  | .move _ | .assign _ | .pick .. | .indexAddr .. | .index .. | .field .. | .unOp .. | .extract .. | .slice .. | .makeFunc .. | .makeInterface .. | .binOp .. | .nilCheck _ | .build .. => true
  | .convert _ d _ => blindConv P d
  | .fieldAddr s _ f => blindField P s f
  | .call c => blindCall P c
  | _ => false
def blind (P : Program) (o : Oper) : Bool := blindOp P o.op
def isInt : Value → Bool
  | .int .. => true
  | _ => false
def noMethod : Value → Bool
  | .func (.method _) _ _ => false
  | _ => true
def typed (ρ : Operand → Value) (o : Oper) : Bool :=
  match o.op with
  | .binOp _ _ x y _ => isInt (ρ x) && isInt (ρ y)
  | .convert _ _ x => isInt (ρ x)
  | .nilCheck x => noMethod (ρ x)
  | _ => true
theorem isInt_spec {v : Value} (h : isInt v = true) : ∃ k n, v = .int k n := by
  cases v <;> simp [isInt] at h
  exact ⟨_, _, rfl⟩
def BlV (P : Program) (s : Sem Next) : Prop := (∃ v, ∀ w, s.run P w = .ok (.value v) w) ∨ No P s
theorem Bl.value {s : Sem Value} (h : Bl P s) : BlV P (do Pure.pure (Next.value (← s)) : Sem Next) := by
  rcases h with ⟨a, ha⟩ | h
  · exact .inl ⟨a, fun w => by simp [Sem.run_bind, ha w, Result.andThen]⟩
  · exact .inr (No.bind_left h _)
theorem BlV.pure (v : Value) : BlV P (Pure.pure (Next.value v) : Sem Next) := .inl ⟨v, fun _ => rfl⟩
theorem blind_run {o : Oper} {ρ : Operand → Value} (h : blind P o = true) (ht : typed ρ o = true) : BlV P (execOp ρ o) := by
  obtain ⟨dst, op, type, pos, after, guard⟩ := o
  unfold execOp
  simp only [blind] at h
  simp only [typed] at ht
  cases op
  case move x => exact BlV.pure _
  case assign x => exact BlV.pure _
  case pick c x y =>
    rcases (Bl.asBool (P := P) (ρ c)) with ⟨b, hb⟩ | hn
    · exact .inl ⟨if b then ρ x else ρ y, fun w => by simp [Sem.run_bind, hb w, Result.andThen]⟩
    · exact .inr (No.bind_left hn _)
  case indexAddr t x i => exact (Bl.indexAt ..).value
  case index t x i => exact (Bl.index ..).value
  case field t x i => exact (Bl.field ..).value
  case unOp op t x => exact (Bl.unary ..).value
  case extract t i => exact (Bl.extract ..).value
  case slice t x lo hi mx => exact (Bl.sliceAt ..).value
  case makeFunc f a b => exact (Bl.pure _ : Bl P (Instr.makeFunc ..)).value
  case makeInterface t x => exact (Bl.makeInterface ..).value
  case build t ps => exact (Bl.build ..).value
  case binOp op t x y t' =>
    simp only [Bool.and_eq_true] at ht
    obtain ⟨k, a, ha⟩ := isInt_spec ht.1
    obtain ⟨j, b, hb⟩ := isInt_spec ht.2
    simp only [ha, hb]
    exact ((Bl.eqGuard ..).bind fun _ => Bl.binOp ..).value
  case convert s d x =>
    obtain ⟨k, a, ha⟩ := isInt_spec ht
    simp only [ha]
    simp only [blindOp, blindConv] at h
    split at h
    · rename_i kd hd
      exact (Bl.convert s d k a kd hd).value
    · cases h
  case nilCheck x =>
    dsimp only
    split
    all_goals first | exact .inr (No.runtimePanic _) | exact BlV.pure _ | skip
    rename_i hx
    simp only [hx, noMethod] at ht
    cases ht
  case fieldAddr s x f =>
    refine Bl.value ?_
    simp only [blindOp, blindField] at h
    split at h
    · rename_i fields hs
      split at h
      · rename_i g hg
        split at h
        · rename_i i hi
          exact Bl.fieldAt s _ f hs hg hi (by simpa using h)
        · cases h
      · cases h
    · cases h
  case call c =>
    obtain ⟨callee, args, argTypes⟩ := c
    cases callee
    case builtin b =>
      cases b
      case len =>
        simp only [blindOp, blindCall, blindLen] at h
        split at h
        · rename_i t ht'
          split at h
          · rename_i e he
            have hl := Bl.len (P := P) t e argTypes type (args.map ρ) ht' he
            exact hl.value
          · cases h
        · cases h
      all_goals (simp only [blindOp, blindCall] at h; cases h)
    all_goals (simp only [blindOp, blindCall] at h; cases h)
  all_goals (simp only [blindOp] at h; cases h)

/-- A load: the world stays. -/
theorem loadCellsFrom_ro (ad : Addr) : ∀ (n i : Nat) (acc : Array Value) (w : World), (∃ v, (loadCellsFrom ad i n acc).run P w = .ok v w) ∨ (∃ h w', (loadCellsFrom ad i n acc).run P w = .halt h w')
  | 0, i, acc, w => .inl ⟨acc, rfl⟩
  | n + 1, i, acc, w => by
    have e : (loadCellsFrom ad i (n + 1) acc) = (Go.load (ad.add i) >>= fun v => loadCellsFrom ad (i + 1) n (acc.push v)) := rfl
    rw [e, Sem.run_bind]
    cases hr : (Go.load (ad.add i)).run P w with
    | ok v w' =>
      have : w' = w := by
        simp only [Go.load, Sem.run] at hr
        split at hr
        · cases hr; rfl
        · split at hr
          · cases hr; rfl
          · cases hr
      subst this
      simpa [Result.andThen] using loadCellsFrom_ro ad n (i + 1) (acc.push v) w'
    | halt h w' => exact .inr ⟨h, w', by simp [Result.andThen]⟩
def peek (o : Oper) : Bool :=
  match o.op with
  | .load .. => true
  | _ => false
theorem peek_run {o : Oper} (h : peek o = true) (ρ : Operand → Value) (w : World) : (∃ v, (execOp ρ o).run P w = .ok (.value v) w) ∨ (∃ x w', (execOp ρ o).run P w = .halt x w') := by
  obtain ⟨dst, op, type, pos, after, guard⟩ := o
  unfold execOp
  cases op <;> simp only [peek] at h <;> first | cases h | skip
  case load t x =>
    have key : (∃ v, (Instr.loadAt t (ρ x)).run P w = .ok v w) ∨ (∃ z w', (Instr.loadAt t (ρ x)).run P w = .halt z w') := by
      unfold Instr.loadAt
      rcases Bl.sureAddr (P := P) (ρ x) with ⟨ad, ha⟩ | hn
      · rw [Sem.run_bind, ha w]
        show (∃ v, (loadVar t ad).run P w = .ok v w) ∨ (∃ z w', (loadVar t ad).run P w = .halt z w')
        unfold loadVar
        rcases Bl.isAgg (P := P) t with ⟨b, hb⟩ | hn
        · rw [Sem.run_bind, hb w]
          cases b
          · have := loadCellsFrom_ro (P := P) ad 1 0 #[] w
            show (∃ v, (Go.load ad).run P w = .ok v w) ∨ (∃ z w', (Go.load ad).run P w = .halt z w')
            cases hr : (Go.load ad).run P w with
            | ok v w' =>
              have : w' = w := by
                simp only [Go.load, Sem.run] at hr
                split at hr
                · cases hr; rfl
                · split at hr
                  · cases hr; rfl
                  · cases hr
              subst this
              exact .inl ⟨v, rfl⟩
            | halt z w' => exact .inr ⟨z, w', rfl⟩
          · show (∃ v, (Go.sizeOf t >>= fun n => loadCells ad n >>= fun cs => Pure.pure (Value.agg cs)).run P w = .ok v w) ∨ (∃ z w', (Go.sizeOf t >>= fun n => loadCells ad n >>= fun cs => Pure.pure (Value.agg cs)).run P w = .halt z w')
            rcases Bl.sizeOf (P := P) t with ⟨n, hn⟩ | hn
            · rw [Sem.run_bind, hn w]
              show (∃ v, (loadCells ad n >>= fun cs => Pure.pure (Value.agg cs)).run P w = .ok v w) ∨ (∃ z w', (loadCells ad n >>= fun cs => Pure.pure (Value.agg cs)).run P w = .halt z w')
              rw [Sem.run_bind]
              rcases loadCellsFrom_ro (P := P) ad n 0 #[] w with ⟨v, hv⟩ | ⟨z, w', hz⟩
              · exact .inl ⟨.agg v, by unfold loadCells; rw [hv]; rfl⟩
              · exact .inr ⟨z, w', by unfold loadCells; rw [hz]; rfl⟩
            · obtain ⟨z, w', e⟩ := No.bind_left hn (fun n => loadCells ad n >>= fun cs => Pure.pure (Value.agg cs)) w
              exact .inr ⟨z, w', e⟩
        · obtain ⟨z, w', e⟩ := No.bind_left hn _ w
          exact .inr ⟨z, w', e⟩
      · obtain ⟨z, w', e⟩ := No.bind_left hn _ w
        exact .inr ⟨z, w', e⟩
    dsimp only
    rcases key with ⟨v, hv⟩ | ⟨z, w', hz⟩
    · exact .inl ⟨v, by simp [Sem.run_bind, hv, Result.andThen]⟩
    · exact .inr ⟨z, w', by simp [Sem.run_bind, hz, Result.andThen]⟩

/-! ### 3. One order for all -/
def quiet (P : Program) (o : Oper) : Bool := blind P o || peek o
def Dead : Exit → Act → World → Prop := fun _ _ _ => False
/-- What has been taken: the number, what it asks, what it came to. -/
abbrev Held := List (Nat × Sem Next × Value)
def wantedAt (ops : Array Oper) (o : Oper) (a : Act) : Bool := Region.wanted o (yielded ops a.tmps)
def Yld (P : Program) (ops : Array Oper) (o : Oper) (a : Act) (w : World) (v : Value) : Prop :=
  (wantedAt ops o a = true ∧ (execOp a.eval o).run P w = .ok (.value v) w ∧ (blind P o = true → ∀ w', (execOp a.eval o).run P w' = .ok (.value v) w')) ∨
  (wantedAt ops o a = false ∧ v = undef)
def keep (ops : Array Oper) (i : Nat) (o : Oper) (a : Act) (v : Value) (D : Held) : Held :=
  if wantedAt ops o a then (i, execOp a.eval o, v) :: D else D
def Sound (P : Program) (R : Nat → Nat → Bool) (D : Held) (i : Nat) (w : World) : Prop :=
  ∀ h ∈ D, R h.1 i = true → h.2.1.run P w = .ok (.value h.2.2) w
def wpH (P : Program) (ops : Array Oper) (R : Nat → Nat → Bool) (K : Act → World → Prop) : List Nat → Held → Act → World → Prop
  | [], _, a, w => K a w
  | i :: rest, D, a, w => ∃ o, ops[i]? = some o ∧
      if quiet P o then ∃ v, Yld P ops o a w v ∧ wpH P ops R K rest (keep ops i o a v D) (a.put o.dst v) w
      else wpOp P ops Dead i (fun a' w' => Sound P R D i w' ∧ wpH P ops R K rest D a' w') a w

variable {ops : Array Oper} {R : Nat → Nat → Bool} {K : Act → World → Prop}

theorem Dead.lets : ¬ LetsOut Dead := fun ⟨_, _, h⟩ => h
theorem wp_dead {o : Oper} {a : Act} {w : World} {K K' : Act → World → Prop} {Q : Exit → Act → World → Prop} (h : ∀ a w, K a w → K' a w) (hh : o.wp P a w K Dead) : o.wp P a w K' Q := by
  unfold Oper.wp at *
  generalize (execOp a.eval o).run P w = r at *
  cases r with
  | ok n w' =>
    cases n <;> simp only [Oper.upon] at hh ⊢ <;>
      first
        | exact h _ _ hh
        | exact Calls.mono hh (fun e w'' he => by
            cases e with
            | returned v => exact h _ _ he
            | panicked c => exact he.elim
            | outgrown => exact (Dead.lets he).elim)
        | exact Rows.mono hh (fun _ _ he => h _ _ he)
  | halt x w' =>
    cases x <;> simp only [Oper.upon] at hh ⊢
    exact hh.elim
theorem wpOp_dead {i : Nat} {a : Act} {w : World} {K K' : Act → World → Prop} {Q : Exit → Act → World → Prop} (h : ∀ a w, K a w → K' a w) (hh : wpOp P ops Dead i K a w) : wpOp P ops Q i K' a w := by
  unfold wpOp at *
  split
  · rename_i ho; simp only [ho] at hh; exact h _ _ hh
  · rename_i o ho
    simp only [ho] at hh
    split
    · rename_i hw
      simp only [hw, if_true] at hh
      rcases hh with hh | ⟨_, hl⟩
      · exact .inl (wp_dead h hh)
      · exact (Dead.lets hl).elim
    · rename_i hw; simp only [hw] at hh; exact h _ _ hh
theorem Yld.wpOp {i : Nat} {o : Oper} {v : Value} {a : Act} {w : World} {K : Act → World → Prop} {Q : Exit → Act → World → Prop} (hi : ops[i]? = some o) (hy : Yld P ops o a w v) (h : K (a.put o.dst v) w) : wpOp P ops Q i K a w := by
  unfold Go.wpOp
  simp only [hi]
  rcases hy with ⟨hw, hv, _⟩ | ⟨hw, rfl⟩
  · simp only [wantedAt] at hw
    simp only [hw, if_true, Oper.wp, hv, Oper.upon]; exact .inl h
  · simp only [wantedAt] at hw
    simp only [hw, Bool.false_eq_true, if_false]; exact h
theorem Sound.mono {D D' : Held} {i : Nat} {w : World} (h : ∀ x, x ∈ D' → x ∈ D) (hs : Sound P R D i w) : Sound P R D' i w := fun x hx => hs x (h x hx)
theorem keep_mono {i : Nat} {o : Oper} {a : Act} {v : Value} {D D' : Held} (h : ∀ x, x ∈ D' → x ∈ D) : ∀ x, x ∈ keep ops i o a v D' → x ∈ keep ops i o a v D := by
  intro x hx
  unfold keep at *
  by_cases hw : wantedAt ops o a = true <;> simp only [hw, if_true, if_false, Bool.false_eq_true] at hx ⊢
  · rcases List.mem_cons.1 hx with rfl | hx
    · exact List.mem_cons_self
    · exact List.mem_cons_of_mem _ (h _ hx)
  · exact h _ hx
theorem keep_swap {i x : Nat} {o o' : Oper} {a : Act} {v u : Value} {D : Held} : ∀ z, z ∈ keep ops i o a v (keep ops x o' a u D) → z ∈ keep ops x o' a u (keep ops i o a v D) := by
  intro z hz
  unfold keep at *
  by_cases g1 : wantedAt ops o a = true <;> by_cases g2 : wantedAt ops o' a = true <;> simp only [g1, g2, if_true, if_false, Bool.false_eq_true] at hz ⊢
  · simp only [List.mem_cons] at hz ⊢
    rcases hz with h | h | h
    · exact .inr (.inl h)
    · exact .inl h
    · exact .inr (.inr h)
  all_goals exact hz
theorem wpH_mono : ∀ (c : List Nat) {D D' : Held} (a : Act) (w : World), (∀ x, x ∈ D' → x ∈ D) → wpH P ops R K c D a w → wpH P ops R K c D' a w
  | [], _, _, _, _, _, h => h
  | i :: c, D, D', a, w, hd, ⟨o, ho, h⟩ => by
    refine ⟨o, ho, ?_⟩
    split
    · rename_i hq
      simp only [hq, if_true] at h
      obtain ⟨v, hy, h⟩ := h
      exact ⟨v, hy, wpH_mono c _ _ (keep_mono hd) h⟩
    · rename_i hq
      rw [if_neg hq] at h
      exact wpOp_mono (fun a' w' ⟨h1, h2⟩ => ⟨h1.mono hd, wpH_mono c a' w' hd h2⟩) h
/-- What follows may be put in another order, whatever has been taken. -/
theorem wpH_under {i : Nat} {c c' : List Nat} (hc : ∀ D a w, wpH P ops R K c D a w → wpH P ops R K c' D a w) {D : Held} {a : Act} {w : World} (h : wpH P ops R K (i :: c) D a w) : wpH P ops R K (i :: c') D a w := by
  obtain ⟨o, ho, h⟩ := h
  refine ⟨o, ho, ?_⟩
  split
  · rename_i hq
    simp only [hq, if_true] at h
    obtain ⟨v, hy, h⟩ := h
    exact ⟨v, hy, hc _ _ _ h⟩
  · rename_i hq
    rw [if_neg hq] at h
    exact wpOp_mono (fun a' w' ⟨h1, h2⟩ => ⟨h1, hc _ _ _ h2⟩) h

def Same (ops : Array Oper) (o : Oper) (a a' : Act) : Prop := execOp a'.eval o = execOp a.eval o ∧ wantedAt ops o a' = wantedAt ops o a
theorem Same.put {o : Oper} {a a' : Act} (hs : ∀ cs b, o.op ≠ .select cs b) (h : Same ops o a a') (dst : Option Tmp) (u : Value) (hd : ∀ d, dst = some d → d ∉ o.looksAt ops) : Same ops o a (a'.put dst u) :=
  ⟨(execOp_put o hs a' dst u hd).trans h.1, (wanted_put o a' dst u hd).trans h.2⟩
theorem Same.yld {o : Oper} {a a' : Act} {w : World} {v : Value} (h : Same ops o a a') (hy : Yld P ops o a w v) : Yld P ops o a' w v := by
  unfold Yld at *
  rw [h.1, h.2]
  exact hy
theorem Same.keep {o : Oper} {a a' : Act} (h : Same ops o a a') (i : Nat) (v : Value) (D : Held) : keep ops i o a' v D = keep ops i o a v D := by
  unfold Hoist.keep
  rw [h.1, h.2]
/-- An operation apart from 'oi': 'oi''s value being there or not makes no difference to it. -/
theorem wpOp_put' {j : Nat} {oi oj : Oper} {v : Value} (hj : ops[j]? = some oj) (hap : oi.apart ops oj = true)
    (hsi : ∀ cs b, oi.op ≠ .select cs b) (hsj : ∀ cs b, oj.op ≠ .select cs b) {K : Act → World → Prop} {a : Act} {w : World}
    (h : wpOp P ops Dead j K (a.put oi.dst v) w) : wpOp P ops Dead j (fun a' w' => Same ops oi a a' ∧ K (a'.put oi.dst v) w') a w := by
  obtain ⟨h1, h2, h3⟩ := Oper.apart_spec hap
  have same0 : Same ops oi a a := ⟨rfl, rfl⟩
  have keep : ∀ u, Same ops oi a (a.put oj.dst u) := fun u => same0.put hsi oj.dst u h3
  unfold wpOp at *
  simp only [hj] at *
  rw [wanted_put oj a oi.dst v h1] at h
  split
  · rename_i hw
    simp only [hw, if_true] at h
    rcases h with h | ⟨_, hl⟩
    case inr => exact (Dead.lets hl).elim
    refine .inl ?_
    unfold Oper.wp at *
    rw [execOp_put oj hsj a oi.dst v h1] at h
    generalize (execOp a.eval oj).run P w = r at *
    cases r with
    | ok n w' =>
      cases n <;> simp only [Oper.upon] at h ⊢
      case value u => exact ⟨keep u, by rw [← Act.put_comm a v u h2]; exact h⟩
      case skip => exact ⟨keep _, by rw [← Act.put_comm a v undef h2]; exact h⟩
      case defer d =>
        refine ⟨Same.put hsi (⟨rfl, rfl⟩ : Same ops oi a { a with defers := d :: a.defers }) _ _ h3, ?_⟩
        rw [← Act.put_comm _ v undef h2, ← Act.put_defers]
        exact h
      case enter f args =>
        refine Calls.mono h fun e w'' he => ?_
        cases e with
        | returned u => exact ⟨keep u, by rw [← Act.put_comm a v u h2]; exact he⟩
        | panicked c => exact he
        | outgrown => exact he
      case row row args => exact Rows.mono h fun u w'' he => ⟨keep u, by rw [← Act.put_comm a v u h2]; exact he⟩
    | halt x w' => cases x <;> simp only [Oper.upon] at h ⊢; exact h
  · rename_i hw
    simp only [hw] at h
    exact ⟨keep _, by rw [← Act.put_comm a v undef h2]; exact h⟩

def noSel (o : Oper) : Bool :=
  match o.op with
  | .select .. => false
  | _ => true
theorem noSel_spec {o : Oper} (h : noSel o = true) (cs : Array SelectCase) (b : Bool) : o.op ≠ .select cs b := by
  intro e
  simp [noSel, e] at h

/-- Two that stand so may change places. -/
theorem wpH_swap {i x : Nat} {oi ox : Oper} {r : List Nat} {D : Held} {a : Act} {w : World} (hi : ops[i]? = some oi) (hx : ops[x]? = some ox) (hsi : noSel oi = true) (hsx : noSel ox = true)
    (hq : quiet P oi = true) (hap : oi.apart ops ox = true) (hc : quiet P ox = true ∨ blind P oi = true ∨ R i x = true) (h : wpH P ops R K (i :: x :: r) D a w) : wpH P ops R K (x :: i :: r) D a w := by
  obtain ⟨h1, h2, h3⟩ := Oper.apart_spec hap
  obtain ⟨o, ho, h⟩ := h
  obtain rfl : o = oi := Option.some.inj (ho.symm.trans hi)
  simp only [hq, if_true] at h
  obtain ⟨v, hy, o', ho', h⟩ := h
  obtain rfl : o' = ox := Option.some.inj (ho'.symm.trans hx)
  refine ⟨o', hx, ?_⟩
  have same_x : Same ops o' a (a.put o.dst v) := Same.put (noSel_spec hsx) (⟨rfl, rfl⟩ : Same ops o' a a) _ _ h1
  by_cases hqx : quiet P o' = true
  · simp only [hqx, if_true] at h ⊢
    obtain ⟨u, hu, h⟩ := h
    have same_x' : Same ops o' (a.put o.dst v) a := ⟨same_x.1.symm, same_x.2.symm⟩
    have same_i : Same ops o a (a.put o'.dst u) := Same.put (noSel_spec hsi) (⟨rfl, rfl⟩ : Same ops o a a) _ _ h3
    refine ⟨u, same_x'.yld hu, o, hi, ?_⟩
    simp only [hq, if_true]
    refine ⟨v, same_i.yld hy, ?_⟩
    rw [same_i.keep, Act.put_comm _ _ _ (fun d hd he => h2 d he hd)]
    refine wpH_mono _ _ _ (fun z hz => ?_) h
    rw [same_x.keep]
    exact keep_swap z hz
  · rw [if_neg hqx] at h ⊢
    have h4 := wpOp_put' hx hap (noSel_spec hsi) (noSel_spec hsx) h
    refine wpOp_mono (fun a' w' ⟨hs, h5, h6⟩ => ⟨h5.mono (fun z hz => ?_), o, hi, ?_⟩) h4
    · unfold Hoist.keep
      split
      · exact List.mem_cons_of_mem _ hz
      · exact hz
    · simp only [hq, if_true]
      refine ⟨v, ?_, ?_⟩
      · rcases hy with ⟨g1, g2, g3⟩ | ⟨g1, g2⟩
        · refine .inl ⟨hs.2.trans g1, ?_, fun hb w'' => by rw [hs.1]; exact g3 hb w''⟩
          rw [hs.1]
          rcases hc with hc | hc | hc
          · exact absurd hc hqx
          · exact g3 hc w'
          · exact h5 (i, execOp a.eval o, v) (by simp [Hoist.keep, g1]) hc
        · exact .inr ⟨hs.2.trans g1, g2⟩
      · rw [hs.keep]
        exact h6

/-- Which stands behind which, and the other conditions, as Bools. -/
def edge (ops : Array Oper) (x y : Nat) : Bool :=
  match ops[x]? with
  | some o => o.after.any fun e => Region.binds .any e && e.on == y
  | none => false
def ancOk (ops : Array Oper) (anc : List (List Nat)) : Bool :=
  (List.range ops.size).all fun x => (anc.getD x []).all fun i => i < x && (List.range x).any fun y => edge ops x y && (y == i || (anc.getD y []).contains i)
def ancs (ops : Array Oper) : List (List Nat) :=
  ops.toList.foldl (fun acc o => acc ++ [((o.after.toList.filter (Region.binds .any ·)).flatMap fun e => e.on :: acc.getD e.on []).eraseDups]) []
def pairOk (P : Program) (ops : Array Oper) (R : Nat → Nat → Bool) (anc : List (List Nat)) (i x : Nat) : Bool :=
  !edge ops i x && i != x && ((anc.getD x []).contains i || (match ops[i]?, ops[x]? with
    | some oi, some ox => quiet P oi && oi.apart ops ox && (quiet P ox || blind P oi || R i x)
    | _, _ => false))
def pairsOk (P : Program) (ops : Array Oper) (R : Nat → Nat → Bool) (anc : List (List Nat)) : List Nat → Bool
  | [] => true
  | i :: r => r.all (fun x => pairOk P ops R anc i x) && pairsOk P ops R anc r
def orderOk (P : Program) (ops : Array Oper) (R : Nat → Nat → Bool) (anc : List (List Nat)) (order : List Nat) : Bool :=
  order.length == ops.size && (List.range ops.size).all (fun j => order.contains j && !edge ops j j) && order.all (fun j => decide (j < ops.size)) &&
  ops.all noSel && ancOk ops anc && pairsOk P ops R anc order

theorem edge_spec {x y : Nat} {o : Oper} (ho : ops[x]? = some o) (h : edge ops x y = true) : ∃ e ∈ o.after, Region.binds .any e = true ∧ e.on = y := by
  simp only [edge, ho] at h
  obtain ⟨e, he, hb⟩ := Array.any_eq_true'.1 h
  simp only [Bool.and_eq_true, beq_iff_eq] at hb
  exact ⟨e, he, hb.1, hb.2⟩
theorem edge_mk {x : Nat} {o : Oper} (ho : ops[x]? = some o) {e : Edge} (he : e ∈ o.after) (hb : Region.binds .any e = true) : edge ops x e.on = true := by
  simp only [edge, ho]
  exact Array.any_eq_true'.2 ⟨e, he, by simp [hb]⟩
/-- Whoever stands behind one that has not come up does not come up. -/
theorem anc_unlisted {anc : List (List Nat)} {listed : Array Bool} (ha : ancOk ops anc = true) (hcl : ∀ x y, x < ops.size → edge ops x y = true → listed.getD x true = true → listed.getD y false = true) (hsz : listed.size = ops.size) {i : Nat} (hi : listed.getD i false = false) :
    ∀ (n x : Nat), x ≤ n → x < ops.size → (anc.getD x []).contains i = true → listed.getD x true = false ∧ ∃ y, edge ops x y = true ∧ listed.getD y false = false := by
  intro n
  induction n with
  | zero =>
    intro x hx hlt hc
    simp only [ancOk, List.all_eq_true, List.mem_range] at ha
    have := ha x hlt i (by simpa using hc)
    simp only [Bool.and_eq_true, decide_eq_true_eq] at this
    omega
  | succ n ih =>
    intro x hx hlt hc
    have ha' := ha
    simp only [ancOk, List.all_eq_true, List.mem_range] at ha'
    have h1 := ha' x hlt i (by simpa using hc)
    simp only [Bool.and_eq_true, decide_eq_true_eq, List.any_eq_true, List.mem_range, Bool.or_eq_true, beq_iff_eq] at h1
    obtain ⟨_, y, hy, he, hor⟩ := h1
    have hyf : listed.getD y false = false := by
      rcases hor with rfl | hor
      · exact hi
      · have := (ih y (by omega) (by omega) hor).1
        have hys : y < listed.size := by omega
        simp [hys] at this ⊢
        exact this
    refine ⟨?_, y, he, hyf⟩
    cases hl : listed.getD x true with
    | false => rfl
    | true => have := hcl x y hlt he hl; rw [hyf] at this; cases this

theorem pairsOk_pairwise {anc : List (List Nat)} : ∀ {order : List Nat}, pairsOk P ops R anc order = true → order.Pairwise (fun i x => pairOk P ops R anc i x = true)
  | [], _ => List.Pairwise.nil
  | i :: r, h => by
    simp only [pairsOk, Bool.and_eq_true, List.all_eq_true] at h
    exact List.Pairwise.cons h.1 (pairsOk_pairwise h.2)

/-- One that may come up now comes first. -/
theorem wpH_front {anc : List (List Nat)} {x : Nat} (hns : ops.all noSel = true) (hx : x < ops.size) : ∀ (c : List Nat), c.Pairwise (fun i x => pairOk P ops R anc i x = true) → x ∈ c → (∀ i ∈ c, (anc.getD x []).contains i = false) → (∀ i ∈ c, i < ops.size) →
    ∀ D a w, wpH P ops R K c D a w → wpH P ops R K (x :: c.erase x) D a w := by
  intro c
  induction c with
  | nil => intro _ h; cases h
  | cons i c ih =>
    intro hp hm hf hlt D a w h
    by_cases e : i = x
    · subst e
      simpa using h
    · have hxc : x ∈ c := by
        rcases List.mem_cons.1 hm with h | h
        · exact absurd h.symm e
        · exact h
      rw [List.erase_cons_tail (by simpa using e)]
      obtain ⟨hp1, hp2⟩ := List.pairwise_cons.1 hp
      have h2 : wpH P ops R K (i :: x :: c.erase x) D a w := wpH_under (ih hp2 hxc (fun j hj => hf j (List.mem_cons_of_mem _ hj)) (fun j hj => hlt j (List.mem_cons_of_mem _ hj))) h
      have h3 := hp1 x hxc
      have hilt := hlt i List.mem_cons_self
      have hoi : ops[i]? = some ops[i] := Array.getElem?_eq_getElem hilt
      have hox : ops[x]? = some ops[x] := Array.getElem?_eq_getElem hx
      have hn := Array.all_eq_true_iff_forall_mem.1 hns
      simp only [pairOk, hf i List.mem_cons_self, hoi, hox, Bool.false_or, Bool.and_eq_true, Bool.or_eq_true] at h3
      obtain ⟨_, ⟨h4, h5⟩, h6⟩ := h3
      exact wpH_swap hoi hox (hn _ (Array.getElem_mem _)) (hn _ (Array.getElem_mem _)) h4 h5 (by rcases h6 with (h | h) | h <;> simp [h]) h2

theorem wpAny_of_wpH {anc : List (List Nat)} {Q : Exit → Act → World → Prop} (hK : ∀ a w, K a w → Q .normal a w) (hns : ops.all noSel = true) (ha : ancOk ops anc = true) (hself : ∀ j, j < ops.size → edge ops j j = false) :
    ∀ (n : Nat) (c : List Nat) (listed : Array Bool) (D : Held) (a : Act) (w : World), c.length = n → c.Pairwise (fun i x => pairOk P ops R anc i x = true) → (∀ i ∈ c, i < ops.size) → listed.size = ops.size →
      (∀ j, j < ops.size → (listed.getD j true = false ↔ j ∈ c)) → (∀ x y, x < ops.size → edge ops x y = true → listed.getD x true = true → listed.getD y false = true) →
      (∀ x y, x < ops.size → edge ops x y = true → y < ops.size) →
      wpH P ops R K c D a w → wpAny P .any ops Q n listed a w := by
  intro n
  induction n with
  | zero =>
    intro c listed D a w hl hp hlt hsz hls hcl hin h
    obtain rfl := List.eq_nil_of_length_eq_zero hl
    refine ⟨?_, hK _ _ h⟩
    cases hr : Region.ready .any ops listed with
    | nil => rfl
    | cons z zs =>
      obtain ⟨h0, o, ho, _⟩ := mem_ready.1 (show z ∈ Region.ready .any ops listed by rw [hr]; exact List.mem_cons_self)
      have := (hls z (Array.getElem?_eq_some_iff.1 ho).1).1 h0
      cases this
  | succ n ih =>
    intro c listed D a w hl hp hlt hsz hls hcl hin h
    have toF : ∀ j, j < ops.size → listed.getD j false = listed.getD j true := fun j hj => by simp [show j < listed.size by omega]
    refine ⟨fun hr => ?_, fun x hx => ?_⟩
    · exfalso
      cases c with
      | nil => cases hl
      | cons z zs =>
        have hz := hlt z List.mem_cons_self
        have hoz : ops[z]? = some ops[z] := Array.getElem?_eq_getElem hz
        have : z ∈ Region.ready .any ops listed := mem_ready.2 ⟨(hls z hz).2 List.mem_cons_self, _, hoz, fun e he hb => by
          have hed := edge_mk hoz he hb
          have hlt' := hin z e.on hz hed
          rw [toF _ hlt']
          cases hle : listed.getD e.on true with
          | true => rfl
          | false =>
            have hmem := (hls e.on hlt').1 hle
            rcases List.mem_cons.1 hmem with heq | hmem
            · rw [heq, hself z hz] at hed; cases hed
            · have := (List.pairwise_cons.1 hp).1 e.on hmem
              simp only [pairOk, hed, Bool.not_true, Bool.false_and] at this
              cases this⟩
        rw [hr] at this
        cases this
    · obtain ⟨h0, o, ho, hall⟩ := mem_ready.1 hx
      have hxlt := (Array.getElem?_eq_some_iff.1 ho).1
      have hxc := (hls x hxlt).1 h0
      have hnd : c.Nodup := hp.imp (fun {i y} hiy => by
        simp only [pairOk, Bool.and_eq_true, bne_iff_ne] at hiy
        exact hiy.1.2)
      have hf : ∀ i ∈ c, (anc.getD x []).contains i = false := fun i hi => by
        cases hc : (anc.getD x []).contains i with
        | false => rfl
        | true =>
          exfalso
          have hil : listed.getD i false = false := by rw [toF _ (hlt i hi)]; exact (hls i (hlt i hi)).2 hi
          obtain ⟨_, y, hy, hyl⟩ := anc_unlisted ha hcl hsz hil x x (Nat.le_refl _) hxlt hc
          obtain ⟨e, he, hb, rfl⟩ := edge_spec ho hy
          rw [hall e he hb] at hyl
          cases hyl
      have h1 := wpH_front hns hxlt c hp hxc hf hlt D a w h
      have hlen : (c.erase x).length = n := by rw [List.length_erase_of_mem hxc]; omega
      have hp' : (c.erase x).Pairwise (fun i x => pairOk P ops R anc i x = true) := hp.sublist List.erase_sublist
      have hlt' : ∀ i ∈ c.erase x, i < ops.size := fun i hi => hlt i (List.mem_of_mem_erase hi)
      have hsz' : (listed.setIfInBounds x true).size = ops.size := by simpa using hsz
      have hls' : ∀ j, j < ops.size → ((listed.setIfInBounds x true).getD j true = false ↔ j ∈ c.erase x) := fun j hj => by
        by_cases e : x = j
        · subst e
          have : ¬ x ∈ c.erase x := fun hm => (List.Nodup.mem_erase_iff hnd).1 hm |>.1 rfl
          simp [show x < listed.size by omega, this]
        · rw [getD_set_ne true e, hls j hj, List.Nodup.mem_erase_iff hnd]
          exact ⟨fun h => ⟨fun e' => e e'.symm, h⟩, fun h => h.2⟩
      have hcl' : ∀ p y, p < ops.size → edge ops p y = true → (listed.setIfInBounds x true).getD p true = true → (listed.setIfInBounds x true).getD y false = true := fun p y hp' he hl' => by
        by_cases e : x = p
        · subst e
          obtain ⟨ed, hed, hb, rfl⟩ := edge_spec ho he
          exact getD_set_true (hall ed hed hb)
        · rw [getD_set_ne true e] at hl'
          exact getD_set_true (hcl p y hp' he hl')
      obtain ⟨o', ho', h2⟩ := h1
      obtain rfl : o' = o := Option.some.inj (ho'.symm.trans ho)
      split at h2
      · obtain ⟨v, hy, h3⟩ := h2
        exact hy.wpOp ho (ih _ _ _ _ _ hlen hp' hlt' hsz' hls' hcl' hin h3)
      · exact wpOp_dead (fun a' w' ⟨_, h3⟩ => ih _ _ _ _ _ hlen hp' hlt' hsz' hls' hcl' hin h3) h2

/-- **A region that draws its order, walked in one order.** -/
theorem wp_region_order {id : Nat} {Q : Exit → Act → World → Prop} {a : Act} {w : World} (anc : List (List Nat)) (order : List Nat) (hm : P.follows .mixedOrders = true) (hin : (List.range ops.size).all (fun x => match ops[x]? with | some o => o.after.all (fun e => !Region.binds .any e || e.on < ops.size) | none => true) = true)
    (hok : orderOk P ops R anc order = true) (h : wpH P ops R (Q .normal) order [] a { w with drawn := w.drawn + 1 }) : (Code.region id ops true).wp P Q a w := by
  simp only [orderOk, Bool.and_eq_true, beq_iff_eq, List.all_eq_true, List.mem_range, Bool.not_eq_true', decide_eq_true_eq, List.contains_iff_mem] at hok
  obtain ⟨⟨⟨⟨⟨h1, h2⟩, h3⟩, h4⟩, h5⟩, h6⟩ := hok
  refine wp_region_any hm ?_
  rw [← h1]
  refine wpAny_of_wpH (anc := anc) (R := R) (K := Q .normal) (fun _ _ h => h) h4 h5 (fun j hj => (h2 j hj).2) _ order _ [] a _ rfl (pairsOk_pairwise h6) h3 (by simp [h1]) (fun j hj => ?_) (fun x y hx he hl => ?_) (fun x y hx he => ?_) h
  · simp [h1, hj, (h2 j hj).1]
  · simp [h1, hx] at hl
  · have hox : ops[x]? = some ops[x] := Array.getElem?_eq_getElem hx
    obtain ⟨e, hed, hb, rfl⟩ := edge_spec hox he
    have := List.all_eq_true.1 hin x (List.mem_range.2 hx)
    rw [hox] at this
    have := Array.all_eq_true_iff_forall_mem.1 this e hed
    simpa [hb] using this

/-! ### 4. The order as a list that the walk goes through -/
def pick (ops : Array Oper) (order : List Nat) : List Oper := order.filterMap (ops[·]?)
def typedAll (ops : Array Oper) (l : List Oper) (a : Act) : Bool := l.all fun o => typed a.eval o || !wantedAt ops o a
def Reload (P : Program) (ops : Array Oper) (a : Act) (w : World) (l : Nat) : Prop :=
  match ops[l]? with
  | some o => wantedAt ops o a = true → (execOp a.eval o).run P w = .ok (.value (match o.dst with | some d => a.tmps.getD d undef | none => undef)) w
  | none => True
def racing (R : Nat → Nat → Bool) (done seg : List Nat) : List Nat :=
  match seg.getLast? with
  | some e => done.filter fun l => R l e
  | none => []
def wpU (P : Program) (ops : Array Oper) (R : Nat → Nat → Bool) (K : Act → World → Prop) : List Nat → List (List Nat) → Act → World → Prop
  | _, [], a, w => K a w
  | done, seg :: more, a, w => wpList P ops (Exit.then (fun a' w' => typedAll ops (pick ops seg) a' = true ∧ (∀ l ∈ racing R (done ++ seg) seg, Reload P ops a' w' l) ∧ wpU P ops R K (done ++ seg) more a' w') Dead) (pick ops seg) a w

def needTyped (o : Oper) : Bool :=
  match o.op with
  | .binOp .. | .convert .. | .nilCheck _ => true
  | _ => false
theorem typed_of {o : Oper} (h : needTyped o = false) (ρ : Operand → Value) : typed ρ o = true := by
  obtain ⟨dst, op, type, pos, after, guard⟩ := o
  cases op <;> first | rfl | cases h
/-- What stands later in the order leaves alone what an earlier one looks at, where that is asked again. -/
def stays (ops : Array Oper) (racy : Nat → Bool) (i j : Nat) : Bool :=
  match ops[i]?, ops[j]? with
  | some oi, some oj => match oj.dst with
    | some d => (!(needTyped oi || racy i) || !(oi.looksAt ops).contains d) && (!racy i || oi.dst != some d)
    | none => true
  | _, _ => false
def staysAll (ops : Array Oper) (racy : Nat → Bool) : List Nat → Bool
  | [] => true
  | i :: r => r.all (fun j => stays ops racy i j) && staysAll ops racy r
/-- Only a segment's last operation races. -/
def segOk (R : Nat → Nat → Bool) (order : List Nat) : List Nat → Bool
  | [] => true
  | [_] => true
  | j :: r => order.all (fun l => !R l j) && segOk R order r

theorem eval_same {a a' : Act} {ops : Array Oper} {o : Oper} (h : ∀ t, t ∈ o.looksAt ops → a'.tmps.getD t undef = a.tmps.getD t undef) : ∀ x ∈ o.op.operands, a'.eval x = a.eval x := by
  intro x hx
  cases x with
  | tmp t =>
    show a'.tmps.getD t undef = a.tmps.getD t undef
    exact h t (List.mem_append_left _ (List.mem_filterMap.2 ⟨.tmp t, by simpa using hx, rfl⟩))
  | _ => rfl
theorem yielded_same {a a' : Act} {ops : Array Oper} {o : Oper} (h : ∀ t, t ∈ o.looksAt ops → a'.tmps.getD t undef = a.tmps.getD t undef) : wantedAt ops o a' = wantedAt ops o a := by
  unfold wantedAt Region.wanted
  cases hg : o.guard with
  | none => rfl
  | some gw =>
    obtain ⟨g, want⟩ := gw
    have : yielded ops a'.tmps g = yielded ops a.tmps g := by
      unfold yielded
      cases ht : (ops[g]?).bind (·.dst) with
      | none => rfl
      | some t =>
        have := h t (by simp [Oper.looksAt, hg, ht])
        simp only [Array.getD_eq_getD_getElem?] at this
        simp only [Option.bind_some]
        cases h1 : a'.tmps[t]? <;> cases h2 : a.tmps[t]? <;> simp only [h1, h2, Option.getD_some, Option.getD_none] at this ⊢ <;> first | rfl | (subst this; rfl) | skip
    simp only [this]

theorem put_other {a : Act} {dst : Option Tmp} {v : Value} {t : Tmp} (h : dst ≠ some t) : (a.put dst v).tmps.getD t undef = a.tmps.getD t undef := by
  cases dst with
  | none => rfl
  | some d =>
    have : d ≠ t := fun e => h (by rw [e])
    simp [Act.put, Array.getElem?_setIfInBounds_ne this]

/-- A walk to the end comes to an end. -/
theorem reach {K : Act → World → Prop} : ∀ (l : List Oper) (a : Act) (w : World), wpList P ops (Exit.then K Dead) l a w →
    ∃ a' w', K a' w' ∧ ∀ t, (∀ o ∈ l, o.dst ≠ some t) → a'.tmps.getD t undef = a.tmps.getD t undef
  | [], a, w, h => ⟨a, w, h, fun _ _ => rfl⟩
  | o :: l, a, w, h => by
    have lift : ∀ (a1 : Act) (w1 : World), (∀ t, o.dst ≠ some t → a1.tmps.getD t undef = a.tmps.getD t undef) → wpList P ops (Exit.then K Dead) l a1 w1 →
        ∃ a' w', K a' w' ∧ ∀ t, (∀ o' ∈ o :: l, o'.dst ≠ some t) → a'.tmps.getD t undef = a.tmps.getD t undef := fun a1 w1 h1 h2 => by
      obtain ⟨a', w', hk, ht⟩ := reach l a1 w1 h2
      exact ⟨a', w', hk, fun t hn => (ht t (fun o' ho' => hn o' (List.mem_cons_of_mem _ ho'))).trans (h1 t (hn o List.mem_cons_self))⟩
    unfold wpList at h
    split at h
    · rcases h with h | ⟨_, hl⟩
      · unfold Oper.wp at h
        generalize (execOp a.eval o).run P w = r at h
        cases r with
        | ok n w' =>
          cases n <;> simp only [Oper.upon] at h
          case value u => exact lift _ _ (fun t ht => put_other ht) h
          case skip => exact lift _ _ (fun t ht => put_other ht) h
          case defer d => exact lift _ _ (fun t ht => put_other (a := { a with defers := d :: a.defers }) ht) h
          case enter f args =>
            obtain ⟨e, w'', _, he, _⟩ := h []
            cases e with
            | returned u => exact lift _ _ (fun t ht => put_other ht) he
            | panicked c => exact he.elim
            | outgrown => obtain ⟨_, _, x⟩ := he; exact x.elim
          case row row args =>
            obtain ⟨u, w'', he, _⟩ := h default []
            exact lift _ _ (fun t ht => put_other ht) he
        | halt x w' =>
          cases x <;> simp only [Oper.upon] at h
          exact h.elim
      · obtain ⟨_, _, x⟩ := hl
        exact x.elim
    · exact lift _ _ (fun t ht => put_other ht) h

/-- What has been taken reads so in the frame. -/
def Cons (ops : Array Oper) (racy : Nat → Bool) (done : List Nat) (D : Held) (a : Act) : Prop :=
  ∀ h ∈ D, h.1 ∈ done ∧ (racy h.1 = true → ∃ o d, ops[h.1]? = some o ∧ o.dst = some d ∧ d < a.tmps.size ∧ wantedAt ops o a = true ∧ h.2.1 = execOp a.eval o ∧ h.2.2 = a.tmps.getD d undef)
theorem put_size (a : Act) (dst : Option Tmp) (v : Value) : (a.put dst v).tmps.size = a.tmps.size := by cases dst <;> simp [Act.put]

theorem Cons.put {racy : Nat → Bool} {done : List Nat} {D : Held} {a a' : Act} (hns : ops.all noSel = true) {j : Nat} {oj : Oper} (hj : ops[j]? = some oj) (hst : ∀ i ∈ done, stays ops racy i j = true)
    (hsz : a'.tmps.size = a.tmps.size) (hp : ∀ t, oj.dst ≠ some t → a'.tmps.getD t undef = a.tmps.getD t undef) (h : Cons ops racy done D a) : Cons ops racy (done ++ [j]) D a' := by
  intro x hx
  obtain ⟨h1, h2⟩ := h x hx
  refine ⟨List.mem_append_left _ h1, fun hr => ?_⟩
  obtain ⟨o, d, ho, hd, hlt, hw, h3, h4⟩ := h2 hr
  have hs := hst x.1 h1
  simp only [stays, ho, hj, hr, Bool.or_true, Bool.not_true, Bool.false_or, Bool.and_eq_true] at hs
  have hlook : ∀ t, t ∈ o.looksAt ops → a'.tmps.getD t undef = a.tmps.getD t undef := fun t ht => hp t fun e => by
    rw [e] at hs
    simp only [Bool.and_eq_true, Bool.not_eq_true', List.contains_eq_mem, decide_eq_false_iff_not] at hs
    exact hs.1 ht
  have hdst : a'.tmps.getD d undef = a.tmps.getD d undef := hp d fun e => by
    rw [e] at hs
    simp only [Bool.and_eq_true, bne_iff_ne, ne_eq] at hs
    exact hs.2 hd
  have hn := Array.all_eq_true_iff_forall_mem.1 hns o (Array.mem_of_getElem? ho)
  refine ⟨o, d, ho, hd, by rw [hsz]; exact hlt, (yielded_same hlook).trans hw, ?_, by rw [hdst]; exact h4⟩
  rw [h3]
  exact (execOp_congr o (noSel_spec hn) (eval_same hlook)).symm

theorem wpOp_track {i : Nat} {o : Oper} (hi : ops[i]? = some o) {Q : Exit → Act → World → Prop} {K : Act → World → Prop} {a : Act} {w : World} (h : wpOp P ops Q i K a w) :
    wpOp P ops Q i (fun a' w' => (a'.tmps.size = a.tmps.size ∧ ∀ t, o.dst ≠ some t → a'.tmps.getD t undef = a.tmps.getD t undef) ∧ K a' w') a w := by
  have key : ∀ u, (a.put o.dst u).tmps.size = a.tmps.size ∧ ∀ t, o.dst ≠ some t → (a.put o.dst u).tmps.getD t undef = a.tmps.getD t undef := fun u => ⟨put_size _ _ _, fun t ht => put_other ht⟩
  have keyd : ∀ (ds : List Deferred) u, (({ a with defers := ds } : Act).put o.dst u).tmps.size = a.tmps.size ∧ ∀ t, o.dst ≠ some t → (({ a with defers := ds } : Act).put o.dst u).tmps.getD t undef = a.tmps.getD t undef := fun ds u => ⟨put_size _ _ _, fun t ht => put_other (a := { a with defers := ds }) ht⟩
  unfold wpOp at *
  simp only [hi] at *
  split
  · rename_i hw
    simp only [hw, if_true] at h
    rcases h with h | h
    · refine .inl ?_
      unfold Oper.wp at *
      generalize (execOp a.eval o).run P w = r at h ⊢
      cases r with
      | ok n w' =>
        cases n <;> simp only [Oper.upon] at h ⊢
        case enter f args =>
          refine Calls.mono h fun e w'' he => ?_
          cases e with
          | returned v => exact ⟨key _, he⟩
          | panicked c => exact he
          | outgrown => exact he
        all_goals first
          | exact ⟨key _, h⟩
          | exact ⟨keyd _ _, h⟩
          | exact Rows.mono h fun u w'' he => ⟨key _, he⟩
      | halt x w' => cases x <;> simp only [Oper.upon] at h ⊢; exact h
    · exact .inr h
  · rename_i hw
    simp only [hw] at h
    exact ⟨key _, h⟩
theorem wpOp_of_wpList {i : Nat} {o : Oper} (hi : ops[i]? = some o) {K : Act → World → Prop} {l : List Oper} {a : Act} {w : World} (h : wpList P ops (Exit.then K Dead) (o :: l) a w) : wpOp P ops Dead i (wpList P ops (Exit.then K Dead) l) a w := by
  unfold wpList at h
  unfold wpOp
  simp only [hi]
  split at h <;> rename_i hw
  · rw [if_pos hw]
    rcases h with h | ⟨_, hl⟩
    · refine .inl ?_
      unfold Oper.wp at *
      generalize (execOp a.eval o).run P w = r at h ⊢
      cases r with
      | ok n w' =>
        cases n <;> simp only [Oper.upon] at h ⊢
        case enter f args =>
          refine Calls.mono h fun e w'' he => ?_
          cases e with
          | returned v => exact he
          | panicked c => exact he.elim
          | outgrown => obtain ⟨_, _, x⟩ := he; exact x.elim
        all_goals exact h
      | halt x w' =>
        cases x <;> simp only [Oper.upon] at h ⊢
        exact h.elim
    · obtain ⟨_, _, x⟩ := hl
      exact x.elim
  · rw [if_neg hw]
    exact h

theorem racing_mem {done seg : List Nat} {e l : Nat} (he : seg.getLast? = some e) (hl : l ∈ done) (hr : R l e = true) : l ∈ racing R done seg := by
  simp only [racing, he]
  exact List.mem_filter.2 ⟨hl, hr⟩

/-- Through a segment. -/
theorem wpH_of_seg {racy : Nat → Bool} {Kend : Act → World → Prop} {rest : List Nat} (hns : ops.all noSel = true) (all : List Nat) (last : Option Nat) :
    ∀ (s2 done : List Nat) (D : Held) (a : Act) (w : World), done ++ s2 = all → (s2 ≠ [] → s2.getLast? = last) →
      (∀ i ∈ s2, i < ops.size) → (∀ l e, R l e = true → racy l = true) → staysAll ops racy s2 = true → (∀ i ∈ done, ∀ j ∈ s2, stays ops racy i j = true) →
      segOk R all s2 = true → (∀ i ∈ s2, ∀ o, ops[i]? = some o → racy i = true → ∃ d, o.dst = some d) →
      (∀ i ∈ s2, ∀ o d, ops[i]? = some o → needTyped o = true ∨ racy i = true → o.dst = some d → d ∉ o.looksAt ops) →
      (∀ a' w', Kend a' w' → typedAll ops (pick ops s2) a' = true) →
      (∀ a' w', Kend a' w' → ∀ e, last = some e → ∀ l ∈ all, R l e = true → Reload P ops a' w' l) →
      (∀ D a' w', Kend a' w' → a'.tmps.size = a.tmps.size → Cons ops racy all D a' → wpH P ops R K rest D a' w') →
      (∀ i ∈ s2, ∀ o d, ops[i]? = some o → o.dst = some d → d < a.tmps.size) →
      Cons ops racy done D a →
      wpList P ops (Exit.then Kend Dead) (pick ops s2) a w → wpH P ops R K (s2 ++ rest) D a w := by
  intro s2
  induction s2 with
  | nil =>
    intro done D a w hd _ _ _ _ _ _ _ _ _ _ hK _ hC h
    rw [List.append_nil] at hd
    exact hK D a w h rfl (hd ▸ hC)
  | cons i s2 ih =>
    intro done D a w hd hlast hlt hracy hst hst' hseg hdst hself hty hre hK hsz hC h
    have hi := hlt i List.mem_cons_self
    have hoi : ops[i]? = some ops[i] := Array.getElem?_eq_getElem hi
    have hpick : pick ops (i :: s2) = ops[i] :: pick ops s2 := by simp [pick, hoi]
    rw [hpick] at h
    have hst0 := hst
    simp only [staysAll, Bool.and_eq_true, List.all_eq_true] at hst
    have hstI : ∀ k ∈ done, stays ops racy k i = true := fun k hk => hst' k hk i List.mem_cons_self
    have hd2 : (done ++ [i]) ++ s2 = all := by rw [← hd]; simp
    have hlast2 : s2 ≠ [] → s2.getLast? = last := fun hne => by
      rw [← hlast (by simp)]
      cases s2 with
      | nil => exact absurd rfl hne
      | cons j s3 => simp [List.getLast?_cons_cons]
    have hst2 : ∀ k ∈ done ++ [i], ∀ j ∈ s2, stays ops racy k j = true := fun k hk j hj => by
      rcases List.mem_append.1 hk with hk | hk
      · exact hst' k hk j (List.mem_cons_of_mem _ hj)
      · obtain rfl := List.mem_singleton.1 hk
        exact hst.1 j hj
    have hseg2 : segOk R all s2 = true := by
      cases s2 with
      | nil => rfl
      | cons j s3 => simp only [segOk, Bool.and_eq_true] at hseg; exact hseg.2
    have hty2 : ∀ a' w', Kend a' w' → typedAll ops (pick ops s2) a' = true := fun a' w' hk => by
      have := hty a' w' hk
      rw [hpick] at this
      simp only [typedAll, List.all_cons, Bool.and_eq_true] at this
      exact this.2
    have go : ∀ (D' : Held) (a' : Act) (w' : World), a'.tmps.size = a.tmps.size → Cons ops racy (done ++ [i]) D' a' → wpList P ops (Exit.then Kend Dead) (pick ops s2) a' w' → wpH P ops R K (s2 ++ rest) D' a' w' := fun D' a' w' hs hc hl =>
      ih (done ++ [i]) D' a' w' hd2 hlast2 (fun j hj => hlt j (List.mem_cons_of_mem _ hj)) hracy hst.2 hst2 hseg2 (fun j hj => hdst j (List.mem_cons_of_mem _ hj)) (fun j hj => hself j (List.mem_cons_of_mem _ hj)) hty2 hre
        (fun D a'' w'' h1 h2 h3 => hK D a'' w'' h1 (h2.trans hs) h3) (fun j hj o d ho hdd => by rw [hs]; exact hsz j (List.mem_cons_of_mem _ hj) o d ho hdd) hc hl
    have hh := wpOp_of_wpList hoi h
    refine ⟨ops[i], hoi, ?_⟩
    split
    · rename_i hq
      have hnx : ∀ v, wpList P ops (Exit.then Kend Dead) (pick ops s2) (a.put ops[i].dst v) w → Yld P ops ops[i] a w v → ∃ v, Yld P ops ops[i] a w v ∧ wpH P ops R K (s2 ++ rest) (keep ops i ops[i] a v D) (a.put ops[i].dst v) w := fun v hv hy => by
        refine ⟨v, hy, go _ _ w (put_size _ _ _) ?_ hv⟩
        intro x hx
        unfold Hoist.keep at hx
        have old : x ∈ D → x.1 ∈ done ++ [i] ∧ (racy x.1 = true → ∃ o d, ops[x.1]? = some o ∧ o.dst = some d ∧ d < (a.put ops[i].dst v).tmps.size ∧ wantedAt ops o (a.put ops[i].dst v) = true ∧ x.2.1 = execOp (a.put ops[i].dst v).eval o ∧ x.2.2 = (a.put ops[i].dst v).tmps.getD d undef) :=
          fun hx => hC.put hns hoi hstI (put_size _ _ _) (fun t ht => put_other ht) x hx
        split at hx
        · rename_i hw
          rcases List.mem_cons.1 hx with rfl | hx
          · refine ⟨by simp, fun hr => ?_⟩
            obtain ⟨d, hdd⟩ := hdst i List.mem_cons_self _ hoi hr
            have hnl := hself i List.mem_cons_self _ d hoi (.inr hr) hdd
            have hlt' := hsz i List.mem_cons_self _ d hoi hdd
            have hlook : ∀ t, t ∈ ops[i].looksAt ops → (a.put ops[i].dst v).tmps.getD t undef = a.tmps.getD t undef := fun t ht => put_other (fun e => by rw [hdd] at e; cases e; exact hnl ht)
            have hn := Array.all_eq_true_iff_forall_mem.1 hns _ (Array.mem_of_getElem? hoi)
            refine ⟨ops[i], d, hoi, hdd, by rw [put_size]; exact hlt', (yielded_same hlook).trans hw, (execOp_congr _ (noSel_spec hn) (eval_same hlook)).symm, ?_⟩
            rw [hdd]
            simp [Act.put, hlt']
          · exact old hx
        · exact old hx
      -- the values that it wants
      have htyped : wantedAt ops ops[i] a = true → typed a.eval ops[i] = true := fun hw => by
        cases hnt : needTyped ops[i] with
        | false => exact typed_of hnt _
        | true =>
          obtain ⟨a', w', hk, ht⟩ := reach _ _ _ h
          have h1 := hty a' w' hk
          rw [hpick] at h1
          simp only [typedAll, List.all_cons, Bool.and_eq_true, Bool.or_eq_true, Bool.not_eq_true'] at h1
          have hlook : ∀ t, t ∈ ops[i].looksAt ops → a'.tmps.getD t undef = a.tmps.getD t undef := fun t htl => ht t fun o ho e => by
            rcases List.mem_cons.1 ho with rfl | ho
            · exact hself i List.mem_cons_self _ t hoi (.inl hnt) e htl
            · obtain ⟨j, hj, hjo⟩ := List.mem_filterMap.1 ho
              have := hst.1 j hj
              simp only [stays, hoi, hjo, e, hnt, Bool.true_or, Bool.not_true, Bool.false_or, Bool.and_eq_true, Bool.not_eq_true', List.contains_eq_mem, decide_eq_false_iff_not] at this
              exact this.1 htl
          rcases h1.1 with h1 | h1
          · have he := eval_same hlook
            rw [← h1]
            have hn : ∀ x ∈ ops[i].op.operands, a.eval x = a'.eval x := fun x hx => (he x hx).symm
            unfold typed
            cases hop : ops[i].op <;> rw [hop] at hn <;> simp only [Op.operands] at hn <;> dsimp only
            case binOp op t x y t' => rw [hn x (by simp), hn y (by simp)]
            case convert s d x => rw [hn x (by simp)]
            case nilCheck x => rw [hn x (by simp)]
          · rw [yielded_same hlook, hw] at h1
            cases h1
      unfold wpOp at hh
      simp only [hoi] at hh
      by_cases hw : wantedAt ops ops[i] a = true
      · have hw' : Region.wanted ops[i] (yielded ops a.tmps) = true := hw
        rw [if_pos hw'] at hh
        rcases hh with hh | ⟨_, hl⟩
        · unfold Oper.wp at hh
          have run : (∃ v, (execOp a.eval ops[i]).run P w = .ok (.value v) w ∧ (blind P ops[i] = true → ∀ w', (execOp a.eval ops[i]).run P w' = .ok (.value v) w')) ∨ (∃ x w', (execOp a.eval ops[i]).run P w = .halt x w') := by
            by_cases hb : blind P ops[i] = true
            · rcases blind_run hb (htyped hw) with ⟨v, hv⟩ | hn
              · exact .inl ⟨v, hv w, fun _ => hv⟩
              · exact .inr (hn w)
            · have hp : peek ops[i] = true := by simpa [quiet, hb] using hq
              rcases peek_run (P := P) hp a.eval w with ⟨v, hv⟩ | hn
              · exact .inl ⟨v, hv, fun h => absurd h hb⟩
              · exact .inr hn
          rcases run with ⟨v, hv, hv'⟩ | ⟨x, w', hx⟩
          · rw [hv] at hh
            exact hnx v hh (.inl ⟨hw, hv, hv'⟩)
          · rw [hx] at hh
            cases x <;> simp only [Oper.upon] at hh
            exact hh.elim
        · exact (Dead.lets hl).elim
      · have hw' : ¬ Region.wanted ops[i] (yielded ops a.tmps) = true := hw
        rw [if_neg hw'] at hh
        exact hnx undef hh (.inr ⟨by simpa using hw, rfl⟩)
    · rename_i hq
      refine wpOp_mono (fun a' w' ⟨⟨h1, h2⟩, h3⟩ => ?_) (wpOp_track hoi hh)
      have hC' := hC.put hns hoi hstI h1 h2
      refine ⟨fun x hx hr => ?_, go D a' w' h1 hC' h3⟩
      have hxd := (hC x hx).1
      have hxall : x.1 ∈ all := by rw [← hd]; exact List.mem_append_left _ hxd
      cases s2 with
      | cons j s3 =>
        simp only [segOk, Bool.and_eq_true, List.all_eq_true, Bool.not_eq_true'] at hseg
        have := hseg.1 x.1 hxall
        rw [hr] at this
        cases this
      | nil =>
        have hk : Kend a' w' := h3
        have hl : last = some i := by rw [← hlast (by simp)]; rfl
        have h4 := hre a' w' hk i hl x.1 hxall hr
        obtain ⟨o, d, ho, hdd, _, hw, h5, h6⟩ := (hC' x hx).2 (hracy _ _ hr)
        simp only [Reload, ho, hdd] at h4
        rw [h5, h6]
        exact h4 hw

def segsOk (R : Nat → Nat → Bool) : List Nat → List (List Nat) → Bool
  | _, [] => true
  | done, s :: more => segOk R (done ++ s) s && segsOk R (done ++ s) more
def selfOk (ops : Array Oper) (racy : Nat → Bool) (n : Nat) : Bool :=
  (List.range ops.size).all fun i => match ops[i]? with
    | some o => match o.dst with
      | some d => d < n && (!(needTyped o || racy i) || !(o.looksAt ops).contains d)
      | none => !racy i
    | none => true
theorem staysAll_spec {racy : Nat → Bool} : ∀ {x y : List Nat}, staysAll ops racy (x ++ y) = true → staysAll ops racy x = true ∧ staysAll ops racy y = true ∧ ∀ i ∈ x, ∀ j ∈ y, stays ops racy i j = true
  | [], y, h => ⟨rfl, h, by simp⟩
  | i :: x, y, h => by
    simp only [List.cons_append, staysAll, Bool.and_eq_true, List.all_append, List.all_eq_true] at h
    obtain ⟨h1, h2, h3⟩ := staysAll_spec h.2
    refine ⟨by simp only [staysAll, Bool.and_eq_true, List.all_eq_true]; exact ⟨h.1.1, h1⟩, h2, fun k hk j hj => ?_⟩
    rcases List.mem_cons.1 hk with rfl | hk
    · exact h.1.2 j hj
    · exact h3 k hk j hj

theorem wpH_of_wpU {racy : Nat → Bool} {n : Nat} (hns : ops.all noSel = true) (hracy : ∀ l e, R l e = true → racy l = true) (hself : selfOk ops racy n = true) :
    ∀ (segs : List (List Nat)) (done : List Nat) (D : Held) (a : Act) (w : World),
      (∀ i ∈ segs.flatten, i < ops.size) → staysAll ops racy segs.flatten = true → (∀ i ∈ done, ∀ j ∈ segs.flatten, stays ops racy i j = true) →
      segsOk R done segs = true → a.tmps.size = n →
      Cons ops racy done D a → wpU P ops R K done segs a w → wpH P ops R K segs.flatten D a w
  | [], done, D, a, w, _, _, _, _, _, _, h => h
  | seg :: more, done, D, a, w, hlt, hst, hst', hseg, hsz, hC, h => by
    rw [List.flatten_cons] at hlt hst hst' ⊢
    obtain ⟨hs1, hs2, hs3⟩ := staysAll_spec hst
    simp only [segsOk, Bool.and_eq_true] at hseg
    simp only [selfOk, List.all_eq_true, List.mem_range] at hself
    have selfAt : ∀ i o d, ops[i]? = some o → o.dst = some d → d < n ∧ (needTyped o = true ∨ racy i = true → d ∉ o.looksAt ops) := fun i o d ho hd => by
      have := hself i (Array.getElem?_eq_some_iff.1 ho).1
      simp only [ho, hd, Bool.and_eq_true, decide_eq_true_eq, Bool.or_eq_true, Bool.not_eq_true', Bool.or_eq_false_iff, List.contains_eq_mem, decide_eq_false_iff_not] at this
      refine ⟨this.1, fun h hm => ?_⟩
      rcases this.2 with h' | h'
      · rcases h with h | h <;> simp [h'.1, h'.2] at h
      · exact h' hm
    refine wpH_of_seg (racy := racy) (Kend := fun a' w' => typedAll ops (pick ops seg) a' = true ∧ (∀ l ∈ racing R (done ++ seg) seg, Reload P ops a' w' l) ∧ wpU P ops R K (done ++ seg) more a' w')
      hns (done ++ seg) seg.getLast? seg done D a w rfl (fun _ => rfl) (fun i hi => hlt i (List.mem_append_left _ hi)) hracy hs1 (fun i hi j hj => hst' i hi j (List.mem_append_left _ hj)) hseg.1
      (fun i hi o ho hr => ?_) (fun i hi o d ho hn hd => (selfAt i o d ho hd).2 hn) (fun a' w' hk => hk.1) (fun a' w' hk e he l hl hr => hk.2.1 l (racing_mem he hl hr)) (fun D' a' w' hk hs hC' => ?_)
      (fun i hi o d ho hd => hsz ▸ (selfAt i o d ho hd).1) hC h
    · cases hd : o.dst with
      | some d => exact ⟨d, rfl⟩
      | none =>
        have := hself i (Array.getElem?_eq_some_iff.1 ho).1
        simp only [ho, hd, hr] at this
        cases this
    · refine wpH_of_wpU hns hracy (by simp only [selfOk, List.all_eq_true, List.mem_range]; exact hself) more (done ++ seg) D' a' w' (fun i hi => hlt i (List.mem_append_right _ hi)) hs2 (fun i hi j hj => ?_) hseg.2 (hs.trans hsz) hC' hk.2.2
      rcases List.mem_append.1 hi with hi | hi
      · exact hst' i hi j (List.mem_append_right _ hj)
      · exact hs3 i hi j hj

def edgesIn (ops : Array Oper) : Bool := (List.range ops.size).all (fun x => match ops[x]? with | some o => o.after.all (fun e => !Region.binds .any e || e.on < ops.size) | none => true)
def raceOf (pairs : List (Nat × Nat)) (l e : Nat) : Bool := pairs.any fun p => p.1 == l && p.2 == e
def racyOf (pairs : List (Nat × Nat)) (l : Nat) : Bool := pairs.any fun p => p.1 == l
def check (P : Program) (ops : Array Oper) (pairs : List (Nat × Nat)) (segs : List (List Nat)) (n : Nat) : Bool :=
  edgesIn ops && orderOk P ops (raceOf pairs) (ancs ops) segs.flatten && staysAll ops (racyOf pairs) segs.flatten && segsOk (raceOf pairs) [] segs && selfOk ops (racyOf pairs) n

/-- **A region that draws its order, walked in segments: 'pairs': which load races with which call; each segment but the last ends with one that races.** -/
theorem wp_region_segs {id : Nat} {Q : Exit → Act → World → Prop} {a : Act} {w : World} {l : List Oper} (pairs : List (Nat × Nat)) (segs : List (List Nat)) (n : Nat) (hm : P.follows .mixedOrders = true) (hn : a.tmps.size = n)
    (hok : check P l.toArray pairs segs n = true) (h : wpU P l.toArray (raceOf pairs) (Q .normal) [] segs a w.drew) : (Code.region id l.toArray true).wp P Q a w := by
  simp only [check, Bool.and_eq_true] at hok
  obtain ⟨⟨⟨⟨h1, h2⟩, h3⟩, h4⟩, h5⟩ := hok
  have h2' := h2
  simp only [orderOk, Bool.and_eq_true] at h2'
  obtain ⟨⟨⟨⟨⟨_, _⟩, g1⟩, g2⟩, _⟩, _⟩ := h2'
  refine wp_region_order (R := raceOf pairs) (ancs l.toArray) segs.flatten hm h1 h2 ?_
  refine wpH_of_wpU (racy := racyOf pairs) (n := n) g2 (fun l e h => ?_) h5 segs [] [] a _ (fun i hi => ?_) h3 (by simp) h4 hn (fun x hx => by cases hx) h
  · obtain ⟨p, hp, hp'⟩ := List.any_eq_true.1 h
    simp only [Bool.and_eq_true] at hp'
    exact List.any_eq_true.2 ⟨p, hp, hp'.1⟩
  · have := List.all_eq_true.1 g1 i hi
    simpa using this

theorem racing_nil (done seg : List Nat) : racing (raceOf []) done seg = [] := by
  unfold racing
  split
  · exact List.filter_eq_nil_iff.2 fun l _ => by simp [raceOf]
  · rfl
theorem pick_range : ∀ (l pre : List Oper), (List.range' pre.length l.length).filterMap (fun i => (pre ++ l).toArray[i]?) = l
  | [], pre => rfl
  | o :: l, pre => by
    have h := pick_range l (pre ++ [o])
    simp only [List.length_append, List.length_cons, List.length_nil, List.append_assoc, List.cons_append, List.nil_append, Nat.zero_add] at h
    rw [List.length_cons, List.range'_succ, List.filterMap_cons]
    have : (pre ++ o :: l).toArray[pre.length]? = some o := by simp
    rw [this]
    simp only
    rw [h]
/-- **The same where nothing races, in the order of the text.** -/
theorem wp_region_text {id : Nat} {Q : Exit → Act → World → Prop} {a : Act} {w : World} {l : List Oper} (n : Nat) (hm : P.follows .mixedOrders = true) (hn : a.tmps.size = n)
    (hok : check P l.toArray [] [List.range l.length] n = true)
    (h : wpList P l.toArray (Exit.then (fun a' w' => typedAll l.toArray l a' = true ∧ Q .normal a' w') Dead) l a w.drew) : (Code.region id l.toArray true).wp P Q a w := by
  refine wp_region_segs [] [List.range l.length] n hm hn hok ?_
  have hp : pick l.toArray (List.range l.length) = l := by
    unfold pick
    rw [List.range_eq_range']
    exact pick_range l []
  simp only [wpU, hp, racing_nil, List.not_mem_nil, false_implies, implies_true, true_and]
  exact h
/-- Where nothing races, in an order of our own. -/
theorem wp_region_list {id : Nat} {Q : Exit → Act → World → Prop} {a : Act} {w : World} {l : List Oper} (order : List Nat) (n : Nat) (hm : P.follows .mixedOrders = true) (hn : a.tmps.size = n)
    (hok : check P l.toArray [] [order] n = true)
    (h : wpList P l.toArray (Exit.then (fun a' w' => typedAll l.toArray (pick l.toArray order) a' = true ∧ Q .normal a' w') Dead) (pick l.toArray order) a w.drew) : (Code.region id l.toArray true).wp P Q a w := by
  refine wp_region_segs [] [order] n hm hn hok ?_
  simp only [wpU, racing_nil, List.not_mem_nil, false_implies, implies_true, true_and]
  exact h
end
end Go.Hoist
