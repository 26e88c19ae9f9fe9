/- The evaluator once more, so written that the kernel runs it faster: each case is a closed text. -/
import Derived.Test.YtjbehmedbefbpaaGreatVmEval
set_option linter.unusedVariables false
set_option linter.unusedSimpArgs false
namespace Go.Vm
open Go

abbrev CallT := Nat → List V → List Ob → Option (Rs × List Ob)
abbrev FnT := Cx → CallT → Option Nat → Nat → St → Option St

/-! Operands. -/

noncomputable def eOneF (u : Ty) (v : V) (_own : Bool) : Ty → Option V := fun ty => @Bool.rec (fun _ => Option V) none (some v) (u.beq ty)
noncomputable def eTupF (_l : List (Ty × V)) : Ty → Option V := fun _ => none
noncomputable def eUnF : Ty → Option V := fun _ => none
noncomputable def entSomeF (e : Ent) : Ty → Option V := @Ent.rec (fun _ => Ty → Option V) eOneF eTupF eUnF e
noncomputable def entF (o : Option Ent) : Ty → Option V := @Option.rec Ent (fun _ => Ty → Option V) eUnF entSomeF o
noncomputable def oTmpF (t : Nat) : St → Ty → Option V := fun st => entF (st.env.get t)
noncomputable def oConstF (c : Value) : St → Ty → Option V := fun _ ty => cst ty c
noncomputable def oElseF (x : Operand) : St → Ty → Option V := fun st ty => opd st ty x
noncomputable def oGlobalF (g : Nat) : St → Ty → Option V := oElseF (.global g)
noncomputable def oFuncF (f : FuncId) : St → Ty → Option V := oElseF (.func f)
noncomputable def opdF (x : Operand) : St → Ty → Option V := @Operand.rec (fun _ => St → Ty → Option V) oTmpF oConstF oGlobalF oFuncF x

theorem opdF_eq (x : Operand) (st : St) (ty : Ty) : opdF x st ty = opd st ty x := by
  cases x with
  | tmp t =>
    show entF (st.env.get t) ty = _
    simp only [opd]
    cases st.env.get t with
    | none => rfl
    | some e =>
      cases e with
      | one u v own =>
        show @Bool.rec (fun _ => Option V) none (some v) (u.beq ty) = _
        simp only
        cases u.beq ty <;> rfl
      | tup l => rfl
      | un => rfl
  | const c => rfl
  | global g => rfl
  | func f => rfl

/-! A slot is written. -/

noncomputable def setGoF (d : Nat) (e : Ent) (env : Env) (orgs : List (Nat × Org)) (os : List Ob) (n : Nat) (thaw : List Nat) : Option St :=
  @Bool.rec (fun _ => Option St) none (some ⟨env.ins d e, dropOrg d orgs, os, n, thaw⟩) (Nat.blt d n)
noncomputable def setNoneF : Ent → St → Option St := fun _ st => some st
noncomputable def setSomeF (d : Nat) : Ent → St → Option St := fun e st => @St.rec (fun _ => Option St) (setGoF d e) st
noncomputable def setF (d : Option Nat) : Ent → St → Option St := @Option.rec Nat (fun _ => Ent → St → Option St) setNoneF setSomeF d

theorem setF_eq (d : Option Nat) (e : Ent) (st : St) : setF d e st = st.set d e := by
  obtain ⟨env, orgs, os, n, thaw⟩ := st
  cases d with
  | none => rfl
  | some d =>
    show setGoF d e env orgs os n thaw = _
    simp only [setGoF, St.set]
    cases Nat.blt d n <;> rfl

noncomputable def setV (d : Option Nat) (ty : Ty) (st : St) (own : Bool) (v : V) : Option St := setF d (.one ty v own) st
noncomputable def bindV (f : V → Option St) (o : Option V) : Option St := @Option.rec V (fun _ => Option St) none f o

theorem bindV_eq (f : V → Option St) (o : Option V) : bindV f o = match o with
    | some v => f v
    | none => none := by cases o <;> rfl

/-! Moves. -/

noncomputable def mvGoF (d : Option Nat) (x : Operand) (ty : Ty) (st : St) (v : V) : Option St :=
  @Bool.rec (fun _ => Option St) (setF d (.one ty v false) st) (st.setO d (.one ty v false) (orgOf x)) (isSl ty)
noncomputable def mvSomeF (ty : Ty) : Option Nat → Operand → St → Option St := fun d x st => bindV (mvGoF d x ty st) (opdF x st ty)
noncomputable def mvNoneF : Option Nat → Operand → St → Option St := fun d x st => moveEv st d x none
noncomputable def mvF (o : Option Ty) : Option Nat → Operand → St → Option St := @Option.rec Ty (fun _ => Option Nat → Operand → St → Option St) mvNoneF mvSomeF o

theorem mvF_eq (o : Option Ty) (d : Option Nat) (x : Operand) (st : St) : mvF o d x st = moveEv st d x o := by
  cases o with
  | none => rfl
  | some ty =>
    show bindV (mvGoF d x ty st) (opdF x st ty) = _
    rw [bindV_eq, opdF_eq]
    simp only [moveEv]
    cases opd st ty x with
    | none => rfl
    | some v =>
      simp only [mvGoF, setF_eq]
      cases isSl ty <;> rfl

noncomputable def asGoF (d : Option Nat) (x : Operand) (ty : Ty) (st : St) (v : V) : Option St :=
  @Bool.rec (fun _ => Option St) (setF d (.one ty v false) st) (setF d (.one ty v true) (st.withEnv (disown st.env x))) (owns st x)
noncomputable def asSomeF (ty : Ty) : Option Nat → Operand → St → Option St := fun d x st => bindV (asGoF d x ty st) (opdF x st ty)
noncomputable def asNoneF : Option Nat → Operand → St → Option St := fun _ _ _ => none
noncomputable def asF (o : Option Ty) : Option Nat → Operand → St → Option St := @Option.rec Ty (fun _ => Option Nat → Operand → St → Option St) asNoneF asSomeF o

theorem asF_eq (o : Option Ty) (d : Option Nat) (x : Operand) (st : St) : asF o d x st = assignEv st d x o := by
  cases o with
  | none => rfl
  | some ty =>
    show bindV (asGoF d x ty st) (opdF x st ty) = _
    rw [bindV_eq, opdF_eq]
    simp only [assignEv]
    cases opd st ty x with
    | none => rfl
    | some v =>
      simp only [asGoF, setF_eq]
      cases owns st x <;> rfl

/-! Arithmetic on known numbers. -/

abbrev ArT := IntKind → Int → Int → Option V
noncomputable def arAdd : ArT := fun k x y => some (.i (wrapF k (x + y)))
noncomputable def arSub : ArT := fun k x y => some (.i (wrapF k (x - y)))
noncomputable def arMul : ArT := fun k x y => some (.i (wrapF k (x * y)))
noncomputable def arEql : ArT := fun _ x y => some (.b (intB x y))
noncomputable def arNeq : ArT := fun _ x y => some (.b (!(intB x y)))
noncomputable def arLss : ArT := fun _ x y => some (.b (decide (x < y)))
noncomputable def arLeq : ArT := fun _ x y => some (.b (decide (x ≤ y)))
noncomputable def arGtr : ArT := fun _ x y => some (.b (decide (x > y)))
noncomputable def arGeq : ArT := fun _ x y => some (.b (decide (x ≥ y)))
noncomputable def arF (op : BinOp) : ArT :=
  @BinOp.rec (fun _ => ArT) arAdd arSub arMul (intOp .quo) (intOp .rem) (intOp .and) (intOp .or) (intOp .xor) (intOp .shl) (intOp .shr) (intOp .andNot) arEql arNeq arLss arLeq arGtr arGeq op

theorem intB_iff (x y : Int) : intB x y = (x == y) := by
  cases h : intB x y with
  | true => rw [intB_eq h]; simp
  | false =>
    have : x ≠ y := by
      rintro rfl
      cases x <;> simp [intB] at h
    simp [this]

theorem arF_eq (op : BinOp) (k : IntKind) (x y : Int) : arF op k x y = intOp op k x y := by
  cases op
  case eql => show some (V.b (intB x y)) = _; rw [intB_iff]; rfl
  case neq => show some (V.b (!(intB x y))) = _; rw [intB_iff]; rfl
  all_goals rfl

noncomputable def vInt (v : V) : Option Int :=
  match v with
  | .i n => some n
  | _ => none

noncomputable def bindI {α : Type} (f : Int → Option α) (o : Option Int) : Option α := @Option.rec Int (fun _ => Option α) none f o
noncomputable def bindVI (o : Option V) : Option Int := @Option.rec V (fun _ => Option Int) none vInt o

noncomputable def binSetF (d : Option Nat) (k : IntKind) (st : St) (v : V) : Option St :=
  match v with
  | .b r => setF d (.one .bool (.b r) false) st
  | .i n => setF d (.one (.int k) (.i n) false) st
  | _ => none

noncomputable def orSt (o s : Option St) : Option St := @Option.rec St (fun _ => Option St) s some o

theorem orSt_eq {o s : Option St} (h : ∀ x, o = some x → s = some x) : orSt o s = s := by
  cases o with
  | none => rfl
  | some x => exact (h x rfl).symm

noncomputable def biGo2 (op : BinOp) (k : IntKind) (d : Option Nat) (st : St) (a b : Int) : Option St := bindV (binSetF d k st) (arF op k a b)
noncomputable def biGo1 (op : BinOp) (k : IntKind) (d : Option Nat) (st : St) (y : Operand) (a : Int) : Option St := bindI (biGo2 op k d st a) (bindVI (opdF y st (.int k)))
noncomputable def biGo (op : BinOp) (k : IntKind) (d : Option Nat) (st : St) (x y : Operand) : Option St := bindI (biGo1 op k d st y) (bindVI (opdF x st (.int k)))

noncomputable def tyKind (t : Ty) : Option IntKind :=
  match t with
  | .int k => some k
  | _ => none
noncomputable def bindT (o : Option Ty) : Option IntKind := @Option.rec Ty (fun _ => Option IntKind) none tyKind o
noncomputable def bindK (f : IntKind → Option St) (o : Option IntKind) : Option St := @Option.rec IntKind (fun _ => Option St) none f o

noncomputable def fBin (op : BinOp) (xt : Nat) (x y : Operand) (_yt : Nat) : FnT := fun cx _ d _ st =>
  orSt (bindK (fun k => biGo op k d st x y) (bindT (cx.T xt))) (put1 st d (orElse (binEv cx st op xt x y) (symBin cx st op xt x y)))

theorem bindI_some {α : Type} {f : Int → Option α} {o : Option Int} {r : α} (h : bindI f o = some r) : ∃ n, o = some n ∧ f n = some r := by
  cases o with
  | none => simp [bindI] at h
  | some n => exact ⟨n, rfl, h⟩

theorem bindVI_some {o : Option V} {n : Int} (h : bindVI o = some n) : o = some (.i n) := by
  cases o with
  | none => simp [bindVI] at h
  | some v =>
    have h' : vInt v = some n := h
    unfold vInt at h'
    split at h'
    · injection h' with h'; rw [h']
    · simp at h'

theorem bindV_some {f : V → Option St} {o : Option V} {r : St} (h : bindV f o = some r) : ∃ v, o = some v ∧ f v = some r := by
  cases o with
  | none => simp [bindV] at h
  | some v => exact ⟨v, rfl, h⟩

theorem fBin_eq (cx : Cx) (call : CallT) (d : Option Nat) (t : Nat) (st : St) (op : BinOp) (xt : Nat) (x y : Operand) (yt : Nat) : fBin op xt x y yt cx call d t st = put1 st d (orElse (binEv cx st op xt x y) (symBin cx st op xt x y)) := by
  refine orSt_eq fun r h => ?_
  cases hT : cx.T xt with
  | none => rw [hT] at h; simp [bindT, bindK] at h
  | some u =>
    rw [hT] at h
    cases u with
    | int k =>
      have h : biGo op k d st x y = some r := h
      obtain ⟨a, ha, h⟩ := bindI_some h
      obtain ⟨b, hb, h⟩ := bindI_some h
      obtain ⟨v, hv, h⟩ := bindV_some h
      have ha := bindVI_some ha
      have hb := bindVI_some hb
      rw [opdF_eq] at ha hb
      rw [arF_eq] at hv
      have hns : op ≠ .shl ∧ op ≠ .shr := by
        constructor <;> (rintro rfl; simp [intOp] at hv)
      have hb2 : binEv cx st op xt x y = intEv st op k x y := by
        unfold binEv
        rw [hT]
        cases op <;> first | rfl | (exact absurd rfl hns.1) | (exact absurd rfl hns.2)
      rw [hb2]
      unfold intEv
      rw [ha, hb]
      simp only [hv]
      unfold binSetF at h
      split at h
      · rw [setF_eq] at h; exact h
      · rw [setF_eq] at h; exact h
      · simp at h
    | _ => simp [bindT, tyKind, bindK] at h

/-! The operations. -/

noncomputable def fMove (x : Operand) : FnT := fun cx _ d t st => mvF (cx.T t) d x st
noncomputable def fAssign (x : Operand) : FnT := fun cx _ d t st => asF (cx.T t) d x st
noncomputable def fPick (c a b : Operand) : FnT := fun cx _ d t st => pickEv st d c a b (cx.T t)
noncomputable def fAlloc (e : TypeId) : FnT := fun cx _ d _ st => allocEv st d (cx.T e)
noncomputable def fBox (e : TypeId) (x : Operand) : FnT := fun cx _ d _ st => boxEv st d x (cx.T e)
noncomputable def fBuild (t : TypeId) (ps : Array (Nat × Operand)) : FnT := fun cx _ d _ st => buildEv st d ps.toList (cx.T t)
noncomputable def fBuildSl (t : TypeId) (len : Nat) (ps : Array (Nat × Operand)) : FnT := fun cx _ d _ st => buildSlEv cx st d len ps.toList (cx.T t)
noncomputable def fLoad (t : TypeId) (a : Operand) : FnT := fun cx _ d _ st => loadEv st d a (cx.T t)
noncomputable def fStore (t : TypeId) (a x : Operand) : FnT := fun cx _ d _ st => storeEv st d a x (cx.T t)
noncomputable def fNil (x : Operand) : FnT := fun _ _ d _ st => nilEv st d x
noncomputable def fUn (op : UnOp) (xt : TypeId) (x : Operand) : FnT := fun cx _ d _ st => put1 st d (orElse (unEv cx st op xt x) (symUn cx st op xt x))
noncomputable def fConv (s t : TypeId) (x : Operand) : FnT := fun cx _ d _ st => convAny cx st d s t x
noncomputable def fAddr (s : TypeId) (x : Operand) (f : Nat) : FnT := fun cx _ d _ st => putP st d (faddrEv cx st s x f)
noncomputable def fField (s : TypeId) (x : Operand) (f : Nat) : FnT := fun cx _ d _ st => put1 st d (fieldEv cx st s x f)
noncomputable def fIAddr (t : TypeId) (x ix : Operand) : FnT := fun cx _ d _ st => putP st d (iaddrEv cx st t x ix)
noncomputable def fIndex (t : TypeId) (x ix : Operand) : FnT := fun cx _ d _ st => put1 st d (orElse (indexEv cx st t x ix) (orElse (symIndex cx st t x ix) (symIndex2 cx st t x ix)))
noncomputable def fLookup (t : TypeId) (m x : Operand) (ok : Bool) : FnT := fun cx _ d _ st => lookupAny st d ok (lookupEv cx st t m x)
noncomputable def fUpd (t : TypeId) (m x y : Operand) : FnT := fun cx _ d _ st => updAny st d (updEv cx st t m x y)
noncomputable def fExtract (x : Operand) (ix : Nat) : FnT := fun _ _ d _ st => extractEv st d ix (tupOf st x)
noncomputable def fSlice (t : TypeId) (x : Operand) (lo hi mx : Option Operand) : FnT := fun cx _ d _ st =>
  match mx with
  | none => put1 st d (sliceEv cx st t x lo hi)
  | some m => put1 st d (slice3Ev cx st t x lo hi m)
noncomputable def fFunc (f : Fn) (first caps : Array Operand) : FnT := fun cx call d t st => evOp cx call ⟨d, .makeFunc f first caps, t, "", #[], none⟩ st
noncomputable def fMap (t : TypeId) (r : Option Operand) : FnT := fun cx call d ty st => evOp cx call ⟨d, .makeMap t r, ty, "", #[], none⟩ st
noncomputable def fCall (c : Call) : FnT := fun cx call d t st => callAny cx call ⟨d, .call c, t, "", #[], none⟩ st c
noncomputable def fNone : FnT := fun _ _ _ _ _ => none

noncomputable def opF (o : Op) : FnT :=
  @Op.rec (fun _ => FnT) fMove fAssign fPick fAlloc fBox fBuild fBuildSl (fun _ _ _ _ => fNone) fLoad fStore (fun _ => fNone) (fun _ => fNone) fNil fBin fUn fConv (fun _ _ => fNone) (fun _ _ => fNone) fFunc fMap
    (fun _ _ => fNone) (fun _ _ _ => fNone) fSlice fAddr fField fIAddr fIndex fLookup fUpd (fun _ _ _ => fNone) (fun _ _ _ _ => fNone) (fun _ _ => fNone) (fun _ _ => fNone) (fun _ => fNone) (fun _ _ _ _ => fNone)
    fExtract fCall (fun _ => fNone) (fun _ => fNone) (fun _ => fNone) (fun _ _ => fNone) (fun _ _ _ => fNone) (fun _ _ => fNone) o

theorem callAny_oper (cx : Cx) (call : CallT) (o o' : Oper) (hd : o.dst = o'.dst) (ht : o.type = o'.type) (st : St) (c : Call) : callAny cx call o st c = callAny cx call o' st c := by
  unfold callAny
  rw [hd, ht]

theorem opF_eq (cx : Cx) (call : CallT) (o : Oper) (st : St) : opF o.op cx call o.dst o.type st = evOp cx call o st := by
  obtain ⟨d, op, t, pos, after, guard⟩ := o
  cases op with
  | move x => exact mvF_eq _ _ _ _
  | assign x => exact asF_eq _ _ _ _
  | binOp op xt x y yt => exact fBin_eq cx call d t st op xt x y yt
  | slice t x lo hi mx => cases mx <;> rfl
  | makeFunc f a b => cases f <;> rfl
  | makeMap t r => cases r <;> rfl
  | call c => exact callAny_oper _ _ _ _ rfl rfl _ _
  | _ => rfl

/-! Guards, operations, regions. -/

noncomputable def stTrueF (cx : Cx) (call : CallT) (o : Oper) (st : St) : Option St := opF o.op cx call o.dst o.type st
noncomputable def stepF (cx : Cx) (call : CallT) (ops : Array Oper) (o : Oper) (st : St) : Option St :=
  @Option.rec (Nat × Bool) (fun _ => Option St) (stTrueF cx call o st)
    (fun g => @Option.rec Bool (fun _ => Option St) none (fun b => @Bool.rec (fun _ => Option St) (setF o.dst .un st) (stTrueF cx call o st) b) (guardEv ops st (some g))) o.guard

theorem stepF_eq (cx : Cx) (call : CallT) (ops : Array Oper) (o : Oper) (st : St) : stepF cx call ops o st = stepEv cx call ops o st := by
  unfold stepF stepEv
  cases hg : o.guard with
  | none =>
    show stTrueF cx call o st = _
    simp only [guardEv]
    exact opF_eq cx call o st
  | some g =>
    show @Option.rec Bool (fun _ => Option St) none _ (guardEv ops st (some g)) = _
    cases guardEv ops st (some g) with
    | none => rfl
    | some b =>
      cases b with
      | true => exact opF_eq cx call o st
      | false => exact setF_eq _ _ _

noncomputable def opsF (cx : Cx) (call : CallT) (ops : Array Oper) (l : List Oper) : St → Option St :=
  @List.rec Oper (fun _ => St → Option St) some (fun o _ ih st => @Option.rec St (fun _ => Option St) none ih (stepF cx call ops o st)) l

theorem opsF_eq (cx : Cx) (call : CallT) (ops : Array Oper) : ∀ (l : List Oper) (st : St), opsF cx call ops l st = evOps cx call ops l st
  | [], st => rfl
  | o :: r, st => by
    show @Option.rec St (fun _ => Option St) none (opsF cx call ops r) (stepF cx call ops o st) = _
    rw [stepF_eq]
    simp only [evOps]
    cases stepEv cx call ops o st with
    | none => rfl
    | some st' => exact opsF_eq cx call ops r st'

noncomputable def pairsF (cx : Cx) (call : CallT) (ops : Array Oper) (st : St) (p : List (Nat × Nat)) : Option St :=
  @List.rec (Nat × Nat) (fun _ => Option St) (opsF cx call ops ops.toList st) (fun x r _ => regionEv cx call ops st (x :: r)) p

theorem pairsF_eq (cx : Cx) (call : CallT) (ops : Array Oper) (st : St) (p : List (Nat × Nat)) : pairsF cx call ops st p = regionEv cx call ops st p := by
  cases p with
  | nil => exact opsF_eq cx call ops _ st
  | cons x r => rfl

/-! Code. -/

abbrev CodeT := Nat → List (Nat × List (Nat × Nat)) → Code → St → Option (Ex × St)

structure Two where
  code : CodeT
  call : CallT

abbrev CdT := Two → Nat → List (Nat × List (Nat × Nat)) → St → Option (Ex × St)

noncomputable def endF (keep : Nat) (st : St) : Option (Ex × St) := some (.normal, st.keep keep)
noncomputable def cSkip (_ : Cx) : CdT := fun _ _ _ st => some (.normal, st)
noncomputable def cRegion (cx : Cx) (id : Nat) (ops : Array Oper) (_ : Bool) : CdT := fun p keep dyn st => @Option.rec St (fun _ => Option (Ex × St)) none (endF keep) (pairsF cx p.call ops st (dynOf id dyn))
noncomputable def exGo (f : St → Option (Ex × St)) (g : Nat → St → Option (Ex × St)) (x : Ex × St) : Option (Ex × St) :=
  @Prod.rec Ex St (fun _ => Option (Ex × St)) (fun e => @Ex.rec (fun _ => St → Option (Ex × St)) f g (fun st => some (.ret, st)) e) x
noncomputable def exBind (f : St → Option (Ex × St)) (g : Nat → St → Option (Ex × St)) (o : Option (Ex × St)) : Option (Ex × St) := @Option.rec (Ex × St) (fun _ => Option (Ex × St)) none (exGo f g) o
noncomputable def exOut (id : Nat) (st : St) : Option (Ex × St) := some (.exit id, st)
noncomputable def exStop (id id' : Nat) (st : St) : Option (Ex × St) := @Bool.rec (fun _ => Option (Ex × St)) (some (.exit id', st)) (some (.normal, st)) (Nat.beq id' id)
noncomputable def exNorm (st : St) : Option (Ex × St) := some (.normal, st)
noncomputable def cSeq (_ : Cx) (a b : Code) : CdT := fun p keep dyn st => exBind (p.code keep dyn b) exOut (p.code keep dyn a st)
noncomputable def vBool (v : V) : Option Bool :=
  match v with
  | .b r => some r
  | _ => none
noncomputable def bindVB (o : Option V) : Option Bool := @Option.rec V (fun _ => Option Bool) none vBool o
noncomputable def cCond (_ : Cx) (c : Operand) (a b : Code) : CdT := fun p keep dyn st =>
  @Option.rec Bool (fun _ => Option (Ex × St)) none (fun r => @Bool.rec (fun _ => Option (Ex × St)) (p.code keep dyn b st) (p.code keep dyn a st) r) (bindVB (opdF c st .bool))
noncomputable def cBlock (_ : Cx) (id : Nat) (c : Code) : CdT := fun p keep dyn st => exBind exNorm (exStop id) (p.code keep dyn c st)
noncomputable def cLoop (_ : Cx) (c : Code) : CdT := fun p keep dyn st => exBind (p.code keep dyn (.loop c)) exOut (p.code keep dyn c st)
noncomputable def cExit (_ : Cx) (id : Nat) : CdT := fun _ _ _ st => some (.exit id, st)
noncomputable def cRet (_ : Cx) : CdT := fun _ _ _ st => some (.ret, st)
noncomputable def cNone (_ : Cx) : CdT := fun _ _ _ _ => none

noncomputable def codeF (cx : Cx) (c : Code) : CdT :=
  @Code.casesOn (fun _ => Cx → CdT) c cSkip (fun id ops d cx => cRegion cx id ops d) (fun a b cx => cSeq cx a b) (fun x a b cx => cCond cx x a b) (fun id c cx => cBlock cx id c) (fun c cx => cLoop cx c)
    (fun _ _ _ _ => cNone) (fun id cx => cExit cx id) (fun _ => cNone) (fun _ => cNone) (fun _ => cNone) cRet (fun _ => cNone) cx

noncomputable def finF (i : Fi) (T : TR) (st : St) : Option (Rs × List Ob) := (results st i.fn.results.toList i.fn.resultTypes.toList T).map fun l => (resultRs l, st.os)
noncomputable def finNo (_ : Nat) (_ : St) : Option (Rs × List Ob) := none
noncomputable def finGo (i : Fi) (T : TR) (x : Ex × St) : Option (Rs × List Ob) :=
  @Prod.rec Ex St (fun _ => Option (Rs × List Ob)) (fun e => @Ex.rec (fun _ => St → Option (Rs × List Ob)) (finF i T) finNo (finF i T) e) x

noncomputable def bodyF (cx : Cx) (p : Two) (i : Fi) (vs : List V) (os : List Ob) (c : Code) (env : Env) : Option (Rs × List Ob) :=
  @Bool.rec (fun _ => Option (Rs × List Ob)) none (@Option.rec (Ex × St) (fun _ => Option (Rs × List Ob)) none (finGo i cx.T) (p.code i.keep i.dyn c { env := env, orgs := [], os := os, n := i.fn.ntmps, thaw := i.thaw })) (Nat.ble vs.length i.fn.ntmps)

noncomputable def enterF (cx : Cx) (p : Two) (vs : List V) (os : List Ob) (i : Fi) : Option (Rs × List Ob) :=
  match i.fn.body, tys cx.T i.fn.params.toList with
  | some c, some ts => match zipEnv 0 ts vs with
    | some env => bodyF cx p i vs os c env
    | none => none
  | _, _ => none

noncomputable def callF (cx : Cx) (p : Two) (f : Nat) (vs : List V) (os : List Ob) : Option (Rs × List Ob) :=
  @Option.rec (Rs × List Ob) (fun _ => Option (Rs × List Ob)) (@Option.rec Fi (fun _ => Option (Rs × List Ob)) none (enterF cx p vs os) (cx.F f)) some (askK (cx.K f) vs os)

noncomputable def twoZ : Two := ⟨fun _ _ _ _ => none, fun _ _ _ => none⟩
noncomputable def twoS (cx : Cx) (p : Two) : Two := ⟨fun keep dyn c st => codeF cx c p keep dyn st, callF cx p⟩
noncomputable def twoF (cx : Cx) (n : Nat) : Two := @Nat.rec (fun _ => Two) twoZ (fun _ p => twoS cx p) n

theorem pair_eq (p : Two) (cx : Cx) (n : Nat) (h1 : ∀ keep dyn c st, p.code keep dyn c st = ev cx n keep dyn c st) (h2 : ∀ f vs os, p.call f vs os = evCall cx n f vs os) :
    (∀ keep dyn c st, (twoS cx p).code keep dyn c st = ev cx (n + 1) keep dyn c st) ∧ ∀ f vs os, (twoS cx p).call f vs os = evCall cx (n + 1) f vs os := by
  have hcall : p.call = fun f vs os => evCall cx n f vs os := by funext f vs os; exact h2 f vs os
  constructor
  · intro keep dyn c st
    show codeF cx c p keep dyn st = _
    cases c with
    | skip => rfl
    | region id ops draw =>
      show @Option.rec St (fun _ => Option (Ex × St)) none (endF keep) (pairsF cx p.call ops st (dynOf id dyn)) = _
      rw [pairsF_eq, hcall]
      simp only [ev]
      cases regionEv cx (fun f vs os => evCall cx n f vs os) ops st (dynOf id dyn) <;> rfl
    | seq a b =>
      show exBind (p.code keep dyn b) exOut (p.code keep dyn a st) = _
      rw [h1]
      simp only [ev]
      cases ev cx n keep dyn a st with
      | none => rfl
      | some x =>
        obtain ⟨e, st'⟩ := x
        cases e with
        | normal => exact h1 keep dyn b st'
        | exit id => rfl
        | ret => rfl
    | cond x a b =>
      show @Option.rec Bool (fun _ => Option (Ex × St)) none (fun r => @Bool.rec (fun _ => Option (Ex × St)) (p.code keep dyn b st) (p.code keep dyn a st) r) (bindVB (opdF x st .bool)) = _
      rw [opdF_eq, h1, h1]
      simp only [ev]
      cases opd st .bool x with
      | none => rfl
      | some v =>
        cases v <;> try rfl
        rename_i r
        cases r <;> rfl
    | block id c =>
      show exBind exNorm (exStop id) (p.code keep dyn c st) = _
      rw [h1]
      simp only [ev]
      cases ev cx n keep dyn c st with
      | none => rfl
      | some x =>
        obtain ⟨e, st'⟩ := x
        cases e with
        | normal => rfl
        | exit id' =>
          show @Bool.rec (fun _ => Option (Ex × St)) _ _ (Nat.beq id' id) = _
          simp only
          cases Nat.beq id' id <;> rfl
        | ret => rfl
    | loop c =>
      show exBind (p.code keep dyn (.loop c)) exOut (p.code keep dyn c st) = _
      rw [h1]
      simp only [ev]
      cases ev cx n keep dyn c st with
      | none => rfl
      | some x =>
        obtain ⟨e, st'⟩ := x
        cases e with
        | normal => exact h1 keep dyn _ st'
        | exit id => rfl
        | ret => rfl
    | exit id => rfl
    | ret => rfl
    | _ => simp only [ev]; rfl
  · intro f vs os
    show @Option.rec (Rs × List Ob) (fun _ => Option (Rs × List Ob)) (@Option.rec Fi (fun _ => Option (Rs × List Ob)) none (enterF cx p vs os) (cx.F f)) some (askK (cx.K f) vs os) = _
    simp only [evCall]
    cases askK (cx.K f) vs os with
    | some r => rfl
    | none =>
      simp only
      cases cx.F f with
      | none => rfl
      | some i =>
        show enterF cx p vs os i = _
        unfold enterF
        simp only
        cases i.fn.body with
        | none => rfl
        | some c =>
          cases tys cx.T i.fn.params.toList with
          | none => rfl
          | some ts =>
            simp only
            cases zipEnv 0 ts vs with
            | none => rfl
            | some env =>
              simp only [bodyF, h1]
              by_cases hl : vs.length ≤ i.fn.ntmps
              · rw [if_pos hl, Nat.ble_eq_true_of_le hl]
                simp only
                cases ev cx n i.keep i.dyn c { env := env, orgs := [], os := os, n := i.fn.ntmps, thaw := i.thaw } with
                | none => rfl
                | some x =>
                  obtain ⟨e, st'⟩ := x
                  cases e <;> rfl
              · rw [if_neg hl]
                have : Nat.ble vs.length i.fn.ntmps = false := by
                  cases h : Nat.ble vs.length i.fn.ntmps with
                  | false => rfl
                  | true => exact absurd (Nat.le_of_ble_eq_true h) hl
                rw [this]

theorem twoF_eq (cx : Cx) : ∀ n, (∀ keep dyn c st, (twoF cx n).code keep dyn c st = ev cx n keep dyn c st) ∧ ∀ f vs os, (twoF cx n).call f vs os = evCall cx n f vs os
  | 0 => ⟨fun _ _ _ _ => by simp only [ev]; rfl, fun _ _ _ => by simp only [evCall]; rfl⟩
  | n + 1 => pair_eq (twoF cx n) cx n (twoF_eq cx n).1 (twoF_eq cx n).2

noncomputable def evCallF (cx : Cx) (n : Nat) : CallT := (twoF cx n).call

theorem evCallF_eq (cx : Cx) (n f : Nat) (vs : List V) (os : List Ob) : evCallF cx n f vs os = evCall cx n f vs os := (twoF_eq cx n).2 f vs os
end Go.Vm
