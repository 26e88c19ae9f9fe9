/- Operations that leave memory alone. -/
import Derived.Test.YtjbehmedbefbpaaGreatVmRel
import Derived.Laws.StructEq
set_option linter.unusedVariables false
set_option linter.unusedSimpArgs false
namespace Go.Vm
open Go

/-- the evaluator's tables fit the program -/
def cmpN (op : BinOp) (x y : Int) : Bool :=
  match op with
  | .eql => x == y
  | .neq => x != y
  | .lss => decide (x < y)
  | .leq => decide (x ≤ y)
  | .gtr => decide (x > y)
  | .geq => decide (x ≥ y)
  | _ => false

/-- what the tables say of unknown numbers and texts is so -/
structure Facts (cx : Cx) : Prop where
  R : ∀ e e', cx.R e = some e' → e.den cx.T = e'.den cx.T
  C : ∀ op a b r, cx.C op a b = some r → cmpN op (a.den cx.T) (b.den cx.T) = r
  Z : ∀ e, cx.Z e = true → 0 ≤ e.den cx.T ∧ e.den cx.T < 256
  Q : ∀ a b r, cx.Q a b = some r → (denS cx.T a == denS cx.T b) = r
  N : ∀ l e, cx.N l = some e → e.den cx.T = ((denS cx.T l).length : Int)
  I : ∀ l e e', cx.I l e = some e' → 0 ≤ e.den cx.T ∧ ∃ b : UInt8, (denS cx.T l)[(e.den cx.T).toNat]? = some b ∧ e'.den cx.T = (b.toNat : Int)
  σ : ∀ k, (cx.T.σ k).length ≤ 1099511627776

structure Good (P : Program) (cx : Cx) : Prop where
  facts : Facts cx
  ty : ∀ t u, cx.T t = some u → TyOk P cx.T t u
  bytes : ∀ t u i, cx.T t = some u → P.info? t = some i → i.bytes = cx.B t
  bpos : ∀ t u, cx.T t = some u → 0 < cx.B t
  fn : ∀ f i, cx.F f = some i → P.funcs[f]? = some i.fn ∧ (i.fn.name == "runtime.NumGoroutine") = false
  eq : ∀ t, cx.E t = true → P.stoodInHeld t = false ∧ P.eqGuardType P.depth t = false ∧
    ∀ flds : Array Field, P.underlying t = some (.struct flds) → ∀ f ∈ flds, f.name ≠ "_" ∧ ∀ fs, cx.T f.type = some (.st fs) → cx.E f.type = true
  mixed : P.follows .mixedOrders = true

section
variable {T : TR} {g : Gh} {w : World}

theorem ofCells_one {ty : Ty} (h : ty.isAgg = false) (c : Value) : ofCells ty [c] = c := by simp [ofCells, h]

theorem valR_bool {v : V} {val : Value} (h : ValR T g w .bool v val) : ∃ b, v = .b b ∧ val = .bool b := by
  obtain ⟨cs, h, rfl⟩ := h; cases h; exact ⟨_, rfl, rfl⟩
theorem valR_int {k : IntKind} {v : V} {val : Value} (h : ValR T g w (.int k) v val) : (∃ n, v = .i n ∧ val = .int k n) ∨ ∃ e, v = .ix e ∧ val = .int k (e.den T) := by
  obtain ⟨cs, h, rfl⟩ := h
  cases h with
  | i => exact .inl ⟨_, rfl, rfl⟩
  | ix => exact .inr ⟨_, rfl, rfl⟩
theorem valR_i {k : IntKind} {n : Int} {val : Value} (h : ValR T g w (.int k) (.i n) val) : val = .int k n := by
  rcases valR_int h with ⟨m, hm, hv⟩ | ⟨e, he, _⟩
  · injection hm with hm; subst hm; exact hv
  · simp at he
theorem valR_str {v : V} {val : Value} (h : ValR T g w .str v val) : (∃ s : ByteArray, v = .s s.data.toList ∧ val = .string s) ∨ ∃ (s : ByteArray) (l : List SB), v = .tx l ∧ val = .string s ∧ s.data.toList = denS T l := by
  obtain ⟨cs, h, rfl⟩ := h
  cases h with
  | s => exact .inl ⟨_, rfl, rfl⟩
  | tx x l h => exact .inr ⟨_, _, rfl, rfl, h⟩
theorem valR_st {fs : List Ty} {v : V} {val : Value} (h : ValR T g w (.st fs) v val) : ∃ vs cs, v = .rc vs ∧ val = .agg cs.toArray ∧ VRs T g w fs cs vs := by
  obtain ⟨cs, h, rfl⟩ := h
  cases h with
  | st h => exact ⟨_, cs, rfl, rfl, h⟩
theorem valR_ar {n : Nat} {e : Ty} {v : V} {val : Value} (h : ValR T g w (.ar n e) v val) : ∃ vs cs, v = .rc vs ∧ val = .agg cs.toArray ∧ VRs T g w (List.replicate n e) cs vs := by
  obtain ⟨cs, h, rfl⟩ := h
  cases h with
  | ar h => exact ⟨_, cs, rfl, rfl, h⟩

theorem ValR.bool (b : Bool) : ValR T g w .bool (.b b) (.bool b) := ⟨_, .b b, rfl⟩
theorem ValR.int (k : IntKind) (n : Int) : ValR T g w (.int k) (.i n) (.int k n) := ⟨_, .i k n, rfl⟩
theorem ValR.str (l : List UInt8) : ValR T g w .str (.s l) (.string ⟨l.toArray⟩) := ⟨_, .s ⟨l.toArray⟩, rfl⟩

theorem cst_sound {ty : Ty} {c : Value} {v : V} (h : cst ty c = some v) : ValR T g w ty v c := by
  have key : ∀ ty : Ty, ty.isAgg = false → vOf ty [c] = some v → ValR T g w ty v c := fun ty ha h => ⟨[c], vOf_sound h, (ofCells_one ha c).symm⟩
  cases ty with
  | ar n e => simp [cst] at h
  | st fs =>
    cases c <;> simp only [cst, reduceCtorEq] at h
    rename_i cs
    exact ⟨cs.toList, vOf_sound h, by simp [ofCells, Ty.isAgg]⟩
  | _ => cases c <;> simp only [cst, reduceCtorEq] at h <;> exact key _ rfl h

theorem opd_sound {st : St} {a : Act} (h : Inv T g w st a) {ty : Ty} {x : Operand} {v : V} (ho : opd st ty x = some v) : ValR T g w ty v (a.eval x) := by
  cases x with
  | tmp t =>
    simp only [opd] at ho
    cases hg : st.env.get t with
    | none => simp [hg] at ho
    | some e =>
      cases e with
      | tup l => simp [hg] at ho
      | un => simp [hg] at ho
      | one u y own =>
        simp only [hg] at ho
        cases hb : u.beq ty with
        | true =>
          simp only [hb, Option.some.injEq] at ho
          obtain rfl := Ty.eq_of_beq _ _ hb
          subst ho
          exact (h.env t _ hg).1
        | false => simp [hb] at ho
  | const c => exact cst_sound ho
  | global i => simp [opd] at ho
  | func f =>
    simp only [opd] at ho
    split at ho
    · simp only [Option.some.injEq] at ho
      subst ho
      exact ⟨_, .fn (cs := []) .nil, rfl⟩
    · simp at ho

theorem opi_sound {st : St} {a : Act} (h : Inv T g w st a) {x : Operand} {k : IntKind} {n : Int} (ho : opi st x = some (k, n)) : a.eval x = .int k n := by
  cases x with
  | tmp t =>
    simp only [opi] at ho
    split at ho
    · rename_i hg
      simp only [Option.some.injEq, Prod.mk.injEq] at ho
      obtain ⟨rfl, rfl⟩ := ho
      exact valR_i (h.env t _ hg).1
    · simp at ho
  | const c =>
    cases c <;> simp only [opi, reduceCtorEq, Option.some.injEq, Prod.mk.injEq] at ho
    obtain ⟨rfl, rfl⟩ := ho
    rfl
  | global i => simp [opi] at ho
  | func f => simp [opi] at ho

theorem orgOf_sound {a : Act} {x : Operand} : OrgR g w a.tmps (a.eval x) (orgOf x) := by
  cases x <;> simp only [orgOf] <;> first | trivial | rfl

end

section
variable {P : Program} {cx : Cx} {g : Gh} {w : World} {st st' : St} {a : Act} {o : Oper} {K : Act → World → Prop} {Q : Exit → Act → World → Prop}

/-- what is owed of an operation -/
def Owed (P : Program) (cx : Cx) (g : Gh) (w : World) (st' : St) (a : Act) (o : Oper) : Prop :=
  ∀ (K : Act → World → Prop) (Q : Exit → Act → World → Prop), (∀ g' a' w', Inv cx.T g' w' st' a' → Step g w g' w' → K a' w') → o.wp P a w K Q

theorem Owed.value {g' : Gh} {w' : World} {st1 : St} {e : Ent} {val : Value} (hr : (execOp a.eval o).run P w = .ok (.value val) w') (hi : Inv cx.T g' w' st1 a) (hs : st1.set o.dst e = some st')
    (he : ∀ t, o.dst = some t → EntV cx.T g' w' t val e) (hst : Step g w g' w') : Owed P cx g w st' a o := by
  intro K Q hK
  unfold Oper.wp
  rw [hr]
  exact hK g' _ w' (hi.set hs he) hst

theorem Owed.skip {g' : Gh} {w' : World} {st1 : St} (hr : (execOp a.eval o).run P w = .ok .skip w') (hi : Inv cx.T g' w' st1 a) (hs : st1.set o.dst .un = some st')
    (hst : Step g w g' w') : Owed P cx g w st' a o := by
  intro K Q hK
  unfold Oper.wp
  rw [hr]
  exact hK g' _ w' (hi.set (val := undef) hs fun _ _ => rfl) hst

/-- an operation that computes a value out of values -/
theorem Owed.pure {ty : Ty} {v : V} {val : Value} (hi : Inv cx.T g w st a) (hs : st.set o.dst (.one ty v false) = some st') (hr : (execOp a.eval o).run P w = .ok (.value val) w)
    (hv : ValR cx.T g w ty v val) : Owed P cx g w st' a o :=
  Owed.value hr hi hs (fun _ _ => ⟨hv, by simp⟩) (Step.refl g w)

theorem Owed.pureO {ty : Ty} {v : V} {val : Value} {og : Org} (hi : Inv cx.T g w st a) (hs : st.setO o.dst (.one ty v false) og = some st') (hr : (execOp a.eval o).run P w = .ok (.value val) w)
    (hv : ValR cx.T g w ty v val) (ho : OrgR g w a.tmps val og) : Owed P cx g w st' a o := by
  intro K Q hK
  unfold Oper.wp
  rw [hr]
  exact hK g _ w (hi.setO hs (fun _ _ => ⟨hv, by simp⟩) ho) (Step.refl g w)

theorem tupOf_sound {x : Operand} {l : List (Ty × V)} (hi : Inv cx.T g w st a) (h : tupOf st x = some l) : ∃ vals : Array Value, a.eval x = .tuple vals ∧ TupR cx.T g w l vals.toList := by
  cases x with
  | tmp t =>
    simp only [tupOf] at h
    split at h
    · rename_i hg
      simp only [Option.some.injEq] at h
      subst h
      exact hi.env t _ hg
    · simp at h
  | const c => simp [tupOf] at h
  | global i => simp [tupOf] at h
  | func f => simp [tupOf] at h

theorem move_owed {x : Operand} {ty : Option Ty} (hop : o.op = .move x) (hi : Inv cx.T g w st a) (h : moveEv st o.dst x ty = some st') : Owed P cx g w st' a o := by
  have hrun : (execOp a.eval o).run P w = .ok (.value (a.eval x)) w := by simp [execOp, hop]
  cases ty with
  | some ty =>
    simp only [moveEv] at h
    cases hv : opd st ty x with
    | none => simp [hv] at h
    | some v =>
      simp only [hv] at h
      cases hsl : isSl ty with
      | true => simp only [hsl] at h; exact Owed.pureO hi h hrun (opd_sound hi hv) orgOf_sound
      | false => simp only [hsl] at h; exact Owed.pure hi h hrun (opd_sound hi hv)
  | none =>
    simp only [moveEv] at h
    cases hv : tupOf st x with
    | none => simp [hv] at h
    | some l =>
      simp only [hv] at h
      obtain ⟨vals, h1, h2⟩ := tupOf_sound hi hv
      exact Owed.value (val := a.eval x) hrun hi h (fun _ _ => ⟨vals, h1, h2⟩) (Step.refl g w)

theorem pick_owed {c x y : Operand} {ty : Option Ty} (hop : o.op = .pick c x y) (hi : Inv cx.T g w st a) (h : pickEv st o.dst c x y ty = some st') : Owed P cx g w st' a o := by
  cases ty with
  | none => simp [pickEv] at h
  | some ty =>
    simp only [pickEv] at h
    split at h
    · rename_i r hc
      obtain ⟨b, hb, hcv⟩ := valR_bool (opd_sound hi hc)
      injection hb with hb
      subst hb
      split at h
      · rename_i v hv
        have hv' : opd st ty (if r then x else y) = some v := by cases r <;> simpa using hv
        refine Owed.pure hi h (val := a.eval (if r then x else y)) ?_ (opd_sound hi hv')
        simp only [execOp, hop, hcv, asBool, Sem.run_bind, Sem.run_pure, Result.andThen_ok]
        cases r <;> rfl
      · simp at h
    · simp at h

theorem put1_spec {d : Option Nat} {x : Option (Ty × V)} (h : put1 st d x = some st') : ∃ ty v, x = some (ty, v) ∧ st.set d (.one ty v false) = some st' := by
  cases x with
  | none => simp [put1] at h
  | some tv => exact ⟨tv.1, tv.2, rfl, h⟩

theorem putP_spec {d : Option Nat} {x : Option V} (h : putP st d x = some st') : ∃ v, x = some v ∧ st.set d (.one .ptr v false) = some st' := by
  cases x with
  | none => simp [putP] at h
  | some v => exact ⟨v, rfl, h⟩

theorem wrap_signed {M H x : Nat} {n : Int} (hx : n % (M : Int) = (x : Int)) : (match Nat.ble H x with
    | true => Int.subNatNat x M
    | false => Int.ofNat x) = if (true && decide (n % (M : Int) ≥ (H : Int))) = true then n % (M : Int) - (M : Int) else n % (M : Int) := by
  rw [hx]
  cases hb : Nat.ble H x with
  | true =>
    have : (H : Int) ≤ x := by have := Nat.le_of_ble_eq_true hb; omega
    simp [Int.subNatNat_eq_coe, this]
  | false =>
    have : ¬ (H : Int) ≤ x := by
      intro h
      have h2 : H ≤ x := by omega
      rw [Nat.ble_eq_true_of_le h2] at hb
      simp at hb
    simp [this]

theorem pow_mod (k : IntKind) : (2 ^ k.bits : Int) = ((modN k : Nat) : Int) := by cases k <;> decide
theorem pow_half {k : IntKind} {h : Nat} (hh : halfN k = some h) : (2 ^ (k.bits - 1) : Int) = (h : Int) ∧ k.signed = true := by
  cases k <;> simp only [halfN, reduceCtorEq, Option.some.injEq] at hh <;> subst hh <;> decide
theorem half_none {k : IntKind} (hh : halfN k = none) : k.signed = false := by
  cases k <;> simp only [halfN, reduceCtorEq] at hh <;> rfl

theorem wrapF_eq (k : IntKind) (n : Int) : wrapF k n = k.wrap n := by
  have hpos : 0 < modN k := by cases k <;> simp [modN]
  obtain ⟨x, hx⟩ := Int.eq_ofNat_of_zero_le (Int.emod_nonneg n (b := ((modN k : Nat) : Int)) (by omega))
  have hx2 : Int.emod n (Int.ofNat (modN k)) = Int.ofNat x := hx
  simp only [wrapF, hx2, IntKind.wrap, pow_mod]
  cases hh : halfN k with
  | none =>
    simp only [half_none hh, Bool.false_and, Bool.false_eq_true, if_false]
    exact hx.symm
  | some h =>
    obtain ⟨h1, h2⟩ := pow_half hh
    simp only [h1, h2]
    exact wrap_signed hx

theorem toN_eq (k : IntKind) (x : Int) : (BitVec.ofInt k.bits x).toNat = toN k x := by
  rw [BitVec.toNat_ofInt]
  have : ((2 ^ k.bits : Nat) : Int) = ((modN k : Nat) : Int) := by rw [← pow_mod]; simp
  rw [this]
  rfl

theorem modN_eq (k : IntKind) : 2 ^ k.bits = modN k := by cases k <;> rfl

theorem binInt_run {op : BinOp} {k : IntKind} {x y : Int} {v : V} (h : intOp op k x y = some v) (t : TypeId) :
    ∃ val, (binOp op t (.int k x) (.int k y)).run P w = .ok val w ∧ (match v with | .b r => val = .bool r | .i n => val = .int k n | _ => False) := by
  cases op <;> simp only [intOp, reduceCtorEq, Option.some.injEq] at h
  case quo =>
    split at h
    · simp at h
    · rename_i hy
      simp only [Option.some.injEq] at h; subst h
      simp only [wrapF_eq]
      exact ⟨_, by simp [binOp, Op.intDiv, hy], rfl⟩
  case rem =>
    split at h
    · simp at h
    · rename_i hy
      simp only [Option.some.injEq] at h; subst h
      exact ⟨_, by simp [binOp, Op.intDiv, hy], rfl⟩
  case and =>
    subst h
    refine ⟨_, by simp only [binOp, Op.intBits, ne_eq, not_true_eq_false, if_false, Sem.run_pure]; rfl, ?_⟩
    simp only [wrapF_eq, BitVec.toNat_and, toN_eq]; rfl
  case or =>
    subst h
    refine ⟨_, by simp only [binOp, Op.intBits, ne_eq, not_true_eq_false, if_false, Sem.run_pure]; rfl, ?_⟩
    simp only [wrapF_eq, BitVec.toNat_or, toN_eq]; rfl
  case xor =>
    subst h
    refine ⟨_, by simp only [binOp, Op.intBits, ne_eq, not_true_eq_false, if_false, Sem.run_pure]; rfl, ?_⟩
    simp only [wrapF_eq, BitVec.toNat_xor, toN_eq]; rfl
  case andNot =>
    subst h
    refine ⟨_, by simp only [binOp, Op.intBits, ne_eq, not_true_eq_false, if_false, Sem.run_pure]; rfl, ?_⟩
    simp only [wrapF_eq, BitVec.toNat_and, BitVec.toNat_not, toN_eq, modN_eq]; rfl
  all_goals
    subst h
    try simp only [wrapF_eq]
    exact ⟨_, by simp [binOp, Op.intArith, Op.intCmp], rfl⟩

theorem bin_owed {op : BinOp} {xt yt : Nat} {x y : Operand} {ty : Ty} {v : V} {val : Value} (hop : o.op = .binOp op xt x y yt) (hi : Inv cx.T g w st a) (hs : st.set o.dst (.one ty v false) = some st')
    (hg : (eqGuard op xt x y (a.eval x) (a.eval y)).run P w = .ok () w) (hr : (binOp op xt (a.eval x) (a.eval y)).run P w = .ok val w) (hv : ValR cx.T g w ty v val) : Owed P cx g w st' a o := by
  refine Owed.pure hi hs (val := val) ?_ hv
  simp [execOp, hop, hg, hr]

theorem guard_int (op : BinOp) (t : TypeId) (x y : Operand) (k : IntKind) (m : Int) (b : Value) : (eqGuard op t x y (.int k m) b).run P w = .ok () w := by
  unfold eqGuard
  split <;> simp
theorem guard_str (op : BinOp) (t : TypeId) (x y : Operand) (s : ByteArray) (b : Value) : (eqGuard op t x y (.string s) b).run P w = .ok () w := by
  unfold eqGuard
  split <;> simp

theorem sh_run {op : BinOp} (hop : op = .shl ∨ op = .shr) {k k' : IntKind} {x y : Int} {v : V} (h : shOp op k x y = some v) (t : TypeId) :
    ∃ n, (binOp op t (.int k x) (.int k' y)).run P w = .ok (.int k n) w ∧ v = .i n := by
  unfold shOp at h
  split at h
  · simp at h
  · rename_i hy
    rcases hop with rfl | rfl
    · simp only [Option.some.injEq] at h; subst h
      simp only [wrapF_eq]
      exact ⟨_, by simp [binOp, Op.shift, hy], rfl⟩
    · simp only [Option.some.injEq] at h; subst h
      exact ⟨_, by simp [binOp, Op.shift, hy], rfl⟩

theorem binStr_run {op : BinOp} {x y : ByteArray} {v : V} (h : strOp op x.data.toList y.data.toList = some v) (t : TypeId) :
    ∃ val, (binOp op t (.string x) (.string y)).run P w = .ok val w ∧ ((∃ b, v = .b b ∧ val = .bool b) ∨ ∃ s : ByteArray, v = .s s.data.toList ∧ val = .string s) := by
  cases op <;> simp only [strOp, reduceCtorEq, Option.some.injEq] at h
  case add =>
    split at h
    · rename_i hl
      simp only [Option.some.injEq] at h; subst h
      refine ⟨.string (x ++ y), ?_, .inr ⟨x ++ y, by simp, rfl⟩⟩
      have hx : x.size = x.data.toList.length := rfl
      have hy : y.size = y.data.toList.length := rfl
      have hm : IntKind.i64.max = 9223372036854775807 := by rfl
      have : ¬ (((x.size + y.size : Nat) : Int) > IntKind.i64.max) := by rw [hx, hy, hm]; omega
      simp only [binOp, Op.stringOp, this, if_false, Sem.run_pure]
    · simp at h
  all_goals
    subst h
    exact ⟨_, by simp [binOp, Op.stringOp, ByteArray.toList_eq], .inl ⟨_, rfl, rfl⟩⟩

theorem run_part {t : Nat} {u : Ty} (h : TyOk P cx.T t u) {cs : List Value} {off : Nat} {v : V} (hv : VR cx.T g w u ((cs.drop off).take u.size) v) :
    (part t cs.toArray off).run P w = .ok (ofCells u ((cs.drop off).take u.size)) w := by
  simp only [part, Sem.run_bind, h.run_isAgg, Result.andThen_ok]
  cases ha : u.isAgg with
  | true =>
    simp [h.run_sizeOf, ofCells, ha]
  | false =>
    obtain ⟨c, hc, _⟩ := hv.single ha
    have h1 : cs[off]? = some c := by
      have : ((cs.drop off).take u.size)[0]? = some c := by rw [hc]; rfl
      rw [List.getElem?_take] at this
      split at this
      · simpa using this
      · simp at this
    simp only [Bool.false_eq_true, if_false, List.getElem?_toArray, h1, Sem.run_pure, hc, ofCells, ha, List.headD_cons]

theorem rank_field : ∀ {fs : List Ty} {i off : Nat} {u : Ty}, fieldOff fs i = some (off, u) → u.rank ≤ Ty.ranks fs
  | [], i, off, u, h => by simp [fieldOff] at h
  | t :: ts, 0, off, u, h => by
    simp only [fieldOff, Option.some.injEq, Prod.mk.injEq] at h
    rw [← h.2, Ty.ranks]; omega
  | t :: ts, i + 1, off, u, h => by
    simp only [fieldOff] at h
    cases hf : fieldOff ts i with
    | none => simp [hf] at h
    | some y =>
      simp only [hf, Option.some.injEq, Prod.mk.injEq] at h
      have := rank_field hf
      rw [Ty.ranks, ← h.2]; omega

theorem fieldOff_lt : ∀ {fs : List Ty} {i : Nat}, i < fs.length → ∃ off, fieldOff fs i = some (off, fs[i]!)
  | [], i, h => by simp at h
  | t :: ts, 0, _ => ⟨0, by simp [fieldOff]⟩
  | t :: ts, i + 1, h => by
    obtain ⟨off, ho⟩ := fieldOff_lt (fs := ts) (i := i) (by simpa using h)
    exact ⟨t.size + off, by simp [fieldOff, ho]⟩

theorem fieldOff_get : ∀ {fs : List Ty} {i off : Nat} {u : Ty}, fieldOff fs i = some (off, u) → fs[i]? = some u
  | [], i, off, u, h => by simp [fieldOff] at h
  | t :: ts, 0, off, u, h => by
    simp only [fieldOff, Option.some.injEq, Prod.mk.injEq] at h
    simp [h.2]
  | t :: ts, i + 1, off, u, h => by
    simp only [fieldOff] at h
    cases hf : fieldOff ts i with
    | none => simp [hf] at h
    | some y =>
      simp only [hf, Option.some.injEq, Prod.mk.injEq] at h
      simpa [← h.2] using fieldOff_get hf

theorem eqV_sound (G : Good P cx) : ∀ (d : Nat) (ty : Ty) (t : Nat) (x y : V) (r : Bool) (cs ds : List Value), ty.rank ≤ d → cx.T t = some ty → (∀ fs, ty = .st fs → cx.E t = true) → eqV ty x y = some r →
    VR cx.T g w ty cs x → VR cx.T g w ty ds y → (Op.equalIn d t (ofCells ty cs) (ofCells ty ds)).run P w = .ok r w := by
  intro d
  induction d with
  | zero => intro ty t x y r cs ds hd; cases ty <;> simp [Ty.rank] at hd
  | succ d ih =>
    intro ty t x y r cs ds hd hT hE he hx hy
    have hty := G.ty t ty hT
    have hdesc := hty.desc
    cases ty with
    | bool =>
      simp only [DescOk] at hdesc
      cases hx; cases hy
      simp only [eqV, Option.some.injEq] at he
      simp only [ofCells, Ty.isAgg, Bool.false_eq_true, if_false, List.headD_cons]
      rw [Go.run_equalIn_bool' (P := P) w d t _ _ hdesc, he]
    | int k =>
      simp only [DescOk] at hdesc
      have key : ∃ m n : Int, cs = [.int k m] ∧ ds = [.int k n] ∧ (m == n) = r := by
        cases hx with
        | i =>
          cases hy with
          | i => simp only [eqV, Option.some.injEq] at he; exact ⟨_, _, rfl, rfl, he⟩
          | ix => simp [eqV] at he
        | ix =>
          cases hy with
          | i => simp [eqV] at he
          | ix =>
            simp only [eqV] at he
            split at he
            · rename_i hb
              injection he with he
              exact ⟨_, _, rfl, rfl, by rw [SI.eq_of_beq hb, beq_self_eq_true]; exact he⟩
            · simp at he
      obtain ⟨m, n, rfl, rfl, he⟩ := key
      simp only [ofCells, Ty.isAgg, Bool.false_eq_true, if_false, List.headD_cons]
      rw [Go.run_equalIn_int (P := P) w d t k k _ _ hdesc, he]
    | str =>
      simp only [DescOk] at hdesc
      have key : ∃ m n : ByteArray, cs = [.string m] ∧ ds = [.string n] ∧ (m.data.toList == n.data.toList) = r := by
        cases hx with
        | s =>
          cases hy with
          | s => simp only [eqV, Option.some.injEq] at he; exact ⟨_, _, rfl, rfl, he⟩
          | tx => simp [eqV] at he
        | tx x l hl =>
          cases hy with
          | s => simp [eqV] at he
          | tx y m hm =>
            simp only [eqV] at he
            split at he
            · rename_i hb
              injection he with he
              exact ⟨_, _, rfl, rfl, by rw [hl, hm, sb_eq hb, beq_self_eq_true]; exact he⟩
            · simp at he
      obtain ⟨m, n, rfl, rfl, he⟩ := key
      simp only [ofCells, Ty.isAgg, Bool.false_eq_true, if_false, List.headD_cons]
      rw [Go.run_equalIn_string (P := P) w d t _ _ hdesc, ByteArray.toList_eq, ByteArray.toList_eq, he]
    | ptr =>
      simp only [DescOk] at hdesc
      obtain ⟨e, hdesc⟩ := hdesc
      cases hx <;> cases hy <;> simp only [eqV, reduceCtorEq, Option.some.injEq] at he <;> subst he <;>
        simp [ofCells, Ty.isAgg, Op.equalIn, run_underlying hdesc]
    | sl e =>
      simp only [DescOk] at hdesc
      cases hx <;> cases hy <;> simp only [eqV, reduceCtorEq, Option.some.injEq] at he <;> subst he <;>
        simp [ofCells, Ty.isAgg, Op.equalIn, run_underlying hdesc]
    | st fs =>
      simp only [DescOk] at hdesc
      obtain ⟨flds, hu, hsz, hf⟩ := hdesc
      obtain ⟨hE1, _, hE3⟩ := G.eq t (hE fs rfl)
      cases hx with
      | st hx =>
        cases hy with
        | st hy =>
          rename_i xs ys
          have hfo : P.fieldsOf t = flds := by simp [Program.fieldsOf, hu]
          simp only [ofCells, Ty.isAgg, if_true]
          rw [Go.run_equalIn_struct (P := P) w d t _ _ (by rw [hfo]; exact hu) hE1, hfo]
          simp only [eqV] at he
          have hlx := hx.length
          have hly := hy.length
          have key : ∀ n i, n + i = fs.length → eqVs (fs.drop i) (xs.drop i) (ys.drop i) = some r →
              (Op.eqFields d cs.toArray ds.toArray (flds.toList.drop i)).run P w = .ok r w := by
            intro n
            induction n with
            | zero =>
              intro i hi he
              rw [List.drop_eq_nil_of_le (by omega), List.drop_eq_nil_of_le (by omega), List.drop_eq_nil_of_le (by omega)] at he
              rw [List.drop_eq_nil_of_le (by simp; omega)]
              simp only [eqVs, Option.some.injEq] at he
              subst he
              simp [Op.eqFields]
            | succ n ihn =>
              intro i hi he
              have hi1 : i < fs.length := by omega
              have hi2 : i < xs.length := by omega
              have hi3 : i < ys.length := by omega
              have hi4 : i < flds.size := by omega
              rw [List.drop_eq_getElem_cons hi1, List.drop_eq_getElem_cons hi2, List.drop_eq_getElem_cons hi3] at he
              rw [List.drop_eq_getElem_cons (by simpa using hi4)]
              simp only [eqVs] at he
              have hfi : flds[i]? = some flds[i] := Array.getElem?_eq_getElem hi4
              obtain ⟨u, ho, hTu⟩ := hf i _ hfi
              obtain ⟨hn, hEu⟩ := hE3 flds hu flds[i] (Array.getElem_mem hi4)
              have hui : fs[i] = u := by
                have := fieldOff_get ho
                rw [List.getElem?_eq_getElem hi1] at this
                injection this
              obtain ⟨vx, a1, a2, _⟩ := hx.sub ho
              obtain ⟨vy, b1, b2, _⟩ := hy.sub ho
              have hxi : xs[i] = vx := by rw [List.getElem?_eq_getElem hi2] at a1; injection a1
              have hyi : ys[i] = vy := by rw [List.getElem?_eq_getElem hi3] at b1; injection b1
              have hgu := G.ty _ _ hTu
              have hr := rank_field ho
              rw [Ty.rank] at hd
              rw [hui, hxi, hyi] at he
              simp only [Op.eqFields, Array.getElem_toList, ne_eq, hn, not_false_eq_true, if_true, Sem.run_bind, run_part hgu a2, run_part hgu b2, Result.andThen_ok]
              cases hev : eqV u vx vy with
              | none => simp [hev] at he
              | some r1 =>
                rw [ih u flds[i].type vx vy r1 _ _ (by omega) hTu (fun fs' hfs => hEu fs' (hfs ▸ hTu)) hev a2 b2]
                cases r1 with
                | false =>
                  simp only [hev, Option.some.injEq] at he
                  subst he
                  simp
                | true =>
                  simp only [hev] at he
                  simp only [Result.andThen_ok, Bool.not_true, Bool.false_eq_true, if_false]
                  exact ihn (i + 1) (by omega) he
          exact key fs.length 0 (by omega) (by simpa using he)
    | mp k e => cases x <;> cases y <;> simp [eqV] at he
    | fn => cases x <;> cases y <;> simp [eqV] at he
    | ifc => cases x <;> cases y <;> simp [eqV] at he
    | ar n e => cases x <;> cases y <;> simp [eqV] at he

end
end Go.Vm
