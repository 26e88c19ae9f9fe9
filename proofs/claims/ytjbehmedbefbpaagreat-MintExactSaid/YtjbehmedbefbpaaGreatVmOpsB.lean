/- Operations that leave memory alone, one by one. -/
import Derived.Test.YtjbehmedbefbpaaGreatVmOpsA
set_option linter.unusedVariables false
set_option linter.unusedSimpArgs false
namespace Go.Vm
open Go

section
variable {P : Program} {cx : Cx} {g : Gh} {w : World} {st st' : St} {a : Act} {o : Oper}

theorem intOp_shape {op : BinOp} {k : IntKind} {x y : Int} {v : V} (h : intOp op k x y = some v) : (∃ b, v = .b b) ∨ ∃ n, v = .i n := by
  cases op <;> simp only [intOp, reduceCtorEq, Option.some.injEq] at h
  case quo => split at h <;> simp at h; exact .inr ⟨_, h.symm⟩
  case rem => split at h <;> simp at h; exact .inr ⟨_, h.symm⟩
  all_goals first | exact .inl ⟨_, h.symm⟩ | exact .inr ⟨_, h.symm⟩

theorem shOwed {op : BinOp} {xt yt : Nat} {k : IntKind} {x y : Operand} {ty : Ty} {v : V} (h2 : op = .shl ∨ op = .shr) (hop : o.op = .binOp op xt x y yt) (hi : Inv cx.T g w st a)
    (he : shEv st op k x y = some (ty, v)) (hs : st.set o.dst (.one ty v false) = some st') : Owed P cx g w st' a o := by
  unfold shEv at he
  cases hx : opd st (.int k) x with
  | none => simp [hx] at he
  | some vx =>
    rcases valR_int (opd_sound hi hx) with ⟨m, rfl, ex⟩ | ⟨e, rfl, ex⟩
    case inr => simp [hx] at he
    cases hy : opi st y with
    | none => simp [hx, hy] at he
    | some kb =>
      obtain ⟨k', b⟩ := kb
      simp only [hx, hy] at he
      cases hsh : shOp op k m b with
      | none => simp [hsh] at he
      | some r =>
        simp only [hsh, Option.some.injEq, Prod.mk.injEq] at he
        obtain ⟨rfl, rfl⟩ := he
        have ey := opi_sound hi hy
        obtain ⟨n, hr, rfl⟩ := sh_run (P := P) (w := w) h2 (k' := k') hsh xt
        exact bin_owed hop hi hs (by rw [ex]; exact guard_int ..) (by rw [ex, ey]; exact hr) (.int k n)

theorem intOwed {op : BinOp} {xt yt : Nat} {k : IntKind} {x y : Operand} {ty : Ty} {v : V} (hop : o.op = .binOp op xt x y yt) (hi : Inv cx.T g w st a)
    (he : intEv st op k x y = some (ty, v)) (hs : st.set o.dst (.one ty v false) = some st') : Owed P cx g w st' a o := by
  unfold intEv at he
  cases hx : opd st (.int k) x with
  | none => simp [hx] at he
  | some vx =>
    rcases valR_int (opd_sound hi hx) with ⟨m, rfl, ex⟩ | ⟨e, rfl, ex⟩
    case inr => simp [hx] at he
    cases hy : opd st (.int k) y with
    | none => simp [hx, hy] at he
    | some vy =>
      rcases valR_int (opd_sound hi hy) with ⟨n, rfl, ey⟩ | ⟨e, rfl, ey⟩
      case inr => simp [hx, hy] at he
      simp only [hx, hy] at he
      cases hint : intOp op k m n with
      | none => simp [hint] at he
      | some r =>
        obtain ⟨val, hr, hm⟩ := binInt_run (P := P) (w := w) hint xt
        rcases intOp_shape hint with ⟨b, rfl⟩ | ⟨n', rfl⟩
        · simp only [hint, Option.some.injEq, Prod.mk.injEq] at he
          obtain ⟨rfl, rfl⟩ := he
          simp only at hm
          subst hm
          exact bin_owed hop hi hs (by rw [ex]; exact guard_int ..) (by rw [ex, ey]; exact hr) (.bool b)
        · simp only [hint, Option.some.injEq, Prod.mk.injEq] at he
          obtain ⟨rfl, rfl⟩ := he
          simp only at hm
          subst hm
          exact bin_owed hop hi hs (by rw [ex]; exact guard_int ..) (by rw [ex, ey]; exact hr) (.int k n')

theorem strOwed {op : BinOp} {xt yt : Nat} {x y : Operand} {ty : Ty} {v : V} (hop : o.op = .binOp op xt x y yt) (hi : Inv cx.T g w st a)
    (he : strEv st op x y = some (ty, v)) (hs : st.set o.dst (.one ty v false) = some st') : Owed P cx g w st' a o := by
  unfold strEv at he
  cases hx : opd st .str x with
  | none => simp [hx] at he
  | some vx =>
    rcases valR_str (opd_sound hi hx) with ⟨s1, rfl, ex⟩ | ⟨s1, l, rfl, ex, -⟩
    case inr => simp [hx] at he
    cases hy : opd st .str y with
    | none => simp [hx, hy] at he
    | some vy =>
      rcases valR_str (opd_sound hi hy) with ⟨s2, rfl, ey⟩ | ⟨s2, l, rfl, ey, -⟩
      case inr => simp [hx, hy] at he
      simp only [hx, hy] at he
      cases hso : strOp op s1.data.toList s2.data.toList with
      | none => simp [hso] at he
      | some r =>
        obtain ⟨val, hr, hm⟩ := binStr_run (P := P) (w := w) hso xt
        rcases hm with ⟨b, rfl, rfl⟩ | ⟨s, rfl, rfl⟩
        · simp only [hso, Option.some.injEq, Prod.mk.injEq] at he
          obtain ⟨rfl, rfl⟩ := he
          exact bin_owed hop hi hs (by rw [ex]; exact guard_str ..) (by rw [ex, ey]; exact hr) (.bool b)
        · simp only [hso, Option.some.injEq, Prod.mk.injEq] at he
          obtain ⟨rfl, rfl⟩ := he
          exact bin_owed hop hi hs (by rw [ex]; exact guard_str ..) (by rw [ex, ey]; exact hr) ⟨_, .s s, rfl⟩

theorem eqOwed (G : Good P cx) {op : BinOp} {xt yt : Nat} {x y : Operand} {u ty : Ty} {v : V} {neg : Bool} (hn : op = if neg then .neq else .eql) (hT : cx.T xt = some u) (h1 : ∀ k, u ≠ .int k) (h2 : u ≠ .str)
    (hE : (!isSt u || cx.E xt) = true) (hrank : u.rank ≤ 1000) (hop : o.op = .binOp op xt x y yt) (hi : Inv cx.T g w st a)
    (he : eqEv st neg u x y = some (ty, v)) (hs : st.set o.dst (.one ty v false) = some st') : Owed P cx g w st' a o := by
  unfold eqEv at he
  have hE' : ∀ fs, u = .st fs → cx.E xt = true := by
    intro fs hfs
    rw [hfs] at hE; simpa [isSt] using hE
  cases hx : opd st u x with
  | none => simp [hx] at he
  | some vx =>
    cases hy : opd st u y with
    | none => simp [hx, hy] at he
    | some vy =>
      simp only [hx, hy] at he
      cases hr : eqV u vx vy with
      | none => simp [hr] at he
      | some r =>
        simp only [hr, Option.some.injEq, Prod.mk.injEq] at he
        obtain ⟨rfl, rfl⟩ := he
        obtain ⟨cs, hcs, ex⟩ := opd_sound hi hx
        obtain ⟨ds, hds, ey⟩ := opd_sound hi hy
        have heq : (Op.equal xt (a.eval x) (a.eval y)).run P w = .ok r w := by
          rw [ex, ey]
          exact eqV_sound G _ u xt vx vy r cs ds (by unfold Op.maxDepth; omega) hT hE' hr hcs hds
        refine bin_owed hop hi hs (val := .bool (neg ^^ r)) ?_ ?_ (.bool _)
        · rw [ex, ey]
          subst hn
          cases neg <;> (
            cases hcs <;> cases hds <;> simp only [eqV, reduceCtorEq] at hr <;> first
              | exact absurd rfl (h1 _)
              | exact absurd rfl h2
              | (simp [eqGuard, ofCells, Ty.isAgg]; done)
              | (simp [eqGuard, ofCells, Ty.isAgg, program, Sem.run, (G.eq xt (hE' _ rfl)).2.1]; done))
        · rw [ex, ey] at heq ⊢
          subst hn
          cases neg <;> (
            cases hcs <;> cases hds <;> simp only [eqV, reduceCtorEq] at hr <;> first
              | exact absurd rfl (h1 _)
              | exact absurd rfl h2
              | (simp only [ofCells, Ty.isAgg, Bool.false_eq_true, if_false, if_true, List.headD_cons] at heq ⊢; simp [binOp, heq]))

theorem binOwed (G : Good P cx) {op : BinOp} {xt yt : Nat} {x y : Operand} {ty : Ty} {v : V} (hop : o.op = .binOp op xt x y yt) (hi : Inv cx.T g w st a)
    (he : binEv cx st op xt x y = some (ty, v)) (hs : st.set o.dst (.one ty v false) = some st') : Owed P cx g w st' a o := by
  have cmp : ∀ u, cx.T xt = some u → (∀ k, u ≠ .int k) → u ≠ .str → cmpEv st (cx.E xt) op u x y = some (ty, v) → Owed P cx g w st' a o := by
    intro u hT h1 h2 he
    unfold cmpEv at he
    split at he
    · rename_i hc
      simp only [Bool.and_eq_true, decide_eq_true_eq] at hc
      cases op <;> simp only [reduceCtorEq] at he
      · exact eqOwed G (neg := false) rfl hT h1 h2 hc.1 hc.2 hop hi he hs
      · exact eqOwed G (neg := true) rfl hT h1 h2 hc.1 hc.2 hop hi he hs
    · simp at he
  unfold binEv at he
  cases hT : cx.T xt with
  | none => simp [hT] at he
  | some u =>
    cases u with
    | int k =>
      simp only [hT] at he
      cases op <;> first
        | exact shOwed (.inl rfl) hop hi he hs
        | exact shOwed (.inr rfl) hop hi he hs
        | exact intOwed hop hi he hs
    | str => simp only [hT] at he; exact strOwed hop hi he hs
    | _ => simp only [hT] at he; exact cmp _ hT (by simp) (by simp) he

theorem unOwed {op : UnOp} {xt : Nat} {x : Operand} {ty : Ty} {v : V} (hop : o.op = .unOp op xt x) (hi : Inv cx.T g w st a)
    (he : unEv cx st op xt x = some (ty, v)) (hs : st.set o.dst (.one ty v false) = some st') : Owed P cx g w st' a o := by
  unfold unEv at he
  split at he
  · cases hx : opd st .bool x with
    | none => simp [hx] at he
    | some vx =>
      obtain ⟨b, rfl, ex⟩ := valR_bool (opd_sound hi hx)
      simp only [hx, Option.some.injEq, Prod.mk.injEq] at he
      obtain ⟨rfl, rfl⟩ := he
      exact Owed.pure hi hs (val := .bool (!b)) (by simp [execOp, hop, Op.unary, ex]) (.bool _)
  · rename_i k _
    cases hx : opd st (.int k) x with
    | none => simp [hx] at he
    | some vx =>
      rcases valR_int (opd_sound hi hx) with ⟨n, rfl, ex⟩ | ⟨e, rfl, ex⟩
      case inr => simp [hx] at he
      simp only [hx, Option.some.injEq, Prod.mk.injEq, wrapF_eq] at he
      obtain ⟨rfl, rfl⟩ := he
      exact Owed.pure hi hs (val := .int k (k.wrap (0 - n))) (by simp [execOp, hop, Op.unary, Op.intArith, ex]) (.int _ _)
  · rename_i k _
    cases hx : opd st (.int k) x with
    | none => simp [hx] at he
    | some vx =>
      rcases valR_int (opd_sound hi hx) with ⟨n, rfl, ex⟩ | ⟨e, rfl, ex⟩
      case inr => simp [hx] at he
      simp only [hx, Option.some.injEq, Prod.mk.injEq, wrapF_eq] at he
      obtain ⟨rfl, rfl⟩ := he
      have hk : toN k (if k.signed then -1 else k.max) = modN k - 1 := by cases k <;> decide
      refine Owed.pure hi hs (val := .int k (k.wrap (Int.ofNat (Nat.xor (modN k - 1) (toN k n))))) ?_ (.int _ _)
      have hb : (BitVec.ofInt k.bits (if k.signed then -1 else k.max) ^^^ BitVec.ofInt k.bits n).toNat = Nat.xor (modN k - 1) (toN k n) := by
        rw [BitVec.toNat_xor, toN_eq, toN_eq, hk]; rfl
      simp only [execOp, hop, Op.unary, Op.intBits, ex, Sem.run_bind, Sem.run_pure, Result.andThen_ok, hb]
      rfl
  · simp at he

end
end Go.Vm
