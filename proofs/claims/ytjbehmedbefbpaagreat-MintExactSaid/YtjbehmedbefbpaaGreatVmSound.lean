/- What the evaluator answers, the model's run comes to. -/
import Derived.Test.YtjbehmedbefbpaaGreatVmDraw
set_option linter.unusedVariables false
set_option linter.unusedSimpArgs false
namespace Go.Vm
open Go

/-- all drawn regions of a text are such that one walk speaks for them -/
noncomputable def codeDraws (cx : Cx) (dyn : List (Nat × List (Nat × Nat))) : Code → Bool
  | .region id ops draw => !draw || drawOk cx ops (dynOf id dyn)
  | .seq a b => codeDraws cx dyn a && codeDraws cx dyn b
  | .cond _ a b => codeDraws cx dyn a && codeDraws cx dyn b
  | .block _ c => codeDraws cx dyn c
  | .loop c => codeDraws cx dyn c
  | _ => true

def Draws (cx : Cx) : Prop := ∀ f i c, cx.F f = some i → i.fn.body = some c → codeDraws cx i.dyn c = true

section
variable {P : Program} {cx : Cx} {g : Gh} {w : World} {st st' : St} {a : Act} {o : Oper}

theorem evOps_of_evT {call : Nat → List V → List Ob → Option (Rs × List Ob)} {ops : Array Oper} : ∀ {R : List (Nat × Oper)} {s s' : St} {l : List (Nat × Nat × List Nat)}, evT cx call ops R s = some (l, s') → evOps cx call ops (R.map (·.2)) s = some s'
  | [], s, s', l, h => by simp only [evT, Option.some.injEq, Prod.mk.injEq] at h; rw [h.2]; rfl
  | (k, o) :: R, s, s', l, h => by
    obtain ⟨s1, l1, h1, h2, -⟩ := evT_cons.1 h
    simp only [List.map_cons, evOps, h1]
    exact evOps_of_evT h2

theorem regionEv_ops {call : Nat → List V → List Ob → Option (Rs × List Ob)} {ops : Array Oper} {pairs : List (Nat × Nat)} (h : regionEv cx call ops st pairs = some st') : evOps cx call ops ops.toList st = some st' := by
  cases pairs with
  | nil => exact h
  | cons x r =>
    simp only [regionEv] at h
    split at h
    · rename_i l s' hl
      split at h
      · injection h with h
        subst h
        have := evOps_of_evT hl
        rwa [number_map] at this
      · simp at h
    · simp at h

def exOf : Ex → Exit
  | .normal => .normal
  | .exit id => .exit id
  | .ret => .ret

def CodeOK (P : Program) (cx : Cx) (c : Code) (st : St) (ex : Ex) (st' : St) : Prop :=
  ∀ g a w, Inv cx.T g w st a → ∀ Q : Exit → Act → World → Prop, (∀ g' a' w', Inv cx.T g' w' st' a' → Step g w g' w' → Q (exOf ex) a' w') → c.wp P Q a w

/-- a loop that has been entered -/
def LoopIn (P : Program) (c : Code) (Q : Exit → Act → World → Prop) (a : Act) (w : World) : Prop :=
  ∀ (b : Frame) (k : List Item) (cs : List Frame), ∃ e a' w', Q e a' w' ∧ Arrives P (lone (b.at a (.code c :: .inLoop c :: k)) cs w) b k cs e a' w'

theorem LoopIn.wp {c : Code} {Q : Exit → Act → World → Prop} (h : LoopIn P c Q a w) : (Code.loop c).wp P Q a w :=
  fun b k cs => let ⟨e, a', w', hq, harr⟩ := h b k cs; ⟨e, a', w', hq, .of_steps (.one step_loop) harr⟩

theorem LoopIn.round {c : Code} {Q : Exit → Act → World → Prop} (h : c.wp P (Exit.then (LoopIn P c Q) Q) a w) : LoopIn P c Q a w := by
  intro b k cs
  obtain ⟨e, a1, w1, hq, harr⟩ := h b (.inLoop c :: k) cs
  cases e with
  | normal =>
    obtain ⟨e2, a2, w2, hq2, harr2⟩ := hq b k cs
    exact ⟨e2, a2, w2, hq2, .of_steps (Steps.trans harr (.one step_inLoop)) harr2⟩
  | exit id => exact ⟨_, a1, w1, hq, .pass (x := .inLoop c) rfl (fun _ _ => .inl (by simp)) harr⟩
  | goto l => exact ⟨_, a1, w1, hq, .pass (x := .inLoop c) rfl (fun _ _ => .inl (by simp)) harr⟩
  | ret => exact ⟨_, a1, w1, hq, .pass (x := .inLoop c) rfl (fun _ _ => .inl (by simp)) harr⟩
  | panic ch => exact ⟨_, a1, w1, hq, .pass (x := .inLoop c) rfl (fun _ _ => .inl (by simp)) harr⟩
  | outgrown => exact ⟨_, a1, w1, hq, .pass (x := .inLoop c) rfl (fun _ _ => .inl (by simp)) harr⟩

def LoopOK (P : Program) (cx : Cx) (c : Code) (st : St) (ex : Ex) (st' : St) : Prop :=
  ∀ g a w, Inv cx.T g w st a → ∀ Q : Exit → Act → World → Prop, (∀ g' a' w', Inv cx.T g' w' st' a' → Step g w g' w' → Q (exOf ex) a' w') → LoopIn P c Q a w

/-! Results. -/

theorem results_sound (G : Good P cx) (hi : Inv cx.T g w st a) {F : ResultVar → Sem Value} (F1 : ∀ t, F (.tmp t) = pure (a.tmps.getD t undef)) (F2 : ∀ x t, F (.cell x t) = do loadVar t (← asAddr (a.tmps.getD x undef))) : ∀ {rs : List ResultVar} {ks : List Nat} {l : List (Ty × V × Bool)}, results st rs ks cx.T = some l →
    ∃ vals : List Value, (rs.mapM F).run P w = .ok vals w ∧ TupR cx.T g w (l.map fun x => (x.1, x.2.1)) vals ∧
      (∀ ty v, l = [(ty, v, true)] → ∃ t x, vals = [x] ∧ OwnV cx.T g w (.slot t) ty x)
  | [], [], l, h => by
    simp only [results, Option.some.injEq] at h
    subst h
    exact ⟨[], by simp, trivial, by simp⟩
  | .tmp t :: rs, k :: ks, l, h => by
    simp only [results] at h
    cases hT : cx.T k with
    | none => simp [hT] at h
    | some ty =>
      cases hg : st.env.get t with
      | none => simp [hT, hg] at h
      | some e =>
        cases e with
        | tup _ => simp [hT, hg] at h
        | un => simp [hT, hg] at h
        | one u v own =>
          simp only [hT, hg] at h
          split at h
          · rename_i hb
            obtain rfl := Ty.eq_of_beq _ _ hb
            cases hr : results st rs ks cx.T with
            | none => simp [hr] at h
            | some l2 =>
              simp only [hr, Option.map_some, Option.some.injEq] at h
              subst h
              obtain ⟨vals, h1, h2, h3⟩ := results_sound G hi F1 F2 hr
              obtain ⟨q1, q2⟩ := hi.env t _ hg
              refine ⟨a.tmps.getD t undef :: vals, by simp only [List.mapM_cons, F1, Sem.run_bind, Sem.run_pure, Result.andThen_ok, h1], ⟨q1, h2⟩, ?_⟩
              intro ty2 v2 he
              simp only [List.cons.injEq, Prod.mk.injEq] at he
              obtain ⟨⟨rfl, rfl, rfl⟩, rfl⟩ := he
              cases vals with
              | nil => exact ⟨t, _, rfl, q2 rfl⟩
              | cons _ _ => exact h2.elim
          · simp at h
  | .cell x u :: rs, k :: ks, l, h => by
    simp only [results] at h
    cases hT : cx.T k with
    | none => simp [hT] at h
    | some ty =>
      cases hT2 : cx.T u with
      | none => simp [hT, hT2] at h
      | some ty2 =>
        cases hx : opd st .ptr (.tmp x) with
        | none => simp [hT, hT2, hx] at h
        | some v =>
          cases v <;> first | (simp [hT, hT2, hx] at h; done) | skip
          rename_i ob p
          simp only [hT, hT2, hx] at h
          cases hl : look st.os ob p with
          | none => simp [hl] at h
          | some tv =>
            obtain ⟨t, v⟩ := tv
            simp only [hl] at h
            split at h
            · rename_i hb
              simp only [Bool.and_eq_true] at hb
              obtain rfl := Ty.eq_of_beq _ _ hb.1
              obtain rfl := Ty.eq_of_beq _ _ hb.2
              cases hr : results st rs ks cx.T with
              | none => simp [hr] at h
              | some l2 =>
                simp only [hr, Option.map_some, Option.some.injEq] at h
                subst h
                obtain ⟨vals, h1, h2, h3⟩ := results_sound G hi F1 F2 hr
                obtain ⟨i, q, rt, off, b, cs, hp, k1, k2, k3, k4, k5, k6⟩ := look_sound hi.os hl
                have ex := ptr_of hi hx hp k1 k4
                have ex' : a.tmps.getD x undef = .pointer (some ⟨b, i * rt.size + off, none⟩) := ex
                have hrun := (G.ty u _ hT2).run_loadVar (w := w) k6 k5.len
                have hasA : (asAddr (a.tmps.getD x undef)).run P w = .ok ⟨b, i * rt.size + off, none⟩ w := by rw [ex']; rfl
                refine ⟨ofCells ty2 cs :: vals, by simp only [List.mapM_cons, F2, Sem.run_bind, hasA, Sem.run_pure, Result.andThen_ok, hrun, h1], ⟨⟨cs, k5, rfl⟩, h2⟩, ?_⟩
                intro ty2 v2 he
                simp only [List.cons.injEq, Prod.mk.injEq] at he
                simp at he
            · simp at h
  | [], _ :: _, l, h => by simp [results] at h
  | _ :: _, [], l, h => by cases ‹ResultVar› <;> simp [results] at h

def rv (tmps : Array Value) : ResultVar → Sem Value
  | .tmp t => pure (tmps.getD t undef)
  | .cell x t => do loadVar t (← asAddr (tmps.getD x undef))

theorem results_eq (fn : Func) (tmps : Array Value) : Go.results fn tmps = (do
    let vs ← fn.results.mapM (rv tmps)
    pure (if h : vs.size = 1 then vs[0] else .tuple vs)) := by
  unfold Go.results
  congr 2

theorem results_run (G : Good P cx) {fn : Func} (hi : Inv cx.T g w st a) {l : List (Ty × V × Bool)} (h : results st fn.results.toList fn.resultTypes.toList cx.T = some l) :
    ∃ v, (Go.results fn a.tmps).run P w = .ok v w ∧ RsR cx.T g w (resultRs l) v := by
  have hrun : ∃ vals : List Value, (Go.results fn a.tmps).run P w = .ok (if h : vals.toArray.size = 1 then vals.toArray[0] else .tuple vals.toArray) w ∧ TupR cx.T g w (l.map fun x => (x.1, x.2.1)) vals ∧
      (∀ ty v, l = [(ty, v, true)] → ∃ t x, vals = [x] ∧ OwnV cx.T g w (.slot t) ty x) := by
    rw [results_eq, Sem.run_bind, Array.mapM_eq_mapM_toList, Sem.run_map]
    obtain ⟨vals, h1, h2, h3⟩ := results_sound G hi (F := rv a.tmps) (fun _ => rfl) (fun _ _ => rfl) h
    exact ⟨vals, by rw [h1]; rfl, h2, h3⟩
  obtain ⟨vals, hrun, h2, h3⟩ := hrun
  refine ⟨_, hrun, ?_⟩
  have hlen : l.length = vals.length := by
    have : ∀ {l : List (Ty × V)} {xs : List Value}, TupR cx.T g w l xs → l.length = xs.length := by
      intro l
      induction l with
      | nil => intro xs h; cases xs with
        | nil => rfl
        | cons _ _ => exact h.elim
      | cons p l ih => intro xs h; cases xs with
        | nil => exact h.elim
        | cons x xs => simp [ih h.2]
    have := this h2
    simpa using this
  match l, vals, h2, h3, hlen with
  | [(ty, v, own)], [x], h2, h3, _ =>
    simp only [resultRs, RsR]
    refine ⟨h2.1, fun ho => ?_⟩
    subst ho
    obtain ⟨t, y, hy, ho⟩ := h3 ty v rfl
    simp only [List.cons.injEq, and_true] at hy
    subst hy
    exact ⟨t, ho⟩
  | [], [], h2, _, _ => exact ⟨#[], rfl, trivial⟩
  | x :: y :: l, p :: q :: vals, h2, _, _ =>
    simp only [resultRs, RsR]
    exact ⟨(p :: q :: vals).toArray, by simp, h2⟩

theorem zipEnv_sound : ∀ {ts : List Ty} {vs : List V} {xs : List Value} {k : Nat} {env : Env}, zipEnv k ts vs = some env → ArgsR cx.T g w ts vs xs →
    ∀ t e, Env.get env t = some e → ∃ j ty v x, t = k + j ∧ xs[j]? = some x ∧ e = .one ty v false ∧ ValR cx.T g w ty v x
  | [], [], [], k, env, h, _, t, e, he => by
    simp only [zipEnv, Option.some.injEq] at h
    subst h
    simp [get_nil] at he
  | ty :: ts, v :: vs, x :: xs, k, env, h, ha, t, e, he => by
    simp only [zipEnv] at h
    cases hz : zipEnv (k + 1) ts vs with
    | none => simp [hz] at h
    | some env2 =>
      simp only [hz, Option.map_some, Option.some.injEq] at h
      subst h
      rw [get_cons] at he
      split at he
      · rename_i hkt
        simp only [Option.some.injEq] at he
        exact ⟨0, ty, v, x, by omega, rfl, he.symm, ha.1⟩
      · obtain ⟨j, ty2, v2, x2, h1, h2, h3, h4⟩ := zipEnv_sound hz ha.2 t e he
        exact ⟨j + 1, ty2, v2, x2, by omega, by simpa using h2, h3, h4⟩
  | [], v :: vs, x :: xs, k, env, h, ha, t, e, he => by
    simp only [zipEnv] at h
    cases hz : zipEnv (k + 1) [] vs with
    | none => simp [hz] at h
    | some env2 =>
      simp only [hz, Option.map_some, Option.some.injEq] at h
      subst h
      rw [get_cons] at he
      split at he
      · rename_i hkt
        simp only [Option.some.injEq] at he
        exact ⟨0, .ptr, v, x, by omega, rfl, he.symm, ha.1⟩
      · obtain ⟨j, ty2, v2, x2, h1, h2, h3, h4⟩ := zipEnv_sound hz ha.2 t e he
        exact ⟨j + 1, ty2, v2, x2, by omega, by simpa using h2, h3, h4⟩
  | _ :: _, [], _, k, env, h, _, _, _, _ => by simp [zipEnv] at h
  | [], [], _ :: _, _, _, _, h, _, _, _ => h.elim
  | _ :: _, _ :: _, [], _, _, _, h, _, _, _ => h.elim
  | [], _ :: _, [], _, _, _, h, _, _, _ => h.elim

theorem argsR_length : ∀ {ts : List Ty} {vs : List V} {xs : List Value}, ArgsR cx.T g w ts vs xs → vs.length = xs.length
  | _ :: _, _ :: _, _ :: _, h => by simp [argsR_length h.2]
  | [], _ :: _, _ :: _, h => by simp [argsR_length h.2]
  | [], [], [], _ => rfl
  | _ :: _, [], _, h => by cases ‹List Value› <;> exact h.elim
  | _ :: _, _ :: _, [], h => h.elim
  | [], _ :: _, [], h => h.elim
  | [], [], _ :: _, h => h.elim

theorem ev_sound (G : Good P cx) (X : Exts P cx) (D : Draws cx) : ∀ n, (∀ keep dyn c st ex st', codeDraws cx dyn c = true → ev cx n keep dyn c st = some (ex, st') → CodeOK P cx c st ex st') ∧ (∀ keep dyn c st ex st', codeDraws cx dyn c = true → ev cx n keep dyn (.loop c) st = some (ex, st') → LoopOK P cx c st ex st') ∧
    (∀ f vs os r os', evCall cx n f vs os = some (r, os') → CallOK P cx f vs os r os') := by
  intro n
  induction n with
  | zero => exact ⟨fun _ _ _ _ _ _ _ h => by simp [ev] at h, fun _ _ _ _ _ _ _ h => by simp [ev] at h, fun _ _ _ _ _ h => by simp [evCall] at h⟩
  | succ n ih =>
    obtain ⟨ihC, ihL, ihF⟩ := ih
    have loop : ∀ keep dyn c st ex st', codeDraws cx dyn c = true → ev cx (n + 1) keep dyn (.loop c) st = some (ex, st') → LoopOK P cx c st ex st' := by
      intro keep dyn c st ex st' hD h g a w hi Q hQ
      simp only [ev] at h
      refine LoopIn.round ?_
      split at h
      · rename_i st1 hc
        refine ihC _ _ _ _ _ _ hD hc g a w hi _ fun g1 a1 w1 i1 s1 => ?_
        exact ihL _ _ _ _ _ _ hD h g1 a1 w1 i1 Q fun g2 a2 w2 i2 s2 => hQ g2 a2 w2 i2 (s1.trans s2)
      · rename_i hne
        refine ihC _ _ _ _ _ _ hD h g a w hi _ fun g1 a1 w1 i1 s1 => ?_
        cases ex with
        | normal => exact absurd h (by intro h; exact hne _ h)
        | exit id => exact hQ g1 a1 w1 i1 s1
        | ret => exact hQ g1 a1 w1 i1 s1
    refine ⟨?_, loop, ?_⟩
    · intro keep dyn c st ex st' hD h g a w hi Q hQ
      cases c with
      | skip =>
        simp only [ev, Option.some.injEq, Prod.mk.injEq] at h
        obtain ⟨rfl, rfl⟩ := h
        exact wp_skip (hQ g a w hi (Step.refl g w))
      | region id ops draw =>
        simp only [ev] at h
        cases he : regionEv cx (fun f vs os => evCall cx n f vs os) ops st (dynOf id dyn) with
        | none => simp [he] at h
        | some st1 =>
          simp only [he, Option.some.injEq, Prod.mk.injEq] at h
          obtain ⟨rfl, rfl⟩ := h
          cases draw with
          | true =>
            simp only [codeDraws, Bool.not_true, Bool.false_or] at hD
            exact region_drawn G X (fun f vs os r os' h => ihF f vs os r os' h) hD hi he fun g1 a1 w1 i1 s1 => hQ g1 a1 w1 (i1.keepSt keep) s1
          | false =>
            refine wp_region ?_
            have := evOps_sound G X (fun f vs os r os' h => ihF f vs os r os' h) (ops := ops) (Q := Q) ops.toList 0 g w st st1 a (fun j => by simp) hi (regionEv_ops he)
              fun g1 a1 w1 i1 s1 => hQ g1 a1 w1 (i1.keepSt keep) s1
            rw [List.range_eq_range']
            simpa using this
      | seq x y =>
        simp only [ev] at h
        simp only [codeDraws, Bool.and_eq_true] at hD
        split at h
        · rename_i st1 hc
          refine wp_seq (ihC _ _ _ _ _ _ hD.1 hc g a w hi _ fun g1 a1 w1 i1 s1 => ?_)
          exact ihC _ _ _ _ _ _ hD.2 h g1 a1 w1 i1 Q fun g2 a2 w2 i2 s2 => hQ g2 a2 w2 i2 (s1.trans s2)
        · rename_i hne
          refine wp_seq (ihC _ _ _ _ _ _ hD.1 h g a w hi _ fun g1 a1 w1 i1 s1 => ?_)
          cases ex with
          | normal => exact absurd h (by intro h; exact hne _ h)
          | exit id => exact hQ g1 a1 w1 i1 s1
          | ret => exact hQ g1 a1 w1 i1 s1
      | cond x y z =>
        simp only [ev] at h
        simp only [codeDraws, Bool.and_eq_true] at hD
        split at h
        · rename_i hc
          obtain ⟨b, hb, hv⟩ := valR_bool (opd_sound hi hc)
          injection hb with hb
          subst hb
          exact wp_cond_true hv (ihC _ _ _ _ _ _ hD.1 h g a w hi Q hQ)
        · rename_i hc
          obtain ⟨b, hb, hv⟩ := valR_bool (opd_sound hi hc)
          injection hb with hb
          subst hb
          exact wp_cond_false hv (ihC _ _ _ _ _ _ hD.2 h g a w hi Q hQ)
        · simp at h
      | block id c =>
        simp only [ev] at h
        simp only [codeDraws] at hD
        split at h
        · rename_i id' st1 hc
          refine wp_block (ihC _ _ _ _ _ _ hD hc g a w hi _ fun g1 a1 w1 i1 s1 => ?_)
          simp only [exOf, Exit.inBlock]
          cases hid : Nat.beq id' id with
          | true =>
            simp only [hid, Option.some.injEq, Prod.mk.injEq] at h
            obtain ⟨rfl, rfl⟩ := h
            rw [if_pos (Nat.eq_of_beq_eq_true hid)]
            exact hQ g1 a1 w1 i1 s1
          | false =>
            simp only [hid, Option.some.injEq, Prod.mk.injEq] at h
            obtain ⟨rfl, rfl⟩ := h
            rw [if_neg (Nat.ne_of_beq_eq_false hid)]
            exact hQ g1 a1 w1 i1 s1
        · rename_i hne
          refine wp_block (ihC _ _ _ _ _ _ hD h g a w hi _ fun g1 a1 w1 i1 s1 => ?_)
          cases ex with
          | normal => exact hQ g1 a1 w1 i1 s1
          | exit id => exact absurd h (by intro h; exact hne _ _ h)
          | ret => exact hQ g1 a1 w1 i1 s1
      | loop c => exact (loop keep dyn c st ex st' (by simpa only [codeDraws] using hD) h g a w hi Q hQ).wp
      | exit id =>
        simp only [ev, Option.some.injEq, Prod.mk.injEq] at h
        obtain ⟨rfl, rfl⟩ := h
        exact wp_exit (hQ g a w hi (Step.refl g w))
      | ret =>
        simp only [ev, Option.some.injEq, Prod.mk.injEq] at h
        obtain ⟨rfl, rfl⟩ := h
        exact wp_ret (hQ g a w hi (Step.refl g w))
      | _ => simp [ev] at h
    · intro f vs os r os' h
      simp only [evCall] at h
      cases hK : askK (cx.K f) vs os with
      | some rr =>
      obtain ⟨r1, os1⟩ := rr
      simp only [hK, Option.some.injEq, Prod.mk.injEq] at h
      obtain ⟨rfl, rfl⟩ := h
      exact X.kon f vs os _ _ hK
      | none =>
      simp only [hK] at h
      cases hF : cx.F f with
      | none => simp [hF] at h
      | some i =>
        simp only [hF] at h
        cases hb : i.fn.body with
        | none => simp [hb] at h
        | some c =>
          cases hts : tys cx.T i.fn.params.toList with
          | none => simp [hb, hts] at h
          | some ts =>
            simp only [hb, hts] at h
            cases hz : zipEnv 0 ts vs with
            | none => simp [hz] at h
            | some env =>
              simp only [hz] at h
              split at h
              · rename_i hlen
                refine ⟨i, ts, c, hF, hb, hts, fun g w vals hsr hargs hno => ?_⟩
                have hal := argsR_length hargs
                refine calls_of_wp (G.fn f i hF).1 hb ?_
                have hi : Inv cx.T g w { env := env, orgs := [], os := os, n := i.fn.ntmps, thaw := i.thaw } { tmps := vals.toArray ++ Array.replicate (i.fn.ntmps - vals.toArray.size) undef, defers := [] } := by
                  refine ⟨by simp; omega, rfl, ?_, fun x hx => by simp at hx, hsr⟩
                  intro t e he
                  obtain ⟨j, ty, v, x, rfl, hx, rfl, hv⟩ := zipEnv_sound hz hargs t e he
                  have hj : j < vals.length := (List.getElem?_eq_some_iff.1 hx).1
                  have : (vals.toArray ++ Array.replicate (i.fn.ntmps - vals.toArray.size) undef).getD (0 + j) undef = x := by
                    rw [Array.getD_eq_getD_getElem?, Nat.zero_add, Array.getElem?_append_left (by simpa using hj), List.getElem?_toArray, hx]
                    rfl
                  rw [this]
                  exact ⟨hv, by simp⟩
                have fin : ∀ ex st1, ev cx n i.keep i.dyn c { env := env, orgs := [], os := os, n := i.fn.ntmps, thaw := i.thaw } = some (ex, st1) → (ex = .normal ∨ ex = .ret) → ∀ l, results st1 i.fn.results.toList i.fn.resultTypes.toList cx.T = some l → (r, os') = (resultRs l, st1.os) →
                    c.wp P (bodyPost P i.fn fun e w' => ∃ g' v, e = .returned v ∧ RsR cx.T g' w' r v ∧ SR cx.T g' w' os' ∧ Step g w g' w') { tmps := vals.toArray ++ Array.replicate (i.fn.ntmps - vals.toArray.size) undef, defers := [] } w := by
                  intro ex st1 hev hex l hl hr
                  simp only [Prod.mk.injEq] at hr
                  obtain ⟨rfl, rfl⟩ := hr
                  refine ihC _ _ _ _ _ _ (D f i c hF hb) hev g _ w hi _ fun g1 a1 w1 i1 s1 => ?_
                  obtain ⟨v, hv1, hv2⟩ := results_run G i1 hl
                  rcases hex with rfl | rfl
                  · exact ⟨i1.df, v, hv1, g1, v, rfl, hv2, i1.os, s1⟩
                  · exact ⟨i1.df, v, hv1, g1, v, rfl, hv2, i1.os, s1⟩
                split at h
                · rename_i st1 hev
                  cases hl : results st1 i.fn.results.toList i.fn.resultTypes.toList cx.T with
                  | none => simp [hl] at h
                  | some l =>
                    simp only [hl, Option.map_some, Option.some.injEq] at h
                    exact fin _ _ hev (.inl rfl) l hl h.symm
                · rename_i st1 hev
                  cases hl : results st1 i.fn.results.toList i.fn.resultTypes.toList cx.T with
                  | none => simp [hl] at h
                  | some l =>
                    simp only [hl, Option.map_some, Option.some.injEq] at h
                    exact fin _ _ hev (.inr rfl) l hl h.symm
                · simp at h
              · simp at h
end
end Go.Vm
