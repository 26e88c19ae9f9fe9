/- Values whose unknowns are written out. -/
import Derived.Test.YtjbehmedbefbpaaGreatVmSound
set_option linter.unusedVariables false
set_option linter.unusedSimpArgs false
namespace Go.Vm
open Go

mutual
/-- the unknown numbers and letters written out -/
noncomputable def V.lit (T : TR) : V → V
  | .ix e => .i (e.den T)
  | .tx l => .s (denS T l)
  | .cp ty v => .cp ty (v.lit T)
  | .sl f vs => .sl f (V.lits T vs)
  | .fn f vs => .fn f (V.lits T vs)
  | .ifc t v => .ifc t (v.lit T)
  | .rc vs => .rc (V.lits T vs)
  | .b x => .b x | .i n => .i n | .s l => .s l | .pnil => .pnil | .ptr o p => .ptr o p | .snil => .snil | .rw o k l => .rw o k l | .mnil => .mnil | .mp o => .mp o | .fnil => .fnil | .inil => .inil | .bad => .bad
noncomputable def V.lits (T : TR) : List V → List V
  | [] => []
  | v :: vs => v.lit T :: V.lits T vs
end

theorem lits_length (T : TR) : ∀ vs : List V, (V.lits T vs).length = vs.length
  | [] => rfl
  | v :: vs => by simp [V.lits, lits_length T vs]

theorem lits_map (T : TR) : ∀ vs : List V, V.lits T vs = vs.map (V.lit T)
  | [] => rfl
  | v :: vs => by simp [V.lits, lits_map T vs]

theorem ofCells_str (x : ByteArray) : ofCells .str [.string x] = .string x := by simp [ofCells, Ty.isAgg]

section
variable {T T' : TR} {g : Gh} {w : World}

mutual
theorem VR.lit (h : T'.T = T.T) : ∀ {ty : Ty} {cs : List Value} {v : V}, VR T g w ty cs v → VR T' g w ty cs (v.lit T)
  | _, _, _, .b _ => by rw [V.lit]; exact .b _
  | _, _, _, .i _ _ => by rw [V.lit]; exact .i _ _
  | _, _, _, .s _ => by rw [V.lit]; exact .s _
  | _, _, _, .ix _ _ => by rw [V.lit]; exact .i _ _
  | _, _, _, .tx x l hx => by rw [V.lit, ← hx]; exact .s _
  | _, _, _, .pnil => by rw [V.lit]; exact .pnil
  | _, _, _, .ptr h1 h2 h3 h4 => by rw [V.lit]; exact .ptr h1 h2 h3 h4
  | _, _, _, .cp h1 h2 h3 h4 h5 => by rw [V.lit]; exact .cp h1 h2 h3 h4 (VR.lit h h5)
  | _, _, _, .snil _ => by rw [V.lit]; exact .snil _
  | _, _, _, .sl h1 h2 h3 h4 h5 h6 h7 h8 h9 => by rw [V.lit]; exact .sl (by rw [h]; exact h1) h2 h3 h4 h5 h6 (by rw [lits_length]; exact h7) (VRs.lit h h8) h9
  | _, _, _, .rw h1 h2 h3 h4 h5 h6 => by rw [V.lit]; exact .rw (by rw [h]; exact h1) h2 h3 h4 h5 h6
  | _, _, _, .mnil _ _ => by rw [V.lit]; exact .mnil _ _
  | _, _, _, .mp h1 h2 h3 => by rw [V.lit]; exact .mp h1 h2 h3
  | _, _, _, .fnil => by rw [V.lit]; exact .fnil
  | _, _, _, .fn hs => by
    rw [V.lit]
    have := VRs.lit h hs
    rw [← lits_length T] at this
    exact .fn this
  | _, _, _, .inil => by rw [V.lit]; exact .inil
  | _, _, _, .ifc h1 h2 => by rw [V.lit]; exact .ifc (by rw [h]; exact h1) (VR.lit h h2)
  | _, _, _, .st hs => by rw [V.lit]; exact .st (VRs.lit h hs)
  | _, _, _, .ar hs => by rw [V.lit]; exact .ar (VRs.lit h hs)
theorem VRs.lit (h : T'.T = T.T) : ∀ {ts : List Ty} {cs : List Value} {vs : List V}, VRs T g w ts cs vs → VRs T' g w ts cs (V.lits T vs)
  | _, _, _, .nil => by rw [V.lits]; exact .nil
  | _, _, _, .cons h1 h2 => by rw [V.lits]; exact .cons (VR.lit h h1) (VRs.lit h h2)
end

mutual
theorem VR.ofLit (h : T'.T = T.T) : ∀ {v : V} {ty : Ty} {cs : List Value}, VR T' g w ty cs (v.lit T) → VR T g w ty cs v
  | .ix e, ty, cs, hv => by
    rw [V.lit] at hv
    cases hv
    exact .ix _ _
  | .tx l, ty, cs, hv => by
    rw [V.lit] at hv
    generalize hl : denS T l = m at hv
    cases hv
    exact .tx _ _ hl.symm
  | .cp ty v, _, _, hv => by
    rw [V.lit] at hv
    cases hv with
    | cp h1 h2 h3 h4 h5 => exact .cp h1 h2 h3 h4 (VR.ofLit h h5)
  | .sl f vs, _, _, hv => by
    rw [V.lit] at hv
    cases hv with
    | sl h1 h2 h3 h4 h5 h6 h7 h8 h9 => exact .sl (by rw [← h]; exact h1) h2 h3 h4 h5 h6 (by rw [lits_length] at h7; exact h7) (VRs.ofLit h h8) h9
  | .fn f vs, _, _, hv => by
    rw [V.lit] at hv
    cases hv with
    | fn hs =>
      rw [lits_length] at hs
      exact .fn (VRs.ofLit h hs)
  | .ifc t v, _, _, hv => by
    rw [V.lit] at hv
    cases hv with
    | ifc h1 h2 => exact .ifc (by rw [← h]; exact h1) (VR.ofLit h h2)
  | .rc vs, _, _, hv => by
    rw [V.lit] at hv
    cases hv with
    | st hs => exact .st (VRs.ofLit h hs)
    | ar hs => exact .ar (VRs.ofLit h hs)
  | .b x, _, _, hv => by rw [V.lit] at hv; cases hv; exact .b _
  | .i n, _, _, hv => by rw [V.lit] at hv; cases hv; exact .i _ _
  | .s l, _, _, hv => by
    rw [V.lit] at hv
    cases hv with
    | s x => exact .s x
  | .pnil, _, _, hv => by rw [V.lit] at hv; cases hv; exact .pnil
  | .ptr o p, _, _, hv => by
    rw [V.lit] at hv
    cases hv with
    | ptr h1 h2 h3 h4 => exact .ptr h1 h2 h3 h4
  | .snil, _, _, hv => by rw [V.lit] at hv; cases hv; exact .snil _
  | .rw o k l, _, _, hv => by
    rw [V.lit] at hv
    cases hv with
    | rw h1 h2 h3 h4 h5 h6 => exact .rw (by rw [← h]; exact h1) h2 h3 h4 h5 h6
  | .mnil, _, _, hv => by rw [V.lit] at hv; cases hv; exact .mnil _ _
  | .mp o, _, _, hv => by
    rw [V.lit] at hv
    cases hv with
    | mp h1 h2 h3 => exact .mp h1 h2 h3
  | .fnil, _, _, hv => by rw [V.lit] at hv; cases hv; exact .fnil
  | .inil, _, _, hv => by rw [V.lit] at hv; cases hv; exact .inil
  | .bad, _, _, hv => by rw [V.lit] at hv; cases hv
theorem VRs.ofLit (h : T'.T = T.T) : ∀ {vs : List V} {ts : List Ty} {cs : List Value}, VRs T' g w ts cs (V.lits T vs) → VRs T g w ts cs vs
  | [], _, _, hv => by rw [V.lits] at hv; cases hv; exact .nil
  | v :: vs, _, _, hv => by
    rw [V.lits] at hv
    cases hv with
    | cons h1 h2 => exact .cons (VR.ofLit h h1) (VRs.ofLit h h2)
end

theorem ValR.lit (h : T'.T = T.T) {ty : Ty} {v : V} {x : Value} (hv : ValR T g w ty v x) : ValR T' g w ty (v.lit T) x := let ⟨cs, h1, h2⟩ := hv; ⟨cs, h1.lit h, h2⟩
theorem ValR.ofLit (h : T'.T = T.T) {ty : Ty} {v : V} {x : Value} (hv : ValR T' g w ty (v.lit T) x) : ValR T g w ty v x := let ⟨cs, h1, h2⟩ := hv; ⟨cs, h1.ofLit h, h2⟩

noncomputable def litTup (T : TR) : List (Ty × V) → List (Ty × V)
  | [] => []
  | (ty, v) :: l => (ty, v.lit T) :: litTup T l

theorem TupR.lit (h : T'.T = T.T) : ∀ {l : List (Ty × V)} {xs : List Value}, TupR T g w l xs → TupR T' g w (litTup T l) xs
  | [], [], _ => trivial
  | (_, _) :: _, _ :: _, ⟨h1, h2⟩ => ⟨h1.lit h, TupR.lit h h2⟩
  | [], _ :: _, h => h.elim
  | _ :: _, [], h => h.elim

theorem TupR.ofLit (h : T'.T = T.T) : ∀ {l : List (Ty × V)} {xs : List Value}, TupR T' g w (litTup T l) xs → TupR T g w l xs
  | [], [], _ => trivial
  | (_, _) :: _, _ :: _, ⟨h1, h2⟩ => ⟨h1.ofLit h, TupR.ofLit h h2⟩
  | [], _ :: _, h => h.elim
  | (_, _) :: _, [], h => h.elim

theorem OwnV.tr (h : T'.T = T.T) {ow : Owner} {ty : Ty} {x : Value} (hv : OwnV T g w ow ty x) : OwnV T' g w ow ty x := by
  obtain ⟨e, u, h1, h2, h3⟩ := hv
  exact ⟨e, u, h1, by rw [h]; exact h2, h3⟩

theorem ArgsR.lit (h : T'.T = T.T) : ∀ {ts : List Ty} {vs : List V} {xs : List Value}, ArgsR T g w ts vs xs → ArgsR T' g w ts (V.lits T vs) xs
  | _ :: _, _ :: _, _ :: _, ⟨h1, h2⟩ => ⟨h1.lit h, ArgsR.lit h h2⟩
  | [], _ :: _, _ :: _, ⟨h1, h2⟩ => ⟨h1.lit h, ArgsR.lit h h2⟩
  | [], [], [], _ => trivial
  | _ :: _, [], [], h => h.elim
  | _ :: _, [], _ :: _, h => h.elim
  | _ :: _, _ :: _, [], h => h.elim
  | [], _ :: _, [], h => h.elim
  | [], [], _ :: _, h => h.elim

theorem ArgsR.ofLit (h : T'.T = T.T) : ∀ {ts : List Ty} {vs : List V} {xs : List Value}, ArgsR T' g w ts (V.lits T vs) xs → ArgsR T g w ts vs xs
  | _ :: _, _ :: _, _ :: _, ⟨h1, h2⟩ => ⟨h1.ofLit h, ArgsR.ofLit h h2⟩
  | [], _ :: _, _ :: _, ⟨h1, h2⟩ => ⟨h1.ofLit h, ArgsR.ofLit h h2⟩
  | [], [], [], _ => trivial
  | _ :: _, [], [], h => h.elim
  | _ :: _, [], _ :: _, h => h.elim
  | _ :: _, _ :: _, [], h => h.elim
  | [], _ :: _, [], h => h.elim
  | [], [], _ :: _, h => h.elim

noncomputable def litEnts (T : TR) : List (V × V) → List (V × V)
  | [] => []
  | (k, v) :: l => (k.lit T, v.lit T) :: litEnts T l

noncomputable def Ob.lit (T : TR) : Ob → Ob
  | .row ty vs own => .row ty (V.lits T vs) own
  | .mapo k e es => .mapo k e (litEnts T es)
  | .dead => .dead

noncomputable def litOs (T : TR) : List Ob → List Ob
  | [] => []
  | x :: l => x.lit T :: litOs T l

theorem litOs_map (T : TR) : ∀ os : List Ob, litOs T os = os.map (Ob.lit T)
  | [] => rfl
  | x :: l => by simp [litOs, litOs_map T l]

theorem EntsR.lit (h : T'.T = T.T) {k e : Ty} : ∀ {xs : List MapEntry} {ys : List (V × V)}, EntsR T g w k e xs ys → EntsR T' g w k e xs (litEnts T ys)
  | [], [], _ => trivial
  | _ :: _, (_, _) :: _, ⟨h1, h2, h3⟩ => ⟨h1.lit h, h2.lit h, EntsR.lit h h3⟩
  | [], _ :: _, h => h.elim
  | _ :: _, [], h => h.elim

theorem EntsR.ofLit (h : T'.T = T.T) {k e : Ty} : ∀ {xs : List MapEntry} {ys : List (V × V)}, EntsR T' g w k e xs (litEnts T ys) → EntsR T g w k e xs ys
  | [], [], _ => trivial
  | _ :: _, (_, _) :: _, ⟨h1, h2, h3⟩ => ⟨h1.ofLit h, h2.ofLit h, EntsR.ofLit h h3⟩
  | [], (_, _) :: _, h => h.elim
  | _ :: _, [], h => h.elim

theorem ObR.lit (h : T'.T = T.T) {o : Nat} {x : Ob} (hx : ObR T g w o x) : ObR T' g w o (x.lit T) := by
  cases x with
  | dead => trivial
  | mapo k e es =>
    obtain ⟨b, ty, ents, clock, h1, h2, h3, h4, h5⟩ := hx
    exact ⟨b, ty, ents, clock, h1, h2, h3, h4, h5.lit h⟩
  | row ty vs own =>
    obtain ⟨b, c, et, fr, cs, sp, h1, h2, h3, h4, h5, h6, h7, h8⟩ := hx
    refine ⟨b, c, et, fr, cs, sp, h1, h2, h3, h4, h5, h6, by rw [lits_length]; exact h7.lit h, fun p hp => ?_⟩
    obtain ⟨i, q, off, u, val, a1, a2, a3, a4⟩ := h8 p hp
    exact ⟨i, q, off, u, val, a1, a2, a3, a4.tr h⟩

theorem ObR.ofLit (h : T'.T = T.T) {o : Nat} {x : Ob} (hx : ObR T' g w o (x.lit T)) : ObR T g w o x := by
  cases x with
  | dead => trivial
  | mapo k e es =>
    obtain ⟨b, ty, ents, clock, h1, h2, h3, h4, h5⟩ := hx
    exact ⟨b, ty, ents, clock, h1, h2, h3, h4, h5.ofLit h⟩
  | row ty vs own =>
    obtain ⟨b, c, et, fr, cs, sp, h1, h2, h3, h4, h5, h6, h7, h8⟩ := hx
    refine ⟨b, c, et, fr, cs, sp, h1, h2, h3, h4, h5, h6, by rw [lits_length] at h7; exact h7.ofLit h, fun p hp => ?_⟩
    obtain ⟨i, q, off, u, val, a1, a2, a3, a4⟩ := h8 p hp
    exact ⟨i, q, off, u, val, a1, a2, a3, a4.tr h.symm⟩

theorem SR.lit (h : T'.T = T.T) {os : List Ob} (hs : SR T g w os) : SR T' g w (litOs T os) := by
  rw [litOs_map]
  refine ⟨fun o x hx => ?_, fun o ho => hs.new o (by simpa using ho)⟩
  rw [List.getElem?_map] at hx
  cases hy : os[o]? with
  | none => simp [hy] at hx
  | some y =>
    simp only [hy, Option.map_some, Option.some.injEq] at hx
    subst hx
    exact (hs.ob o y hy).lit h

theorem SR.ofLit (h : T'.T = T.T) {os : List Ob} (hs : SR T' g w (litOs T os)) : SR T g w os := by
  rw [litOs_map] at hs
  refine ⟨fun o x hx => ?_, fun o ho => hs.new o (by simpa using ho)⟩
  exact (hs.ob o (x.lit T) (by rw [List.getElem?_map, hx]; rfl)).ofLit h

noncomputable def Ent.lit (T : TR) : Ent → Ent
  | .one ty v own => .one ty (v.lit T) own
  | .tup l => .tup (litTup T l)
  | .un => .un

noncomputable def litEnv (T : TR) : Env → Env
  | [] => []
  | (t, e) :: r => (t, e.lit T) :: litEnv T r

theorem litEnv_get (T : TR) (t : Nat) : ∀ env : Env, (litEnv T env).get t = (env.get t).map (Ent.lit T)
  | [] => rfl
  | (u, e) :: r => by
    rw [litEnv, get_cons, get_cons]
    split
    · rfl
    · exact litEnv_get T t r

noncomputable def St.lit (T : TR) : St → St
  | ⟨env, orgs, os, n, thaw⟩ => ⟨litEnv T env, orgs, litOs T os, n, thaw⟩

theorem EntV.lit (h : T'.T = T.T) {t : Nat} {val : Value} {e : Ent} (he : EntV T g w t val e) : EntV T' g w t val (e.lit T) := by
  cases e with
  | one ty v own => exact ⟨he.1.lit h, fun ho => (he.2 ho).tr h⟩
  | tup l => obtain ⟨vals, h1, h2⟩ := he; exact ⟨vals, h1, h2.lit h⟩
  | un => exact he

theorem EntV.ofLit (h : T'.T = T.T) {t : Nat} {val : Value} {e : Ent} (he : EntV T' g w t val (e.lit T)) : EntV T g w t val e := by
  cases e with
  | one ty v own => exact ⟨he.1.ofLit h, fun ho => (he.2 ho).tr h.symm⟩
  | tup l => obtain ⟨vals, h1, h2⟩ := he; exact ⟨vals, h1, h2.ofLit h⟩
  | un => exact he

theorem Inv.lit (h : T'.T = T.T) {st : St} {a : Act} (hi : Inv T g w st a) : Inv T' g w (st.lit T) a := by
  obtain ⟨env, orgs, os, n, thaw⟩ := st
  refine ⟨hi.tm, hi.df, fun t e he => ?_, hi.orgs, hi.os.lit h⟩
  simp only [St.lit, litEnv_get] at he
  cases hg : env.get t with
  | none => simp [hg] at he
  | some e' =>
    simp only [hg, Option.map_some, Option.some.injEq] at he
    subst he
    exact (hi.env t e' hg).lit h

theorem Inv.ofLit (h : T'.T = T.T) {st : St} {a : Act} (hi : Inv T' g w (st.lit T) a) : Inv T g w st a := by
  obtain ⟨env, orgs, os, n, thaw⟩ := st
  refine ⟨hi.tm, hi.df, fun t e he => ?_, hi.orgs, hi.os.ofLit h⟩
  exact (hi.env t (e.lit T) (by simp only [St.lit, litEnv_get]; rw [he]; rfl)).ofLit h

noncomputable def Rs.lit (T : TR) : Rs → Rs
  | .one ty v own => .one ty (v.lit T) own
  | .tup l => .tup (litTup T l)

theorem RsR.lit (h : T'.T = T.T) {r : Rs} {x : Value} (hr : RsR T g w r x) : RsR T' g w (r.lit T) x := by
  cases r with
  | one ty v own => exact ⟨hr.1.lit h, fun ho => let ⟨t, ht⟩ := hr.2 ho; ⟨t, ht.tr h⟩⟩
  | tup l => obtain ⟨vals, h1, h2⟩ := hr; exact ⟨vals, h1, h2.lit h⟩

theorem RsR.ofLit (h : T'.T = T.T) {r : Rs} {x : Value} (hr : RsR T' g w (r.lit T) x) : RsR T g w r x := by
  cases r with
  | one ty v own => exact ⟨hr.1.ofLit h, fun ho => let ⟨t, ht⟩ := hr.2 ho; ⟨t, ht.tr h.symm⟩⟩
  | tup l => obtain ⟨vals, h1, h2⟩ := hr; exact ⟨vals, h1, h2.ofLit h⟩
end

theorem tys_tr {T T' : TR} (h : T'.T = T.T) : ∀ l : List Nat, tys T' l = tys T l
  | [] => rfl
  | t :: l => by simp only [tys]; rw [h, tys_tr h l]

section
variable {P : Program} {cx cx' : Cx}

theorem CallOK.lit (hT : cx'.T.T = cx.T.T) (hF : cx'.F = cx.F) {f : Nat} {vs : List V} {os os' : List Ob} {r : Rs} (h : CallOK P cx f vs os r os') : CallOK P cx' f (V.lits cx.T vs) (litOs cx.T os) (r.lit cx.T) (litOs cx.T os') := by
  obtain ⟨i, ts, c, h1, h2, h3, h4⟩ := h
  refine ⟨i, ts, c, by rw [hF]; exact h1, h2, by rw [tys_tr hT]; exact h3, fun g w vals hs ha hn => ?_⟩
  refine (h4 g w vals (hs.ofLit hT) (ha.ofLit hT) hn).mono ?_
  rintro e w' ⟨g', v, he, hr, hs', hst⟩
  exact ⟨g', v, he, hr.lit hT, hs'.lit hT, hst⟩

theorem CallOK.ofLit (hT : cx'.T.T = cx.T.T) (hF : cx'.F = cx.F) {f : Nat} {vs : List V} {os os' : List Ob} {r : Rs} (h : CallOK P cx' f (V.lits cx.T vs) (litOs cx.T os) (r.lit cx.T) (litOs cx.T os')) : CallOK P cx f vs os r os' := by
  obtain ⟨i, ts, c, h1, h2, h3, h4⟩ := h
  refine ⟨i, ts, c, by rw [← hF]; exact h1, h2, by rw [← tys_tr hT]; exact h3, fun g w vals hs ha hn => ?_⟩
  refine (h4 g w vals (hs.lit hT) (ha.lit hT) hn).mono ?_
  rintro e w' ⟨g', v, he, hr, hs', hst⟩
  exact ⟨g', v, he, hr.ofLit hT, hs'.ofLit hT, hst⟩

theorem CodeOK.lit (hT : cx'.T.T = cx.T.T) {c : Code} {st st' : St} {ex : Ex} (h : CodeOK P cx c st ex st') : CodeOK P cx' c (st.lit cx.T) ex (st'.lit cx.T) :=
  fun g a w hi Q hQ => h g a w (hi.ofLit hT) Q fun g' a' w' i' s' => hQ g' a' w' (i'.lit hT) s'

/-! Texts, one behind the other. -/

theorem CodeOK.seq {a b : Code} {st st1 st' : St} {ex : Ex} (h1 : CodeOK P cx a st .normal st1) (h2 : CodeOK P cx b st1 ex st') : CodeOK P cx (.seq a b) st ex st' :=
  fun g x w hi Q hQ => wp_seq (h1 g x w hi _ fun g1 a1 w1 i1 s1 => h2 g1 a1 w1 i1 Q fun g2 a2 w2 i2 s2 => hQ g2 a2 w2 i2 (s1.trans s2))

theorem CodeOK.seqOut {a b : Code} {st st' : St} {ex : Ex} (hne : ex ≠ .normal) (h1 : CodeOK P cx a st ex st') : CodeOK P cx (.seq a b) st ex st' :=
  fun g x w hi Q hQ => wp_seq (h1 g x w hi _ fun g1 a1 w1 i1 s1 => by
    cases ex with
    | normal => exact absurd rfl hne
    | exit id => exact hQ g1 a1 w1 i1 s1
    | ret => exact hQ g1 a1 w1 i1 s1)

theorem LoopOK.round {c : Code} {st st1 st' : St} {ex : Ex} (h1 : CodeOK P cx c st .normal st1) (h2 : LoopOK P cx c st1 ex st') : LoopOK P cx c st ex st' :=
  fun g a w hi Q hQ => LoopIn.round (h1 g a w hi _ fun g1 a1 w1 i1 s1 => h2 g1 a1 w1 i1 Q fun g2 a2 w2 i2 s2 => hQ g2 a2 w2 i2 (s1.trans s2))

theorem LoopOK.out {c : Code} {st st' : St} {ex : Ex} (hne : ex ≠ .normal) (h1 : CodeOK P cx c st ex st') : LoopOK P cx c st ex st' :=
  fun g a w hi Q hQ => LoopIn.round (h1 g a w hi _ fun g1 a1 w1 i1 s1 => by
    cases ex with
    | normal => exact absurd rfl hne
    | exit id => exact hQ g1 a1 w1 i1 s1
    | ret => exact hQ g1 a1 w1 i1 s1)

theorem LoopOK.code {c : Code} {st st' : St} {ex : Ex} (h : LoopOK P cx c st ex st') : CodeOK P cx (.loop c) st ex st' := fun g a w hi Q hQ => (h g a w hi Q hQ).wp

theorem CodeOK.block {id : Nat} {c : Code} {st st' : St} (h : CodeOK P cx c st (.exit id) st') : CodeOK P cx (.block id c) st .normal st' :=
  fun g a w hi Q hQ => wp_block (h g a w hi _ fun g1 a1 w1 i1 s1 => by
    simp only [exOf, Exit.inBlock, if_true]
    exact hQ g1 a1 w1 i1 s1)

theorem CodeOK.blockNormal {id : Nat} {c : Code} {st st' : St} (h : CodeOK P cx c st .normal st') : CodeOK P cx (.block id c) st .normal st' :=
  fun g a w hi Q hQ => wp_block (h g a w hi _ fun g1 a1 w1 i1 s1 => hQ g1 a1 w1 i1 s1)

theorem CodeOK.blockRet {id : Nat} {c : Code} {st st' : St} (h : CodeOK P cx c st .ret st') : CodeOK P cx (.block id c) st .ret st' :=
  fun g a w hi Q hQ => wp_block (h g a w hi _ fun g1 a1 w1 i1 s1 => hQ g1 a1 w1 i1 s1)

/-- less is known -/
structure St.Sub (s s' : St) : Prop where
  env : ∀ t e, s'.env.get t = some e → s.env.get t = some e
  orgs : ∀ x ∈ s'.orgs, x ∈ s.orgs
  os : s'.os = s.os
  n : s'.n = s.n

theorem St.Sub.inv {s s' : St} (h : s.Sub s') {T : TR} {g : Gh} {w : World} {a : Act} (hi : Inv T g w s a) : Inv T g w s' a :=
  ⟨by rw [h.n]; exact hi.tm, hi.df, fun t e he => hi.env t e (h.env t e he), fun x hx => hi.orgs x (h.orgs x hx), by rw [h.os]; exact hi.os⟩

theorem CodeOK.weaken {c : Code} {s s1 st st1 : St} {ex : Ex} (h : CodeOK P cx c s ex st) (h1 : s1.Sub s) (h2 : st.Sub st1) : CodeOK P cx c s1 ex st1 :=
  fun g a w hi Q hQ => h g a w (h1.inv hi) Q fun g' a' w' i' s' => hQ g' a' w' (h2.inv i') s'

theorem LoopOK.weaken {c : Code} {s s1 st st1 : St} {ex : Ex} (h : LoopOK P cx c s ex st) (h1 : s1.Sub s) (h2 : st.Sub st1) : LoopOK P cx c s1 ex st1 :=
  fun g a w hi Q hQ => h g a w (h1.inv hi) Q fun g' a' w' i' s' => hQ g' a' w' (h2.inv i') s'

/-- a call, from its text -/
theorem CallOK.of_code (G : Good P cx) {f : Nat} {i : Fi} {ts : List Ty} {c : Code} {vs : List V} {os : List Ob} {env : Env} {st1 : St} {ex : Ex} {l : List (Ty × V × Bool)} (hF : cx.F f = some i) (hb : i.fn.body = some c) (hts : tys cx.T i.fn.params.toList = some ts)
    (hz : zipEnv 0 ts vs = some env) (hlen : vs.length ≤ i.fn.ntmps) (hc : CodeOK P cx c { env := env, orgs := [], os := os, n := i.fn.ntmps, thaw := i.thaw } ex st1) (hex : ex = .normal ∨ ex = .ret)
    (hl : results st1 i.fn.results.toList i.fn.resultTypes.toList cx.T = some l) : CallOK P cx f vs os (resultRs l) st1.os := by
  refine ⟨i, ts, c, hF, hb, hts, fun g w vals hsr hargs hno => ?_⟩
  have hal := argsR_length hargs
  refine calls_of_wp (G.fn f i hF).1 hb ?_
  have hi : Inv cx.T g w { env := env, orgs := [], os := os, n := i.fn.ntmps, thaw := i.thaw } { tmps := vals.toArray ++ Array.replicate (i.fn.ntmps - vals.toArray.size) undef, defers := [] } := by
    refine ⟨by simp; omega, rfl, ?_, fun x hx => by simp at hx, hsr⟩
    intro t e he
    obtain ⟨j, ty, v, x, rfl, hx, rfl, hv⟩ := zipEnv_sound hz hargs t e he
    have hj : j < vals.length := (List.getElem?_eq_some_iff.1 hx).1
    have : (vals.toArray ++ Array.replicate (i.fn.ntmps - vals.toArray.size) undef).getD (0 + j) undef = x := by
      rw [Array.getD_eq_getD_getElem?, Nat.zero_add, Array.getElem?_append_left (by simpa using hj), List.getElem?_toArray, hx]
      rfl
    rw [this]
    exact ⟨hv, by simp⟩
  refine hc g _ w hi _ fun g1 a1 w1 i1 s1 => ?_
  obtain ⟨v, hv1, hv2⟩ := results_run G i1 hl
  rcases hex with rfl | rfl
  · exact ⟨i1.df, v, hv1, g1, v, rfl, hv2, i1.os, s1⟩
  · exact ⟨i1.df, v, hv1, g1, v, rfl, hv2, i1.os, s1⟩
end
end Go.Vm
