/- Calls. -/
import Derived.Test.YtjbehmedbefbpaaGreatVmOpsJ
set_option linter.unusedVariables false
set_option linter.unusedSimpArgs false
namespace Go.Vm
open Go

section
variable (T : TR) (g : Gh) (w : World)

def ArgsR : List Ty → List V → List Value → Prop
  | t :: ts, v :: vs, x :: xs => ValR T g w t v x ∧ ArgsR ts vs xs
  | [], v :: vs, x :: xs => ValR T g w .ptr v x ∧ ArgsR [] vs xs
  | [], [], [] => True
  | _, _, _ => False

def RsR : Rs → Value → Prop
  | .one ty v own, val => ValR T g w ty v val ∧ (own = true → ∃ t, OwnV T g w (.slot t) ty val)
  | .tup l, val => ∃ vals : Array Value, val = .tuple vals ∧ TupR T g w l vals.toList
end

def NoSlots (g : Gh) : Prop := ∀ b n t, g.kind b ≠ .imm n (some (.slot t))

/-- a call answers so -/
def CallOK (P : Program) (cx : Cx) (f : Nat) (vs : List V) (os : List Ob) (r : Rs) (os' : List Ob) : Prop :=
  ∃ i ts c, cx.F f = some i ∧ i.fn.body = some c ∧ tys cx.T i.fn.params.toList = some ts ∧
    ∀ g w vals, SR cx.T g w os → ArgsR cx.T g w ts vs vals → NoSlots g →
      Calls P f vals.toArray w fun e w' => ∃ g' v, e = .returned v ∧ RsR cx.T g' w' r v ∧ SR cx.T g' w' os' ∧ Step g w g' w'

/-- values without a road to an object hang on rows alone -/
structure ExtP (g : Gh) (w : World) (g' : Gh) (w' : World) : Prop where
  imm : ∀ b n ow, b < w.heap.size → g.kind b = .imm n ow → b < w'.heap.size ∧ ∃ n' ow', n ≤ n' ∧ g'.kind b = .imm n' ow' ∧ ∀ i, i < n → w'.cell? ⟨b, i, none⟩ = w.cell? ⟨b, i, none⟩

section
variable {T : TR} {g g' : Gh} {w w' : World}

mutual
theorem VR.plain (s : ExtP g w g' w') : ∀ {ty : Ty} {cs : List Value} {v : V}, VR T g w ty cs v → v.plain = true → VR T g' w' ty cs v
  | _, _, _, .b _, _ => .b _
  | _, _, _, .i _ _, _ => .i _ _
  | _, _, _, .s _, _ => .s _
  | _, _, _, .ix _ _, _ => .ix _ _
  | _, _, _, .tx _ _ h, _ => .tx _ _ h
  | _, _, _, .pnil, _ => .pnil
  | _, _, _, .ptr .., h => by simp [V.plain] at h
  | _, _, _, .cp h1 h2 h3 h4 h5, h => by
    obtain ⟨hb, n', ow', hl, hk, hc⟩ := s.imm _ _ _ h1 h2
    rw [V.plain] at h
    exact .cp hb hk (by omega) (h4.mono (by rw [VR.len h5]; exact h3) hc) (VR.plain s h5 h)
  | _, _, _, .snil _, _ => .snil _
  | _, _, _, .sl h1 h2 h3 h4 h5 h6 h7 h8 h9, h => by
    obtain ⟨hb, n', ow', hl, hk, hc⟩ := s.imm _ _ _ h2 h3
    rw [V.plain] at h
    exact .sl h1 hb hk (by omega) h5 (h6.mono (by rw [VRs.len h8, sizes_replicate]; exact h4) hc) h7 (VRs.plain s h8 h) h9
  | _, _, _, .rw .., h => by simp [V.plain] at h
  | _, _, _, .mnil _ _, _ => .mnil _ _
  | _, _, _, .mp .., h => by simp [V.plain] at h
  | _, _, _, .fnil, _ => .fnil
  | _, _, _, .fn hs, h => by rw [V.plain] at h; exact .fn (VRs.plain s hs h)
  | _, _, _, .inil, _ => .inil
  | _, _, _, .ifc h1 h2, h => by rw [V.plain] at h; exact .ifc h1 (VR.plain s h2 h)
  | _, _, _, .st hs, h => by rw [V.plain] at h; exact .st (VRs.plain s hs h)
  | _, _, _, .ar hs, h => by rw [V.plain] at h; exact .ar (VRs.plain s hs h)
theorem VRs.plain (s : ExtP g w g' w') : ∀ {ts : List Ty} {cs : List Value} {vs : List V}, VRs T g w ts cs vs → V.plains vs = true → VRs T g' w' ts cs vs
  | _, _, _, .nil, _ => .nil
  | _, _, _, .cons h1 h2, h => by
    rw [V.plains, Bool.and_eq_true] at h
    exact .cons (VR.plain s h1 h.1) (VRs.plain s h2 h.2)
end

theorem ValR.plain (s : ExtP g w g' w') {ty : Ty} {v : V} {x : Value} (h : ValR T g w ty v x) (hp : v.plain = true) : ValR T g' w' ty v x :=
  let ⟨cs, h1, h2⟩ := h; ⟨cs, h1.plain s hp, h2⟩

theorem ArgsR.plain (s : ExtP g w g' w') : ∀ {ts : List Ty} {vs : List V} {xs : List Value}, ArgsR T g w ts vs xs → V.plains vs = true → ArgsR T g' w' ts vs xs
  | t :: ts, v :: vs, x :: xs, h, hp => by
    rw [V.plains, Bool.and_eq_true] at hp
    exact ⟨h.1.plain s hp.1, h.2.plain s hp.2⟩
  | [], v :: vs, x :: xs, h, hp => by
    rw [V.plains, Bool.and_eq_true] at hp
    exact ⟨h.1.plain s hp.1, h.2.plain s hp.2⟩
  | [], [], [], _, _ => trivial
  | _ :: _, [], _, h, _ => by cases ‹List Value› <;> exact h.elim
  | _ :: _, _ :: _, [], h, _ => h.elim
  | [], _ :: _, [], h, _ => h.elim
  | [], [], _ :: _, h, _ => h.elim

theorem ArgsR.mono (s : Ext g w g' w') : ∀ {ts : List Ty} {vs : List V} {xs : List Value}, ArgsR T g w ts vs xs → ArgsR T g' w' ts vs xs
  | t :: ts, v :: vs, x :: xs, h => ⟨h.1.mono s, h.2.mono s⟩
  | [], v :: vs, x :: xs, h => ⟨h.1.mono s, h.2.mono s⟩
  | [], [], [], _ => trivial
  | _ :: _, [], _, h => by cases ‹List Value› <;> exact h.elim
  | _ :: _, _ :: _, [], h => h.elim
  | [], _ :: _, [], h => h.elim
  | [], [], _ :: _, h => h.elim

theorem TupR.plain (s : ExtP g w g' w') : ∀ {l : List (Ty × V)} {xs : List Value}, TupR T g w l xs → V.plains (l.map (·.2)) = true → TupR T g' w' l xs
  | [], [], _, _ => trivial
  | (_, _) :: _, _ :: _, h, hp => by
    rw [List.map_cons, V.plains, Bool.and_eq_true] at hp
    exact ⟨h.1.plain s hp.1, h.2.plain s hp.2⟩
  | [], _ :: _, h, _ => h.elim
  | _ :: _, [], h, _ => h.elim

theorem ValR.forget {ty : Ty} {v : V} {x : Value} (h : ValR T g w ty v x) : ValR T g w ty v.forget x :=
  let ⟨cs, h1, h2⟩ := h; ⟨cs, h1.forget, h2⟩

theorem ArgsR.forget : ∀ {ts : List Ty} {vs : List V} {xs : List Value}, ArgsR T g w ts vs xs → ArgsR T g w ts (V.forgets vs) xs
  | t :: ts, v :: vs, x :: xs, h => by rw [V.forgets]; exact ⟨h.1.forget, h.2.forget⟩
  | [], v :: vs, x :: xs, h => by rw [V.forgets]; exact ⟨h.1.forget, h.2.forget⟩
  | [], [], [], _ => by rw [V.forgets]; trivial
  | _ :: _, [], _, h => by cases ‹List Value› <;> exact h.elim
  | _ :: _, _ :: _, [], h => h.elim
  | [], _ :: _, [], h => h.elim
  | [], [], _ :: _, h => h.elim

theorem TupR.forget : ∀ {l : List (Ty × V)} {xs : List Value}, TupR T g w l xs → TupR T g w (forgetTup l) xs
  | [], [], _ => trivial
  | (_, _) :: _, _ :: _, h => ⟨h.1.forget, TupR.forget h.2⟩
  | [], _ :: _, h => h.elim
  | _ :: _, [], h => h.elim

/-- a callee's rows, by value -/
theorem frz_plain {gB : Nat → Gh} (ext : ∀ M, ExtP g w (gB M) w) {ty : Ty} {cs : List Value} {v v' : V} (h : VR T g w ty cs v) (he : (if v.plain = true then some v else none) = some v') : ∃ N, ∀ M, N ≤ M → VR T (gB M) w ty cs v' := by
  split at he
  · rename_i hp
    injection he with he
    subst he
    exact ⟨0, fun M _ => h.plain (ext M) hp⟩
  · simp at he

theorem frz_row {gB : Nat → Gh} (ext : ∀ M, ExtP g w (gB M) w) (kn : ∀ M b o, b < w.heap.size → g.kind b = .obj o → (gB M).kind b = .imm M none) {os : List Ob} (hs : SR T g w os) {e o b off aoff len cap : Nat} {ty : Ty} {v' : V}
    (h1 : T e = some ty) (h2 : g.rho o = some (b, ty)) (h3 : b < w.heap.size) (h4 : g.kind b = .obj o) (h5 : len ≤ cap) (h6 : 0 < cap → aoff = off * ty.size) (he : freezeRow os o off len = some v') :
    ∃ N, ∀ M, N ≤ M → VR T (gB M) w (.sl e) [.slice (some ⟨b, aoff, none⟩) len cap] v' := by
  unfold freezeRow at he
  cases hob : os[o]? with
  | none => simp [hob] at he
  | some z =>
    cases z with
    | dead => simp [hob] at he
    | mapo k e es => simp [hob] at he
    | row ty2 vs own =>
      simp only [hob] at he
      split at he
      · rename_i hc
        simp only [Bool.and_eq_true, decide_eq_true_eq] at hc
        obtain ⟨hle, hp⟩ := hc
        injection he with he
        subst he
        obtain ⟨b', c, et, fr, cs, sp, k1, k2, k3, k4, k5, k6, k7, k8⟩ := hs.ob o _ hob
        rw [h2] at k1; injection k1 with k1; injection k1 with k1 k1'; subst k1 k1'
        refine ⟨aoff + len * ty.size, fun M hM => ?_⟩
        have k7' := k7.plain (ext M) hp
        have hcut := vrs_cut (cx := { T := T, B := fun _ => 0, E := fun _ => false, Y := fun _ => none, F := fun _ => none }) k7' (l := off) (h := off + len) (by omega) hle
        have e1 : off + len - off = len := by omega
        rw [e1, List.drop_take, e1] at hcut
        have hyl : ((vs.drop off).take len).length = len := by rw [List.length_take, List.length_drop]; omega
        by_cases hz : len = 0
        · subst hz
          have hcs : (List.take (0 * ty.size) (List.drop (off * ty.size) cs)) = [] := by simp
          rw [hcs] at hcut
          exact .sl h1 h3 (kn M b o h3 h4) hM h5 (by trivial) hyl hcut (by simp)
        · have hh : Has w b 0 cs := has_of_list k4 (pre := []) (by simpa using k6)
          have hh2 := has_take (k := off * ty.size) (n := len * ty.size) hh
          rw [Nat.zero_add, ← h6 (by omega)] at hh2
          exact .sl h1 h3 (kn M b o h3 h4) hM h5 (by rw [h6 (by omega)] at hh2 ⊢; exact hh2) hyl hcut (by simp)
      · simp at he

mutual
theorem VR.freeze {gB : Nat → Gh} (ext : ∀ M, ExtP g w (gB M) w) (kn : ∀ M b o, b < w.heap.size → g.kind b = .obj o → (gB M).kind b = .imm M none) {os : List Ob} (hs : SR T g w os) :
    ∀ {ty : Ty} {cs : List Value} {v v' : V}, VR T g w ty cs v → v.freeze os = some v' → ∃ N, ∀ M, N ≤ M → VR T (gB M) w ty cs v'
  | _, _, _, _, .b x, h => frz_plain ext (.b x) (by simpa only [V.freeze] using h)
  | _, _, _, _, .i k n, h => frz_plain ext (.i k n) (by simpa only [V.freeze] using h)
  | _, _, _, _, .s x, h => frz_plain ext (.s x) (by simpa only [V.freeze] using h)
  | _, _, _, _, .ix k e, h => frz_plain ext (.ix k e) (by simpa only [V.freeze] using h)
  | _, _, _, _, .tx x l h1, h => frz_plain ext (.tx x l h1) (by simpa only [V.freeze] using h)
  | _, _, _, _, .pnil, h => frz_plain ext .pnil (by simpa only [V.freeze] using h)
  | _, _, _, _, .ptr h1 h2 h3 h4, h => frz_plain ext (.ptr h1 h2 h3 h4) (by simpa only [V.freeze] using h)
  | _, _, _, _, .cp h1 h2 h3 h4 h5, h => frz_plain ext (.cp h1 h2 h3 h4 h5) (by simpa only [V.freeze] using h)
  | _, _, _, _, .snil e, h => frz_plain ext (.snil e) (by simpa only [V.freeze] using h)
  | _, _, _, _, .sl h1 h2 h3 h4 h5 h6 h7 h8 h9, h => frz_plain ext (.sl h1 h2 h3 h4 h5 h6 h7 h8 h9) (by simpa only [V.freeze] using h)
  | _, _, _, _, .rw h1 h2 h3 h4 h5 h6, h => frz_row ext kn hs h1 h2 h3 h4 h5 h6 (by simpa only [V.freeze] using h)
  | _, _, _, _, .mnil k e, h => frz_plain ext (.mnil k e) (by simpa only [V.freeze] using h)
  | _, _, _, _, .mp h1 h2 h3, h => frz_plain ext (.mp h1 h2 h3) (by simpa only [V.freeze] using h)
  | _, _, _, _, .fnil, h => frz_plain ext .fnil (by simpa only [V.freeze] using h)
  | _, _, _, _, .fn hv, h => frz_plain ext (.fn hv) (by simpa only [V.freeze] using h)
  | _, _, _, _, .inil, h => frz_plain ext .inil (by simpa only [V.freeze] using h)
  | _, _, _, _, .ifc h1 h2, h => frz_plain ext (.ifc h1 h2) (by simpa only [V.freeze] using h)
  | _, _, _, _, .st (vs := vs) hv, h => by
    simp only [V.freeze] at h
    cases hf : V.freezes os vs with
    | none => simp [hf] at h
    | some l =>
      simp only [hf, Option.some.injEq] at h
      subst h
      obtain ⟨N, hN⟩ := VRs.freeze ext kn hs hv hf
      exact ⟨N, fun M hM => .st (hN M hM)⟩
  | _, _, _, _, .ar (vs := vs) hv, h => by
    simp only [V.freeze] at h
    cases hf : V.freezes os vs with
    | none => simp [hf] at h
    | some l =>
      simp only [hf, Option.some.injEq] at h
      subst h
      obtain ⟨N, hN⟩ := VRs.freeze ext kn hs hv hf
      exact ⟨N, fun M hM => .ar (hN M hM)⟩
theorem VRs.freeze {gB : Nat → Gh} (ext : ∀ M, ExtP g w (gB M) w) (kn : ∀ M b o, b < w.heap.size → g.kind b = .obj o → (gB M).kind b = .imm M none) {os : List Ob} (hs : SR T g w os) :
    ∀ {ts : List Ty} {cs : List Value} {vs vs' : List V}, VRs T g w ts cs vs → V.freezes os vs = some vs' → ∃ N, ∀ M, N ≤ M → VRs T (gB M) w ts cs vs'
  | _, _, _, _, .nil, h => by
    simp only [V.freezes, Option.some.injEq] at h
    subst h
    exact ⟨0, fun _ _ => .nil⟩
  | _, _, _, _, .cons (v := v) (vs := vs) hv hvs, h => by
    simp only [V.freezes] at h
    cases hf : V.freeze os v with
    | none => simp [hf] at h
    | some x =>
      cases hg : V.freezes os vs with
      | none => simp [hf, hg] at h
      | some l =>
        simp only [hf, hg, Option.some.injEq] at h
        subst h
        obtain ⟨N1, h1⟩ := VR.freeze ext kn hs hv hf
        obtain ⟨N2, h2⟩ := VRs.freeze ext kn hs hvs hg
        exact ⟨max N1 N2, fun M hM => .cons (h1 M (by omega)) (h2 M (by omega))⟩
end

theorem ValR.freeze {gB : Nat → Gh} (ext : ∀ M, ExtP g w (gB M) w) (kn : ∀ M b o, b < w.heap.size → g.kind b = .obj o → (gB M).kind b = .imm M none) {os : List Ob} (hs : SR T g w os) {ty : Ty} {v v' : V} {x : Value} (h : ValR T g w ty v x)
    (he : v.freeze os = some v') : ∃ N, ∀ M, N ≤ M → ValR T (gB M) w ty v' x := by
  obtain ⟨cs, h1, h2⟩ := h
  obtain ⟨N, hN⟩ := h1.freeze ext kn hs he
  exact ⟨N, fun M hM => ⟨cs, hN M hM, h2⟩⟩

theorem TupR.freeze {gB : Nat → Gh} (ext : ∀ M, ExtP g w (gB M) w) (kn : ∀ M b o, b < w.heap.size → g.kind b = .obj o → (gB M).kind b = .imm M none) {os : List Ob} (hs : SR T g w os) :
    ∀ {l l' : List (Ty × V)} {xs : List Value}, TupR T g w l xs → freezeTup os l = some l' → ∃ N, ∀ M, N ≤ M → TupR T (gB M) w l' xs
  | [], l', [], _, h => by
    simp only [freezeTup, Option.some.injEq] at h
    subst h
    exact ⟨0, fun _ _ => trivial⟩
  | (ty, v) :: l, l', x :: xs, hv, h => by
    simp only [freezeTup] at h
    cases hf : V.freeze os v with
    | none => simp [hf] at h
    | some y =>
      cases hg : freezeTup os l with
      | none => simp [hf, hg] at h
      | some r =>
        simp only [hf, hg, Option.some.injEq] at h
        subst h
        obtain ⟨N1, h1⟩ := hv.1.freeze ext kn hs hf
        obtain ⟨N2, h2⟩ := TupR.freeze ext kn hs hv.2 hg
        exact ⟨max N1 N2, fun M hM => ⟨h1 M (by omega), h2 M (by omega)⟩⟩
  | [], _, _ :: _, h, _ => h.elim
  | _ :: _, _, [], h, _ => h.elim

theorem argsR_of : ∀ {l : List (Ty × V)} {xs ys : List Value} {caps : List V}, TupR T g w l xs → VRs T g w (List.replicate caps.length .ptr) ys caps → ArgsR T g w (l.map (·.1)) (l.map (·.2) ++ caps) (xs ++ ys)
  | (t, v) :: l, x :: xs, ys, caps, h, hc => ⟨h.1, argsR_of h.2 hc⟩
  | [], [], ys, caps, _, hc => by
    simp only [List.map_nil, List.nil_append]
    induction caps generalizing ys with
    | nil => cases hc; trivial
    | cons c caps ih =>
      rw [List.length_cons, List.replicate_succ] at hc
      cases hc with
      | @cons _ _ c1 cs v vs h1 h2 =>
        obtain ⟨x, rfl, _⟩ := h1.single rfl
        exact ⟨⟨_, h1, by simp [ofCells, Ty.isAgg]⟩, ih _ h2⟩
  | [], _ :: _, _, _, h, _ => h.elim
  | _ :: _, [], _, _, h, _ => h.elim
end

/-- the callee's view: the caller's slots own nothing -/
def Gh.demote (g : Gh) : Gh := { g with kind := fun b => match g.kind b with
  | .imm n (some (.slot _)) => .imm n none
  | k => k }

/-- the view of a callee that sees no object -/
def Gh.blind (g : Gh) : Gh := { rho := fun _ => none, kind := fun b => match g.kind b with
  | .imm n _ => .imm n none
  | _ => .other }

def liftK (tr d : Nat) : Kind → Kind
  | .imm n (some (.slot t)) => if t = tr then .imm n (some (.slot d)) else .imm n none
  | k => k

def liftB (M tr d : Nat) : Kind → Kind
  | .imm n (some (.slot t)) => if t = tr then .imm n (some (.slot d)) else .imm n none
  | .imm n _ => .imm n none
  | .obj _ => .imm M none
  | .other => .other

/-- the caller's view behind a call -/
def Gh.restore (g : Gh) (sz : Nat) (g' : Gh) (tr d : Nat) : Gh := { rho := g'.rho, kind := fun b => match decide (b < sz), g.kind b with
  | true, .imm n (some (.slot t)) => .imm n (some (.slot t))
  | _, _ => liftK tr d (g'.kind b) }

/-- .. that saw no object -/
def Gh.restoreB (g : Gh) (sz : Nat) (g' : Gh) (tr d M : Nat) : Gh := { rho := g.rho, kind := fun b => if b < sz then g.kind b else liftB M tr d (g'.kind b) }

section
variable {P : Program} {cx : Cx} {g g' : Gh} {w w' : World} {st st' : St} {a : Act} {o : Oper}

theorem noSlots_demote (g : Gh) : NoSlots g.demote := by
  intro b n t h
  simp only [Gh.demote] at h
  split at h
  · simp at h
  · rename_i hk; exact hk _ _ h
theorem noSlots_blind (g : Gh) : NoSlots g.blind := by
  intro b n t h
  simp only [Gh.blind] at h
  split at h <;> simp at h

theorem step_demote (g : Gh) (w : World) : Step g w g.demote w where
  size := Nat.le_refl _
  rho := fun _ _ h => h
  other := fun b _ h => ⟨by simp [Gh.demote, h], rfl⟩
  fixed := fun b n _ h => ⟨by simp [Gh.demote, h], rfl⟩
  grows := fun b n ow _ h => by
    cases ow with
    | slot t => exact ⟨n, none, Nat.le_refl _, by simp [Gh.demote, h], fun _ _ => by trivial⟩
    | place o p => exact ⟨n, some (.place o p), Nat.le_refl _, by simp [Gh.demote, h], fun _ _ => by trivial⟩
  obj := fun b o _ h => by simp [Gh.demote, h]
  os := rfl
  output := rfl

theorem SR.demote {os : List Ob} (h : SR cx.T g w os) : SR cx.T g.demote w os := by
  refine ⟨fun o x hx => ?_, h.new⟩
  have := h.ob o x hx
  cases x with
  | dead => trivial
  | mapo k e es =>
    obtain ⟨b, ty, ents, clock, h1, h2, h3, h4, h5⟩ := this
    exact ⟨b, ty, ents, clock, h1, h2, by simp [Gh.demote, h3], h4, h5.mono (step_demote g w).ext⟩
  | row ty vs own =>
    obtain ⟨b, c, et, fr, cs, sp, h1, h2, h3, h4, h5, h6, h7, h8⟩ := this
    refine ⟨b, c, et, fr, cs, sp, h1, h2, by simp [Gh.demote, h3], h4, h5, h6, h7.mono (step_demote g w).ext, ?_⟩
    intro p hp
    obtain ⟨i, q, off, u, val, a1, a2, a3, a4⟩ := h8 p hp
    refine ⟨i, q, off, u, val, a1, a2, a3, ?_⟩
    obtain ⟨e, u, k1, k2, k⟩ := a4
    refine ⟨e, u, k1, k2, ?_⟩
    rcases k with k | ⟨b, len, cap, c, et, fr, k3, k4, k5, k6, k7, k8, k9⟩
    · exact .inl k
    · exact .inr ⟨b, len, cap, c, et, fr, k3, k4, by simp [Gh.demote, k5], k6, k7, k8, k9⟩

/-- what the caller knows behind a call -/
theorem restore_all (hi : Inv cx.T g w st a) {os' : List Ob} (hs : SR cx.T g' w' os') (hst : Step g.demote w g' w') (tr d : Nat) :
    Step g w (g.restore w.heap.size g' tr d) w' ∧ Ext g' w' (g.restore w.heap.size g' tr d) w' ∧ Inv cx.T (g.restore w.heap.size g' tr d) w' (st.newOs os') a ∧
      ∀ ty val, OwnV cx.T g' w' (.slot tr) ty val → OwnV cx.T (g.restore w.heap.size g' tr d) w' (.slot d) ty val := by
  -- a block that a slot of the caller owns
  have slot : ∀ b n t, b < w.heap.size → g.kind b = .imm n (some (.slot t)) → g'.kind b = .imm n none ∧ w'.heap[b]? = w.heap[b]? ∧ (g.restore w.heap.size g' tr d).kind b = .imm n (some (.slot t)) := by
    intro b n t hb hk
    obtain ⟨h1, h2⟩ := hst.fixed b n hb (by simp [Gh.demote, hk])
    exact ⟨h1, h2, by simp [Gh.restore, hb, hk]⟩
  have rest : ∀ b, (∀ n t, b < w.heap.size → g.kind b ≠ .imm n (some (.slot t))) → (g.restore w.heap.size g' tr d).kind b = liftK tr d (g'.kind b) := by
    intro b hb
    simp only [Gh.restore]
    split
    · rename_i n t h1 h2
      exact absurd h2 (hb n t (by simpa using h1))
    · rfl
  have notslot : ∀ b k, g'.kind b = k → (∀ n, k ≠ .imm n none) → ∀ n t, b < w.heap.size → g.kind b ≠ .imm n (some (.slot t)) := by
    intro b k hk hne n t hb h
    rw [(slot b n t hb h).1] at hk
    exact hne n hk.symm
  have ext : Ext g' w' (g.restore w.heap.size g' tr d) w' := by
    refine ⟨Nat.le_refl _, fun _ _ h => h, ?_, ?_⟩
    · intro b n ow hb hk
      by_cases hsl : ∃ n t, b < w.heap.size ∧ g.kind b = .imm n (some (.slot t))
      · obtain ⟨n2, t, hb2, hk2⟩ := hsl
        obtain ⟨h1, _, h3⟩ := slot b n2 t hb2 hk2
        rw [h1] at hk; injection hk with hk _; subst hk
        exact ⟨_, _, Nat.le_refl _, h3, fun _ _ => by trivial⟩
      · rw [rest b fun n t hb h => hsl ⟨n, t, hb, h⟩, hk]
        cases ow with
        | none => exact ⟨n, none, Nat.le_refl _, rfl, fun _ _ => by trivial⟩
        | some ow =>
          cases ow with
          | place o p => exact ⟨n, _, Nat.le_refl _, rfl, fun _ _ => by trivial⟩
          | slot t =>
            simp only [liftK]
            split
            · exact ⟨n, _, Nat.le_refl _, rfl, fun _ _ => by trivial⟩
            · exact ⟨n, _, Nat.le_refl _, rfl, fun _ _ => by trivial⟩
    · intro b ob hb hk
      rw [rest b (notslot b _ hk (by simp)), hk]
      rfl
  have own : ∀ ow ow' ty val, (∀ n, liftK tr d (.imm n (some ow)) = .imm n (some ow')) → OwnV cx.T g' w' ow ty val → OwnV cx.T (g.restore w.heap.size g' tr d) w' ow' ty val := by
    intro ow ow' ty val hl h
    obtain ⟨e, u, k1, k2, k⟩ := h
    refine ⟨e, u, k1, k2, ?_⟩
    rcases k with k | ⟨b, len, cap, c, et, fr, k3, k4, k5, k6, k7, k8, k9⟩
    · exact .inl k
    · refine .inr ⟨b, len, cap, c, et, fr, k3, k4, ?_, k6, k7, k8, k9⟩
      rw [rest b (notslot b _ k5 (by simp)), k5, hl]
  have step : Step g w (g.restore w.heap.size g' tr d) w' := by
    refine ⟨hst.size, fun o x h => hst.rho o x h, ?_, ?_, ?_, ?_, hst.os, hst.output⟩
    · intro b hb hk
      obtain ⟨h1, h2⟩ := hst.other b hb (by simp [Gh.demote, hk])
      refine ⟨?_, h2⟩
      rw [rest b (by rw [hk]; simp), h1]; rfl
    · intro b n hb hk
      obtain ⟨h1, h2⟩ := hst.fixed b n hb (by simp [Gh.demote, hk])
      refine ⟨?_, h2⟩
      rw [rest b (by rw [hk]; simp), h1]; rfl
    · intro b n ow hb hk
      cases ow with
      | slot t =>
        obtain ⟨_, h2, h3⟩ := slot b n t hb hk
        exact ⟨n, _, Nat.le_refl _, h3, fun _ _ => cell_of_heap h2⟩
      | place o p =>
        obtain ⟨n', ow', h1, h2, h3⟩ := hst.grows b n (.place o p) hb (by simp [Gh.demote, hk])
        rw [rest b (by rw [hk]; simp), h2]
        cases ow' with
        | none => exact ⟨n', none, h1, rfl, h3⟩
        | some ow' =>
          cases ow' with
          | place o p => exact ⟨n', _, h1, rfl, h3⟩
          | slot t =>
            simp only [liftK]
            split
            · exact ⟨n', _, h1, rfl, h3⟩
            · exact ⟨n', _, h1, rfl, h3⟩
    · intro b ob hb hk
      rw [rest b (by rw [hk]; simp), hst.obj b ob hb (by simp [Gh.demote, hk])]
      rfl
  refine ⟨step, ext, ⟨hi.tm, hi.df, ?_, hi.newOrgs, ?_, hs.new⟩, fun ty val h => own _ _ ty val (by simp [liftK]) h⟩
  · intro t e he
    have := hi.env t e he
    cases e with
    | tup l => obtain ⟨vals, m1, m2⟩ := this; exact ⟨vals, m1, m2.mono step.ext⟩
    | un => exact this
    | one ty v own2 =>
      obtain ⟨m1, m2⟩ := this
      refine ⟨m1.mono step.ext, fun e => ?_⟩
      obtain ⟨e, u, k1, k2, k⟩ := m2 e
      refine ⟨e, u, k1, k2, ?_⟩
      rcases k with k | ⟨b, len, cap, c, et, fr, k3, k4, k5, k6, k7, k8, k9⟩
      · exact .inl k
      · obtain ⟨_, h2, h3⟩ := slot b _ _ k4 k5
        exact .inr ⟨b, len, cap, c, et, fr, k3, Nat.lt_of_lt_of_le k4 hst.size, h3, h2.trans k6, k7, k8, fun j hj => (frozen_of_heap h2).trans (k9 j hj)⟩
  · intro o x hx
    have := hs.ob o x hx
    cases x with
    | dead => trivial
    | mapo k e es =>
      obtain ⟨b, ty, ents, clock, h1, h2, h3, h4, h5⟩ := this
      exact ⟨b, ty, ents, clock, h1, h2, ext.obj b o h2 h3, h4, h5.mono ext⟩
    | row ty vs ow =>
      obtain ⟨b, c, et, fr, cs, sp, h1, h2, h3, h4, h5, h6, h7, h8⟩ := this
      refine ⟨b, c, et, fr, cs, sp, h1, h2, ext.obj b o h2 h3, h4, h5, h6, h7.mono ext, ?_⟩
      intro p hp
      obtain ⟨i, q, off, u, val, a1, a2, a3, a4⟩ := h8 p hp
      exact ⟨i, q, off, u, val, a1, a2, a3, own _ _ u val (by simp [liftK]) a4⟩

theorem restoreB_all (hi : Inv cx.T g w st a) (hst : Step g.blind w g' w') (tr d M : Nat) :
    Keep g w (g.restoreB w.heap.size g' tr d M) w' ∧ ExtP g' w' (g.restoreB w.heap.size g' tr d M) w' ∧ (∀ b o, b < w'.heap.size → g'.kind b = .obj o → (g.restoreB w.heap.size g' tr d M).kind b = .imm M none) ∧
      ∀ ty val, OwnV cx.T g' w' (.slot tr) ty val → OwnV cx.T (g.restoreB w.heap.size g' tr d M) w' (.slot d) ty val := by
  have old : ∀ b, b < w.heap.size → w'.heap[b]? = w.heap[b]? ∧ g'.kind b = g.blind.kind b := by
    intro b hb
    cases hk : g.kind b with
    | other =>
      obtain ⟨h1, h2⟩ := hst.other b hb (by simp [Gh.blind, hk])
      exact ⟨h2, by rw [h1]; simp [Gh.blind, hk]⟩
    | obj o =>
      obtain ⟨h1, h2⟩ := hst.other b hb (by simp [Gh.blind, hk])
      exact ⟨h2, by rw [h1]; simp [Gh.blind, hk]⟩
    | imm n ow =>
      obtain ⟨h1, h2⟩ := hst.fixed b n hb (by simp [Gh.blind, hk])
      exact ⟨h2, by rw [h1]; simp [Gh.blind, hk]⟩
  refine ⟨⟨hst.size, fun _ _ h => h, fun b hb => by simp [Gh.restoreB, hb], fun b hb => (old b hb).1, hst.os, hst.output⟩, ⟨?_⟩, ?_, ?_⟩
  · intro b n ow hb hk
    refine ⟨hb, ?_⟩
    by_cases hlt : b < w.heap.size
    · simp only [Gh.restoreB, hlt, if_true]
      rw [(old b hlt).2] at hk
      simp only [Gh.blind] at hk
      split at hk
      · rename_i n' ow' hk'
        injection hk with hk _; subst hk
        exact ⟨_, _, Nat.le_refl _, hk', fun _ _ => by trivial⟩
      · simp at hk
    · simp only [Gh.restoreB, hlt, if_false, hk]
      cases ow with
      | none => exact ⟨n, none, Nat.le_refl _, rfl, fun _ _ => by trivial⟩
      | some ow =>
        cases ow with
        | place o p => exact ⟨n, none, Nat.le_refl _, rfl, fun _ _ => by trivial⟩
        | slot t =>
          simp only [liftB]
          split
          · exact ⟨n, _, Nat.le_refl _, rfl, fun _ _ => by trivial⟩
          · exact ⟨n, _, Nat.le_refl _, rfl, fun _ _ => by trivial⟩
  · intro b ob hb hk
    have hnew : ¬ b < w.heap.size := by
      intro hb
      rw [(old b hb).2] at hk
      simp only [Gh.blind] at hk
      split at hk <;> simp at hk
    simp [Gh.restoreB, hnew, hk, liftB]
  · intro ty val h
    obtain ⟨e, u, k1, k2, k⟩ := h
    refine ⟨e, u, k1, k2, ?_⟩
    rcases k with k | ⟨b, len, cap, c, et, fr, k3, k4, k5, k6, k7, k8, k9⟩
    · exact .inl k
    · refine .inr ⟨b, len, cap, c, et, fr, k3, k4, ?_, k6, k7, k8, k9⟩
      have hnew : ¬ b < w.heap.size := by
        intro hb
        rw [(old b hb).2] at k5
        simp only [Gh.blind] at k5
        split at k5 <;> simp at k5
      simp [Gh.restoreB, hnew, k5, liftB]

theorem tys_eq : ∀ {l : List Nat} {ts : List Ty}, tys cx.T l = some ts → l.length = ts.length
  | [], ts, h => by simp only [tys, Option.some.injEq] at h; subst h; rfl
  | t :: l, ts, h => by
    simp only [tys] at h
    split at h
    · rename_i u us h1 h2
      simp only [Option.some.injEq] at h
      subst h
      simp [tys_eq h2]
    · simp at h

/-- a function without a body answers so -/
def ExtOK (P : Program) (cx : Cx) (f : Nat) (i : Fi) (h : List V → Option (Ty × V)) : Prop :=
  ∀ g w ts vs vals ty v, tys cx.T i.fn.params.toList = some ts → ArgsR cx.T g w ts vs vals → h vs = some (ty, v) →
    ∃ val w', (callFunc f vals.toArray).run P w = .ok (.value val) w' ∧ w'.heap = w.heap ∧ w'.os = w.os ∧ w'.output = w.output ∧ ValR cx.T g w ty v val

structure Exts (P : Program) (cx : Cx) : Prop where
  ext : ∀ f i h, cx.F f = some i → cx.Y f = some h → i.fn.body.isNone = true → ExtOK P cx f i h
  kon : ∀ f vs os r os', askK (cx.K f) vs os = some (r, os') → CallOK P cx f vs os r os'

theorem keep_of_heap {w w' : World} (h1 : w'.heap = w.heap) (h2 : w'.os = w.os) (h3 : w'.output = w.output) : Keep g w g w' :=
  ⟨by rw [h1]; exact Nat.le_refl _, fun _ _ h => h, fun _ _ => rfl, fun b _ => by rw [h1], h2, h3⟩

theorem callRs_owed {r : Rs} {g' : Gh} {w' : World} {st1 : St} {val : Value} (hi : Inv cx.T g' w' st1 a) (he : callRs st1 o.dst r = some st')
    (hr : match r with
      | .one ty v own => ValR cx.T g' w' ty v val ∧ (own = true → OwnV cx.T g' w' (.slot (o.dst.getD 0)) ty val)
      | .tup l => ∃ vals : Array Value, val = .tuple vals ∧ TupR cx.T g' w' l vals.toList) : Inv cx.T g' w' st' (a.put o.dst val) := by
  cases r with
  | one ty v own =>
    refine hi.set (val := val) he ?_
    intro d hd
    refine ⟨hr.1, fun ho => ?_⟩
    have := hr.2 ho
    rw [hd] at this
    exact this
  | tup l => exact hi.set (val := val) he fun _ _ => hr

/-- a call that is met -/
theorem call_owed (G : Good P cx) (X : Exts P cx) {c : Call} {f : Nat} {caps : List V} {call : Nat → List V → List Ob → Option (Rs × List Ob)} (HC : ∀ f vs os r os', call f vs os = some (r, os') → CallOK P cx f vs os r os')
    (hop : o.op = .call c) {x : Operand} (hc : c.callee = .value x) (hx : ∃ ys : Array Value, a.eval x = .func (.func f) #[] ys ∧ VRs cx.T g w (List.replicate caps.length .ptr) ys.toList caps) (hi : Inv cx.T g w st a)
    (he : callEv call cx st o.dst f caps c.args.toList = some st') : Owed P cx g w st' a o := by
  obtain ⟨ys, ex, hys⟩ := hx
  unfold callEv at he
  cases hF : cx.F f with
  | none => simp [hF] at he
  | some i =>
    simp only [hF] at he
    cases hts : tys cx.T i.fn.params.toList with
    | none => simp [hts] at he
    | some ts =>
      simp only [hts] at he
      cases hvs : opds st ts c.args.toList with
      | none => simp [hvs] at he
      | some vs =>
        simp only [hvs] at he
        obtain ⟨l, e1, e2, e3⟩ := opds_sound hi hvs
        have hargs := argsR_of e3 hys
        rw [e1, e2] at hargs
        obtain ⟨hfn, hname⟩ := G.fn f i hF
        have hrun : ∀ b, i.fn.body = some b → (execOp a.eval o).run P w = .ok (.enter f (c.args.map a.eval ++ ys)) w := by
          intro b hb
          have hn2 : ¬ i.fn.name = "runtime.NumGoroutine" := by simpa using hname
          simp [execOp, hop, resolve, hc, ex, Deferred.ofValue, invoke, callFunc, program, Sem.run, hfn, hn2, hb]
        have hvals : (c.args.map a.eval ++ ys) = (c.args.toList.map a.eval ++ ys.toList).toArray := by
          rw [← Array.toList_inj]; simp
        cases hY : cx.Y f with
        | some h =>
          simp only [hY] at he
          cases hh : h vs with
          | none => simp [hh] at he
          | some tv =>
            obtain ⟨ty, v⟩ := tv
            simp only [hh] at he
            split at he
            · rename_i hcond
              simp only [Bool.and_eq_true] at hcond
              have hcaps : caps = [] := by simpa using hcond.1
              subst hcaps
              rw [List.append_nil] at hargs
              have hysn : ys = #[] := by
                cases ys with
                | mk ysl =>
                  cases hys
                  rfl
              subst hysn
              obtain ⟨val, w', q1, q2, q3, q4, q5⟩ := X.ext f i h hF hY hcond.2 g w ts vs _ ty v hts hargs hh
              have k := keep_of_heap (g := g) q2 q3 q4
              refine Owed.value (g' := g) (w' := w') (val := val) ?_ (hi.keep k fun _ h => h) he (fun d _ => ⟨q5.mono k.step.ext, by simp⟩) k.step
              simp only [List.append_nil, Array.toList_empty] at q1
              have hv2 : (#[] ++ c.args.map a.eval ++ #[] : Array Value) = (List.map a.eval c.args.toList).toArray := by rw [← Array.toList_inj]; simp
              simp only [execOp, hop, resolve, hc, ex, Deferred.ofValue, invoke, Sem.run_bind, Sem.run_pure, Result.andThen_ok, hv2]
              exact q1
            · simp at he
        | none =>
          simp only [hY] at he
          split at he
          · -- no object is seen
            split at he
            · rename_i hpl
              cases hcall : call f (V.forgets (vs ++ caps)) [] with
              | none => simp [hcall] at he
              | some rr =>
                obtain ⟨r, os'⟩ := rr
                simp only [hcall] at he
                cases hfr : r.freeze os' with
                | none => simp [hfr] at he
                | some r' =>
                  simp only [hfr] at he
                  obtain ⟨i', ts', b, hF', hb, hts', H⟩ := HC _ _ _ _ _ hcall
                  rw [hF] at hF'; injection hF' with hF'; subst hF'
                  rw [hts] at hts'; injection hts' with hts'; subst hts'
                  intro K Q hK
                  unfold Oper.wp
                  rw [hrun b hb]
                  simp only [Oper.upon_enter]
                  rw [hvals]
                  have hext : ExtP g w g.blind w := by
                    refine ⟨fun b n ow hb hk => ⟨hb, n, none, Nat.le_refl _, by simp [Gh.blind, hk], fun _ _ => by trivial⟩⟩
                  refine (H g.blind w _ ⟨fun o x h => by simp at h, fun _ _ => by trivial⟩ (hargs.plain hext hpl).forget (noSlots_blind g)).mono ?_
                  rintro e w' ⟨g', v, rfl, hr, hsr, hstep⟩
                  cases r with
                  | one ty v0 own =>
                    obtain ⟨h1, h2⟩ := hr
                    have ⟨tr, htr⟩ : ∃ tr, own = true → OwnV cx.T g' w' (.slot tr) ty v := by
                      cases own with
                      | false => exact ⟨0, by simp⟩
                      | true => obtain ⟨t, h⟩ := h2 rfl; exact ⟨t, fun _ => h⟩
                    simp only [Rs.freeze] at hfr
                    cases hv : v0.freeze os' with
                    | none => simp [hv] at hfr
                    | some v1 =>
                      simp only [hv, Option.some.injEq] at hfr
                      subst hfr
                      obtain ⟨N, hN⟩ := h1.freeze (gB := fun M => g.restoreB w.heap.size g' tr (o.dst.getD 0) M) (fun M => (restoreB_all hi hstep tr (o.dst.getD 0) M).2.1) (fun M => (restoreB_all hi hstep tr (o.dst.getD 0) M).2.2.1) hsr hv
                      obtain ⟨k1, k2, k3, k4⟩ := restoreB_all hi hstep tr (o.dst.getD 0) N
                      have hi' := hi.keep k1 (fun _ h => h)
                      exact hK _ _ _ (callRs_owed hi' he ⟨(hN N (Nat.le_refl _)).forget, fun ho => k4 ty v (htr ho)⟩) k1.step
                  | tup l2 =>
                    obtain ⟨vals, h1, h2⟩ := hr
                    simp only [Rs.freeze] at hfr
                    cases hv : freezeTup os' l2 with
                    | none => simp [hv] at hfr
                    | some l3 =>
                      simp only [hv, Option.some.injEq] at hfr
                      subst hfr
                      obtain ⟨N, hN⟩ := h2.freeze (gB := fun M => g.restoreB w.heap.size g' 0 (o.dst.getD 0) M) (fun M => (restoreB_all hi hstep 0 (o.dst.getD 0) M).2.1) (fun M => (restoreB_all hi hstep 0 (o.dst.getD 0) M).2.2.1) hsr hv
                      obtain ⟨k1, k2, k3, k4⟩ := restoreB_all hi hstep 0 (o.dst.getD 0) N
                      have hi' := hi.keep k1 (fun _ h => h)
                      exact hK _ _ _ (callRs_owed hi' he ⟨vals, h1, (hN N (Nat.le_refl _)).forget⟩) k1.step
            · simp at he
          · cases hcall : call f (V.forgets (vs ++ caps)) st.os with
            | none => simp [hcall] at he
            | some rr =>
              obtain ⟨r, os'⟩ := rr
              simp only [hcall] at he
              obtain ⟨i', ts', b, hF', hb, hts', H⟩ := HC _ _ _ _ _ hcall
              rw [hF] at hF'; injection hF' with hF'; subst hF'
              rw [hts] at hts'; injection hts' with hts'; subst hts'
              intro K Q hK
              unfold Oper.wp
              rw [hrun b hb]
              simp only [Oper.upon_enter]
              rw [hvals]
              refine (H g.demote w _ hi.os.demote (hargs.mono (step_demote g w).ext).forget (noSlots_demote g)).mono ?_
              rintro e w' ⟨g', v, rfl, hr, hsr, hstep⟩
              cases r with
              | one ty v0 own =>
                obtain ⟨h1, h2⟩ := hr
                have ⟨tr, htr⟩ : ∃ tr, own = true → OwnV cx.T g' w' (.slot tr) ty v := by
                  cases own with
                  | false => exact ⟨0, by simp⟩
                  | true => obtain ⟨t, h⟩ := h2 rfl; exact ⟨t, fun _ => h⟩
                obtain ⟨k1, k2, k3, k4⟩ := restore_all hi hsr hstep tr (o.dst.getD 0)
                exact hK _ _ _ (callRs_owed k3 he ⟨(h1.mono k2).forget, fun ho => k4 ty v (htr ho)⟩) k1
              | tup l2 =>
                obtain ⟨vals, h1, h2⟩ := hr
                obtain ⟨k1, k2, k3, k4⟩ := restore_all hi hsr hstep 0 (o.dst.getD 0)
                exact hK _ _ _ (callRs_owed k3 he ⟨vals, h1, (h2.mono k2).forget⟩) k1
end
end Go.Vm
