/- Operations that write memory: objects, and who owns what. -/
import Derived.Test.YtjbehmedbefbpaaGreatVmOpsD
set_option linter.unusedVariables false
set_option linter.unusedSimpArgs false
namespace Go.Vm
open Go

section
variable {T : TR} {g : Gh} {w : World}

theorem has_of_list {b : Nat} {c : Array Value} {e : TypeId} {fr : Nat × Nat} (hh : w.heap[b]? = some (.cells c e fr)) : ∀ {cs pre sp : List Value}, c.toList = pre ++ (cs ++ sp) → Has w b pre.length cs
  | [], _, _, _ => trivial
  | x :: cs, pre, sp, h => by
    refine ⟨?_, ?_⟩
    · have : c[pre.length]? = some x := by
        rw [← Array.getElem?_toList, h, List.getElem?_append_right (Nat.le_refl _), Nat.sub_self]; rfl
      simp [World.cell?, hh, this]
    · have := has_of_list hh (cs := cs) (pre := pre ++ [x]) (sp := sp) (by rw [h]; simp)
      simpa using this

theorem row_at {n i off : Nat} {ty u : Ty} {cs : List Value} {vs : List V} {vi v : V} {q : List Nat} (h : VRs T g w (List.replicate n ty) cs vs) (hi : vs[i]? = some vi) (ha : ty.at q = some (off, u)) (hg : vi.get q = some v) :
    VR T g w u ((cs.drop (i * ty.size + off)).take u.size) v ∧ i * ty.size + off + u.size ≤ cs.length := by
  have hlt : i < n := by
    have := h.length
    rw [List.length_replicate] at this
    rw [this]; exact (List.getElem?_eq_some_iff.1 hi).1
  obtain ⟨v', h1, h2, h3⟩ := h.sub (fieldOff_replicate hlt)
  rw [hi] at h1; injection h1 with h1; subst h1
  obtain ⟨a1, a2⟩ := h2.at ha hg
  rw [List.length_take, List.length_drop] at a2
  rw [List.drop_take, List.take_take, List.drop_drop, Nat.min_eq_left (by omega)] at a1
  exact ⟨a1, by omega⟩

theorem row_put {n i off : Nat} {ty u : Ty} {cs ds : List Value} {vs : List V} {vi x v' : V} {q : List Nat} (h : VRs T g w (List.replicate n ty) cs vs) (hi : vs[i]? = some vi) (ha : ty.at q = some (off, u)) (hx : VR T g w u ds x)
    (hp : vi.put q x = some v') :
    VRs T g w (List.replicate n ty) (cs.take (i * ty.size + off) ++ ds ++ cs.drop (i * ty.size + off + u.size)) (vs.set i v') ∧ i * ty.size + off + u.size ≤ cs.length := by
  have hlt : i < n := by
    have := h.length
    rw [List.length_replicate] at this
    rw [this]; exact (List.getElem?_eq_some_iff.1 hi).1
  have hf := fieldOff_replicate (e := ty) hlt
  obtain ⟨v0, h1, h2, h3⟩ := h.sub hf
  rw [hi] at h1; injection h1 with h1; subst h1
  obtain ⟨b1, b2⟩ := h2.put ha hx hp
  rw [List.length_take, List.length_drop] at b2
  have := h.set hf b1
  rw [splice_splice _ _ _ _ _ _ h3 (by omega)] at this
  exact ⟨this, by omega⟩

/-- what an owner owns goes to another one -/
theorem reown {ow ow' : Owner} {ty : Ty} {val : Value} (h : OwnV T g w ow ty val) :
    ∃ g', g'.rho = g.rho ∧ Step g w g' w ∧ OwnV T g' w ow' ty val ∧ (∀ ow2 ty2 val2, ow2 ≠ ow → OwnV T g w ow2 ty2 val2 → OwnV T g' w ow2 ty2 val2) ∧ ∀ b o, g.kind b = .obj o → g'.kind b = .obj o := by
  obtain ⟨e, u, h1, h2, h⟩ := h
  rcases h with h | ⟨b, len, cap, c, et, fr, h3, h4, h5, h6, h7, h8, h9⟩
  · exact ⟨g, rfl, Step.refl g w, ⟨e, u, h1, h2, .inl h⟩, fun _ _ _ _ h => h, fun _ _ h => h⟩
  · refine ⟨{ g with kind := fun x => if x = b then .imm (len * u.size) (some ow') else g.kind x }, rfl, ?_, ⟨e, u, h1, h2, .inr ⟨b, len, cap, c, et, fr, h3, h4, by simp, h6, h7, h8, h9⟩⟩, ?_, ?_⟩
    · refine ⟨Nat.le_refl _, fun _ _ h => h, ?_, ?_, ?_, ?_, rfl, rfl⟩
      · intro x _ hx
        have : x ≠ b := by rintro rfl; rw [h5] at hx; simp at hx
        exact ⟨by simp [this, hx], rfl⟩
      · intro x n _ hx
        have : x ≠ b := by rintro rfl; rw [h5] at hx; simp at hx
        exact ⟨by simp [this, hx], rfl⟩
      · intro x n ow2 _ hx
        by_cases hb : x = b
        · subst hb
          rw [h5] at hx; injection hx with hx1 hx2; subst hx1
          exact ⟨_, some ow', Nat.le_refl _, by simp, fun _ _ => rfl⟩
        · exact ⟨n, some ow2, Nat.le_refl _, by simp [hb, hx], fun _ _ => rfl⟩
      · intro x o _ hx
        have : x ≠ b := by rintro rfl; rw [h5] at hx; simp at hx
        simp [this, hx]
    · intro ow2 ty2 val2 hne h
      obtain ⟨e2, u2, k1, k2, h⟩ := h
      refine ⟨e2, u2, k1, k2, ?_⟩
      rcases h with h | ⟨b2, len2, cap2, c2, et2, fr2, k3, k4, k5, k6, k7, k8, k9⟩
      · exact .inl h
      · have : b2 ≠ b := by
          rintro rfl
          rw [h5] at k5; injection k5 with _ k5; injection k5 with k5
          exact hne k5.symm
        exact .inr ⟨b2, len2, cap2, c2, et2, fr2, k3, k4, by simp [this, k5], k6, k7, k8, k9⟩
    · intro x o hx
      have : x ≠ b := by rintro rfl; rw [h5] at hx; simp at hx
      simp [this, hx]

theorem PlaceIs.rho {g' : Gh} (hr : g'.rho = g.rho) (hk : ∀ b o, g.kind b = .obj o → g'.kind b = .obj o) {o : Nat} {p : List Nat} {val : Value} (h : PlaceIs g w o p val) : PlaceIs g' w o p val := by
  obtain ⟨b, ty, i, q, off, u, h1, h2, h3, h4⟩ := h
  exact ⟨b, ty, i, q, off, u, h1, ⟨by rw [hr]; exact h2.1, hk _ _ h2.2⟩, h3, h4⟩

theorem OrgR.rho {g' : Gh} (hr : g'.rho = g.rho) (hk : ∀ b o, g.kind b = .obj o → g'.kind b = .obj o) {tmps : Array Value} {val : Value} {og : Org} (h : OrgR g w tmps val og) : OrgR g' w tmps val og := by
  cases og with
  | no => trivial
  | slot s => exact h
  | place o p => exact PlaceIs.rho hr hk h

theorem get_disown (env : Env) (t t' : Nat) : (env.disown t).get t' = if t = t' then (match env.get t with | some (.one ty v true) => some (.one ty v false) | e => e) else env.get t' := by
  unfold Env.disown
  cases hg : env.get t with
  | none => simp only; split <;> simp_all
  | some e =>
    cases e with
    | tup l => simp only; split <;> simp_all
    | un => simp only; split <;> simp_all
    | one ty v own =>
      cases own with
      | false => simp only; split <;> simp_all
      | true => simp only [get_ins]

theorem ObR.reown {g' : Gh} (hr : g'.rho = g.rho) (hs : Step g w g' w) (hobj : ∀ b o, g.kind b = .obj o → g'.kind b = .obj o) {o : Nat} {x : Ob} (h : ObR T g w o x)
    (hkeep : ∀ ty vs own, x = .row ty vs own → ∀ p ∈ own, ∀ u val, OwnV T g w (.place o p) u val → OwnV T g' w (.place o p) u val) : ObR T g' w o x := by
  cases x with
  | dead => trivial
  | mapo k e es =>
    obtain ⟨b, ty, ents, clock, h1, h2, h3, h4, h5⟩ := h
    exact ⟨b, ty, ents, clock, by rw [hr]; exact h1, h2, hobj _ _ h3, h4, h5.mono hs.ext⟩
  | row ty2 vs own =>
    obtain ⟨b, c, et, fr, cs, sp, h1, h2, h3, h4, h5, h6, h7, h8⟩ := h
    refine ⟨b, c, et, fr, cs, sp, by rw [hr]; exact h1, h2, hobj _ _ h3, h4, h5, h6, h7.mono hs.ext, ?_⟩
    intro p hp
    obtain ⟨i, q, off, u, val, a1, a2, a3, a4⟩ := h8 p hp
    exact ⟨i, q, off, u, val, a1, a2, a3, hkeep _ _ _ rfl p hp _ _ a4⟩

/-- a slot hands on what it owns -/
theorem Inv.reown {st : St} {a : Act} (h : Inv T g w st a) {t : Nat} {ty : Ty} {v : V} (hg : st.env.get t = some (.one ty v true)) (ow' : Owner) :
    ∃ g', g'.rho = g.rho ∧ Step g w g' w ∧ Inv T g' w (st.withEnv (st.env.disown t)) a ∧ OwnV T g' w ow' ty (a.tmps.getD t undef) ∧ ∀ b o, g.kind b = .obj o → g'.kind b = .obj o := by
  obtain ⟨_, hown⟩ := h.env t _ hg
  obtain ⟨g', hr, hs, ho, hkeep, hobj⟩ := Vm.reown (ow' := ow') (hown rfl)
  refine ⟨g', hr, hs, ⟨h.tm, h.df, ?_, ?_, ?_, ?_⟩, ho, hobj⟩
  · intro t' e he
    have he2 : (st.env.disown t).get t' = some e := he
    clear he
    simp only [get_disown] at he2
    split at he2
    · rename_i heq
      subst heq
      rw [hg] at he2
      simp only [Option.some.injEq] at he2
      subst he2
      exact ⟨(h.env t _ hg).1.mono hs.ext, by simp⟩
    · rename_i hne
      have := h.env t' e he2
      cases e with
      | tup l => obtain ⟨vals, h1, h2⟩ := this; exact ⟨vals, h1, h2.mono hs.ext⟩
      | un => exact this
      | one ty2 v2 own2 =>
        obtain ⟨h1, h2⟩ := this
        exact ⟨h1.mono hs.ext, fun e => hkeep _ _ _ (by simpa using Ne.symm hne) (h2 e)⟩
  · exact fun x hx => (h.orgs x hx).rho hr hobj
  · intro o x hx
    exact (h.os.ob o x hx).reown hr hs hobj fun _ _ _ _ p _ u val hv => hkeep _ _ _ (by simp) hv
  · intro o ho
    rw [hr]; exact h.os.new o ho

theorem Inv.reownPlace {st : St} {a : Act} (h : Inv T g w st a) {ob : Nat} {p : List Nat} (hp : ownsPlace st.os ob p = true) (ow' : Owner) {val : Value} (hv : PlaceIs g w ob p val) :
    ∃ g' u, g'.rho = g.rho ∧ Step g w g' w ∧ Inv T g' w (st.withOs (unown st.os ob p)) a ∧ OwnV T g' w ow' u val ∧ (∃ i q off b ty, p = i :: q ∧ g.rho ob = some (b, ty) ∧ ty.at q = some (off, u)) ∧ ∀ b o, g.kind b = .obj o → g'.kind b = .obj o := by
  unfold ownsPlace at hp
  cases hob : st.os[ob]? with
  | none => simp [hob] at hp
  | some x =>
    cases x with
    | dead => simp [hob] at hp
    | mapo k e es => simp [hob] at hp
    | row ty vs own =>
      simp only [hob] at hp
      have hmem : p ∈ own := by simpa using hp
      obtain ⟨b, c, et, fr, cs, sp, h1, h2, h3, h4, h5, h6, h7, h8⟩ := h.os.ob ob _ hob
      obtain ⟨i, q, off, u, val', a1, a2, a3, a4⟩ := h8 p hmem
      obtain ⟨b', ty', i', q', off', u', c1, c2, c3, c4⟩ := hv
      rw [a1] at c1; injection c1 with c1 c1'; subst c1 c1'
      have c2 := c2.1; rw [h1] at c2; injection c2 with c2; injection c2 with c2 c2'; subst c2 c2'
      rw [a2] at c3; injection c3 with c3; injection c3 with c3 c3'; subst c3 c3'
      rw [a3] at c4; injection c4 with c4; subst c4
      obtain ⟨g', hr, hs, ho, hkeep, hobj⟩ := Vm.reown (ow' := ow') a4
      have hlt : ob < st.os.length := (List.getElem?_eq_some_iff.1 hob).1
      have hun : unown st.os ob p = st.os.set ob (.row ty vs (own.filter fun r => !(r == p))) := by simp [unown, hob]
      refine ⟨g', u, hr, hs, ⟨h.tm, h.df, ?_, ?_, ?_, ?_⟩, ho, ⟨i, q, off, b, ty, a1, h1, a2⟩, hobj⟩
      · intro t' e he
        have := h.env t' e he
        cases e with
        | tup l => obtain ⟨vals, h1, h2⟩ := this; exact ⟨vals, h1, h2.mono hs.ext⟩
        | un => exact this
        | one ty2 v2 own2 =>
          obtain ⟨k1, k2⟩ := this
          exact ⟨k1.mono hs.ext, fun e => hkeep _ _ _ (by simp) (k2 e)⟩
      · exact fun x hx => (h.orgs x hx).rho hr hobj
      · intro o x hx
        have hx2 : (unown st.os ob p)[o]? = some x := hx
        clear hx
        simp only [hun, List.getElem?_set] at hx2
        split at hx2
        · rename_i heq
          subst heq
          simp only [hlt, if_true, Option.some.injEq] at hx2
          subst hx2
          have base : ObR T g w ob (.row ty vs (own.filter fun r => !(r == p))) :=
            ⟨b, c, et, fr, cs, sp, h1, h2, h3, h4, h5, h6, h7, fun r hr => h8 r (List.mem_filter.1 hr).1⟩
          refine base.reown hr hs hobj fun ty2 vs2 own2 he r hr u val hv => hkeep _ _ _ ?_ hv
          injection he with _ _ he
          subst he
          intro heq; injection heq with e1 e2
          have := (List.mem_filter.1 hr).2
          rw [e2] at this
          simp at this
        · rename_i hne
          refine (h.os.ob o x hx2).reown hr hs hobj fun _ _ _ _ r _ u val hv => hkeep _ _ _ ?_ hv
          intro heq; injection heq with e1 e2
          exact hne e1.symm
      · intro o ho
        have ho2 : (unown st.os ob p).length ≤ o := ho
        simp only [hun, List.length_set] at ho2
        rw [hr]; exact h.os.new o ho2

/-- a new object -/
def Gh.obj (g : Gh) (o b : Nat) (ty : Ty) : Gh :=
  { rho := fun x => if x = o then some (b, ty) else g.rho x, kind := fun x => if x = b then .obj o else g.kind x }

theorem heap_alloc {ob : Obj} {b : Nat} (h : b < w.heap.size) : (w.alloc ob).heap[b]? = w.heap[b]? := by
  simp only [World.alloc, Array.getElem?_push]
  rw [if_neg (by omega)]

theorem heap_alloc_new {ob : Obj} : (w.alloc ob).heap[w.heap.size]? = some ob := by
  show (w.heap.push ob)[w.heap.size]? = some ob
  simp

theorem keep_obj {os : List Ob} (h : SR T g w os) (ob : Obj) (ty : Ty) : Keep g w (g.obj os.length w.heap.size ty) (w.alloc ob) where
  size := by simp
  rho := fun o x hx => by
    have : o ≠ os.length := by rintro rfl; rw [h.new _ (Nat.le_refl _)] at hx; simp at hx
    simp [Gh.obj, this, hx]
  kind := fun b hb => by simp [Gh.obj, Nat.ne_of_lt hb]
  heap := fun b hb => heap_alloc hb
  os := rfl
  output := rfl

theorem Inv.newObj {st : St} {a : Act} (h : Inv T g w st a) {ty : Ty} {vs : List V} {cs : List Value} {e : TypeId} {own : List (List Nat)} (hv : VRs T g w (List.replicate vs.length ty) cs vs)
    (hown : ∀ p ∈ own, ∃ i q off u val, p = i :: q ∧ ty.at q = some (off, u) ∧ cs[i * ty.size + off]? = some val ∧ OwnV T g w (.place st.os.length p) u val) :
    Inv T (g.obj st.os.length w.heap.size ty) (w.alloc (.cells cs.toArray e)) (st.withOs (st.os ++ [.row ty vs own])) a ∧ Keep g w (g.obj st.os.length w.heap.size ty) (w.alloc (.cells cs.toArray e)) := by
  have k := keep_obj h.os (.cells cs.toArray e) ty
  refine ⟨⟨h.tm, h.df, fun t x hx => (h.env t x hx).keep k, fun x hx => (h.orgs x hx).keep k, ?_, ?_⟩, k⟩
  · intro o x hx
    have hx : (st.os ++ [Ob.row ty vs own])[o]? = some x := hx
    rw [List.getElem?_append] at hx
    split at hx
    · exact (h.os.ob o x hx).keep k
    · rename_i hlt
      have ho : o = st.os.length := by
        rcases Nat.lt_trichotomy o st.os.length with h1 | h1 | h1
        · exact absurd h1 hlt
        · exact h1
        · rw [List.getElem?_eq_none (by simp; omega)] at hx; simp at hx
      subst ho
      simp only [Nat.sub_self, List.getElem?_cons_zero, Option.some.injEq] at hx
      subst hx
      refine ⟨w.heap.size, cs.toArray, e, (0, 0), cs, [], by simp [Gh.obj], by simp, by simp [Gh.obj], heap_alloc_new, ?_, by simp, hv.mono k.step.ext, ?_⟩
      · intro j _
        exact World.frozen?_alloc_new w cs.toArray e j
      · intro p hp
        obtain ⟨i, q, off, u, val, a1, a2, a3, a4⟩ := hown p hp
        exact ⟨i, q, off, u, val, a1, a2, by rw [World.cell?_alloc_new]; simpa using a3, a4.keep k⟩
  · intro o ho
    have ho : (st.os ++ [Ob.row ty vs own]).length ≤ o := ho
    simp only [List.length_append, List.length_cons, List.length_nil] at ho
    have : o ≠ st.os.length := by omega
    simp [Gh.obj, this, h.os.new o (by omega)]
end
end Go.Vm
