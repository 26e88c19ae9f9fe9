/- States of the evaluator, and the states of the model that they stand for. -/
import Derived.Test.YtjbehmedbefbpaaGreatVmMem
import Derived.Test.YtjbehmedbefbpaaGreatVmEval
set_option linter.unusedVariables false
set_option linter.unusedSimpArgs false
namespace Go.Vm
open Go

section
variable (T : TR) (g : Gh) (w : World)

/-- a slice whose owner may append behind its end -/
def OwnV (ow : Owner) (ty : Ty) (val : Value) : Prop :=
  ∃ e u, ty = .sl e ∧ T e = some u ∧ (val = .slice none 0 0 ∨ ∃ b len cap c et fr, val = .slice (some ⟨b, 0, none⟩) len cap ∧ b < w.heap.size ∧ g.kind b = .imm (len * u.size) (some ow) ∧
    w.heap[b]? = some (.cells c et fr) ∧ c.size = cap * u.size ∧ len ≤ cap ∧ ∀ j, j < c.size → w.frozen? ⟨b, j, none⟩ = false)

/-- what stands at a place is this one cell -/
def PlaceIs (o : Nat) (p : List Nat) (val : Value) : Prop :=
  ∃ b ty i q off u, p = i :: q ∧ (g.rho o = some (b, ty) ∧ g.kind b = .obj o) ∧ ty.at q = some (off, u) ∧ w.cell? ⟨b, i * ty.size + off, none⟩ = some val

def ValR (ty : Ty) (v : V) (val : Value) : Prop := ∃ cs, VR T g w ty cs v ∧ val = ofCells ty cs

def TupR : List (Ty × V) → List Value → Prop
  | [], [] => True
  | (ty, v) :: l, x :: xs => ValR T g w ty v x ∧ TupR l xs
  | _, _ => False

def OrgR (tmps : Array Value) (val : Value) : Org → Prop
  | .no => True
  | .slot s => tmps.getD s undef = val
  | .place o p => PlaceIs g w o p val

def EntV (t : Nat) (val : Value) : Ent → Prop
  | .one ty v own => ValR T g w ty v val ∧ (own = true → OwnV T g w (.slot t) ty val)
  | .tup l => ∃ vals : Array Value, val = .tuple vals ∧ TupR T g w l vals.toList
  | .un => val = undef

/-- a map's entries -/
def EntsR (k e : Ty) : List MapEntry → List (V × V) → Prop
  | [], [] => True
  | x :: xs, y :: ys => ValR T g w k y.1 x.key ∧ ValR T g w e y.2 x.val ∧ EntsR k e xs ys
  | _, _ => False

def ObR (o : Nat) : Ob → Prop
  | .row ty vs own => ∃ b c et fr cs sp, g.rho o = some (b, ty) ∧ b < w.heap.size ∧ g.kind b = .obj o ∧ w.heap[b]? = some (.cells c et fr) ∧ (∀ j, j < c.size → w.frozen? ⟨b, j, none⟩ = false) ∧
      c.toList = cs ++ sp ∧ VRs T g w (List.replicate vs.length ty) cs vs ∧
      ∀ p ∈ own, ∃ i q off u val, p = i :: q ∧ ty.at q = some (off, u) ∧ w.cell? ⟨b, i * ty.size + off, none⟩ = some val ∧ OwnV T g w (.place o p) u val
  | .mapo k e es => ∃ b ty ents clock, g.rho o = some (b, ty) ∧ b < w.heap.size ∧ g.kind b = .obj o ∧ w.heap[b]? = some (.map ents clock) ∧ EntsR T g w k e ents.toList es
  | .dead => True

structure SR (os : List Ob) : Prop where
  ob : ∀ o x, os[o]? = some x → ObR T g w o x
  new : ∀ o, os.length ≤ o → g.rho o = none

structure Inv (st : St) (a : Act) : Prop where
  tm : a.tmps.size = st.n
  df : a.defers = []
  env : ∀ t e, st.env.get t = some e → EntV T g w t (a.tmps.getD t undef) e
  orgs : ∀ x ∈ st.orgs, OrgR g w a.tmps (a.tmps.getD x.1 undef) x.2
  os : SR T g w st.os
end

section
variable {T : TR} {g g' : Gh} {w w' : World}

theorem ValR.mono {ty : Ty} {v : V} {val : Value} (s : Ext g w g' w') (h : ValR T g w ty v val) : ValR T g' w' ty v val :=
  let ⟨cs, h1, h2⟩ := h; ⟨cs, h1.mono s, h2⟩

theorem TupR.mono (s : Ext g w g' w') : ∀ {l : List (Ty × V)} {xs : List Value}, TupR T g w l xs → TupR T g' w' l xs
  | [], [], _ => trivial
  | (_, _) :: _, _ :: _, ⟨h1, h2⟩ => ⟨h1.mono s, TupR.mono s h2⟩
  | [], _ :: _, h => h.elim
  | _ :: _, [], h => h.elim

/-- nothing old has changed -/
structure Keep (g : Gh) (w : World) (g' : Gh) (w' : World) : Prop where
  size : w.heap.size ≤ w'.heap.size
  rho : ∀ o x, g.rho o = some x → g'.rho o = some x
  kind : ∀ b, b < w.heap.size → g'.kind b = g.kind b
  heap : ∀ b, b < w.heap.size → w'.heap[b]? = w.heap[b]?
  os : w'.os = w.os
  output : w'.output = w.output

theorem Keep.refl (g : Gh) (w : World) : Keep g w g w := ⟨Nat.le_refl _, fun _ _ h => h, fun _ _ => rfl, fun _ _ => rfl, rfl, rfl⟩

theorem Keep.step (k : Keep g w g' w') : Step g w g' w' where
  size := k.size
  rho := k.rho
  other := fun b hb h => ⟨(k.kind b hb).trans h, k.heap b hb⟩
  fixed := fun b n hb h => ⟨(k.kind b hb).trans h, k.heap b hb⟩
  grows := fun b n ow hb h => ⟨n, some ow, Nat.le_refl _, (k.kind b hb).trans h, fun _ _ => cell_of_heap (k.heap b hb)⟩
  obj := fun b o hb h => (k.kind b hb).trans h
  os := k.os
  output := k.output

theorem frozen_of_heap {b off : Nat} (h : w'.heap[b]? = w.heap[b]?) : w'.frozen? ⟨b, off, none⟩ = w.frozen? ⟨b, off, none⟩ := by
  simp [World.frozen?, h]

theorem OwnV.keep {ow : Owner} {ty : Ty} {val : Value} (k : Keep g w g' w') (h : OwnV T g w ow ty val) : OwnV T g' w' ow ty val := by
  obtain ⟨e, u, h1, h2, h⟩ := h
  refine ⟨e, u, h1, h2, ?_⟩
  rcases h with h | ⟨b, len, cap, c, et, fr, h3, h4, h5, h6, h7, h8, h9⟩
  · exact .inl h
  · exact .inr ⟨b, len, cap, c, et, fr, h3, Nat.lt_of_lt_of_le h4 k.size, (k.kind b h4).trans h5, (k.heap b h4).trans h6, h7, h8, fun j hj => (frozen_of_heap (k.heap b h4)).trans (h9 j hj)⟩

theorem block_of_cell {a : Addr} {v : Value} (h : w.cell? a = some v) : a.block < w.heap.size := World.block_lt_of_cell? w a h

theorem PlaceIs.keep {o : Nat} {p : List Nat} {val : Value} (k : Keep g w g' w') (h : PlaceIs g w o p val) : PlaceIs g' w' o p val := by
  obtain ⟨b, ty, i, q, off, u, h1, h2, h3, h4⟩ := h
  have hb : b < w.heap.size := block_of_cell h4
  exact ⟨b, ty, i, q, off, u, h1, ⟨k.rho _ _ h2.1, (k.kind b hb).trans h2.2⟩, h3, (cell_of_heap (k.heap b hb)).trans h4⟩

theorem EntV.keep {t : Nat} {val : Value} {e : Ent} (k : Keep g w g' w') (h : EntV T g w t val e) : EntV T g' w' t val e := by
  cases e with
  | one ty v own =>
    obtain ⟨h1, h2⟩ := h
    exact ⟨h1.mono k.step.ext, fun ho => (h2 ho).keep k⟩
  | tup l => obtain ⟨vals, h1, h2⟩ := h; exact ⟨vals, h1, h2.mono k.step.ext⟩
  | un => exact h

theorem OrgR.keep {tmps : Array Value} {val : Value} {og : Org} (k : Keep g w g' w') (h : OrgR g w tmps val og) : OrgR g' w' tmps val og := by
  cases og with
  | no => trivial
  | slot s => exact h
  | place o p => exact PlaceIs.keep k h

theorem EntsR.mono (s : Ext g w g' w') {k e : Ty} : ∀ {xs : List MapEntry} {ys : List (V × V)}, EntsR T g w k e xs ys → EntsR T g' w' k e xs ys
  | [], [], _ => trivial
  | _ :: _, _ :: _, ⟨h1, h2, h3⟩ => ⟨h1.mono s, h2.mono s, EntsR.mono s h3⟩
  | [], _ :: _, h => h.elim
  | _ :: _, [], h => h.elim

theorem ObR.keep {o : Nat} {x : Ob} (k : Keep g w g' w') (h : ObR T g w o x) : ObR T g' w' o x := by
  cases x with
  | dead => trivial
  | mapo kt e es =>
    obtain ⟨b, ty, ents, clock, h1, h2, h3, h4, h5⟩ := h
    exact ⟨b, ty, ents, clock, k.rho _ _ h1, Nat.lt_of_lt_of_le h2 k.size, (k.kind b h2).trans h3, (k.heap b h2).trans h4, h5.mono k.step.ext⟩
  | row ty vs own =>
    obtain ⟨b, c, et, fr, cs, sp, h1, h2, h3, h4, h5, h6, h7, h8⟩ := h
    refine ⟨b, c, et, fr, cs, sp, k.rho _ _ h1, Nat.lt_of_lt_of_le h2 k.size, (k.kind b h2).trans h3, (k.heap b h2).trans h4, fun j hj => (frozen_of_heap (k.heap b h2)).trans (h5 j hj), h6, h7.mono k.step.ext, ?_⟩
    intro p hp
    obtain ⟨i, q, off, u, val, a1, a2, a3, a4⟩ := h8 p hp
    exact ⟨i, q, off, u, val, a1, a2, (cell_of_heap (k.heap b h2)).trans a3, a4.keep k⟩

theorem SR.keep {os : List Ob} (k : Keep g w g' w') (hr : ∀ o, os.length ≤ o → g'.rho o = none) (h : SR T g w os) : SR T g' w' os :=
  ⟨fun o x hx => (h.ob o x hx).keep k, hr⟩

theorem Inv.keep {st : St} {a : Act} (k : Keep g w g' w') (hr : ∀ o, g.rho o = none → g'.rho o = none) (h : Inv T g w st a) : Inv T g' w' st a :=
  ⟨h.tm, h.df, fun t e he => (h.env t e he).keep k, fun x hx => (h.orgs x hx).keep k, h.os.keep k fun o ho => hr o (h.os.new o ho)⟩

/-- memory has changed where only 'ow0' owns, or nobody -/
theorem Inv.move {st : St} {a : Act} (h : Inv T g w st a) (s : Step g w g' w') {ow0 : Owner} (h0 : ∃ o p, ow0 = .place o p ∧ st.os.length ≤ o) (hown : ∀ ow ty val, ow ≠ ow0 → OwnV T g w ow ty val → OwnV T g' w' ow ty val)
    (hob : ∀ b o, b < w.heap.size → g.kind b = .obj o → w'.heap[b]? = w.heap[b]?) (hr : ∀ o, g.rho o = none → g'.rho o = none) : Inv T g' w' st a := by
  obtain ⟨o0, p0, rfl, h0⟩ := h0
  refine ⟨h.tm, h.df, ?_, ?_, ?_, fun o ho => hr o (h.os.new o ho)⟩
  · intro t e he
    have := h.env t e he
    cases e with
    | tup l => obtain ⟨vals, h1, h2⟩ := this; exact ⟨vals, h1, h2.mono s.ext⟩
    | un => exact this
    | one ty v own =>
      obtain ⟨h1, h2⟩ := this
      exact ⟨h1.mono s.ext, fun e => hown _ _ _ (by simp) (h2 e)⟩
  · intro x hx
    have := h.orgs x hx
    obtain ⟨t, og⟩ := x
    cases og with
    | no => trivial
    | slot s => exact this
    | place o p =>
      obtain ⟨b, ty, i, q, off, u, a1, a2, a3, a4⟩ := this
      have hb : b < w.heap.size := block_of_cell a4
      exact ⟨b, ty, i, q, off, u, a1, ⟨s.rho _ _ a2.1, s.obj _ _ hb a2.2⟩, a3, (cell_of_heap (hob b o hb a2.2)).trans a4⟩
  · intro o x hx
    have := h.os.ob o x hx
    have hlt : o < st.os.length := (List.getElem?_eq_some_iff.1 hx).1
    cases x with
    | dead => trivial
    | mapo kt e es =>
      obtain ⟨b, ty, ents, clock, h1, h2, h3, h4, h5⟩ := this
      exact ⟨b, ty, ents, clock, s.rho _ _ h1, Nat.lt_of_lt_of_le h2 s.size, s.obj _ _ h2 h3, (hob b o h2 h3).trans h4, h5.mono s.ext⟩
    | row ty vs own =>
      obtain ⟨b, c, et, fr, cs, sp, h1, h2, h3, h4, h5, h6, h7, h8⟩ := this
      have hh := hob b o h2 h3
      refine ⟨b, c, et, fr, cs, sp, s.rho _ _ h1, Nat.lt_of_lt_of_le h2 s.size, s.obj _ _ h2 h3, hh.trans h4, fun j hj => (frozen_of_heap hh).trans (h5 j hj), h6, h7.mono s.ext, ?_⟩
      intro p hp
      obtain ⟨i, q, off, u, val, a1, a2, a3, a4⟩ := h8 p hp
      refine ⟨i, q, off, u, val, a1, a2, (cell_of_heap hh).trans a3, hown _ _ _ ?_ a4⟩
      intro e; injection e with e1 e2; omega

/-! The environment. -/

theorem get_nil (t : Nat) : Env.get [] t = none := rfl
theorem get_cons (u : Nat) (x : Ent) (r : Env) (t : Nat) : Env.get ((u, x) :: r) t = if u = t then some x else Env.get r t := by
  show (@Bool.rec (fun _ => Option Ent) _ _ (Nat.beq u t) : Option Ent) = _
  cases h : Nat.beq u t with
  | true => rw [if_pos (Nat.eq_of_beq_eq_true h)]
  | false => rw [if_neg (Nat.ne_of_beq_eq_false h)]; rfl
theorem ins_nil (t : Nat) (e : Ent) : Env.ins [] t e = [(t, e)] := rfl
theorem ins_cons (u : Nat) (x : Ent) (r : Env) (t : Nat) (e : Ent) : Env.ins ((u, x) :: r) t e = if u = t then (t, e) :: r else if u ≤ t then (t, e) :: (u, x) :: r else (u, x) :: Env.ins r t e := by
  show (@Bool.rec (fun _ => Env) _ _ (Nat.beq u t) : Env) = _
  cases h : Nat.beq u t with
  | true => rw [if_pos (Nat.eq_of_beq_eq_true h)]
  | false =>
    rw [if_neg (Nat.ne_of_beq_eq_false h)]
    show (@Bool.rec (fun _ => Env) _ _ (Nat.ble u t) : Env) = _
    cases h2 : Nat.ble u t with
    | true => rw [if_pos (Nat.le_of_ble_eq_true h2)]
    | false => rw [if_neg (by intro h3; rw [Nat.ble_eq_true_of_le h3] at h2; simp at h2)]; rfl

theorem get_ins (env : Env) (d : Nat) (e : Ent) (t : Nat) : (env.ins d e).get t = if d = t then some e else env.get t := by
  induction env with
  | nil => rw [ins_nil, get_cons, get_nil]
  | cons x r ih =>
    obtain ⟨u, y⟩ := x
    rw [ins_cons]
    by_cases hu : u = d
    · subst hu
      rw [if_pos rfl, get_cons, get_cons]
      split <;> rfl
    · rw [if_neg hu]
      split
      · rw [get_cons]
      · rw [get_cons, ih, get_cons]
        by_cases ht : u = t
        · subst ht; rw [if_pos rfl, if_neg (Ne.symm hu), if_pos rfl]
        · rw [if_neg ht, if_neg ht]

theorem keepK_cons (m : Nat) (x : Nat × Ent) (r : Env) (k : Env → St) : Env.keepK m (x :: r) k = match memB m x.1 with
    | true => Env.keepK m r fun r' => k (x :: r')
    | false => Env.keepK m r k := by
  show (@Bool.rec (fun _ => St) _ _ (memB m x.1) : St) = _
  cases memB m x.1 <;> rfl

theorem keepK_eq (m : Nat) (env : Env) (k : Env → St) : ∃ env' : Env, Env.keepK m env k = k env' ∧ ∀ t e, Env.get env' t = some e → memB m t = true ∧ Env.get env t = some e := by
  induction env generalizing k with
  | nil => exact ⟨[], rfl, fun t e h => by simp [get_nil] at h⟩
  | cons x r ih =>
    obtain ⟨u, y⟩ := x
    rw [keepK_cons]
    cases hm : memB m u with
    | true =>
      obtain ⟨env', h1, h2⟩ := ih fun r' => k ((u, y) :: r')
      refine ⟨(u, y) :: env', h1, fun t e h => ?_⟩
      rw [get_cons] at h ⊢
      split at h
      · rename_i hut
        subst hut
        exact ⟨hm, by rw [if_pos rfl]; exact h⟩
      · rename_i hut
        rw [if_neg hut]
        exact h2 t e h
    | false =>
      obtain ⟨env', h1, h2⟩ := ih k
      refine ⟨env', h1, fun t e h => ?_⟩
      obtain ⟨h3, h4⟩ := h2 t e h
      refine ⟨h3, ?_⟩
      rw [get_cons, if_neg (by rintro rfl; rw [hm] at h3; simp at h3)]
      exact h4

theorem dropOrg_mem (d : Nat) : ∀ {l : List (Nat × Org)} {x : Nat × Org}, x ∈ dropOrg d l → x.2 = .no ∨ (x ∈ l ∧ aboutB d x = false)
  | [], x, h => by simp [dropOrg] at h
  | y :: l, x, h => by
    simp only [dropOrg] at h
    rcases List.mem_cons.1 h with h | h
    · cases hy : aboutB d y with
      | true => left; subst h; simp only [offOrg, hy]
      | false =>
        right
        simp only [offOrg, hy] at h
        subst h
        exact ⟨List.mem_cons_self .., hy⟩
    · rcases dropOrg_mem d h with h | ⟨h1, h2⟩
      · exact .inl h
      · exact .inr ⟨List.mem_cons_of_mem _ h1, h2⟩

theorem insOrg_mem (d : Nat) (o : Org) : ∀ {l : List (Nat × Org)} {x : Nat × Org}, x ∈ insOrg d o l → x = (d, o) ∨ x ∈ l
  | [], x, h => by simp [insOrg] at h; exact .inl h
  | y :: l, x, h => by
    simp only [insOrg] at h
    split at h
    · rcases List.mem_cons.1 h with h | h
      · exact .inl h
      · exact .inr (List.mem_cons_of_mem _ h)
    · split at h
      · rcases List.mem_cons.1 h with h | h
        · exact .inl h
        · exact .inr h
      · rcases List.mem_cons.1 h with h | h
        · subst h; exact .inr (List.mem_cons_self ..)
        · rcases insOrg_mem d o h with h | h
          · exact .inl h
          · exact .inr (List.mem_cons_of_mem _ h)

theorem mem_insOrg (d : Nat) (o : Org) : ∀ {l : List (Nat × Org)} {x : Nat × Org}, x ∈ l → x ∈ insOrg d o l ∨ x.1 = d
  | y :: l, x, h => by
    simp only [insOrg]
    split
    · rename_i hy
      rcases List.mem_cons.1 h with h | h
      · subst h; exact .inr (Nat.eq_of_beq_eq_true hy)
      · exact .inl (List.mem_cons_of_mem _ h)
    · split
      · exact .inl (List.mem_cons_of_mem _ h)
      · rcases List.mem_cons.1 h with h | h
        · subst h; exact .inl (List.mem_cons_self ..)
        · rcases mem_insOrg d o h with h | h
          · exact .inl (List.mem_cons_of_mem _ h)
          · exact .inr h

theorem slotOrgs_mem : ∀ {l : List (Nat × Org)} {x : Nat × Org}, x ∈ slotOrgs l → x.2 = .no ∨ (x ∈ l ∧ ∃ t s, x = (t, .slot s))
  | [], x, h => by simp [slotOrgs] at h
  | (t, og) :: l, x, h => by
    simp only [slotOrgs] at h
    rcases List.mem_cons.1 h with h | h
    · cases og with
      | no => left; subst h; rfl
      | place o p => left; subst h; rfl
      | slot s => right; subst h; exact ⟨List.mem_cons_self .., t, s, rfl⟩
    · rcases slotOrgs_mem h with h | ⟨h1, h2⟩
      · exact .inl h
      · exact .inr ⟨List.mem_cons_of_mem _ h1, h2⟩

theorem beq_false {a b : Nat} (h : Nat.beq a b = false) : a ≠ b := Nat.ne_of_beq_eq_false h

theorem aboutB_false {d t : Nat} {og : Org} (h : aboutB d (t, og) = false) : t ≠ d ∧ ∀ s, og = .slot s → s ≠ d := by
  cases og with
  | no => exact ⟨beq_false h, fun s h => by simp at h⟩
  | place o p => exact ⟨beq_false h, fun s h => by simp at h⟩
  | slot s =>
    simp only [aboutB, Bool.or_eq_false_iff] at h
    exact ⟨beq_false h.1, fun s' hs => by injection hs with hs; subst hs; exact beq_false h.2⟩

theorem getOrg_mem : ∀ {l : List (Nat × Org)} {t : Nat} {og : Org}, getOrg l t = og → og ≠ .no → (t, og) ∈ l
  | [], t, og, h, hn => absurd h.symm hn
  | (u, o) :: l, t, og, h, hn => by
    simp only [getOrg] at h
    cases hu : Nat.beq u t with
    | true =>
      simp only [hu] at h
      rw [Nat.eq_of_beq_eq_true hu, h]
      exact List.mem_cons_self ..
    | false =>
      simp only [hu] at h
      exact List.mem_cons_of_mem _ (getOrg_mem h hn)

theorem getD_put {a : Act} {d t : Nat} {v : Value} (hd : d < a.tmps.size) : (a.put (some d) v).tmps.getD t undef = if d = t then v else a.tmps.getD t undef := by
  simp only [Act.put, Array.getD_eq_getD_getElem?, Array.getElem?_setIfInBounds]
  by_cases h : d = t
  · subst h; simp [hd]
  · simp [h]

/-- a slot is written -/
theorem Inv.setO {st st' : St} {a : Act} {d : Option Nat} {e : Ent} {val : Value} {og : Org} (h : Inv T g w st a) (hs : st.setO d e og = some st') (he : ∀ t, d = some t → EntV T g w t val e) (ho : OrgR g w a.tmps val og) :
    Inv T g w st' (a.put d val) := by
  obtain ⟨env, orgs, os, n, thaw⟩ := st
  cases d with
  | none =>
    simp only [St.setO, Option.some.injEq] at hs
    subst hs
    exact h
  | some d =>
    simp only [St.setO] at hs
    cases hd : Nat.blt d n with
    | false => simp [hd] at hs
    | true =>
      simp only [hd, Option.some.injEq] at hs
      subst hs
      have hd' : d < a.tmps.size := by
        have := h.tm
        simp only at this
        rw [this]
        exact Nat.le_of_ble_eq_true hd
      refine ⟨by simpa [Act.put] using h.tm, h.df, ?_, ?_, h.os⟩
      · intro t x hx
        simp only [get_ins] at hx
        rw [getD_put hd']
        by_cases ht : d = t
        · subst ht
          simp only [if_true, Option.some.injEq] at hx ⊢
          subst hx
          exact he d rfl
        · simp only [ht, if_false] at hx ⊢
          exact h.env t x hx
      · intro x hx
        rcases insOrg_mem _ _ hx with hx | hx
        · subst hx
          simp only
          rw [getD_put hd', if_pos rfl]
          cases og with
          | no => trivial
          | place o p => exact ho
          | slot s =>
            simp only [OrgR] at ho ⊢
            rw [getD_put hd']
            split
            · rfl
            · exact ho
        · obtain ⟨t, og2⟩ := x
          rcases dropOrg_mem d hx with h0 | ⟨h1, h2⟩
          · simp only at h0; subst h0; trivial
          obtain ⟨h3, h4⟩ := aboutB_false h2
          have := h.orgs _ h1
          simp only at this ⊢
          rw [getD_put hd', if_neg (Ne.symm h3)]
          cases og2 with
          | no => trivial
          | place o p => exact this
          | slot s =>
            simp only [OrgR] at this ⊢
            rw [getD_put hd', if_neg (Ne.symm (h4 s rfl))]
            exact this

theorem Inv.dropOrgs {st : St} {a : Act} (h : Inv T g w st a) {orgs : List (Nat × Org)} (hs : ∀ x ∈ orgs, x ∈ st.orgs) : Inv T g w ⟨st.env, orgs, st.os, st.n, st.thaw⟩ a :=
  ⟨h.tm, h.df, h.env, fun x hx => h.orgs x (hs x hx), h.os⟩

theorem Inv.set {st st' : St} {a : Act} {d : Option Nat} {e : Ent} {val : Value} (h : Inv T g w st a) (hs : st.set d e = some st') (he : ∀ t, d = some t → EntV T g w t val e) :
    Inv T g w st' (a.put d val) := by
  obtain ⟨env, orgs, os, n, thaw⟩ := st
  cases d with
  | none =>
    simp only [St.set, Option.some.injEq] at hs
    subst hs
    exact h
  | some d =>
    simp only [St.set] at hs
    cases hd : Nat.blt d n with
    | false => simp [hd] at hs
    | true =>
      simp only [hd, Option.some.injEq] at hs
      subst hs
      have := h.setO (d := some d) (e := e) (val := val) (og := .no) (st' := ⟨env.ins d e, insOrg d .no (dropOrg d orgs), os, n, thaw⟩) (by simp only [St.setO, hd]) he trivial
      refine ⟨this.tm, this.df, this.env, fun x hx => ?_, this.os⟩
      rcases mem_insOrg d .no hx with h1 | h1
      · exact this.orgs x h1
      · obtain ⟨t, og⟩ := x
        have h2 := this.orgs (d, .no)
        rcases dropOrg_mem d hx with h0 | ⟨_, h0⟩
        · simp only at h0; subst h0; trivial
        · exact absurd h1 (aboutB_false h0).1

theorem Inv.keepSt {st : St} {a : Act} (m : Nat) (h : Inv T g w st a) : Inv T g w (st.keep m) a := by
  obtain ⟨env, orgs, os, n, thaw⟩ := st
  obtain ⟨env', h1, h2⟩ := keepK_eq m env fun env' => ⟨env', [], os, n, thaw⟩
  have : St.keep m ⟨env, orgs, os, n, thaw⟩ = ⟨env', [], os, n, thaw⟩ := h1
  rw [this]
  exact ⟨h.tm, h.df, fun t e he => h.env t e (h2 t e he).2, fun x hx => by simp at hx, h.os⟩

theorem Inv.newOrgs {g' : Gh} {w' : World} {st : St} {a : Act} (h : Inv T g w st a) : ∀ x ∈ slotOrgs st.orgs, OrgR g' w' a.tmps (a.tmps.getD x.1 undef) x.2 := by
  intro x hx
  rcases slotOrgs_mem hx with h0 | ⟨h1, t, s, rfl⟩
  · obtain ⟨t, og⟩ := x
    simp only at h0; subst h0; trivial
  · exact h.orgs _ h1

/-! Operands. -/

mutual
theorem vOf_sound : ∀ {ty : Ty} {cs : List Value} {v : V}, vOf ty cs = some v → VR T g w ty cs v
  | .bool, cs, v, h => by unfold vOf at h; split at h <;> simp_all; subst_vars; exact .b _
  | .int k, cs, v, h => by
    unfold vOf at h; split at h <;> simp_all
    obtain ⟨rfl, h⟩ := h; subst h; exact .i _ _
  | .str, cs, v, h => by unfold vOf at h; split at h <;> simp_all; subst_vars; exact .s _
  | .ptr, cs, v, h => by unfold vOf at h; split at h <;> simp_all; subst_vars; exact .pnil
  | .sl e, cs, v, h => by unfold vOf at h; split at h <;> simp_all; subst_vars; exact .snil _
  | .mp _ _, cs, v, h => by unfold vOf at h; split at h <;> simp_all; subst_vars; exact .mnil _ _
  | .fn, cs, v, h => by unfold vOf at h; split at h <;> simp_all; subst_vars; exact .fnil
  | .ifc, cs, v, h => by unfold vOf at h; split at h <;> simp_all; subst_vars; exact .inil
  | .st fs, cs, v, h => by
    unfold vOf at h
    cases hv : vsOf fs cs with
    | none => simp [hv] at h
    | some vs => simp only [hv, Option.some.injEq] at h; subst h; exact .st (vsOf_sound hv)
  | .ar n e, cs, v, h => by simp [vOf] at h
theorem vsOf_sound : ∀ {ts : List Ty} {cs : List Value} {vs : List V}, vsOf ts cs = some vs → VRs T g w ts cs vs
  | [], cs, vs, h => by unfold vsOf at h; split at h <;> simp_all; subst_vars; exact .nil
  | t :: ts, cs, vs, h => by
    unfold vsOf at h
    split at h
    · rename_i v vs' h1 h2
      simp only [Option.some.injEq] at h
      subst h
      rw [← List.take_append_drop t.size cs]
      exact .cons (vOf_sound h1) (vsOf_sound h2)
    · simp at h
end
end
end Go.Vm
