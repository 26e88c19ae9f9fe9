/- What an operation without effect looks at. -/
import Derived.Test.YtjbehmedbefbpaaGreatVmRel
set_option linter.unusedVariables false
set_option linter.unusedSimpArgs false
namespace Go.Vm
open Go

/-- a slot is written, with an origin or without -/
noncomputable def St.setX (st : St) (d : Option Nat) (e : Ent) : Option Org → Option St
  | none => st.set d e
  | some og => st.setO d e og

/-- .. without the right to append -/
def Ent.bare : Ent → Ent
  | .one ty v _ => .one ty v false
  | .tup l => .tup l
  | .un => .un

/-- the second state answers what the first one answers, at these slots; 'deep': objects' contents too -/
structure Sees (dp : Bool) (L : List Nat) (s1 s2 : St) : Prop where
  get : ∀ t ∈ L, (s1.env.get t).map Ent.bare = (s2.env.get t).map Ent.bare
  ty : ∀ o p u, lookTy s1.os o p = some u → lookTy s2.os o p = some u
  ext : dp = true → ∃ ext, s2.os = s1.os ++ ext

def opTmps (x : Operand) : List Nat :=
  match x with
  | .tmp t => [t]
  | _ => []

section
variable {cx : Cx} {s1 s2 : St} {L : List Nat} {dp : Bool}

theorem Sees.opd (h : Sees dp L s1 s2) {x : Operand} (hx : ∀ t ∈ opTmps x, t ∈ L) (ty : Ty) : Vm.opd s1 ty x = Vm.opd s2 ty x := by
  cases x with
  | tmp t =>
    have hg := h.get t (hx t (by simp [opTmps]))
    simp only [Vm.opd]
    cases h1 : s1.env.get t with
    | none =>
      cases h2 : s2.env.get t with
      | none => rfl
      | some e2 => simp [h1, h2] at hg
    | some e1 =>
      cases h2 : s2.env.get t with
      | none => simp [h1, h2] at hg
      | some e2 =>
        simp only [h1, h2, Option.map_some, Option.some.injEq] at hg
        cases e1 <;> cases e2 <;> simp_all [Ent.bare]
  | _ => rfl

theorem Sees.opi (h : Sees dp L s1 s2) {x : Operand} (hx : ∀ t ∈ opTmps x, t ∈ L) : Vm.opi s1 x = Vm.opi s2 x := by
  cases x with
  | tmp t =>
    have hg := h.get t (hx t (by simp [opTmps]))
    simp only [Vm.opi]
    cases h1 : s1.env.get t with
    | none =>
      cases h2 : s2.env.get t with
      | none => rfl
      | some e2 => simp [h1, h2] at hg
    | some e1 =>
      cases h2 : s2.env.get t with
      | none => simp [h1, h2] at hg
      | some e2 =>
        simp only [h1, h2, Option.map_some, Option.some.injEq] at hg
        cases e1 <;> cases e2 <;> simp only [Ent.bare, Ent.one.injEq, Ent.tup.injEq, reduceCtorEq] at hg ⊢
        obtain ⟨rfl, rfl, -⟩ := hg
        rename_i ty v _ _
        cases ty <;> try rfl
        cases v <;> rfl
  | const c => cases c <;> rfl
  | _ => rfl

theorem Sees.tupOf (h : Sees dp L s1 s2) {x : Operand} (hx : ∀ t ∈ opTmps x, t ∈ L) : Vm.tupOf s1 x = Vm.tupOf s2 x := by
  cases x with
  | tmp t =>
    have hg := h.get t (hx t (by simp [opTmps]))
    simp only [Vm.tupOf]
    cases h1 : s1.env.get t with
    | none =>
      cases h2 : s2.env.get t with
      | none => rfl
      | some e2 => simp [h1, h2] at hg
    | some e1 =>
      cases h2 : s2.env.get t with
      | none => simp [h1, h2] at hg
      | some e2 =>
        simp only [h1, h2, Option.map_some, Option.some.injEq] at hg
        cases e1 <;> cases e2 <;> simp_all [Ent.bare]
  | _ => rfl

theorem Sees.opds (h : Sees dp L s1 s2) : ∀ {ts : List Ty} {xs : List Operand}, (∀ x ∈ xs, ∀ t ∈ opTmps x, t ∈ L) → Vm.opds s1 ts xs = Vm.opds s2 ts xs
  | [], [], _ => rfl
  | [], _ :: _, _ => rfl
  | _ :: _, [], _ => rfl
  | t :: ts, x :: xs, hx => by
    simp only [Vm.opds, h.opd (hx x (List.mem_cons_self ..)), Sees.opds h fun y hy => hx y (List.mem_cons_of_mem _ hy)]

theorem look_ext {os ext : List Ob} {o : Nat} {p : List Nat} {r : Ty × V} (h : look os o p = some r) : look (os ++ ext) o p = some r := by
  cases p with
  | nil => simp [look] at h
  | cons i q =>
    simp only [look] at h ⊢
    cases ho : os[o]? with
    | none => simp [ho] at h
    | some x =>
      have hlt := (List.getElem?_eq_some_iff.1 ho).1
      rw [List.getElem?_append_left hlt, ho]
      simpa [ho] using h

theorem lookTy_ext {os ext : List Ob} {o : Nat} {p : List Nat} {r : Ty} (h : lookTy os o p = some r) : lookTy (os ++ ext) o p = some r := by
  cases p with
  | nil => simp [lookTy] at h
  | cons i q =>
    simp only [lookTy] at h ⊢
    cases ho : os[o]? with
    | none => simp [ho] at h
    | some x =>
      have hlt := (List.getElem?_eq_some_iff.1 ho).1
      rw [List.getElem?_append_left hlt, ho]
      simpa [ho] using h

theorem elems_ext {os ext : List Ob} {v : V} {r : List V} (h : elems os v = some r) : elems (os ++ ext) v = some r := by
  cases v <;> simp only [elems] at h ⊢ <;> try exact h
  rename_i o off len
  cases ho : os[o]? with
  | none => simp [ho] at h
  | some x =>
    have hlt := (List.getElem?_eq_some_iff.1 ho).1
    rw [List.getElem?_append_left hlt, ho]
    simpa [ho] using h

theorem Sees.bin (h : Sees dp L s1 s2) {op : BinOp} {xt : Nat} {x y : Operand} (hx : ∀ t ∈ opTmps x, t ∈ L) (hy : ∀ t ∈ opTmps y, t ∈ L) : binEv cx s1 op xt x y = binEv cx s2 op xt x y := by
  simp only [binEv, shEv, intEv, strEv, cmpEv, eqEv, h.opd hx, h.opd hy, h.opi hy]

theorem Sees.opI (h : Sees dp L s1 s2) {k : IntKind} {x : Operand} (hx : ∀ t ∈ opTmps x, t ∈ L) : Vm.opI s1 k x = Vm.opI s2 k x := by
  simp only [Vm.opI, h.opd hx]

theorem Sees.opS (h : Sees dp L s1 s2) {x : Operand} (hx : ∀ t ∈ opTmps x, t ∈ L) : Vm.opS s1 x = Vm.opS s2 x := by
  simp only [Vm.opS, h.opd hx]

theorem Sees.symBin (h : Sees dp L s1 s2) {op : BinOp} {xt : Nat} {x y : Operand} (hx : ∀ t ∈ opTmps x, t ∈ L) (hy : ∀ t ∈ opTmps y, t ∈ L) : Vm.symBin cx s1 op xt x y = Vm.symBin cx s2 op xt x y := by
  simp only [Vm.symBin, h.opI hx, h.opI hy, h.opS hx, h.opS hy, h.opi hy]

theorem Sees.symUn (h : Sees dp L s1 s2) {op : UnOp} {xt : Nat} {x : Operand} (hx : ∀ t ∈ opTmps x, t ∈ L) : Vm.symUn cx s1 op xt x = Vm.symUn cx s2 op xt x := by
  simp only [Vm.symUn, h.opI hx]

theorem Sees.symIndex (h : Sees dp L s1 s2) {t : Nat} {x y : Operand} (hx : ∀ t ∈ opTmps x, t ∈ L) (hy : ∀ t ∈ opTmps y, t ∈ L) : Vm.symIndex cx s1 t x y = Vm.symIndex cx s2 t x y := by
  simp only [Vm.symIndex, h.opd hx, h.opi hy]

theorem Sees.opiS (h : Sees dp L s1 s2) {x : Operand} (hx : ∀ t ∈ opTmps x, t ∈ L) : Vm.opiS s1 x = Vm.opiS s2 x := by
  cases x with
  | tmp t =>
    have hg := h.get t (hx t (by simp [opTmps]))
    simp only [Vm.opiS]
    cases h1 : s1.env.get t with
    | none =>
      cases h2 : s2.env.get t with
      | none => rfl
      | some e2 => simp [h1, h2] at hg
    | some e1 =>
      cases h2 : s2.env.get t with
      | none => simp [h1, h2] at hg
      | some e2 =>
        simp only [h1, h2, Option.map_some, Option.some.injEq] at hg
        cases e1 <;> cases e2 <;> simp only [Ent.bare, Ent.one.injEq, Ent.tup.injEq, reduceCtorEq] at hg ⊢
        obtain ⟨rfl, rfl, -⟩ := hg
        rename_i ty v _ _
        cases ty <;> rfl
  | const c => cases c <;> rfl
  | _ => rfl

theorem Sees.symIndex2 (h : Sees dp L s1 s2) {t : Nat} {x y : Operand} (hx : ∀ t ∈ opTmps x, t ∈ L) (hy : ∀ t ∈ opTmps y, t ∈ L) : Vm.symIndex2 cx s1 t x y = Vm.symIndex2 cx s2 t x y := by
  simp only [Vm.symIndex2, h.opS hx, h.opiS hy]

theorem Sees.symLen (h : Sees dp L s1 s2) {t : Nat} {x : Operand} (hx : ∀ t ∈ opTmps x, t ∈ L) : Vm.symLen cx s1 t x = Vm.symLen cx s2 t x := by
  simp only [Vm.symLen, h.opd hx]

theorem Sees.un (h : Sees dp L s1 s2) {op : UnOp} {xt : Nat} {x : Operand} (hx : ∀ t ∈ opTmps x, t ∈ L) : unEv cx s1 op xt x = unEv cx s2 op xt x := by
  simp only [unEv, h.opd hx]

theorem Sees.field (h : Sees dp L s1 s2) {t f : Nat} {x : Operand} (hx : ∀ t ∈ opTmps x, t ∈ L) : fieldEv cx s1 t x f = fieldEv cx s2 t x f := by
  simp only [fieldEv, h.opd hx]

theorem Sees.index (h : Sees dp L s1 s2) {t : Nat} {x y : Operand} (hx : ∀ t ∈ opTmps x, t ∈ L) (hy : ∀ t ∈ opTmps y, t ∈ L) : indexEv cx s1 t x y = indexEv cx s2 t x y := by
  simp only [indexEv, h.opd hx, h.opi hy]

theorem Sees.len (h : Sees dp L s1 s2) {t : Nat} {x : Operand} (hx : ∀ t ∈ opTmps x, t ∈ L) : lenEv cx s1 t x = lenEv cx s2 t x := by
  simp only [lenEv, h.opd hx]

def opTmpsO : Option Operand → List Nat
  | some x => opTmps x
  | none => []

theorem Sees.bounds (h : Sees dp L s1 s2) {n : Nat} {lo hi : Option Operand} (hl : ∀ t ∈ opTmpsO lo, t ∈ L) (hh : ∀ t ∈ opTmpsO hi, t ∈ L) : Vm.bounds s1 n lo hi = Vm.bounds s2 n lo hi := by
  cases lo <;> cases hi <;> simp only [Vm.bounds] <;> simp only [opTmpsO] at hl hh
  · rw [h.opi hh]
  · rw [h.opi hl]
  · rw [h.opi hl, h.opi hh]

theorem Sees.slice (h : Sees dp L s1 s2) {t : Nat} {x : Operand} {lo hi : Option Operand} (hx : ∀ t ∈ opTmps x, t ∈ L) (hl : ∀ t ∈ opTmpsO lo, t ∈ L) (hh : ∀ t ∈ opTmpsO hi, t ∈ L) : sliceEv cx s1 t x lo hi = sliceEv cx s2 t x lo hi := by
  simp only [sliceEv, h.opd hx, h.bounds hl hh]

theorem Sees.slice3 (h : Sees dp L s1 s2) {t : Nat} {x m : Operand} {lo hi : Option Operand} (hx : ∀ t ∈ opTmps x, t ∈ L) (hl : ∀ t ∈ opTmpsO lo, t ∈ L) (hh : ∀ t ∈ opTmpsO hi, t ∈ L) (hm : ∀ t ∈ opTmps m, t ∈ L) : slice3Ev cx s1 t x lo hi m = slice3Ev cx s2 t x lo hi m := by
  simp only [slice3Ev, h.opd hx, h.bounds hl hh, h.opi hm]

theorem Sees.fill (h : Sees dp L s1 s2) {ty : Nat → Option Ty} : ∀ {ps : List (Nat × Operand)} {vs : List V}, (∀ p ∈ ps, ∀ t ∈ opTmps p.2, t ∈ L) → Vm.fill s1 ty vs ps = Vm.fill s2 ty vs ps
  | [], _, _ => rfl
  | (i, x) :: ps, vs, hx => by
    simp only [Vm.fill, h.opd (hx (i, x) (List.mem_cons_self ..))]
    cases ty i with
    | none => rfl
    | some t =>
      simp only
      cases Vm.opd s2 t x with
      | none => rfl
      | some v =>
        simp only
        rw [Sees.fill h fun p hp => hx p (List.mem_cons_of_mem _ hp)]

theorem Sees.faddr (h : Sees dp L s1 s2) {t f : Nat} {x : Operand} (hx : ∀ t ∈ opTmps x, t ∈ L) {r : V} (he : faddrEv cx s1 t x f = some r) : faddrEv cx s2 t x f = some r := by
  simp only [faddrEv, h.opd hx] at he ⊢
  cases hT : cx.T t with
  | none => simp [hT] at he
  | some u =>
    cases u <;> first | (simp [hT] at he; done) | skip
    rename_i fs
    cases hv : Vm.opd s2 .ptr x with
    | none => simp [hT, hv] at he
    | some v =>
      cases v <;> first | (simp [hT, hv] at he; done) | skip
      · rename_i o p
        simp only [hT, hv] at he ⊢
        cases hl : lookTy s1.os o p with
        | none => simp [hl] at he
        | some u =>
          rw [h.ty _ _ _ hl]
          simpa only [hl] using he
      · simpa only [hT, hv] using he

theorem Sees.iaddr (h : Sees dp L s1 s2) {t : Nat} {x y : Operand} (hx : ∀ t ∈ opTmps x, t ∈ L) (hy : ∀ t ∈ opTmps y, t ∈ L) {r : V} (he : iaddrEv cx s1 t x y = some r) : iaddrEv cx s2 t x y = some r := by
  simp only [iaddrEv, h.opd hx, h.opi hy] at he ⊢
  cases hT : cx.T t with
  | none => simp [hT] at he
  | some u =>
    cases hi : Vm.opi s2 y with
    | none => cases u <;> simp [hT, hi] at he
    | some ki =>
      obtain ⟨k, i⟩ := ki
      cases u <;> first | (simp [hT, hi] at he; done) | skip
      · simpa only [hT, hi] using he
      · rename_i n e
        simp only [hT, hi] at he ⊢
        split at he
        · rename_i hb
          rw [if_pos hb]
          cases hv : Vm.opd s2 .ptr x with
          | none => simp [hv] at he
          | some v =>
            cases v <;> first | (simp [hv] at he; done) | skip
            · rename_i o p
              simp only [hv] at he ⊢
              cases hl : lookTy s1.os o p with
              | none => simp [hl] at he
              | some u =>
                rw [h.ty _ _ _ hl]
                simpa only [hl] using he
            · simpa only [hv] using he
        · simp at he

theorem Sees.conv (h : Sees true L s1 s2) {s t : Nat} {x : Operand} (hx : ∀ t ∈ opTmps x, t ∈ L) {r : Ty × V} (he : convEv cx s1 s t x = some r) : convEv cx s2 s t x = some r := by
  obtain ⟨ext, ho⟩ := h.ext rfl
  simp only [convEv, h.opd hx] at he ⊢
  split at he
  · exact he
  · exact he
  · rename_i e _ _
    cases hT : cx.T e with
    | none => simp [hT] at he
    | some u =>
      cases hv : Vm.opd s2 (.sl e) x with
      | none => cases u <;> simp [hT, hv] at he
      | some v =>
        cases hel : elems s1.os v with
        | none =>
          cases u <;> first | (simp [hT, hv, hel] at he; done) | skip
          rename_i k
          cases k <;> simp [hT, hv, hel] at he
        | some l =>
          cases u <;> first | (simp [hT, hv, hel] at he; done) | skip
          rename_i k
          cases k <;> first | (simp [hT, hv, hel] at he; done) | skip
          simp only [hT, hv, hel] at he
          simp only [hT, hv, ho, elems_ext hel]
          exact he
  · simp at he

theorem Sees.convNone (h : Sees true L s1 s2) {s t : Nat} {x : Operand} (hx : ∀ t ∈ opTmps x, t ∈ L) {r : Ty × V} (he : convOwn cx s1 s t x = some r) : convOwn cx s2 s t x = some r ∧ convEv cx s2 s t x = none := by
  simp only [convOwn, h.opd hx] at he ⊢
  refine ⟨he, ?_⟩
  split at he
  · rename_i h1 h2
    simp [convEv, h1, h2]
  · simp at he

theorem Sees.convOwn (h : Sees dp L s1 s2) {s t : Nat} {x : Operand} (hx : ∀ t ∈ opTmps x, t ∈ L) : Vm.convOwn cx s1 s t x = Vm.convOwn cx s2 s t x := by
  simp only [Vm.convOwn, h.opd hx]

theorem Sees.symConv (h : Sees true L s1 s2) {s t : Nat} {x : Operand} (hx : ∀ t ∈ opTmps x, t ∈ L) {r : Ty × V} (he : Vm.symConv cx s1 s t x = some r) (h1 : convEv cx s1 s t x = none) (h2 : Vm.convOwn cx s1 s t x = none) :
    Vm.symConv cx s2 s t x = some r ∧ convEv cx s2 s t x = none ∧ Vm.convOwn cx s2 s t x = none := by
  obtain ⟨ext, ho⟩ := h.ext rfl
  rw [← h.convOwn hx]
  refine ⟨?_, ?_, h2⟩
  · simp only [Vm.symConv, h.opI hx, h.opd hx] at he ⊢
    split at he
    · exact he
    · split at he
      · split at he
        · rename_i hel
          rw [ho, elems_ext hel]
          exact he
        · simp at he
      · simp at he
    · simp at he
  · simp only [Vm.symConv] at he
    simp only [convEv, h.opd hx] at h1 ⊢
    split at he
    · rename_i hs ht
      simp only [hs, ht] at h1 ⊢
      exact h1
    · rename_i e hs ht
      simp only [hs, ht, h.opd hx] at he h1 ⊢
      split at he
      · rename_i v hTe hv
        simp only [hTe, hv] at h1 ⊢
        split at he
        · rename_i vs hel
          simp only [hel] at h1
          rw [ho, elems_ext hel]
          exact h1
        · simp at he
      · simp at he
    · simp at he

theorem Sees.symConvOwn (h : Sees true L s1 s2) {s t : Nat} {x : Operand} (hx : ∀ t ∈ opTmps x, t ∈ L) {r : Ty × V} (he : Vm.symConvOwn cx s1 s t x = some r) (h2 : Vm.convOwn cx s1 s t x = none) :
    Vm.symConvOwn cx s2 s t x = some r ∧ convEv cx s2 s t x = none ∧ Vm.convOwn cx s2 s t x = none ∧ Vm.symConv cx s2 s t x = none := by
  rw [← h.convOwn hx]
  simp only [Vm.symConvOwn, h.opd hx] at he ⊢
  refine ⟨he, ?_, h2, ?_⟩
  · split at he
    · rename_i h1 h2
      simp [convEv, h1, h2]
    · simp at he
  · split at he
    · rename_i h1 h2
      simp [Vm.symConv, h1, h2]
    · simp at he

theorem Sees.lookup (h : Sees true L s1 s2) {t : Nat} {x y : Operand} (hx : ∀ t ∈ opTmps x, t ∈ L) (hy : ∀ t ∈ opTmps y, t ∈ L) {r : Ty × V × Bool} (he : lookupEv cx s1 t x y = some r) : lookupEv cx s2 t x y = some r := by
  obtain ⟨ext, ho⟩ := h.ext rfl
  simp only [lookupEv, h.opd hx, h.opd hy] at he ⊢
  split at he
  · split at he
    · split at he
      · rename_i hk
        rw [if_pos hk]
        split at he
        · exact he
        · rename_i ob _ _ _
          cases hb : s1.os[ob]? with
          | none => simp [hb] at he
          | some z =>
            have hlt := (List.getElem?_eq_some_iff.1 hb).1
            rw [ho, List.getElem?_append_left hlt, hb]
            simp only [hb] at he
            exact he
        · simp at he
      · simp at he
    · simp at he
  · simp at he

def opTmpsL : List Operand → List Nat
  | [] => []
  | x :: r => opTmps x ++ opTmpsL r

theorem opTmpsL_mem : ∀ {l : List Operand} {x : Operand} {t : Nat}, x ∈ l → t ∈ opTmps x → t ∈ opTmpsL l
  | y :: l, x, t, h, ht => by
    simp only [opTmpsL, List.mem_append]
    rcases List.mem_cons.1 h with h | h
    · subst h; exact .inl ht
    · exact .inr (opTmpsL_mem h ht)

/-- an operation without effect: whether it looks into objects, and the slots that it looks at -/
noncomputable def quiet (cx : Cx) (o : Oper) : Option (Bool × List Nat) :=
  match o.op with
  | .move x => some (false, opTmps x)
  | .pick c a b => some (false, opTmps c ++ (opTmps a ++ opTmps b))
  | .build _ ps => some (false, opTmpsL (ps.toList.map (·.2)))
  | .buildSlice _ _ ps => some (false, opTmpsL (ps.toList.map (·.2)))
  | .load _ a => some (true, opTmps a)
  | .nilCheck x => some (false, opTmps x)
  | .binOp _ _ x y _ => some (false, opTmps x ++ opTmps y)
  | .unOp _ _ x => some (false, opTmps x)
  | .convert _ _ x => some (true, opTmps x)
  | .makeFunc (.func _) _ caps => some (false, opTmpsL caps.toList)
  | .slice _ x lo hi none => some (false, opTmps x ++ (opTmpsO lo ++ opTmpsO hi))
  | .slice _ x lo hi (some m) => some (false, opTmps x ++ (opTmpsO lo ++ (opTmpsO hi ++ opTmps m)))
  | .lookup _ m x _ => some (true, opTmps m ++ opTmps x)
  | .fieldAddr _ x _ => some (false, opTmps x)
  | .field _ x _ => some (false, opTmps x)
  | .indexAddr _ x i => some (false, opTmps x ++ opTmps i)
  | .index _ x i => some (false, opTmps x ++ opTmps i)
  | .extract x _ => some (false, opTmps x)
  | .call c => match c.callee with
    | .value (.func f) => match cx.F f with
      | some i => match i.pure || (cx.Y f).isSome with
        | true => some (false, opTmpsL c.args.toList)
        | false => none
      | none => none
    | .builtin .len => some (false, opTmpsL c.args.toList)
    | .builtin .max => some (false, opTmpsL c.args.toList)
    | .builtin .min => some (false, opTmpsL c.args.toList)
    | _ => none
  | _ => none

/-- an origin speaks of these slots alone -/
structure OgIn (dp : Bool) (L : List Nat) (og : Option Org) : Prop where
  slot : ∀ t, og = some (.slot t) → t ∈ L
  place : dp = false → ∀ o p, og ≠ some (.place o p)

theorem OgIn.none {dp : Bool} {L : List Nat} : OgIn dp L Option.none := ⟨fun t h => by simp at h, fun _ o p h => by simp at h⟩

/-- a quiet answer: a slot is written, with the same in both states -/
def SameX (dp : Bool) (L : List Nat) (s1 s2 : St) (d : Option Nat) (s1' : St) (r : Option St) : Prop := ∃ e og, s1.setX d e og = some s1' ∧ r = s2.setX d e og ∧ OgIn dp L og

theorem setX_none {st st' : St} {d : Option Nat} {e : Ent} (h : st.set d e = some st') (s2 : St) : SameX dp L st s2 d st' (s2.set d e) := ⟨e, none, h, rfl, .none⟩
theorem setX_some {st st' : St} {d : Option Nat} {e : Ent} {og : Org} (h : st.setO d e og = some st') (s2 : St) (hog : OgIn dp L (some og)) : SameX dp L st s2 d st' (s2.setO d e og) := ⟨e, some og, h, rfl, hog⟩

theorem put1_frame {st st' s2 : St} {d : Option Nat} {x y : Option (Ty × V)} (h : put1 st d x = some st') (hxy : ∀ r, x = some r → y = some r) : SameX dp L st s2 d st' (put1 s2 d y) := by
  cases x with
  | none => simp [put1] at h
  | some r =>
    rw [hxy r rfl]
    exact setX_none h s2

theorem putP_frame {st st' s2 : St} {d : Option Nat} {x y : Option V} (h : putP st d x = some st') (hxy : ∀ r, x = some r → y = some r) : SameX dp L st s2 d st' (putP s2 d y) := by
  cases x with
  | none => simp [putP] at h
  | some r =>
    rw [hxy r rfl]
    exact setX_none h s2

theorem move_frame {st' : St} {d : Option Nat} {x : Operand} {ty : Option Ty} (h : Sees dp L s1 s2) (hx : ∀ t ∈ opTmps x, t ∈ L) (he : moveEv s1 d x ty = some st') : SameX dp L s1 s2 d st' (moveEv s2 d x ty) := by
  cases ty with
  | none =>
    simp only [moveEv, h.tupOf hx] at he ⊢
    cases ht : Vm.tupOf s2 x with
    | none => simp [ht] at he
    | some l => simp only [ht] at he ⊢; exact setX_none he s2
  | some ty =>
    simp only [moveEv, h.opd hx] at he ⊢
    cases hv : Vm.opd s2 ty x with
    | none => simp [hv] at he
    | some v =>
      simp only [hv] at he ⊢
      cases hs : isSl ty with
      | true =>
        simp only [hs] at he ⊢
        refine setX_some he s2 ⟨fun t ht => ?_, fun _ o p => by cases x <;> simp [orgOf]⟩
        cases x with
        | tmp u =>
          simp only [orgOf, Option.some.injEq, Org.slot.injEq] at ht
          subst ht
          exact hx _ (by simp [opTmps])
        | _ => simp [orgOf] at ht
      | false => simp only [hs] at he ⊢; exact setX_none he s2

theorem pick_frame {st' : St} {d : Option Nat} {c x y : Operand} {ty : Option Ty} (h : Sees dp L s1 s2) (hc : ∀ t ∈ opTmps c, t ∈ L) (hx : ∀ t ∈ opTmps x, t ∈ L) (hy : ∀ t ∈ opTmps y, t ∈ L) (he : pickEv s1 d c x y ty = some st') :
    SameX dp L s1 s2 d st' (pickEv s2 d c x y ty) := by
  cases ty with
  | none => simp [pickEv] at he
  | some ty =>
    simp only [pickEv, h.opd hc, h.opd hx, h.opd hy] at he ⊢
    split at he
    · split at he
      · exact setX_none he s2
      · simp at he
    · simp at he

theorem load_frame {st' : St} {d : Option Nat} {x : Operand} {ty : Option Ty} (h : Sees true L s1 s2) (hx : ∀ t ∈ opTmps x, t ∈ L) (he : loadEv s1 d x ty = some st') : SameX true L s1 s2 d st' (loadEv s2 d x ty) := by
  obtain ⟨ext, ho⟩ := h.ext rfl
  cases ty with
  | none => simp [loadEv] at he
  | some ty =>
    simp only [loadEv, h.opd hx] at he ⊢
    split at he
    · rename_i ob p _
      cases hl : look s1.os ob p with
      | none => simp [hl] at he
      | some uv =>
        rw [ho, look_ext hl]
        simp only [hl] at he ⊢
        split at he
        · split at he
          · exact setX_some he s2 ⟨fun t ht => by simp at ht, fun h => by simp at h⟩
          · exact setX_none he s2
        · simp at he
    · split at he
      · exact setX_none he s2
      · simp at he
    · simp at he

theorem minmax_sees (h : Sees dp L s1 s2) {b : Bool} {k : IntKind} : ∀ {xs : List Operand} {m : Int}, (∀ x ∈ xs, ∀ t ∈ opTmps x, t ∈ L) → minmax b s1 k m xs = minmax b s2 k m xs
  | [], _, _ => rfl
  | x :: xs, m, hx => by
    simp only [minmax, h.opd (hx x (List.mem_cons_self ..))]
    split
    · exact minmax_sees h fun y hy => hx y (List.mem_cons_of_mem _ hy)
    · rfl

theorem callRs_frame {st st' s2 : St} {d : Option Nat} {r : Rs} (h : callRs st d r = some st') : SameX dp L st s2 d st' (callRs s2 d r) := by
  cases r with
  | one ty v own => exact setX_none h s2
  | tup l => exact setX_none h s2

theorem call_frame {call : Nat → List V → List Ob → Option (Rs × List Ob)} {st' : St} {d : Option Nat} {f : Nat} {caps : List V} {args : List Operand} {i : Fi} (hF : cx.F f = some i) (hp : (i.pure || (cx.Y f).isSome) = true) (h : Sees dp L s1 s2)
    (hx : ∀ x ∈ args, ∀ t ∈ opTmps x, t ∈ L) (he : callEv call cx s1 d f caps args = some st') : SameX dp L s1 s2 d st' (callEv call cx s2 d f caps args) := by
  simp only [callEv, hF, h.opds hx] at he ⊢
  split at he
  · simp at he
  · split at he
    · simp at he
    · split at he
      · split at he
        · split at he
          · rename_i hc
            rw [if_pos hc]
            exact setX_none he s2
          · simp at he
        · simp at he
      · rename_i hY
        rw [hY] at hp
        have hp' : i.pure = true := by simpa using hp
        simp only [hp', if_true] at he ⊢
        split at he
        · rename_i hpl
          rw [if_pos hpl]
          split at he
          · split at he
            · exact callRs_frame he
            · simp at he
          · simp at he
        · simp at he

theorem Sees.weak {dp' : Bool} {L' : List Nat} (h : Sees dp L s1 s2) (hd : dp' = true → dp = true) (hL : ∀ t ∈ L', t ∈ L) : Sees dp' L' s1 s2 :=
  ⟨fun t ht => h.get t (hL t ht), h.ty, fun h' => h.ext (hd h')⟩

theorem SameX.put1 {st' : St} {d : Option Nat} {x y : Option (Ty × V)} (h : put1 s1 d x = some st') (hxy : ∀ r, x = some r → y = some r) : SameX dp L s1 s2 d st' (Vm.put1 s2 d y) := put1_frame h hxy

/-- what a quiet operation answers hangs on what it sees -/
theorem quiet_frame {call : Nat → List V → List Ob → Option (Rs × List Ob)} {o : Oper} {st' : St} (hq : quiet cx o = some (dp, L)) (h : Sees dp L s1 s2) (he : evOp cx call o s1 = some st') : SameX dp L s1 s2 o.dst st' (evOp cx call o s2) := by
  unfold quiet at hq
  unfold evOp at he ⊢
  split at hq
  · rename_i x hop
    simp only [Option.some.injEq, Prod.mk.injEq] at hq; obtain ⟨rfl, rfl⟩ := hq
    simp only [hop] at he ⊢
    exact move_frame h (fun t ht => ht) he
  · rename_i c a b hop
    simp only [Option.some.injEq, Prod.mk.injEq] at hq; obtain ⟨rfl, rfl⟩ := hq
    simp only [hop] at he ⊢
    exact pick_frame h (fun t ht => by simp [ht]) (fun t ht => by simp [ht]) (fun t ht => by simp [ht]) he
  · rename_i ps hop
    simp only [Option.some.injEq, Prod.mk.injEq] at hq; obtain ⟨rfl, rfl⟩ := hq
    simp only [hop] at he ⊢
    have hf : ∀ p ∈ ps.toList, ∀ t ∈ opTmps p.2, t ∈ opTmpsL (ps.toList.map (·.2)) := fun p hp t ht => opTmpsL_mem (List.mem_map.2 ⟨p, hp, rfl⟩) ht
    unfold buildEv at he ⊢
    split at he
    · rw [h.fill hf] at he
      split at he
      · exact setX_none he s2
      · simp at he
    · rw [h.fill hf] at he
      split at he
      · exact setX_none he s2
      · simp at he
    · simp at he
  · rename_i ps hop
    simp only [Option.some.injEq, Prod.mk.injEq] at hq; obtain ⟨rfl, rfl⟩ := hq
    simp only [hop] at he ⊢
    have hf : ∀ p ∈ ps.toList, ∀ t ∈ opTmps p.2, t ∈ opTmpsL (ps.toList.map (·.2)) := fun p hp t ht => opTmpsL_mem (List.mem_map.2 ⟨p, hp, rfl⟩) ht
    unfold buildSlEv at he ⊢
    split at he
    · split at he
      · split at he
        · rw [h.fill hf] at he
          split at he
          · exact setX_none he s2
          · simp at he
        · simp at he
      · simp at he
    · simp at he
  · rename_i a hop
    simp only [Option.some.injEq, Prod.mk.injEq] at hq; obtain ⟨rfl, rfl⟩ := hq
    simp only [hop] at he ⊢
    exact load_frame h (fun t ht => ht) he
  · rename_i x hop
    simp only [Option.some.injEq, Prod.mk.injEq] at hq; obtain ⟨rfl, rfl⟩ := hq
    simp only [hop] at he ⊢
    simp only [nilEv, h.opd (fun t ht => ht)] at he ⊢
    split at he
    · exact setX_none he s2
    · exact setX_none he s2
    · simp at he
  · rename_i x y _ hop
    simp only [Option.some.injEq, Prod.mk.injEq] at hq; obtain ⟨rfl, rfl⟩ := hq
    simp only [hop] at he ⊢
    exact put1_frame he fun r hr => by rw [← h.bin (fun t ht => by simp [ht]) (fun t ht => by simp [ht]), ← h.symBin (fun t ht => by simp [ht]) (fun t ht => by simp [ht])]; exact hr
  · rename_i x hop
    simp only [Option.some.injEq, Prod.mk.injEq] at hq; obtain ⟨rfl, rfl⟩ := hq
    simp only [hop] at he ⊢
    exact put1_frame he fun r hr => by rw [← h.un (fun t ht => ht), ← h.symUn (fun t ht => ht)]; exact hr
  · rename_i x hop
    simp only [Option.some.injEq, Prod.mk.injEq] at hq; obtain ⟨rfl, rfl⟩ := hq
    simp only [hop] at he ⊢
    unfold convAny at he ⊢
    split at he
    · rename_i hc
      rw [h.conv (fun t ht => ht) hc]
      exact setX_none he s2
    · split at he
      · rename_i hc
        obtain ⟨h1, h2⟩ := h.convNone (fun t ht => ht) hc
        rw [h2, h1]
        exact setX_none he s2
      · split at he
        · rename_i hc
          obtain ⟨h1, h2, h3⟩ := h.symConv (fun t ht => ht) hc ‹_› ‹_›
          rw [h2, h3, h1]
          exact setX_none he s2
        · split at he
          · rename_i hc
            obtain ⟨h1, h2, h3, h4⟩ := h.symConvOwn (fun t ht => ht) hc ‹_›
            rw [h2, h3, h4, h1]
            exact setX_none he s2
          · simp at he
  · rename_i f first caps hop
    simp only [Option.some.injEq, Prod.mk.injEq] at hq; obtain ⟨rfl, rfl⟩ := hq
    simp only [hop] at he ⊢
    unfold fnEv at he ⊢
    rw [h.opds fun x hx t ht => opTmpsL_mem hx ht] at he
    split at he
    · split at he
      · exact setX_none he s2
      · simp at he
    · simp at he
  · rename_i x lo hi hop
    simp only [Option.some.injEq, Prod.mk.injEq] at hq; obtain ⟨rfl, rfl⟩ := hq
    simp only [hop] at he ⊢
    exact put1_frame he fun r hr => by rw [← h.slice (fun t ht => by simp [ht]) (fun t ht => by simp [ht]) (fun t ht => by simp [ht])]; exact hr
  · rename_i x lo hi m hop
    simp only [Option.some.injEq, Prod.mk.injEq] at hq; obtain ⟨rfl, rfl⟩ := hq
    simp only [hop] at he ⊢
    exact put1_frame he fun r hr => by rw [← h.slice3 (fun t ht => by simp [ht]) (fun t ht => by simp [ht]) (fun t ht => by simp [ht]) (fun t ht => by simp [ht])]; exact hr
  · rename_i m x ok hop
    simp only [Option.some.injEq, Prod.mk.injEq] at hq; obtain ⟨rfl, rfl⟩ := hq
    simp only [hop] at he ⊢
    unfold lookupAny at he ⊢
    split at he
    · rename_i hl
      rw [h.lookup (fun t ht => by simp [ht]) (fun t ht => by simp [ht]) hl]
      split at he
      · exact setX_none he s2
      · exact setX_none he s2
    · simp at he
  · rename_i x f hop
    simp only [Option.some.injEq, Prod.mk.injEq] at hq; obtain ⟨rfl, rfl⟩ := hq
    simp only [hop] at he ⊢
    exact putP_frame he fun r hr => h.faddr (fun t ht => ht) hr
  · rename_i x f hop
    simp only [Option.some.injEq, Prod.mk.injEq] at hq; obtain ⟨rfl, rfl⟩ := hq
    simp only [hop] at he ⊢
    exact put1_frame he fun r hr => by rw [← h.field (fun t ht => ht)]; exact hr
  · rename_i x ix hop
    simp only [Option.some.injEq, Prod.mk.injEq] at hq; obtain ⟨rfl, rfl⟩ := hq
    simp only [hop] at he ⊢
    exact putP_frame he fun r hr => h.iaddr (fun t ht => by simp [ht]) (fun t ht => by simp [ht]) hr
  · rename_i x ix hop
    simp only [Option.some.injEq, Prod.mk.injEq] at hq; obtain ⟨rfl, rfl⟩ := hq
    simp only [hop] at he ⊢
    exact put1_frame he fun r hr => by rw [← h.index (fun t ht => by simp [ht]) (fun t ht => by simp [ht]), ← h.symIndex (fun t ht => by simp [ht]) (fun t ht => by simp [ht]), ← h.symIndex2 (fun t ht => by simp [ht]) (fun t ht => by simp [ht])]; exact hr
  · rename_i x ix hop
    simp only [Option.some.injEq, Prod.mk.injEq] at hq; obtain ⟨rfl, rfl⟩ := hq
    simp only [hop] at he ⊢
    unfold extractEv at he ⊢
    rw [← h.tupOf (fun t ht => ht)]
    split at he
    · exact put1_frame he fun r hr => hr
    · simp at he
  · rename_i c hop
    simp only [hop] at he ⊢
    unfold callAny at he ⊢
    split at hq
    · rename_i f hc
      split at hq
      · rename_i i hF
        split at hq
        · rename_i hp
          simp only [Option.some.injEq, Prod.mk.injEq] at hq; obtain ⟨rfl, rfl⟩ := hq
          simp only [hc] at he ⊢
          exact call_frame hF hp h (fun x hx t ht => opTmpsL_mem hx ht) he
        · simp at hq
      · simp at hq
    · rename_i hc
      simp only [Option.some.injEq, Prod.mk.injEq] at hq; obtain ⟨rfl, rfl⟩ := hq
      simp only [hc] at he ⊢
      unfold lenAny at he ⊢
      split at he
      · rename_i t x ht hx
        rw [h.len (fun t ht => by rw [hx]; simpa [opTmpsL] using ht), h.symLen (fun t ht => by rw [hx]; simpa [opTmpsL] using ht)] at he
        split at he
        · exact setX_none he s2
        · simp at he
      · simp at he
    · rename_i hc
      simp only [Option.some.injEq, Prod.mk.injEq] at hq; obtain ⟨rfl, rfl⟩ := hq
      simp only [hc] at he ⊢
      unfold minmaxAny at he ⊢
      split at he
      · rename_i k x xs hk hx
        simp only [hx] at *
        rw [h.opd (fun t ht => by simp [opTmpsL, ht])] at he
        split at he
        · rw [minmax_sees h fun x hx t ht => by simp only [opTmpsL, List.mem_append]; exact .inr (opTmpsL_mem hx ht)] at he
          split at he
          · exact setX_none he s2
          · simp at he
        · simp at he
      · simp at he
    · rename_i hc
      simp only [Option.some.injEq, Prod.mk.injEq] at hq; obtain ⟨rfl, rfl⟩ := hq
      simp only [hc] at he ⊢
      unfold minmaxAny at he ⊢
      split at he
      · rename_i k x xs hk hx
        simp only [hx] at *
        rw [h.opd (fun t ht => by simp [opTmpsL, ht])] at he
        split at he
        · rw [minmax_sees h fun x hx t ht => by simp only [opTmpsL, List.mem_append]; exact .inr (opTmpsL_mem hx ht)] at he
          split at he
          · exact setX_none he s2
          · simp at he
        · simp at he
      · simp at he
    · simp at hq
  · simp at hq
end
end Go.Vm
