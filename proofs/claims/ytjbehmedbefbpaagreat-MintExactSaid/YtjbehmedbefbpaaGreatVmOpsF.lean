/- Loads, stores, new objects, assignments. -/
import Derived.Test.YtjbehmedbefbpaaGreatVmOpsE
set_option linter.unusedVariables false
set_option linter.unusedSimpArgs false
namespace Go.Vm
open Go

section
variable {P : Program} {cx : Cx} {g : Gh} {w : World} {st st' : St} {a : Act} {o : Oper}

theorem has_head {b off : Nat} {c : Value} {cs : List Value} (h : Has w b off (c :: cs)) : w.cell? ⟨b, off, none⟩ = some c := h.1

/-- what 'look' sees stands in memory -/
theorem look_sound {os : List Ob} {ob : Nat} {p : List Nat} {u : Ty} {v : V} (hs : SR cx.T g w os) (h : look os ob p = some (u, v)) :
    ∃ i q ty off b cs, p = i :: q ∧ g.rho ob = some (b, ty) ∧ g.kind b = .obj ob ∧ b < w.heap.size ∧ ty.at q = some (off, u) ∧ VR cx.T g w u cs v ∧ Has w b (i * ty.size + off) cs := by
  cases p with
  | nil => simp [look] at h
  | cons i q =>
    simp only [look] at h
    cases hob : os[ob]? with
    | none => simp [hob] at h
    | some x =>
      cases x with
      | dead => simp [hob] at h
      | mapo k e es => simp [hob] at h
      | row ty vs own =>
        simp only [hob] at h
        cases hat : ty.at q with
        | none => simp [hat] at h
        | some y =>
          obtain ⟨off, u'⟩ := y
          cases hvi : vs[i]? with
          | none => simp [hat, hvi] at h
          | some vi =>
            simp only [hat, hvi] at h
            cases hg : vi.get q with
            | none => simp [hg] at h
            | some v' =>
              simp only [hg, Option.some.injEq, Prod.mk.injEq] at h
              obtain ⟨rfl, rfl⟩ := h
              obtain ⟨b, c, et, fr, cs, sp, h1, h2, h3, h4, h5, h6, h7, h8⟩ := hs.ob ob _ hob
              obtain ⟨k1, k2⟩ := row_at h7 hvi hat hg
              have hh : Has w b 0 cs := has_of_list h4 (pre := []) (by simpa using h6)
              have := has_take (k := i * ty.size + off) (n := u'.size) hh
              rw [Nat.zero_add] at this
              exact ⟨i, q, ty, off, b, _, rfl, h1, h3, h2, hat, k1, this⟩

theorem ptr_of {x : Operand} {ob : Nat} {p : List Nat} (hi : Inv cx.T g w st a) (hx : opd st .ptr x = some (.ptr ob p)) {i : Nat} {q : List Nat} {ty u : Ty} {off b : Nat} (hp : p = i :: q) (hr : g.rho ob = some (b, ty))
    (hat : ty.at q = some (off, u)) : a.eval x = .pointer (some ⟨b, i * ty.size + off, none⟩) := by
  obtain ⟨cs, hcs, ex⟩ := opd_sound hi hx
  subst hp
  cases hcs with
  | ptr h1 h2 h3 h4 =>
    rw [hr] at h1; injection h1 with h1; injection h1 with h1 h1'; subst h1 h1'
    rw [hat] at h4; injection h4 with h4; injection h4 with h4 h4'; subst h4 h4'
    simpa [ofCells, Ty.isAgg] using ex

theorem load_owed (G : Good P cx) {t : Nat} {x : Operand} (hop : o.op = .load t x) (hi : Inv cx.T g w st a) (h : loadEv st o.dst x (cx.T t) = some st') : Owed P cx g w st' a o := by
  cases hT : cx.T t with
  | none => simp [hT, loadEv] at h
  | some ty =>
    simp only [hT, loadEv] at h
    split at h
    · rename_i ob p hx
      cases hl : look st.os ob p with
      | none => simp [hl] at h
      | some uv =>
        obtain ⟨u, v⟩ := uv
        simp only [hl] at h
        cases hb : u.beq ty with
        | false => simp [hb] at h
        | true =>
          simp only [hb] at h
          obtain rfl := Ty.eq_of_beq _ _ hb
          obtain ⟨i, q, rt, off, b, cs, hp, h1, h2, h3, h4, h5, h6⟩ := look_sound hi.os hl
          have ex := ptr_of hi hx hp h1 h4
          have hrun := (G.ty t _ hT).run_loadVar (w := w) h6 h5.len
          have hr : (execOp a.eval o).run P w = .ok (.value (ofCells u cs)) w := by simp [execOp, hop, Instr.loadAt, ex, Instr.sureAddr, hrun]
          cases hsl : isSl u with
          | false => simp only [hsl] at h; exact Owed.pure hi h hr ⟨cs, h5, rfl⟩
          | true =>
            simp only [hsl] at h
            refine Owed.pureO hi h hr ⟨cs, h5, rfl⟩ ?_
            cases u with
            | sl e =>
              obtain ⟨c, rfl, _⟩ := h5.single rfl
              exact ⟨b, rt, i, q, off, _, hp, ⟨h1, h2⟩, h4, by simpa [ofCells, Ty.isAgg] using h6.1⟩
            | _ => simp [isSl] at hsl
    · rename_i u v hx
      cases hb : u.beq ty with
      | false => simp [hb] at h
      | true =>
        simp only [hb] at h
        obtain rfl := Ty.eq_of_beq _ _ hb
        obtain ⟨cs, hcs, ex⟩ := opd_sound hi hx
        cases hcs with
        | @cp b off n ow _ cs2 _ h1 h2 h3 h4 h5 =>
          have ex' : a.eval x = .pointer (some ⟨b, off, none⟩) := by simpa [ofCells, Ty.isAgg] using ex
          have hrun := (G.ty t _ hT).run_loadVar (w := w) h4 h5.len
          exact Owed.pure hi h (val := ofCells u cs2) (by simp [execOp, hop, Instr.loadAt, ex', Instr.sureAddr, hrun]) ⟨cs2, h5, rfl⟩
    · simp at h

theorem alloc_owed (G : Good P cx) {e : Nat} (hop : o.op = .alloc e) (hi : Inv cx.T g w st a) (h : allocEv st o.dst (cx.T e) = some st') : Owed P cx g w st' a o := by
  cases hT : cx.T e with
  | none => simp [hT, allocEv] at h
  | some ty =>
    simp only [hT, allocEv] at h
    have hz : VRs cx.T g w (List.replicate [ty.zeroV].length ty) ty.zeroC [ty.zeroV] := by
      have := VRs.cons (VR.zero (T := cx.T) (g := g) (w := w) ty) .nil
      simpa using this
    obtain ⟨h1, h2⟩ := hi.newObj (e := e) (own := []) hz (by simp)
    refine Owed.value (e := .one .ptr (.ptr st.os.length [0]) false) (val := .pointer (some ⟨w.heap.size, 0, none⟩)) ?_ h1 h ?_ h2.step
    · have hc : (ofCells ty ty.zeroC).cells = ty.zeroC.toArray := (VR.zero (T := cx.T) (g := g) (w := w) ty).cells
      simp [execOp, hop, Instr.alloc, (G.ty e _ hT).run_zero, newVar, newRow, newObj, Sem.run, hc, World.alloc_eq]
    · intro d _
      refine ⟨⟨_, VR.ptr (i := 0) (off := 0) (u := ty) (p := []) (ty := ty) (b := w.heap.size) (by simp [Gh.obj]) (by simp) (by simp [Gh.obj]) rfl, by simp [ofCells, Ty.isAgg]⟩, by simp⟩

theorem owns_spec {x : Operand} (h : owns st x = true) : ∃ t ty v, x = .tmp t ∧ st.env.get t = some (.one ty v true) := by
  cases x with
  | tmp t =>
    simp only [owns] at h
    split at h
    · rename_i ty v own hg
      subst h
      exact ⟨t, ty, v, rfl, hg⟩
    · simp at h
  | _ => simp [owns] at h

theorem disown_none {x : Operand} (h : owns st x = false) : disown st.env x = st.env := by
  cases x with
  | tmp t =>
    simp only [owns] at h
    simp only [disown, Env.disown]
    split at h
    · rename_i ty v own hg
      subst h
      simp [hg]
    · rename_i hg
      split
      · rename_i ty v hg2
        exact absurd hg2 (by intro h; exact hg _ _ _ h)
      · rfl
  | _ => rfl

theorem withEnv_env : st.withEnv st.env = st := rfl

/-- an operand hands on what it owns, if it does -/
theorem Inv.hand (hi : Inv cx.T g w st a) {x : Operand} {ty : Ty} {v : V} (hx : opd st ty x = some v) (ow' : Owner) :
    ∃ g', g'.rho = g.rho ∧ Step g w g' w ∧ Inv cx.T g' w (st.withEnv (disown st.env x)) a ∧ (owns st x = true → OwnV cx.T g' w ow' ty (a.eval x) ∧ isSl ty = true) ∧ (∀ b o, g.kind b = .obj o → g'.kind b = .obj o) := by
  by_cases ho : owns st x = true
  · obtain ⟨t, ty', v', rfl, hg⟩ := owns_spec ho
    obtain ⟨g', h1, h2, h3, h4, h5⟩ := hi.reown hg ow'
    refine ⟨g', h1, h2, h3, fun _ => ?_, h5⟩
    simp only [opd, hg] at hx
    split at hx
    · rename_i hb
      obtain rfl := Ty.eq_of_beq _ _ hb
      refine ⟨h4, ?_⟩
      obtain ⟨e, u, rfl, _⟩ := h4
      rfl
    · simp at hx
  · have ho' : owns st x = false := by simpa using ho
    refine ⟨g, rfl, Step.refl g w, ?_, fun h => absurd h ho, fun _ _ h => h⟩
    rw [disown_none ho']
    exact hi

theorem assign_owed {x : Operand} {ty : Option Ty} (hop : o.op = .assign x) (hi : Inv cx.T g w st a) (h : assignEv st o.dst x ty = some st') : Owed P cx g w st' a o := by
  cases ty with
  | none => simp [assignEv] at h
  | some ty =>
    simp only [assignEv] at h
    cases hx : opd st ty x with
    | none => simp [hx] at h
    | some v =>
      simp only [hx] at h
      cases ho : owns st x with
      | false =>
        simp only [ho] at h
        exact Owed.pure hi h (val := a.eval x) (by simp [execOp, hop]) (opd_sound hi hx)
      | true =>
        simp only [ho] at h
        obtain ⟨g', h1, h2, h3, h4, h5⟩ := hi.hand hx (.slot (o.dst.getD 0))
        refine Owed.value (val := a.eval x) (by simp [execOp, hop]) h3 h ?_ h2
        intro d hd
        refine ⟨(opd_sound hi hx).mono h2.ext, fun _ => ?_⟩
        have := (h4 ho).1
        rwa [hd] at this

theorem box_owed (G : Good P cx) {e : Nat} {x : Operand} (hop : o.op = .box e x) (hi : Inv cx.T g w st a) (h : boxEv st o.dst x (cx.T e) = some st') : Owed P cx g w st' a o := by
  cases hT : cx.T e with
  | none => simp [hT, boxEv] at h
  | some ty =>
    simp only [hT, boxEv] at h
    cases hx : opd st ty x with
    | none => simp [hx] at h
    | some v =>
      simp only [hx] at h
      obtain ⟨g1, h1, h2, h3, h4, h5⟩ := hi.hand hx (.place st.os.length [0])
      obtain ⟨cs, hcs, ex⟩ := (opd_sound hi hx).mono h2.ext
      have hz : VRs cx.T g1 w (List.replicate [v].length ty) cs [v] := by
        have := VRs.cons hcs .nil
        simpa using this
      obtain ⟨k1, k2⟩ := h3.newObj (e := e) (own := match owns st x with | true => [[0]] | false => []) hz (by
        intro p hp
        split at hp
        · rename_i ho
          obtain ⟨h6, h7⟩ := h4 ho
          have hpe : p = [0] := by simpa using hp
          subst hpe
          obtain ⟨c, hc, _⟩ := hcs.single (by cases ty <;> simp_all [isSl, Ty.isAgg])
          subst hc
          refine ⟨0, [], 0, ty, c, rfl, rfl, by simp, ?_⟩
          have : a.eval x = c := by rw [ex]; exact ofCells_one (by cases ty <;> simp_all [isSl, Ty.isAgg]) c
          rwa [this] at h6
        · simp at hp)
      refine Owed.value (e := .one .ptr (.ptr st.os.length [0]) false) (val := .pointer (some ⟨w.heap.size, 0, none⟩)) ?_ k1 h ?_ (h2.trans k2.step)
      · simp [execOp, hop, Instr.box, newVar, newRow, newObj, Sem.run, ex, hcs.cells, World.alloc_eq]
      · intro d _
        refine ⟨⟨_, VR.ptr (i := 0) (off := 0) (u := ty) (p := []) (ty := ty) (b := w.heap.size) (by simp [Gh.obj, St.withEnv]) (by simp) (by simp [Gh.obj, St.withEnv]) rfl, by simp [ofCells, Ty.isAgg]⟩, by simp⟩

theorem cell_setCells {b : Nat} {vs : List Value} {off : Nat} {c : Array Value} {e : TypeId} {fr : Nat × Nat} (hh : w.heap[b]? = some (.cells c e fr)) (hl : off + vs.length ≤ c.size) {i : Nat} (hi : i < off ∨ off + vs.length ≤ i) :
    (setCells w b off vs).cell? ⟨b, i, none⟩ = w.cell? ⟨b, i, none⟩ := by
  obtain ⟨c', h1, h2⟩ := setCells_same vs w off c e fr hh hl
  have : c'[i]? = c[i]? := by
    rw [← Array.getElem?_toList, ← Array.getElem?_toList, h2]
    have hlen : (c.toList.take off).length = off := by simp; omega
    rcases hi with hi | hi
    · rw [List.append_assoc, List.getElem?_append_left (by omega), List.getElem?_take_of_lt hi]
    · rw [List.getElem?_append_right (by simp [hlen]; omega), List.getElem?_drop]
      congr 1
      simp only [List.length_append, hlen]
      omega
  simp [World.cell?, h1, hh, this]

theorem frozen_setCells {b b' : Nat} : ∀ {vs : List Value} {w : World} {off j : Nat}, (setCells w b off vs).frozen? ⟨b', j, none⟩ = w.frozen? ⟨b', j, none⟩
  | [], _, _, _ => rfl
  | v :: vs, w, off, j => by rw [setCells, frozen_setCells, World.frozen?_setCell]

theorem at_unique {ty u1 u2 : Ty} : ∀ {q : List Nat} {o1 o2 : Nat}, ty.at q = some (o1, u1) → ty.at q = some (o2, u2) → o1 = o2 ∧ u1 = u2 := by
  intro q o1 o2 h1 h2
  rw [h1] at h2; injection h2 with h2; injection h2 with h2 h3
  exact ⟨h2, h3⟩

end
end Go.Vm
