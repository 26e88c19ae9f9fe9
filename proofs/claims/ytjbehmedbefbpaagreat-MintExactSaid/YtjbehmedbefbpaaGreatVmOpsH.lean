/- Structs, arrays and slices that are built. -/
import Derived.Test.YtjbehmedbefbpaaGreatVmOpsG
import Derived.Laws.Append
set_option linter.unusedVariables false
set_option linter.unusedSimpArgs false
namespace Go.Vm
open Go

section
variable {P : Program} {cx : Cx} {g : Gh} {w : World} {st st' : St} {a : Act} {o : Oper}

theorem foldl_splice {α : Type} : ∀ (l : List α) (n off : Nat) (cells : Array α), off + n + l.length ≤ cells.size →
    ((l.zipIdx n).foldl (fun cs (x : α × Nat) => cs.setIfInBounds (off + x.2) x.1) cells).toList = cells.toList.take (off + n) ++ l ++ cells.toList.drop (off + n + l.length)
  | [], n, off, cells, h => by simp
  | x :: l, n, off, cells, h => by
    simp only [List.length_cons] at h
    simp only [List.zipIdx_cons, List.foldl_cons]
    rw [foldl_splice l (n + 1) off (cells.setIfInBounds (off + n) x) (by simpa using by omega)]
    rw [Array.toList_setIfInBounds]
    have hlt : off + n < cells.toList.length := by simpa using by omega
    rw [List.set_eq_take_append_cons_drop, if_pos hlt]
    have e1 : (cells.toList.take (off + n) ++ x :: cells.toList.drop (off + n + 1)).take (off + (n + 1)) = cells.toList.take (off + n) ++ [x] := by
      rw [List.take_append, List.take_take, List.length_take, Nat.min_eq_right (by omega), Nat.min_eq_left (by omega)]
      simp [show off + (n + 1) - (off + n) = 1 by omega]
    have e2 : (cells.toList.take (off + n) ++ x :: cells.toList.drop (off + n + 1)).drop (off + (n + 1) + l.length) = cells.toList.drop (off + n + (l.length + 1)) := by
      rw [List.drop_append, List.length_take, Nat.min_eq_left (by omega), List.drop_eq_nil_of_le (by rw [List.length_take]; omega)]
      rw [show off + (n + 1) + l.length - (off + n) = l.length + 1 by omega, List.drop_succ_cons, List.drop_drop, List.nil_append]
      congr 1; omega
    rw [e1, e2]
    simp

theorem fill_sound {ts : List Ty} {tyf : Nat → Option Ty} {place : Nat → Option (Nat × Nat)} (hi : Inv cx.T g w st a)
    (hp : ∀ i u, i < ts.length → tyf i = some u → ∃ off, fieldOff ts i = some (off, u) ∧ place i = some (off, u.size)) :
    ∀ {ps : List (Nat × Operand)} {vs vs' : List V} {cells : Array Value}, fill st tyf vs ps = some vs' → VRs cx.T g w ts cells.toList vs →
      ∃ cells', Instr.fill place cells (ps.map fun x => (x.1, a.eval x.2)) = some cells' ∧ VRs cx.T g w ts cells'.toList vs'
  | [], vs, vs', cells, h, hv => by
    simp only [fill, Option.some.injEq] at h
    subst h
    exact ⟨cells, rfl, hv⟩
  | (i, x) :: ps, vs, vs', cells, h, hv => by
    simp only [fill] at h
    cases ht : tyf i with
    | none => simp [ht] at h
    | some u =>
      cases hx : opd st u x with
      | none => simp [ht, hx] at h
      | some v =>
        simp only [ht, hx] at h
        split at h
        · rename_i hlt
          have hlen := hv.length
          obtain ⟨off, h1, h2⟩ := hp i u (by omega) ht
          obtain ⟨cs, hcs, ex⟩ := opd_sound hi hx
          obtain ⟨_, _, _, hb⟩ := hv.sub h1
          have hcl := hcs.len
          have hsz : cells.size = cells.toList.length := by simp
          have hset := hv.set h1 hcs
          have hfold : ((a.eval x).cells.zipIdx.foldl (fun cs (c, j) => cs.setIfInBounds (off + j) c) cells).toList = cells.toList.take off ++ cs ++ cells.toList.drop (off + u.size) := by
            rw [ex, hcs.cells, ← Array.foldl_toList, Array.toList_zipIdx]
            have := foldl_splice cs 0 off cells (by omega)
            rw [hcl] at this
            simpa using this
          rw [← hfold] at hset
          obtain ⟨cells', q1, q2⟩ := fill_sound hi hp h hset
          refine ⟨cells', ?_, q2⟩
          have hsz2 : (a.eval x).cells.size = u.size := by rw [ex, hcs.cells]; simpa using hcl
          simp only [List.map_cons, Instr.fill, h2, hsz2, ne_eq, not_true_eq_false, decide_false, Bool.false_or, decide_eq_true_eq]
          rw [if_neg (by omega)]
          exact q1
        · simp at h

theorem run_mapM {α β : Type} {f : α → Sem β} {h : α → β} : ∀ {l : List α}, (∀ x ∈ l, (f x).run P w = .ok (h x) w) → (l.mapM f).run P w = .ok (l.map h) w
  | [], _ => by simp
  | x :: l, hh => by
    simp only [List.mapM_cons, Sem.run_bind, hh x (List.mem_cons_self ..), Result.andThen_ok, run_mapM (l := l) fun y hy => hh y (List.mem_cons_of_mem _ hy), Sem.run_pure, List.map_cons]

theorem run_amapM {α β : Type} {f : α → Sem β} {h : α → β} {l : Array α} (hh : ∀ x ∈ l.toList, (f x).run P w = .ok (h x) w) : (l.mapM f).run P w = .ok (l.map h) w := by
  rw [Array.mapM_eq_mapM_toList, Sem.run_map, run_mapM hh]
  simp only [Result.andThen_ok]
  congr 1
  rw [← Array.toList_inj]; simp

theorem build_owed1 (G : Good P cx) {t : Nat} {ps : Array (Nat × Operand)} {fs : List Ty} {vs : List V} (hop : o.op = .build t ps) (hi : Inv cx.T g w st a) (hT : cx.T t = some (.st fs))
    (hf : fill st (fun i => (fieldOff fs i).map (·.2)) (Ty.zeroVs fs) ps.toList = some vs) (hs : st.set o.dst (.one (.st fs) (.rc vs) false) = some st') : Owed P cx g w st' a o := by
  obtain ⟨flds, hu, hsz, hfl⟩ := (G.ty t _ hT).desc
  let h : Field → Nat × Nat := fun f => (f.offset, ((cx.T f.type).getD .bool).size)
  have hplaces : (flds.mapM fun (f : Field) => (do pure (f.offset, ← sizeOf f.type) : Sem (Nat × Nat))).run P w = .ok (flds.map h) w := by
    refine run_amapM fun f hf => ?_
    obtain ⟨i, hlt, rfl⟩ := List.getElem_of_mem hf
    obtain ⟨u, h1, h2⟩ := hfl i _ (by rw [← Array.getElem?_toList]; exact List.getElem?_eq_getElem hlt)
    simp only [Array.getElem_toList] at h2 ⊢
    simp [(G.ty _ _ h2).run_sizeOf, h, h2]
  have hz : VRs cx.T g w fs (Ty.zeroC (.st fs)).toArray.toList (Ty.zeroVs fs) := by
    rw [Ty.zeroC]; exact VRs.zero fs
  obtain ⟨cells', q1, q2⟩ := fill_sound (place := fun i => (flds.map h)[i]?) hi (by
    intro i u hlt hu'
    cases hfo : fieldOff fs i with
    | none => simp [hfo] at hu'
    | some y =>
      obtain ⟨off, u2⟩ := y
      simp only [hfo, Option.map_some, Option.some.injEq] at hu'
      subst hu'
      have hlt2 : i < flds.size := by omega
      obtain ⟨u3, h1, h2⟩ := hfl i flds[i] (Array.getElem?_eq_getElem hlt2)
      rw [hfo] at h1; injection h1 with h1; injection h1 with h1 h1'; subst h1'
      exact ⟨off, rfl, by simp [Array.getElem?_eq_getElem hlt2, h, h2, h1]⟩) hf hz
  have hps : (ps.map fun (x : Nat × Operand) => (x.1, a.eval x.2)).toList = ps.toList.map fun x => (x.1, a.eval x.2) := by simp
  have hzc : (ofCells (.st fs) (Ty.zeroC (.st fs))).cells = (Ty.zeroC (.st fs)).toArray := (VR.zero (T := cx.T) (g := g) (w := w) (.st fs)).cells
  refine Owed.pure hi hs (val := .agg cells') ?_ ⟨cells'.toList, .st q2, by simp [ofCells, Ty.isAgg]⟩
  simp only [execOp, hop, Instr.build, Sem.run_bind, (G.ty t _ hT).run_zero, Result.andThen_ok, run_underlying hu, hplaces, hzc]
  rw [hps]
  simp only [q1, Sem.run_pure, Result.andThen_ok]

theorem buildAr_owed (G : Good P cx) {t : Nat} {ps : Array (Nat × Operand)} {n : Nat} {e : Ty} {vs : List V} (hop : o.op = .build t ps) (hi : Inv cx.T g w st a) (hT : cx.T t = some (.ar n e))
    (hf : fill st (fun _ => some e) (List.replicate n e.zeroV) ps.toList = some vs) (hs : st.set o.dst (.one (.ar n e) (.rc vs) false) = some st') : Owed P cx g w st' a o := by
  obtain ⟨et, hu, hTe⟩ := (G.ty t _ hT).desc
  have hz : VRs cx.T g w (List.replicate n e) (Ty.zeroC (.ar n e)).toArray.toList (List.replicate n e.zeroV) := by
    have := VR.zero (T := cx.T) (g := g) (w := w) (.ar n e)
    rw [Ty.zeroV] at this
    cases this with
    | ar h => exact h
  obtain ⟨cells', q1, q2⟩ := fill_sound (ts := List.replicate n e) (place := fun i => some (i * e.size, e.size)) hi (by
    intro i u hlt hu'
    simp only [Option.some.injEq] at hu'
    subst hu'
    exact ⟨i * e.size, fieldOff_replicate (by simpa using hlt), rfl⟩) hf hz
  have hps : (ps.map fun (x : Nat × Operand) => (x.1, a.eval x.2)).toList = ps.toList.map fun x => (x.1, a.eval x.2) := by simp
  have hzc : (ofCells (.ar n e) (Ty.zeroC (.ar n e))).cells = (Ty.zeroC (.ar n e)).toArray := (VR.zero (T := cx.T) (g := g) (w := w) (.ar n e)).cells
  refine Owed.pure hi hs (val := .agg cells') ?_ ⟨cells'.toList, .ar q2, by simp [ofCells, Ty.isAgg]⟩
  simp only [execOp, hop, Instr.build, Sem.run_bind, (G.ty t _ hT).run_zero, Result.andThen_ok, run_underlying hu, (G.ty _ _ hTe).run_sizeOf, hzc]
  rw [hps]
  simp only [q1, Sem.run_pure, Result.andThen_ok]

theorem periodic {z : List Value} {n : Nat} (hz : 0 < z.length) : ((Array.range (n * z.length)).map fun i => z.toArray[i % z.toArray.size]!).toList = (List.replicate n z).flatten := by
  rw [Array.toList_map, Array.toList_range]
  induction n with
  | zero => simp
  | succ n ih =>
    have hs : z.toArray.size = z.length := by simp
    rw [Nat.succ_mul, Nat.add_comm, List.range_add, List.map_append, List.replicate_succ, List.flatten_cons, ← ih]
    congr 1
    · apply List.ext_getElem?
      intro i
      by_cases hi : i < z.length
      · rw [List.getElem?_map, List.getElem?_range hi, Option.map_some, hs, Nat.mod_eq_of_lt hi, List.getElem?_eq_getElem hi]
        simp [hi]
      · rw [List.getElem?_eq_none (by simp; omega), List.getElem?_eq_none (by omega)]
    · rw [List.map_map]
      apply List.map_congr_left
      intro i _
      simp [Nat.add_mod_left]

/-- a new row of cells, owned -/
def Gh.row (g : Gh) (b n : Nat) (ow : Owner) : Gh := { g with kind := fun x => if x = b then .imm n (some ow) else g.kind x }

theorem keep_row {w1 : World} {ob : Obj} (hh : w1.heap = w.heap.push ob) (ho : w1.os = w.os) (hp : w1.output = w.output) (n : Nat) (ow : Owner) : Keep g w (g.row w.heap.size n ow) w1 where
  size := by rw [hh]; simp
  rho := fun _ _ h => h
  kind := fun b hb => by simp [Gh.row, Nat.ne_of_lt hb]
  heap := fun b hb => by rw [hh, Array.getElem?_push, if_neg (by omega)]
  os := ho
  output := hp

theorem Inv.newRow (hi : Inv cx.T g w st a) {w1 : World} {c : Array Value} {et : TypeId} {fr : Nat × Nat} (hh : w1.heap = w.heap.push (.cells c et fr)) (ho : w1.os = w.os) (hp : w1.output = w.output) (hfr : ∀ j, j < c.size → ¬ (fr.1 ≤ j ∧ j < fr.2))
    {e : Nat} {u : Ty} (hT : cx.T e = some u) {cs sp : List Value} {vs : List V} {cap : Nat} {f : Bool} (hfl : f = true → cap = vs.length) (hc : c.toList = cs ++ sp) (hv : VRs cx.T g w (List.replicate vs.length u) cs vs) (hcap : c.size = cap * u.size) (hu : 0 < u.size) (ow : Owner) :
    ∃ g1, Inv cx.T g1 w1 st a ∧ Step g w g1 w1 ∧ ValR cx.T g1 w1 (.sl e) (.sl f vs) (.slice (some ⟨w.heap.size, 0, none⟩) vs.length cap) ∧ OwnV cx.T g1 w1 ow (.sl e) (.slice (some ⟨w.heap.size, 0, none⟩) vs.length cap) := by
  have k := keep_row (g := g) hh ho hp (vs.length * u.size) ow
  have hnew : w1.heap[w.heap.size]? = some (.cells c et fr) := by rw [hh]; simp
  have hsz : w.heap.size < w1.heap.size := by rw [hh]; simp
  have hlen := hv.len
  rw [sizes_replicate] at hlen
  have hle : vs.length ≤ cap := by
    have h1 := congrArg List.length hc
    simp only [Array.length_toList, List.length_append, hlen, hcap] at h1
    have : vs.length * u.size ≤ cap * u.size := by omega
    exact Nat.le_of_mul_le_mul_right this hu
  refine ⟨_, hi.keep k (fun _ h => h), k.step, ?_, ?_⟩
  · refine ⟨_, .sl (off := 0) (len := vs.length) hT hsz (n := vs.length * u.size) (ow := some ow) (by simp [Gh.row]) (by omega) hle (cs := cs) ?_ rfl (hv.mono k.step.ext) hfl, by simp [ofCells, Ty.isAgg]⟩
    exact has_of_list hnew (pre := []) (by simpa using hc)
  · refine ⟨e, u, rfl, hT, .inr ⟨w.heap.size, vs.length, cap, c, et, fr, rfl, hsz, by simp [Gh.row], hnew, hcap, hle, ?_⟩⟩
    intro j hj
    obtain ⟨lo, hi'⟩ := fr
    have := hfr j hj
    simp [World.frozen?, hnew]
    intro h; exact Nat.le_of_not_lt fun h2 => this ⟨h, h2⟩

theorem buildSlice_owed1 (G : Good P cx) {t len : Nat} {ps : Array (Nat × Operand)} {e : Nat} {u : Ty} {vs : List V} (hop : o.op = .buildSlice t len ps) (hi : Inv cx.T g w st a) (hT : cx.T t = some (.sl e)) (hTe : cx.T e = some u)
    (hlim : len * u.size ≤ 16777216) (hf : fill st (fun _ => some u) (List.replicate len u.zeroV) ps.toList = some vs) (hs : st.set o.dst (.one (.sl e) (.sl true vs) true) = some st') : Owed P cx g w st' a o := by
  have hd := (G.ty t _ hT).desc
  simp only [DescOk] at hd
  have hzero : VR cx.T g w u u.zeroC u.zeroV := VR.zero u
  have hzl := hzero.len
  have hpos := (G.ty e _ hTe).pos
  have hz : VRs cx.T g w (List.replicate len u) (List.replicate len u.zeroC).flatten (List.replicate len u.zeroV) := by
    have := VR.zero (T := cx.T) (g := g) (w := w) (.ar len u)
    rw [Ty.zeroV, Ty.zeroC] at this
    cases this with
    | ar h => exact h
  obtain ⟨cells0, hc0⟩ : ∃ c : Array Value, c.toList = (List.replicate len u.zeroC).flatten := ⟨_, List.toList_toArray⟩
  have hc0' : ∀ b : Bool, ((Array.range (len * u.size)).map fun i => u.zeroC.toArray[i % u.zeroC.toArray.size]!) = cells0 := by
    intro _
    rw [← Array.toList_inj, hc0, ← hzl]
    exact periodic (by omega)
  obtain ⟨cells', q1, q2⟩ := fill_sound (ts := List.replicate len u) (place := fun i => some (i * u.size, u.size)) (cells := cells0) hi (by
    intro i u' hlt hu'
    simp only [Option.some.injEq] at hu'
    subst hu'
    exact ⟨i * u.size, fieldOff_replicate (by simpa using hlt), rfl⟩) hf (by rw [hc0]; exact hz)
  have hps : (ps.map fun (x : Nat × Operand) => (x.1, a.eval x.2)).toList = ps.toList.map fun x => (x.1, a.eval x.2) := by simp
  have hlenv : vs.length = len := by have := q2.length; simpa using this.symm
  obtain ⟨g1, i1, i2, i3, i4⟩ := hi.newRow (w1 := w.alloc (.cells cells' e)) (c := cells') (et := e) (fr := (0, 0)) rfl rfl rfl (by simp) hTe (cs := cells'.toList) (sp := []) (vs := vs) (cap := len) (f := true) (by intro _; exact hlenv.symm) (by simp) (by rw [hlenv]; exact q2)
    (by have := q2.len; rw [sizes_replicate] at this; simpa using this) hpos (.slot (o.dst.getD 0))
  rw [hlenv] at i3 i4
  refine Owed.value (g' := g1) (val := .slice (some ⟨w.heap.size, 0, none⟩) len len) ?_ i1 hs ?_ i2
  · have hrun : (Instr.buildSlice t len (ps.map fun (x : Nat × Operand) => (x.1, a.eval x.2))).run P w = .ok (.slice (some ⟨w.heap.size, 0, none⟩) len len) (w.alloc (.cells cells' e)) := by
      simp only [Instr.buildSlice, Sem.run_bind, run_underlying hd, Result.andThen_ok, (G.ty e _ hTe).run_sizeOf]
      have h1 : ¬ (len * u.size > 2 ^ 24) := by omega
      simp only [h1, if_false]
      by_cases hl : len * u.size = 0
      · have hl0 : len = 0 := by
          rcases Nat.mul_eq_zero.1 hl with h | h
          · exact h
          · omega
        subst hl0
        have : cells0 = #[] := by rw [← Array.toList_inj, hc0]; simp
        subst this
        simp only [hl, if_true, Sem.run_pure, Result.andThen_ok]
        rw [hps]
        have e0 : ∀ f : Nat → Value, (Array.map f (Array.range 0)) = #[] := by
          intro f; rw [← Array.toList_inj, Array.toList_map, Array.toList_range]; rfl
        simp only [Sem.run_bind, Sem.run_pure, Result.andThen_ok, e0, q1]
        simp [Go.newRow, newObj, Sem.run, World.alloc_eq]
      · simp only [hl, if_false, Sem.run_bind, (G.ty e _ hTe).run_zero, Result.andThen_ok, Sem.run_pure, hzero.cells]
        rw [hps, hc0' true]
        simp [q1, Go.newRow, newObj, Sem.run, World.alloc_eq]
    simp only [execOp, hop, Sem.run_bind]
    have e1 : (ps.map fun (i, x) => (i, a.eval x)) = (ps.map fun (x : Nat × Operand) => (x.1, a.eval x.2)) := rfl
    rw [e1, hrun]
    rfl
  · intro d hd'
    refine ⟨i3, fun _ => ?_⟩
    rw [hd'] at i4
    exact i4

theorem build_owed (G : Good P cx) {t : Nat} {ps : Array (Nat × Operand)} (hop : o.op = .build t ps) (hi : Inv cx.T g w st a) (h : buildEv st o.dst ps.toList (cx.T t) = some st') : Owed P cx g w st' a o := by
  cases hT : cx.T t with
  | none => simp [hT, buildEv] at h
  | some ty =>
    cases ty with
    | st fs =>
      simp only [hT, buildEv] at h
      cases hf : fill st (fun i => (fieldOff fs i).map (·.2)) (Ty.zeroVs fs) ps.toList with
      | none => simp [hf] at h
      | some vs =>
        simp only [hf] at h
        exact build_owed1 G hop hi hT hf h
    | ar n e =>
      simp only [hT, buildEv] at h
      cases hf : fill st (fun _ => some e) (List.replicate n e.zeroV) ps.toList with
      | none => simp [hf] at h
      | some vs =>
        simp only [hf] at h
        exact buildAr_owed G hop hi hT hf h
    | _ => simp [hT, buildEv] at h

theorem buildSlice_owed (G : Good P cx) {t len : Nat} {ps : Array (Nat × Operand)} (hop : o.op = .buildSlice t len ps) (hi : Inv cx.T g w st a) (h : buildSlEv cx st o.dst len ps.toList (cx.T t) = some st') : Owed P cx g w st' a o := by
  cases hT : cx.T t with
  | none => simp [hT, buildSlEv] at h
  | some ty =>
    cases ty with
    | sl e =>
      simp only [hT, buildSlEv] at h
      cases hTe : cx.T e with
      | none => simp [hTe] at h
      | some u =>
        simp only [hTe] at h
        cases hb : Nat.ble (len * u.size) 16777216 with
        | false => simp [hb] at h
        | true =>
          simp only [hb] at h
          cases hf : fill st (fun _ => some u) (List.replicate len u.zeroV) ps.toList with
          | none => simp [hf] at h
          | some vs =>
            simp only [hf] at h
            exact buildSlice_owed1 G hop hi hT hTe (Nat.le_of_ble_eq_true hb) hf h
    | _ => simp [hT, buildSlEv] at h
end
end Go.Vm
