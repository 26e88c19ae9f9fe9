/- Append. -/
import Derived.Test.YtjbehmedbefbpaaGreatVmOpsI
set_option linter.unusedVariables false
set_option linter.unusedSimpArgs false
namespace Go.Vm
open Go

section
variable {P : Program} {cx : Cx} {g : Gh} {w : World} {st st' : St} {a : Act} {o : Oper}

theorem run_askRoom (n : Nat) : (askRoom n).run P w = .ok () w := by
  unfold askRoom
  split
  · simp [mark, Sem.run]
  · simp

theorem app_fit (G : Good P cx) {t u e : Nat} {ue : Ty} {d : TypeDesc} (ht : P.underlying t = some (.slice e)) (hT : cx.T e = some ue) (hu : P.underlying u = some d) (hd : (∃ e', d = .slice e') ∨ d = .string)
    {base : Option Addr} {sLen sCap n : Nat} {x : Value} {ds : List Value} (hx : (Builtin.lenOf x).run P w = .ok n w) (hc : (Builtin.firstCells ue.size n x).run P w = .ok ds.toArray w) (hle : sLen + n ≤ sCap) (ty : TypeId)
    {w' : World} (hst : ∀ a, base = some a → (storeCells (a.add (sLen * ue.size)) ds).run P w = .ok () w') (hn : base = none → w' = w) :
    (Builtin.append_ #[t, u] ty #[.slice base sLen sCap, x]).run P w = .ok (.slice base (sLen + n) sCap) w' := by
  rcases hd with ⟨e', rfl⟩ | rfl
  all_goals
    cases base with
    | none =>
      obtain rfl := hn rfl
      simp [Builtin.append_, run_underlying ht, (G.ty e _ hT).run_sizeOf, run_underlying hu, hx, hle, hc]
    | some b =>
      have := hst b rfl
      simp [Builtin.append_, run_underlying ht, (G.ty e _ hT).run_sizeOf, run_underlying hu, hx, hle, hc, this]

theorem app_grow (G : Good P cx) {t u e : Nat} {ue : Ty} {d : TypeDesc} (ht : P.underlying t = some (.slice e)) (hT : cx.T e = some ue) (hu : P.underlying u = some d) (hd : (∃ e', d = .slice e') ∨ d = .string)
    {base : Option Addr} {sLen sCap n : Nat} {x : Value} {ds olds : List Value} (hx : (Builtin.lenOf x).run P w = .ok n w) (hc : (Builtin.firstCells ue.size n x).run P w.drew = .ok ds.toArray w.drew)
    (hold : (Builtin.firstCells ue.size sLen (.slice base sLen sCap)).run P w.drew = .ok olds.toArray w.drew) (hgt : sCap < sLen + n) (hroom : (sLen + n) * cx.B e ≤ 140737488355328) (ty : TypeId) :
    ∃ cap sp, sLen + n ≤ cap ∧ sp.length = (cap - (sLen + n)) * ue.size ∧
      (Builtin.append_ #[t, u] ty #[.slice base sLen sCap, x]).run P w = .ok (.slice (some ⟨w.heap.size, 0, none⟩) (sLen + n) cap) (w.drew.alloc (.cells ((olds ++ ds) ++ sp).toArray e)) := by
  obtain ⟨i, hi1, hi2, _⟩ := (G.ty e _ hT).info
  have hb := G.bytes e _ i hT hi1
  have hbp := G.bpos e _ hT
  have hbz : ¬ (cx.B e = 0) := by omega
  let cap := (Question.appendCap (sLen + n) sCap e).cut (w.tape w.drawn (.appendCap (sLen + n) sCap e))
  have hcap : sLen + n ≤ cap := by show _ ≤ _ + _; omega
  have hch : (choose (.appendCap (sLen + n) sCap e)).run P w = .ok cap w.drew := by
    simp only [choose, Sem.run, Question.forced, Bool.false_eq_true, if_false]; rfl
  have hfits : ¬ (Builtin.nextslicecap (sLen + n) sCap * i.bytes > 2 ^ 48) := by
    have := growslice_fits hgt hroom
    rw [hb]; omega
  have hzc : (ofCells ue ue.zeroC).cells = ue.zeroC.toArray := (VR.zero (T := cx.T) (g := ⟨fun _ => none, fun _ => .other⟩) (w := w) ue).cells
  have hzl : ue.zeroC.length = ue.size := (VR.zero (T := cx.T) (g := ⟨fun _ => none, fun _ => .other⟩) (w := w) ue).len
  refine ⟨cap, (Builtin.zeroCells ue.zeroC.toArray (cap - (sLen + n))).toList, hcap, ?_, ?_⟩
  · simp [Builtin.zeroCells, hzl]
  · have hz : (i.bytes = 0) = False := by rw [hb]; simp [hbz]
    have hnle : ¬ (sLen + n ≤ sCap) := by omega
    rcases hd with ⟨e', rfl⟩ | rfl
    all_goals
      simp [Builtin.append_, run_underlying ht, (G.ty e _ hT).run_sizeOf, run_underlying hu, hx, hnle, run_typeInfo hi1, hz, hfits, hch, run_askRoom, hold, hc, (G.ty e _ hT).run_zero, Go.newRow, newObj, Sem.run, hzc, Question.forced]
      refine ⟨rfl, ?_⟩
      congr 2
      rw [← Array.toList_inj]
      simp [cap]

theorem vrs_join {ue : Ty} {n m : Nat} {cs ds : List Value} {vs ys : List V} (h1 : VRs cx.T g w (List.replicate n ue) cs vs) (h2 : VRs cx.T g w (List.replicate m ue) ds ys) : VRs cx.T g w (List.replicate (n + m) ue) (cs ++ ds) (vs ++ ys) := by
  rw [← List.replicate_append_replicate]
  exact h1.append h2

theorem Inv.newObjR (h : Inv cx.T g w st a) {w1 : World} {c : Array Value} {et : TypeId} (hh : w1.heap = w.heap.push (.cells c et (0, 0))) (ho : w1.os = w.os) (hp : w1.output = w.output) {u : Ty} {cs sp : List Value} {vs : List V}
    (hc : c.toList = cs ++ sp) (hv : VRs cx.T g w (List.replicate vs.length u) cs vs) : Inv cx.T (g.obj st.os.length w.heap.size u) w1 (st.withOs (st.os ++ [.row u vs []])) a ∧ Step g w (g.obj st.os.length w.heap.size u) w1 := by
  have hnew : w1.heap[w.heap.size]? = some (.cells c et (0, 0)) := by rw [hh]; simp
  have k : Keep g w (g.obj st.os.length w.heap.size u) w1 := by
    refine ⟨by rw [hh]; simp, (keep_obj h.os (.cells c et (0, 0)) u).rho, fun b hb => by simp [Gh.obj, Nat.ne_of_lt hb], fun b hb => by rw [hh, Array.getElem?_push, if_neg (by omega)], ho, hp⟩
  refine ⟨⟨h.tm, h.df, fun t x hx => (h.env t x hx).keep k, fun x hx => (h.orgs x hx).keep k, ?_, ?_⟩, k.step⟩
  · intro o x hx0
    have hx : (st.os ++ [Ob.row u vs []])[o]? = some x := hx0
    rw [List.getElem?_append] at hx
    split at hx
    · exact (h.os.ob o x hx).keep k
    · rename_i hlt
      have ho : o = st.os.length := by
        rcases Nat.lt_trichotomy o st.os.length with h1 | h1 | h1
        · exact absurd h1 hlt
        · exact h1
        · rw [List.getElem?_eq_none (by simp; omega)] at hx; simp at hx
      subst ho
      simp only [Nat.sub_self, List.getElem?_cons_zero, Option.some.injEq] at hx
      subst hx
      refine ⟨w.heap.size, c, et, (0, 0), cs, sp, by simp [Gh.obj], by rw [hh]; simp, by simp [Gh.obj], hnew, ?_, hc, hv.mono k.step.ext, by simp⟩
      intro j _
      simp [World.frozen?, hnew]
  · intro o ho0
    have ho : (st.os ++ [Ob.row u vs []]).length ≤ o := ho0
    simp only [List.length_append, List.length_cons, List.length_nil] at ho
    have : o ≠ st.os.length := by omega
    simp [Gh.obj, this, h.os.new o (by omega)]

theorem newRowEv_owed (hi : Inv cx.T g w st a) {w1 : World} {c : Array Value} {et e : Nat} {u : Ty} {cs sp : List Value} {vs : List V} {cap : Nat} (he : newRowEv st o.dst e u vs = some st')
    (hr : (execOp a.eval o).run P w = .ok (.value (.slice (some ⟨w.heap.size, 0, none⟩) vs.length cap)) w1) (hh : w1.heap = w.heap.push (.cells c et (0, 0))) (ho : w1.os = w.os) (hp : w1.output = w.output)
    (hT : cx.T e = some u) (hc : c.toList = cs ++ sp) (hv : VRs cx.T g w (List.replicate vs.length u) cs vs) (hcap : c.size = cap * u.size) (hu : 0 < u.size) : Owed P cx g w st' a o := by
  unfold newRowEv at he
  cases hth : thaws st o.dst with
  | false =>
    simp only [hth] at he
    obtain ⟨g1, i1, i2, i3, i4⟩ := hi.newRow (w1 := w1) (c := c) (et := et) (fr := (0, 0)) hh ho hp (by simp) hT (cs := cs) (sp := sp) (vs := vs) (cap := cap) (f := false) (by simp) hc hv hcap hu (.slot (o.dst.getD 0))
    refine Owed.value (g' := g1) hr i1 he ?_ i2
    intro d hd'
    refine ⟨i3, fun _ => ?_⟩
    rw [hd'] at i4
    exact i4
  | true =>
    simp only [hth] at he
    obtain ⟨h1, h2⟩ := hi.newObjR (w1 := w1) hh ho hp hc hv
    refine Owed.value hr h1 he ?_ h2
    intro d _
    have hlen := hv.len
    rw [sizes_replicate] at hlen
    have hle : vs.length ≤ cap := by
      have h1 := congrArg List.length hc
      simp only [Array.length_toList, List.length_append, hlen, hcap] at h1
      have : vs.length * u.size ≤ cap * u.size := by omega
      exact Nat.le_of_mul_le_mul_right this hu
    refine ⟨⟨_, VR.rw (o := st.os.length) (b := w.heap.size) (off := 0) (aoff := 0) (len := vs.length) (cap := cap) hT (by simp [Gh.obj]) (by rw [hh]; simp) (by simp [Gh.obj]) hle (by simp), by simp [ofCells, Ty.isAgg]⟩, by simp⟩

theorem append_owed (G : Good P cx) {c : Call} {t u : Nat} {x y : Operand} (hop : o.op = .call c) (hc : c.callee = .builtin .append) (hts : c.argTypes.toList = [t, u]) (hxs : c.args.toList = [x, y]) (hi : Inv cx.T g w st a)
    (he : appEv cx st o.dst t u x y = some st') : Owed P cx g w st' a o := by
  have hta : c.argTypes = #[t, u] := by rw [← Array.toList_inj]; exact hts
  have hxa : c.args = #[x, y] := by rw [← Array.toList_inj]; exact hxs
  have run : ∀ (r : Value) (w' : World), (Builtin.append_ #[t, u] o.type #[a.eval x, a.eval y]).run P w = .ok r w' → (execOp a.eval o).run P w = .ok (.value r) w' := by
    intro r w' hr
    simp [execOp, hop, resolve, hc, hta, hxa, invoke, builtin, hr]
  unfold appEv at he
  cases hT : cx.T t with
  | none => simp [hT] at he
  | some tt =>
    cases tt with
    | sl e =>
      simp only [hT] at he
      cases hTe : cx.T e with
      | none => simp [hTe] at he
      | some ue =>
        simp only [hTe] at he
        have hd := (G.ty t _ hT).desc
        simp only [DescOk] at hd
        have hpos := (G.ty e _ hTe).pos
        have hbp := G.bpos e _ hTe
        cases hx : opd st (.sl e) x with
        | none => simp [hx] at he
        | some av =>
          cases hy : srcEv cx st e u y with
          | none => cases av <;> simp [hx, hy] at he
          | some ys =>
            obtain ⟨ds, du, q1, q2, q3, q4, q5⟩ := srcEv_sound G hi hTe hy
            have hdl := q1.len
            rw [sizes_replicate] at hdl
            obtain ⟨cs, hcs, ex⟩ := opd_sound hi hx
            cases hcs with
            | snil =>
              have ex' : a.eval x = .slice none 0 0 := by simpa [ofCells, Ty.isAgg] using ex
              simp only [hx, hy] at he
              split at he
              · rename_i hemp
                have hys : ys = [] := by simpa using hemp
                subst hys
                have hds : ds = [] := by simpa using hdl
                subst hds
                have hr := app_fit G (x := a.eval y) hd hTe q4 q5 (base := none) (sLen := 0) (sCap := 0) (n := 0) q2 (q3 w rfl) (Nat.le_refl _) o.type (w' := w) (by simp) (fun _ => rfl)
                refine Owed.value (val := .slice none (0 + 0) 0) (run _ _ (by rw [ex']; exact hr)) hi he ?_ (Step.refl g w)
                intro d _
                exact ⟨⟨_, .snil e, by simp [ofCells, Ty.isAgg]⟩, fun _ => ⟨e, ue, rfl, hTe, .inl rfl⟩⟩
              · rename_i hemp
                split at he
                · rename_i hroom
                  have hne : 0 < ys.length := by
                    cases ys with
                    | nil => simp at hemp
                    | cons _ _ => simp
                  obtain ⟨cap, sp, h1, h2, h3⟩ := app_grow G (x := a.eval y) hd hTe q4 q5 (base := none) (sLen := 0) (sCap := 0) (n := ys.length) (olds := []) q2 (q3 w.drew rfl) (by simp [Builtin.firstCells]) (by omega) (by simpa using hroom) o.type
                  rw [Nat.zero_add] at h3
                  have hr := run _ _ (by rw [ex']; exact h3)
                  exact newRowEv_owed hi he hr (c := (([] ++ ds) ++ sp).toArray) (et := e) rfl rfl rfl hTe (cs := ds) (sp := sp) (vs := ys) (cap := cap) (by simp) q1
                    (by simp only [List.size_toArray, List.length_append, List.nil_append, hdl, h2, ← Nat.add_mul]; congr 1; omega) hpos
                · simp at he
            | @sl _ b off len cap n ow ty cs ff vs k1 k2 k3 k4 k5 k6 k7 k8 k9 =>
              rw [hTe] at k1; injection k1 with k1; subst k1
              have ex' : a.eval x = .slice (some ⟨b, off, none⟩) len cap := by simpa [ofCells, Ty.isAgg] using ex
              cases ff with
              | true =>
                simp only [hx, hy] at he
                have hcap := k9 rfl
                subst k7
                subst hcap
                have hcl := k8.len
                rw [sizes_replicate] at hcl
                split at he
                · rename_i hemp
                  have hys : ys = [] := by simpa using hemp
                  subst hys
                  have hds : ds = [] := by simpa using hdl
                  subst hds
                  have hr := app_fit G (x := a.eval y) hd hTe q4 q5 (base := some ⟨b, off, none⟩) (sLen := vs.length) (sCap := vs.length) (n := 0) q2 (q3 w rfl) (Nat.le_refl _) o.type (w' := w) (by intro a' _; simp [storeCells]) (by simp)
                  refine Owed.value (val := .slice (some ⟨b, off, none⟩) (vs.length + 0) vs.length) (run _ _ (by rw [ex']; exact hr)) hi he ?_ (Step.refl g w)
                  intro d _
                  exact ⟨⟨_, .sl hTe k2 k3 k4 k5 k6 rfl k8 k9, by simp [ofCells, Ty.isAgg]⟩, by simp⟩
                · rename_i hemp
                  split at he
                  · rename_i hroom
                    have hne : 0 < ys.length := by
                      cases ys with
                      | nil => simp at hemp
                      | cons _ _ => simp
                    have hold : (Builtin.firstCells ue.size vs.length (.slice (some ⟨b, off, none⟩) vs.length vs.length)).run P w.drew = .ok cs.toArray w.drew := by
                      have hh : Has w.drew b off cs := k6.mono (Nat.le_refl _) fun i _ => rfl
                      have := run_loadCells (P := P) hh
                      rw [hcl] at this
                      simp [Builtin.firstCells, this]
                    obtain ⟨cap2, sp, h1, h2, h3⟩ := app_grow G (x := a.eval y) hd hTe q4 q5 (base := some ⟨b, off, none⟩) (sLen := vs.length) (sCap := vs.length) (n := ys.length) (olds := cs) q2 (q3 w.drew rfl) hold (by omega) hroom o.type
                    have hr := run _ _ (by rw [ex']; exact h3)
                    rw [← List.length_append] at hr
                    exact newRowEv_owed hi he hr (c := ((cs ++ ds) ++ sp).toArray) (et := e) rfl rfl rfl hTe (cs := cs ++ ds) (sp := sp) (vs := vs ++ ys) (cap := cap2) (by simp)
                      (by rw [List.length_append]; exact vrs_join k8 q1) (by simp only [List.size_toArray, List.length_append, hcl, hdl, h2, ← Nat.add_mul]; congr 1; omega) hpos
                  · simp at he
              | false =>
              simp only [hx, hy] at he
              split at he
              · rename_i hroom
                cases ht : takeOwn st (.sl e) x with
                | none => simp [ht] at he
                | some st1 =>
                  simp only [ht] at he
                  obtain ⟨g1, m1, m2, m3, m4, m5, m6⟩ := takeOwn_sound hi hx ht (.place st.os.length [])
                  have hcl := k8.len
                  rw [sizes_replicate] at hcl
                  have k8' := k8.mono m2.ext
                  have q1' := q1.mono m2.ext
                  obtain ⟨e2, u2, he2, hT2, m4⟩ := m4
                  injection he2 with he2; subst he2
                  rw [hTe] at hT2; injection hT2 with hT2; subst hT2
                  rw [ex'] at m4
                  rcases m4 with m4 | ⟨b', len', cap', c', et, fr, n1, n2, n3, n4, n5, n6, n7⟩
                  · simp at m4
                  · simp only [Value.slice.injEq, Option.some.injEq, Addr.mk.injEq, and_true] at n1
                    obtain ⟨⟨rfl, rfl⟩, rfl, rfl⟩ := n1
                    subst k7
                    by_cases hfit : vs.length + ys.length ≤ cap
                    · -- in place
                      have hl : vs.length * ue.size + ds.length ≤ c'.size := by
                        rw [hdl, n5, ← Nat.add_mul]; exact Nat.mul_le_mul_right _ hfit
                      have hst := run_storeCells P (w := w) (off := vs.length * ue.size) (i := 0) n4 (by omega) n7 q1.oneC
                      obtain ⟨f1, f2, f3, f4⟩ := setCells_facts (b := b) ds w (vs.length * ue.size)
                      obtain ⟨c2, s1, s2⟩ := setCells_same ds w (vs.length * ue.size) c' et fr n4 hl
                      have hcell : ∀ i, i < vs.length * ue.size → (setCells w b (vs.length * ue.size) ds).cell? ⟨b, i, none⟩ = w.cell? ⟨b, i, none⟩ := fun i hi => cell_setCells n4 hl (.inl hi)
                      have hfz : ∀ b' j, (setCells w b (vs.length * ue.size) ds).frozen? ⟨b', j, none⟩ = w.frozen? ⟨b', j, none⟩ := fun b' j => frozen_setCells
                      rw [Nat.add_zero] at hst
                      generalize setCells w b (vs.length * ue.size) ds = w2 at *
                      have hr := app_fit G (x := a.eval y) hd hTe q4 q5 (base := some ⟨b, 0, none⟩) (sLen := vs.length) (sCap := cap) (n := ys.length) q2 (q3 w rfl) hfit o.type (w' := w2)
                        (by intro a' ha; injection ha with ha; subst ha; rw [addr_add, Nat.zero_add]; exact hst) (by simp)
                      let g2 : Gh := { g1 with kind := fun z => if z = b then .imm ((vs.length + ys.length) * ue.size) (some (.slot (o.dst.getD 0))) else g1.kind z }
                      have hstep : Step g1 w g2 w2 := by
                        refine ⟨by omega, fun _ _ h => h, ?_, ?_, ?_, ?_, f2, f3⟩
                        · intro b' _ hk
                          have : b' ≠ b := by rintro rfl; rw [n3] at hk; simp at hk
                          exact ⟨by simp [g2, this, hk], f4 b' this⟩
                        · intro b' m _ hk
                          have : b' ≠ b := by rintro rfl; rw [n3] at hk; simp at hk
                          exact ⟨by simp [g2, this, hk], f4 b' this⟩
                        · intro b' m ow' _ hk
                          by_cases hb : b' = b
                          · subst hb
                            rw [n3] at hk; injection hk with hk _; subst hk
                            refine ⟨(vs.length + ys.length) * ue.size, some (.slot (o.dst.getD 0)), ?_, by simp [g2], fun i hi => hcell i hi⟩
                            exact Nat.mul_le_mul_right _ (by omega)
                          · exact ⟨m, some ow', Nat.le_refl _, by simp [g2, hb, hk], fun _ _ => cell_of_heap (f4 b' hb)⟩
                        · intro b' o' _ hk
                          have : b' ≠ b := by rintro rfl; rw [n3] at hk; simp at hk
                          simp [g2, this, hk]
                      have hinv : Inv cx.T g2 w2 st1 a := by
                        refine m3.move hstep (ow0 := .place st.os.length []) ⟨_, _, rfl, by omega⟩ ?_ ?_ (fun o' h => h)
                        · intro ow2 ty2 val2 hne h
                          obtain ⟨e3, u3, j1, j2, h⟩ := h
                          refine ⟨e3, u3, j1, j2, ?_⟩
                          rcases h with h | ⟨b3, len3, cap3, c3, et3, fr3, p3, p4, p5, p6, p7, p8, p9⟩
                          · exact .inl h
                          · have hb : b3 ≠ b := by
                              rintro rfl
                              rw [n3] at p5; injection p5 with _ p5; injection p5 with p5
                              exact hne p5.symm
                            exact .inr ⟨b3, len3, cap3, c3, et3, fr3, p3, by omega, by simp [g2, hb, p5], (f4 b3 hb).trans p6, p7, p8, fun j hj => (hfz b3 j).trans (p9 j hj)⟩
                        · intro b' o' _ hk
                          have : b' ≠ b := by rintro rfl; rw [n3] at hk; simp at hk
                          exact f4 b' this
                      have hnew : w2.heap[b]? = some (.cells c2 et fr) := s1
                      have hc2 : c2.size = c'.size := by
                        have := congrArg List.length s2
                        simp only [Array.length_toList, List.length_append, List.length_take, List.length_drop] at this
                        omega
                      refine Owed.value (g' := g2) (w' := w2) (val := .slice (some ⟨b, 0, none⟩) (vs.length + ys.length) cap) (run _ _ (by rw [ex']; exact hr)) hinv he ?_ (m2.trans hstep)
                      intro d hd'
                      refine ⟨?_, fun _ => ?_⟩
                      · refine ⟨_, .sl (b := b) (off := 0) (len := vs.length + ys.length) (cap := cap) (n := (vs.length + ys.length) * ue.size) (ow := some (.slot (o.dst.getD 0))) (cs := cs ++ ds) (f := false) hTe (by omega) (by simp [g2]) (by omega) hfit ?_ (by simp) ((vrs_join k8' q1').mono hstep.ext) (by simp), by simp [ofCells, Ty.isAgg]⟩
                        refine Has.append.2 ⟨k6.mono (n := vs.length * ue.size) (by omega) hcell, ?_⟩
                        rw [hcl, Nat.zero_add]
                        have := has_of_list hnew (pre := c'.toList.take (vs.length * ue.size)) (cs := ds) (sp := c'.toList.drop (vs.length * ue.size + ds.length)) (by rw [s2]; simp)
                        rw [List.length_take, Nat.min_eq_left (by simp; omega)] at this
                        exact this
                      · refine ⟨e, ue, rfl, hTe, .inr ⟨b, vs.length + ys.length, cap, c2, et, fr, rfl, by omega, ?_, hnew, by rw [hc2, n5], hfit, fun j hj => (hfz b j).trans (n7 j (by omega))⟩⟩
                        simp [g2, hd']
                    · -- in a new row
                      have hold : (Builtin.firstCells ue.size vs.length (.slice (some ⟨b, 0, none⟩) vs.length cap)).run P w.drew = .ok cs.toArray w.drew := by
                        have hh : Has w.drew b 0 cs := k6.mono (Nat.le_refl _) fun i _ => rfl
                        have := run_loadCells (P := P) hh
                        rw [hcl] at this
                        simp [Builtin.firstCells, this]
                      obtain ⟨cap2, sp, h1, h2, h3⟩ := app_grow G (x := a.eval y) hd hTe q4 q5 (base := some ⟨b, 0, none⟩) (sLen := vs.length) (sCap := cap) (n := ys.length) (olds := cs) q2 (q3 w.drew rfl) hold (by omega) hroom o.type
                      obtain ⟨g2, i1, i2, i3, i4⟩ := m3.newRow (w1 := w.drew.alloc (.cells ((cs ++ ds) ++ sp).toArray e)) (c := ((cs ++ ds) ++ sp).toArray) (et := e) (fr := (0, 0)) rfl rfl rfl (by simp) hTe (cs := cs ++ ds) (sp := sp) (vs := vs ++ ys) (cap := cap2) (f := false) (by simp) (by simp)
                        (by rw [List.length_append]; exact vrs_join k8' q1') (by simp only [List.size_toArray, List.length_append, hcl, hdl, h2, ← Nat.add_mul]; congr 1; omega) hpos (.slot (o.dst.getD 0))
                      rw [List.length_append] at i3 i4
                      refine Owed.value (g' := g2) (val := .slice (some ⟨w.heap.size, 0, none⟩) (vs.length + ys.length) cap2) (run _ _ (by rw [ex', h3])) i1 he ?_ (m2.trans i2)
                      intro d hd'
                      refine ⟨i3, fun _ => ?_⟩
                      rw [hd'] at i4
                      exact i4
              · simp at he
            | rw _ _ _ _ _ _ => simp [hx] at he
    | _ => simp [hT] at he
end
end Go.Vm
