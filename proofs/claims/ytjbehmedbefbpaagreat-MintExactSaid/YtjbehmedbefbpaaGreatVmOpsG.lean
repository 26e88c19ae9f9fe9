/- Stores. -/
import Derived.Test.YtjbehmedbefbpaaGreatVmOpsF
set_option linter.unusedVariables false
set_option linter.unusedSimpArgs false
namespace Go.Vm
open Go

section
variable {P : Program} {cx : Cx} {g : Gh} {w : World} {st st' : St} {a : Act} {o : Oper}

theorem fieldOff_bound : ∀ {fs : List Ty} {i off : Nat} {u : Ty}, fieldOff fs i = some (off, u) → off + u.size ≤ Ty.sizes fs
  | [], _, _, _, h => by simp [fieldOff] at h
  | t :: ts, 0, off, u, h => by
    simp only [fieldOff, Option.some.injEq, Prod.mk.injEq] at h
    obtain ⟨rfl, rfl⟩ := h
    rw [Ty.sizes]; omega
  | t :: ts, i + 1, off, u, h => by
    simp only [fieldOff] at h
    cases hf : fieldOff ts i with
    | none => simp [hf] at h
    | some y =>
      obtain ⟨o, u'⟩ := y
      simp only [hf, Option.some.injEq, Prod.mk.injEq] at h
      obtain ⟨rfl, rfl⟩ := h
      have := fieldOff_bound hf
      rw [Ty.sizes]; omega

theorem fieldOff_lt' : ∀ {fs : List Ty} {i j o1 o2 : Nat} {u1 u2 : Ty}, fieldOff fs i = some (o1, u1) → fieldOff fs j = some (o2, u2) → i < j → o1 + u1.size ≤ o2
  | [], _, _, _, _, _, _, h, _, _ => by simp [fieldOff] at h
  | t :: ts, i, 0, _, _, _, _, _, _, h => by omega
  | t :: ts, 0, j + 1, o1, o2, u1, u2, h1, h2, _ => by
    simp only [fieldOff, Option.some.injEq, Prod.mk.injEq] at h1
    obtain ⟨rfl, rfl⟩ := h1
    simp only [fieldOff] at h2
    cases hf : fieldOff ts j with
    | none => simp [hf] at h2
    | some y =>
      simp only [hf, Option.some.injEq, Prod.mk.injEq] at h2
      rw [← h2.1]; omega
  | t :: ts, i + 1, j + 1, o1, o2, u1, u2, h1, h2, hl => by
    simp only [fieldOff] at h1 h2
    cases hf : fieldOff ts i with
    | none => simp [hf] at h1
    | some y =>
      cases hg : fieldOff ts j with
      | none => simp [hg] at h2
      | some z =>
        obtain ⟨y1, y2⟩ := y
        obtain ⟨z1, z2⟩ := z
        simp only [hf, hg, Option.some.injEq, Prod.mk.injEq] at h1 h2
        obtain ⟨rfl, rfl⟩ := h1
        obtain ⟨rfl, rfl⟩ := h2
        have := fieldOff_lt' hf hg (by omega)
        omega

theorem sub_bound {ty u : Ty} {k off : Nat} (h : ty.sub k = some (off, u)) : off + u.size ≤ ty.size := by
  cases ty <;> simp only [Ty.sub, reduceCtorEq] at h
  · rw [Ty.size]; exact fieldOff_bound h
  · rename_i n e
    split at h
    · rename_i hk
      injection h with h; injection h with h1 h2; subst h1 h2
      rw [Ty.size, ← Nat.succ_mul]; exact Nat.mul_le_mul_right _ hk
    · simp at h

theorem sub_lt {ty u1 u2 : Ty} {i j o1 o2 : Nat} (h1 : ty.sub i = some (o1, u1)) (h2 : ty.sub j = some (o2, u2)) (h : i < j) : o1 + u1.size ≤ o2 := by
  cases ty <;> simp only [Ty.sub, reduceCtorEq] at h1 h2
  · exact fieldOff_lt' h1 h2 h
  · rename_i n e
    split at h1
    · split at h2
      · injection h1 with h1; injection h1 with h1 h1'; subst h1 h1'
        injection h2 with h2; injection h2 with h2 h2'; subst h2 h2'
        rw [← Nat.succ_mul]; exact Nat.mul_le_mul_right _ h
      · simp at h2
    · simp at h1

theorem at_cons {ty u : Ty} {k off : Nat} {q : List Nat} (h : ty.at (k :: q) = some (off, u)) : ∃ o1 t1 o2, ty.sub k = some (o1, t1) ∧ t1.at q = some (o2, u) ∧ off = o1 + o2 := by
  simp only [Ty.at] at h
  cases h1 : ty.sub k with
  | none => simp [h1] at h
  | some y =>
    obtain ⟨o1, t1⟩ := y
    simp only [h1] at h
    cases h2 : t1.at q with
    | none => simp [h2] at h
    | some z =>
      obtain ⟨o2, t2⟩ := z
      simp only [h2, Option.some.injEq, Prod.mk.injEq] at h
      obtain ⟨rfl, rfl⟩ := h
      exact ⟨o1, t1, o2, rfl, h2, rfl⟩

theorem at_bound : ∀ {q : List Nat} {ty u : Ty} {off : Nat}, ty.at q = some (off, u) → off + u.size ≤ ty.size
  | [], ty, u, off, h => by
    simp only [Ty.at, Option.some.injEq, Prod.mk.injEq] at h
    obtain ⟨rfl, rfl⟩ := h; omega
  | k :: q, ty, u, off, h => by
    obtain ⟨o1, t1, o2, h1, h2, rfl⟩ := at_cons h
    have := sub_bound h1
    have := at_bound h2
    omega

theorem at_apart : ∀ {p q : List Nat} {ty u1 u2 : Ty} {o1 o2 : Nat}, ty.at p = some (o1, u1) → ty.at q = some (o2, u2) → ¬ p <+: q → ¬ q <+: p → o1 + u1.size ≤ o2 ∨ o2 + u2.size ≤ o1
  | [], q, _, _, _, _, _, _, _, h, _ => absurd (List.nil_prefix) h
  | p, [], _, _, _, _, _, _, _, _, h => absurd (List.nil_prefix) h
  | i :: p, j :: q, ty, u1, u2, o1, o2, h1, h2, n1, n2 => by
    obtain ⟨a1, t1, a2, e1, e2, rfl⟩ := at_cons h1
    obtain ⟨b1, t2, b2, f1, f2, rfl⟩ := at_cons h2
    have := at_bound e2
    have := at_bound f2
    rcases Nat.lt_trichotomy i j with h | h | h
    · have := sub_lt e1 f1 h; omega
    · subst h
      rw [e1] at f1; injection f1 with f1; injection f1 with f1 f1'; subst f1 f1'
      have := at_apart e2 f2 (by intro h; exact n1 (List.cons_prefix_cons.2 ⟨rfl, h⟩)) (by intro h; exact n2 (List.cons_prefix_cons.2 ⟨rfl, h⟩))
      omega
    · have := sub_lt f1 e1 h; omega

theorem at_leaf : ∀ {p : List Nat} {ty : Ty} {o1 e : Nat} {k : Nat} {s : List Nat}, ty.at p = some (o1, .sl e) → ty.at (p ++ k :: s) = none
  | [], ty, o1, e, k, s, h => by
    simp only [Ty.at, Option.some.injEq, Prod.mk.injEq] at h
    obtain ⟨rfl, rfl⟩ := h
    simp [Ty.at, Ty.sub]
  | i :: p, ty, o1, e, k, s, h => by
    obtain ⟨a1, t1, a2, e1, e2, rfl⟩ := at_cons h
    simp [Ty.at, e1, at_leaf e2]

theorem OwnV.touch {b : Nat} {w' : World} {ow : Owner} {ty : Ty} {val : Value} {ob : Nat} (hk : g.kind b = .obj ob) (hsz : w.heap.size ≤ w'.heap.size) (hh : ∀ b', b' ≠ b → w'.heap[b']? = w.heap[b']?) (h : OwnV cx.T g w ow ty val) :
    OwnV cx.T g w' ow ty val := by
  obtain ⟨e, u, h1, h2, h⟩ := h
  refine ⟨e, u, h1, h2, ?_⟩
  rcases h with h | ⟨b2, len, cap, c, et, fr, h3, h4, h5, h6, h7, h8, h9⟩
  · exact .inl h
  · have hne : b2 ≠ b := by rintro rfl; rw [hk] at h5; simp at h5
    exact .inr ⟨b2, len, cap, c, et, fr, h3, Nat.lt_of_lt_of_le h4 hsz, h5, (hh b2 hne).trans h6, h7, h8, fun j hj => (frozen_of_heap (hh b2 hne)).trans (h9 j hj)⟩

theorem store_owed1 (G : Good P cx) {t : Nat} {x y : Operand} {ob : Nat} {p : List Nat} {ty : Ty} {v : V} {os' : List Ob} (hop : o.op = .store t x y) (hi : Inv cx.T g w st a) (hT : cx.T t = some ty) (hx : opd st .ptr x = some (.ptr ob p))
    (hy : opd st ty y = some v) (hst : stash st.os ob p ty v (owns st y) = some os') (hs : ((st.withEnv (disown st.env y)).newOs os').set o.dst .un = some st') : Owed P cx g w st' a o := by
  cases p with
  | nil => simp [stash] at hst
  | cons i q =>
    simp only [stash] at hst
    cases hob : st.os[ob]? with
    | none => simp [hob] at hst
    | some z =>
      cases z with
      | dead => simp [hob] at hst
      | mapo k e es => simp [hob] at hst
      | row rt vs own =>
        simp only [hob] at hst
        cases hat : rt.at q with
        | none => simp [hat] at hst
        | some z =>
          obtain ⟨off, u⟩ := z
          cases hvi : vs[i]? with
          | none => simp [hat, hvi] at hst
          | some vi =>
            simp only [hat, hvi] at hst
            split at hst
            · rename_i hb
              obtain rfl := Ty.eq_of_beq _ _ hb
              cases hput : vi.put q v with
              | none => simp [hput] at hst
              | some v2 =>
                simp only [hput, Option.some.injEq] at hst
                subst hst
                obtain ⟨g1, k1, k2, k3, k4, k5⟩ := hi.hand hy (.place ob (i :: q))
                obtain ⟨ds, hds, ey⟩ := (opd_sound hi hy).mono k2.ext
                obtain ⟨b, c, et, fr, cs, sp, h1, h2, h3, h4, h5, h6, h7, h8⟩ := k3.os.ob ob _ hob
                have h1' : g.rho ob = some (b, rt) := by rw [← k1]; exact h1
                have ex := ptr_of hi hx rfl h1' hat
                obtain ⟨r1, r2⟩ := row_put h7 hvi hat hds hput
                have hlc : cs.length ≤ c.size := by
                  have := congrArg List.length h6
                  simp only [Array.length_toList, List.length_append] at this
                  omega
                have hdl := hds.len
                have hl : i * rt.size + off + ds.length ≤ c.size := by omega
                have hrun := (G.ty t _ hT).run_storeVar (P := P) hds h4 (off := i * rt.size + off) (by omega) h5
                obtain ⟨f1, f2, f3, f4⟩ := setCells_facts (b := b) ds w (i * rt.size + off)
                obtain ⟨c', s1, s2⟩ := setCells_same ds w (i * rt.size + off) c et fr h4 hl
                generalize hw2 : setCells w b (i * rt.size + off) ds = w2 at *
                have hstep : Step g1 w g1 w2 := by
                  refine ⟨by omega, fun _ _ h => h, ?_, ?_, ?_, fun _ _ _ h => h, f2, f3⟩
                  · intro b' _ hk
                    have : b' ≠ b := by rintro rfl; rw [h3] at hk; simp at hk
                    exact ⟨hk, f4 b' this⟩
                  · intro b' n _ hk
                    have : b' ≠ b := by rintro rfl; rw [h3] at hk; simp at hk
                    exact ⟨hk, f4 b' this⟩
                  · intro b' n ow _ hk
                    have : b' ≠ b := by rintro rfl; rw [h3] at hk; simp at hk
                    exact ⟨n, some ow, Nat.le_refl _, hk, fun _ _ => cell_of_heap (f4 b' this)⟩
                refine Owed.skip (g' := g1) (w' := w2) (st1 := (st.withEnv (disown st.env y)).newOs (st.os.set ob (.row rt (vs.set i v2) ((if owns st y then [i :: q] else []) ++ own.filter fun r => !(i :: q).isPrefixOf r))))
                  ?_ ⟨k3.tm, k3.df, ?_, k3.newOrgs, ?_, ?_⟩ hs (k2.trans hstep)
                · simp [execOp, hop, Instr.storeAt, ex, Instr.sureAddr, ey, hrun]
                · intro t' e he
                  have he2 : (disown st.env y).get t' = some e := he
                  have := k3.env t' e he2
                  cases e with
                  | tup l => obtain ⟨vals, m1, m2⟩ := this; exact ⟨vals, m1, m2.mono hstep.ext⟩
                  | un => exact this
                  | one ty2 v3 own2 =>
                    obtain ⟨m1, m2⟩ := this
                    exact ⟨m1.mono hstep.ext, fun e => (m2 e).touch h3 (by omega) f4⟩
                · intro o' x' hx0
                  have hx' : (st.os.set ob (.row rt (vs.set i v2) ((if owns st y then [i :: q] else []) ++ own.filter fun r => !(i :: q).isPrefixOf r)))[o']? = some x' := hx0
                  clear hx0
                  simp only [List.getElem?_set] at hx'
                  split at hx'
                  · rename_i heq
                    subst heq
                    have hlt : ob < st.os.length := (List.getElem?_eq_some_iff.1 hob).1
                    simp only [hlt, if_true, Option.some.injEq] at hx'
                    subst hx'
                    have hci : ∀ j, j < c'.size → j < c.size := by
                      intro j hj
                      have := congrArg List.length s2
                      simp only [Array.length_toList, List.length_append, List.length_take, List.length_drop] at this
                      omega
                    refine ⟨b, c', et, fr, _, sp, h1, by omega, h3, s1, ?_, ?_, (by rw [List.length_set]; exact r1.mono hstep.ext), ?_⟩
                    · intro j hj
                      rw [← hw2, frozen_setCells]; exact h5 j (hci j hj)
                    · rw [s2, h6, List.take_append_of_le_length (by omega), List.drop_append_of_le_length (by omega), hdl]
                      simp
                    · intro r hr
                      rcases List.mem_append.1 hr with hr | hr
                      · split at hr
                        · rename_i ho
                          have : r = i :: q := by simpa using hr
                          subst this
                          obtain ⟨m1, m2⟩ := k4 ho
                          have hna : u.isAgg = false := by cases u <;> simp_all [isSl, Ty.isAgg]
                          obtain ⟨cc, hc, _⟩ := hds.single hna
                          subst hc
                          have hval : a.eval y = cc := by rw [ey]; exact ofCells_one hna cc
                          refine ⟨i, q, off, u, cc, rfl, hat, ?_, ?_⟩
                          · have hh : Has w2 b 0 (c.toList.take (i * rt.size + off) ++ [cc]) := has_of_list s1 (pre := []) (sp := c.toList.drop (i * rt.size + off + 1)) (by rw [s2]; simp)
                            have := (Has.append.1 hh).2.1
                            rw [List.length_take, Nat.min_eq_left (by simp; omega), Nat.zero_add] at this
                            exact this
                          · rw [hval] at m1
                            exact m1.touch h3 (by omega) f4
                        · simp at hr
                      · obtain ⟨hr1, hr2⟩ := List.mem_filter.1 hr
                        obtain ⟨i2, q2, off2, u2, val, m1, m2, m3, m4⟩ := h8 r hr1
                        refine ⟨i2, q2, off2, u2, val, m1, m2, ?_, m4.touch h3 (by omega) f4⟩
                        rw [← hw2, cell_setCells h4 hl]
                        · exact m3
                        · obtain ⟨e, ue, hu2, _⟩ := m4
                          subst hu2 m1
                          have hpre : ¬ (i :: q) <+: (i2 :: q2) := by
                            intro h
                            have := List.isPrefixOf_iff_prefix.2 h
                            rw [this] at hr2; simp at hr2
                          have hpre2 : ¬ (i2 :: q2) <+: (i :: q) := by
                            rintro ⟨s, hs⟩
                            cases s with
                            | nil => rw [List.append_nil] at hs; exact hpre ⟨[], by rw [List.append_nil]; exact hs.symm⟩
                            | cons k s =>
                              have hs2 := hs
                              simp only [List.cons_append, List.cons.injEq] at hs2
                              rw [← hs2.2, at_leaf m2] at hat
                              simp at hat
                          have bd1 := at_bound hat
                          have bd2 := at_bound m2
                          have sz1 : (Ty.sl e).size = 1 := rfl
                          rw [hdl]
                          rcases Nat.lt_trichotomy i i2 with h | h | h
                          · right
                            have : (i + 1) * rt.size ≤ i2 * rt.size := Nat.mul_le_mul_right _ h
                            rw [Nat.succ_mul] at this
                            omega
                          · subst h
                            have := at_apart hat m2 (by intro h; exact hpre (List.cons_prefix_cons.2 ⟨rfl, h⟩)) (by intro h; exact hpre2 (List.cons_prefix_cons.2 ⟨rfl, h⟩))
                            omega
                          · left
                            have : (i2 + 1) * rt.size ≤ i * rt.size := Nat.mul_le_mul_right _ h
                            rw [Nat.succ_mul] at this
                            omega
                  · rename_i hne
                    have := k3.os.ob o' x' hx'
                    cases x' with
                    | dead => trivial
                    | mapo k e es =>
                      obtain ⟨b2, ty2, ents, clock, n1, n2, n3, n4, n5⟩ := this
                      have hne2 : b2 ≠ b := by
                        rintro rfl
                        rw [h3] at n3; injection n3 with n3
                        exact hne n3
                      exact ⟨b2, ty2, ents, clock, n1, by omega, n3, (f4 b2 hne2).trans n4, n5.mono hstep.ext⟩
                    | row rt2 vs2 own2 =>
                      obtain ⟨b2, c2, et2, fr2, cs2, sp2, n1, n2, n3, n4, n5, n6, n7, n8⟩ := this
                      have hne2 : b2 ≠ b := by
                        rintro rfl
                        rw [h3] at n3; injection n3 with n3
                        exact hne n3
                      refine ⟨b2, c2, et2, fr2, cs2, sp2, n1, by omega, n3, (f4 b2 hne2).trans n4, fun j hj => (frozen_of_heap (f4 b2 hne2)).trans (n5 j hj), n6, n7.mono hstep.ext, ?_⟩
                      intro r hr
                      obtain ⟨i2, q2, off2, u2, val, m1, m2, m3, m4⟩ := n8 r hr
                      exact ⟨i2, q2, off2, u2, val, m1, m2, (cell_of_heap (f4 b2 hne2)).trans m3, m4.touch h3 (by omega) f4⟩
                · intro o' ho0
                  have ho' : (st.os.set ob (.row rt (vs.set i v2) ((if owns st y then [i :: q] else []) ++ own.filter fun r => !(i :: q).isPrefixOf r))).length ≤ o' := ho0
                  rw [List.length_set] at ho'
                  exact k3.os.new o' ho'
            · simp at hst

theorem store_owed (G : Good P cx) {t : Nat} {x y : Operand} (hop : o.op = .store t x y) (hi : Inv cx.T g w st a) (h : storeEv st o.dst x y (cx.T t) = some st') : Owed P cx g w st' a o := by
  cases hT : cx.T t with
  | none => simp [hT, storeEv] at h
  | some ty =>
    simp only [hT, storeEv] at h
    split at h
    · rename_i ob p hx
      cases hy : opd st ty y with
      | none => simp [hy] at h
      | some v =>
        simp only [hy] at h
        cases hst : stash st.os ob p ty v (owns st y) with
        | none => simp [hst] at h
        | some os' =>
          simp only [hst] at h
          exact store_owed1 G hop hi hT hx hy hst h
    · simp at h
end
end Go.Vm
