/- Maps. -/
import Derived.Test.YtjbehmedbefbpaaGreatVmOpsJ
import Derived.MapKept
set_option linter.unusedVariables false
set_option linter.unusedSimpArgs false
namespace Go.Vm
open Go

section
variable {P : Program} {cx : Cx} {g : Gh} {w : World} {st st' : St} {a : Act} {o : Oper} {T : TR}

def keyDesc : Ty → Option TypeDesc
  | .int k => some (.int k)
  | .str => some .string
  | .bool => some .bool
  | _ => none

theorem key_is {kt : Ty} {d : TypeDesc} (hd : keyDesc kt = some d) {v : V} {x : Value} (h : ValR T g w kt v x) : MapKept.IsKey d x := by
  cases kt <;> simp only [keyDesc, reduceCtorEq, Option.some.injEq] at hd <;> subst hd
  · obtain ⟨b, _, rfl⟩ := valR_bool h; trivial
  · rcases valR_int h with ⟨n, _, rfl⟩ | ⟨n, _, rfl⟩ <;> rfl
  · rcases valR_str h with ⟨s, _, rfl⟩ | ⟨s, _, _, rfl, _⟩ <;> trivial

theorem key_desc (G : Good P cx) {k : Nat} {kt : Ty} (hT : cx.T k = some kt) (hk : isKey kt = true) : ∃ d, keyDesc kt = some d ∧ P.underlying k = some d := by
  have hd := (G.ty k _ hT).desc
  cases kt <;> simp only [isKey, Bool.false_eq_true] at hk <;> simp only [DescOk] at hd <;> exact ⟨_, rfl, hd⟩

theorem data_inj {x y : ByteArray} (h : x.data.toList = y.data.toList) : x = y := by
  apply ByteArray.ext
  rw [← Array.toList_inj]; exact h

theorem same_eq {kt : Ty} {d : TypeDesc} (hd : keyDesc kt = some d) {v u : V} {x y : Value} (hx : ValR T g w kt v x) (hy : ValR T g w kt u y) {r : Bool} (h : keyEq kt v u = some r) :
    Instr.sameNow d x y = some r ∧ (r = true → y = x) := by
  cases kt <;> simp only [keyDesc, reduceCtorEq, Option.some.injEq] at hd <;> subst hd
  · obtain ⟨b, rfl, rfl⟩ := valR_bool hx
    obtain ⟨c, rfl, rfl⟩ := valR_bool hy
    simp only [keyEq, Option.some.injEq] at h
    subst h
    exact ⟨rfl, fun h => by rw [beq_iff_eq] at h; rw [h]⟩
  · rcases valR_int hx with ⟨b, rfl, rfl⟩ | ⟨b, rfl, rfl⟩
    case inr => simp [keyEq] at h
    rcases valR_int hy with ⟨c, rfl, rfl⟩ | ⟨c, rfl, rfl⟩
    case inr => simp [keyEq] at h
    simp only [keyEq, Option.some.injEq] at h
    subst h
    exact ⟨by simp [Instr.sameNow], fun h => by rw [beq_iff_eq] at h; rw [h]⟩
  · rcases valR_str hx with ⟨b, rfl, rfl⟩ | ⟨b, l, rfl, rfl, _⟩
    case inr => simp [keyEq] at h
    rcases valR_str hy with ⟨c, rfl, rfl⟩ | ⟨c, l, rfl, rfl, _⟩
    case inr => simp [keyEq] at h
    simp only [keyEq, Option.some.injEq] at h
    subst h
    refine ⟨?_, fun h => by rw [beq_iff_eq] at h; rw [data_inj h]⟩
    simp only [Instr.sameNow, Option.some.injEq]
    rw [Bool.eq_iff_iff, MapKept.bytes_beq, beq_iff_eq]
    exact ⟨fun h => by rw [h], data_inj⟩

theorem find_sound {kt et : Ty} {d : TypeDesc} (hd : keyDesc kt = some d) {key : V} {kv : Value} (hk : ValR T g w kt key kv) :
    ∀ {xs : List MapEntry} {ys : List (V × V)} {i : Nat} {r : Option (Nat × V)}, EntsR T g w kt et xs ys → findV kt key ys i = some r →
      (r = none ∧ Instr.findNow d kv xs i = some none) ∨ ∃ j v x, r = some (i + j, v) ∧ xs[j]? = some x ∧ Instr.findNow d kv xs i = some (some (i + j, x.val)) ∧ x.key = kv ∧ ValR T g w et v x.val
  | [], [], i, r, _, h => by
    simp only [findV, Option.some.injEq] at h
    exact .inl ⟨h.symm, rfl⟩
  | x :: xs, y :: ys, i, r, he, h => by
    obtain ⟨h1, h2, h3⟩ := he
    obtain ⟨y1, y2⟩ := y
    simp only [findV] at h
    cases hq : keyEq kt key y1 with
    | none => simp [hq] at h
    | some b =>
      obtain ⟨q1, q2⟩ := same_eq hd hk h1 hq
      cases b with
      | true =>
        simp only [hq, Option.some.injEq] at h
        subst h
        exact .inr ⟨0, y2, x, rfl, rfl, by simp [Instr.findNow, q1], q2 rfl, h2⟩
      | false =>
        simp only [hq] at h
        rcases find_sound hd hk h3 h with ⟨e1, e2⟩ | ⟨j, v, x', e1, e2, e3, e4, e5⟩
        · exact .inl ⟨e1, by simp [Instr.findNow, q1, e2]⟩
        · refine .inr ⟨j + 1, v, x', ?_, by simpa using e2, ?_, e4, e5⟩
          · rw [e1]; congr 2; omega
          · simp only [Instr.findNow, q1, e3]; congr 3; omega
  | [], _ :: _, _, _, h, _ => h.elim
  | _ :: _, [], _, _, h, _ => h.elim

theorem lookup_owed (G : Good P cx) {t : Nat} {m x : Operand} {ok : Bool} (hop : o.op = .lookup t m x ok) (hi : Inv cx.T g w st a) (h : lookupAny st o.dst ok (lookupEv cx st t m x) = some st') : Owed P cx g w st' a o := by
  cases hl : lookupEv cx st t m x with
  | none => simp [hl, lookupAny] at h
  | some r =>
    obtain ⟨ty, v, is⟩ := r
    simp only [hl, lookupAny] at h
    -- what the model answers
    have key : ∃ val, ValR cx.T g w ty v val ∧ (Instr.lookup t (a.eval m) (a.eval x) ok).run P w = .ok (if ok then .tuple #[val, .bool is] else val) w := by
      unfold lookupEv at hl
      split at hl
      · rename_i k e hT
        split at hl
        · rename_i kt et hk he
          split at hl
          · rename_i hik
            have hm := (G.ty t _ hT).desc
            simp only [DescOk] at hm
            obtain ⟨d, hd1, hd2⟩ := key_desc G hk hik
            have hz : ValR cx.T g w et et.zeroV (ofCells et et.zeroC) := ⟨_, VR.zero et, rfl⟩
            split at hl
            · rename_i kv hmm hxx
              simp only [Option.some.injEq, Prod.mk.injEq] at hl
              obtain ⟨rfl, rfl, rfl⟩ := hl
              obtain ⟨cs, hcs, em⟩ := opd_sound hi hmm
              cases hcs
              have em' : a.eval m = .map none := by simpa [ofCells, Ty.isAgg] using em
              have hkx := key_is hd1 (opd_sound hi hxx)
              refine ⟨_, hz, ?_⟩
              have hf : Instr.findNow d (a.eval x) [] 0 = some none := rfl
              simp [Instr.lookup, run_underlying hm, em', MapKept.run_checkKey hd2 hkx, MapKept.run_findKey hd2 hf, (G.ty e _ he).run_zero]
            · rename_i ob kv hmm hxx
              split at hl
              · rename_i kt' et' es hob
                split at hl
                · rename_i hb
                  simp only [Bool.and_eq_true] at hb
                  obtain rfl := Ty.eq_of_beq _ _ hb.1
                  obtain rfl := Ty.eq_of_beq _ _ hb.2
                  obtain ⟨cs, hcs, em⟩ := opd_sound hi hmm
                  cases hcs with
                  | @mp _ _ _ b ty2 r1 r2 r3 =>
                    obtain ⟨b', ty3, ents, clock, s1, s2, s3, s4, s5⟩ := hi.os.ob ob _ hob
                    rw [r1] at s1; injection s1 with s1; injection s1 with s1 s1'; subst s1 s1'
                    have em' : a.eval m = .map (some b) := by simpa [ofCells, Ty.isAgg] using em
                    have hkx := key_is hd1 (opd_sound hi hxx)
                    split at hl
                    · rename_i i v' hfv
                      simp only [Option.some.injEq, Prod.mk.injEq] at hl
                      obtain ⟨rfl, rfl, rfl⟩ := hl
                      rcases find_sound hd1 (opd_sound hi hxx) s5 hfv with ⟨e1, _⟩ | ⟨j, v2, x', e1, e2, e3, e4, e5⟩
                      · simp at e1
                      · injection e1 with e1; injection e1 with e1 e1'; subst e1'
                        refine ⟨_, e5, ?_⟩
                        simp [Instr.lookup, run_underlying hm, em', MapKept.run_getObj_map s4, MapKept.run_checkKey hd2 hkx, MapKept.run_findKey hd2 e3]
                    · rename_i hfv
                      simp only [Option.some.injEq, Prod.mk.injEq] at hl
                      obtain ⟨rfl, rfl, rfl⟩ := hl
                      rcases find_sound hd1 (opd_sound hi hxx) s5 hfv with ⟨_, e2⟩ | ⟨j, v2, x', e1, _⟩
                      · refine ⟨_, hz, ?_⟩
                        simp [Instr.lookup, run_underlying hm, em', MapKept.run_getObj_map s4, MapKept.run_checkKey hd2 hkx, MapKept.run_findKey hd2 e2, (G.ty e _ he).run_zero]
                      · simp at e1
                    · simp at hl
                · simp at hl
              · simp at hl
            · simp at hl
          · simp at hl
        · simp at hl
      · simp at hl
    obtain ⟨val, hv, hr⟩ := key
    cases ok with
    | false =>
      simp only at h
      exact Owed.pure hi h (val := val) (by simp [execOp, hop, hr]) hv
    | true =>
      simp only at h
      refine Owed.value (val := .tuple #[val, .bool is]) (by simp [execOp, hop, hr]) hi h (fun _ _ => ⟨#[val, .bool is], rfl, hv, .bool is, trivial⟩) (Step.refl g w)

theorem makeMap_owed (G : Good P cx) {t : Nat} (hop : o.op = .makeMap t none) (hi : Inv cx.T g w st a) (h : mkMapEv cx st o.dst (cx.T t) = some st') : Owed P cx g w st' a o := by
  unfold mkMapEv at h
  split at h
  · split at h
    · rename_i k e _ kt et _ _
      have ko := keep_obj hi.os (.map #[] 0) .bool
      have hi' : Inv cx.T (g.obj st.os.length w.heap.size .bool) (w.alloc (.map #[] 0)) (st.withOs (st.os ++ [Ob.mapo kt et []])) a := by
        refine ⟨hi.tm, hi.df, fun t x hx => (hi.env t x hx).keep ko, fun x hx => (hi.orgs x hx).keep ko, ?_, ?_⟩
        · intro o x hx0
          have hx : (st.os ++ [Ob.mapo kt et []])[o]? = some x := hx0
          rw [List.getElem?_append] at hx
          split at hx
          · exact (hi.os.ob o x hx).keep ko
          · rename_i hlt
            have ho : o = st.os.length := by
              rcases Nat.lt_trichotomy o st.os.length with h1 | h1 | h1
              · exact absurd h1 hlt
              · exact h1
              · rw [List.getElem?_eq_none (by simp; omega)] at hx; simp at hx
            subst ho
            simp only [Nat.sub_self, List.getElem?_cons_zero, Option.some.injEq] at hx
            subst hx
            exact ⟨w.heap.size, .bool, #[], 0, by simp [Gh.obj], by simp, by simp [Gh.obj], heap_alloc_new, trivial⟩
        · intro o ho0
          have ho : (st.os ++ [Ob.mapo kt et []]).length ≤ o := ho0
          simp only [List.length_append, List.length_cons, List.length_nil] at ho
          have : o ≠ st.os.length := by omega
          simp [Gh.obj, this, hi.os.new o (by omega)]
      refine Owed.value (val := .map (some w.heap.size)) ?_ hi' h ?_ ko.step
      · simp [execOp, hop, Instr.makeMap, newObj, Sem.run, World.alloc_eq]
      · intro d _
        exact ⟨⟨_, VR.mp (o := st.os.length) (b := w.heap.size) (ty := .bool) (by simp [Gh.obj]) (by simp) (by simp [Gh.obj]), by simp [ofCells, Ty.isAgg]⟩, by simp⟩
    · simp at h
  · simp at h

theorem touch_step {w' : World} {b ob : Nat} (hk : g.kind b = .obj ob) (hsz : w'.heap.size = w.heap.size) (hh : ∀ b', b' ≠ b → w'.heap[b']? = w.heap[b']?) (ho : w'.os = w.os) (hp : w'.output = w.output) : Step g w g w' := by
  refine ⟨by omega, fun _ _ h => h, ?_, ?_, ?_, fun _ _ _ h => h, ho, hp⟩
  · intro b' _ hk'
    have : b' ≠ b := by rintro rfl; rw [hk] at hk'; simp at hk'
    exact ⟨hk', hh b' this⟩
  · intro b' n _ hk'
    have : b' ≠ b := by rintro rfl; rw [hk] at hk'; simp at hk'
    exact ⟨hk', hh b' this⟩
  · intro b' n ow _ hk'
    have : b' ≠ b := by rintro rfl; rw [hk] at hk'; simp at hk'
    exact ⟨n, some ow, Nat.le_refl _, hk', fun _ _ => cell_of_heap (hh b' this)⟩

theorem Inv.touch {w' : World} {b ob : Nat} {x : Ob} (hi : Inv cx.T g w st a) (hk : g.kind b = .obj ob) (hsz : w'.heap.size = w.heap.size) (hh : ∀ b', b' ≠ b → w'.heap[b']? = w.heap[b']?) (ho : w'.os = w.os) (hp : w'.output = w.output)
    (hlt : ob < st.os.length) (hx : ObR cx.T g w' ob x) : Inv cx.T g w' (st.newOs (st.os.set ob x)) a := by
  have hstep := touch_step hk hsz hh ho hp
  refine ⟨hi.tm, hi.df, ?_, hi.newOrgs, ?_, ?_⟩
  · intro t e he
    have := hi.env t e he
    cases e with
    | tup l => obtain ⟨vals, m1, m2⟩ := this; exact ⟨vals, m1, m2.mono hstep.ext⟩
    | un => exact this
    | one ty2 v3 own2 =>
      obtain ⟨m1, m2⟩ := this
      exact ⟨m1.mono hstep.ext, fun e => (m2 e).touch hk (by omega) hh⟩
  · intro o' x' hx0
    have hx' : (st.os.set ob x)[o']? = some x' := hx0
    clear hx0
    simp only [List.getElem?_set] at hx'
    split at hx'
    · rename_i heq
      subst heq
      simp only [hlt, if_true, Option.some.injEq] at hx'
      subst hx'
      exact hx
    · rename_i hne
      have := hi.os.ob o' x' hx'
      cases x' with
      | dead => trivial
      | mapo k e es =>
        obtain ⟨b2, ty2, ents, clock, n1, n2, n3, n4, n5⟩ := this
        have hne2 : b2 ≠ b := by
          rintro rfl
          rw [hk] at n3; injection n3 with n3
          exact hne n3
        exact ⟨b2, ty2, ents, clock, n1, by omega, n3, (hh b2 hne2).trans n4, n5.mono hstep.ext⟩
      | row rt2 vs2 own2 =>
        obtain ⟨b2, c2, et2, fr2, cs2, sp2, n1, n2, n3, n4, n5, n6, n7, n8⟩ := this
        have hne2 : b2 ≠ b := by
          rintro rfl
          rw [hk] at n3; injection n3 with n3
          exact hne n3
        refine ⟨b2, c2, et2, fr2, cs2, sp2, n1, by omega, n3, (hh b2 hne2).trans n4, fun j hj => (frozen_of_heap (hh b2 hne2)).trans (n5 j hj), n6, n7.mono hstep.ext, ?_⟩
        intro r hr
        obtain ⟨i2, q2, off2, u2, val, m1, m2, m3, m4⟩ := n8 r hr
        exact ⟨i2, q2, off2, u2, val, m1, m2, (cell_of_heap (hh b2 hne2)).trans m3, m4.touch hk (by omega) hh⟩
  · intro o' ho0
    have ho' : (st.os.set ob x).length ≤ o' := ho0
    rw [List.length_set] at ho'
    exact hi.os.new o' ho'

theorem entsR_set {k e : Ty} : ∀ {xs : List MapEntry} {ys : List (V × V)} {j : Nat} {x : MapEntry} {y : V × V}, EntsR T g w k e xs ys → ValR T g w k y.1 x.key → ValR T g w e y.2 x.val → EntsR T g w k e (xs.set j x) (ys.set j y)
  | [], [], _, _, _, _, _, _ => trivial
  | _ :: _, _ :: _, 0, _, _, h, h1, h2 => ⟨h1, h2, h.2.2⟩
  | _ :: _, _ :: _, j + 1, _, _, h, h1, h2 => ⟨h.1, h.2.1, entsR_set (j := j) h.2.2 h1 h2⟩
  | [], _ :: _, _, _, _, h, _, _ => h.elim
  | _ :: _, [], _, _, _, h, _, _ => h.elim

theorem entsR_push {k e : Ty} : ∀ {xs : List MapEntry} {ys : List (V × V)} {x : MapEntry} {y : V × V}, EntsR T g w k e xs ys → ValR T g w k y.1 x.key → ValR T g w e y.2 x.val → EntsR T g w k e (xs ++ [x]) (ys ++ [y])
  | [], [], _, _, _, h1, h2 => ⟨h1, h2, trivial⟩
  | _ :: _, _ :: _, _, _, h, h1, h2 => ⟨h.1, h.2.1, entsR_push h.2.2 h1 h2⟩
  | [], _ :: _, _, _, h, _, _ => h.elim
  | _ :: _, [], _, _, h, _, _ => h.elim

theorem mapUpdate_owed (G : Good P cx) {t : Nat} {m x y : Operand} (hop : o.op = .mapUpdate t m x y) (hi : Inv cx.T g w st a) (h : updAny st o.dst (updEv cx st t m x y) = some st') : Owed P cx g w st' a o := by
  cases hl : updEv cx st t m x y with
  | none => simp [hl, updAny] at h
  | some os =>
    simp only [hl, updAny] at h
    unfold updEv at hl
    split at hl
    · rename_i k e hT
      split at hl
      · rename_i kt et hk he
        split at hl
        · rename_i hik
          have hm := (G.ty t _ hT).desc
          simp only [DescOk] at hm
          obtain ⟨d, hd1, hd2⟩ := key_desc G hk hik
          split at hl
          · rename_i ob kv v hmm hxx hyy
            split at hl
            · rename_i kt' et' es hob
              split at hl
              · rename_i hb
                simp only [Bool.and_eq_true] at hb
                obtain rfl := Ty.eq_of_beq _ _ hb.1
                obtain rfl := Ty.eq_of_beq _ _ hb.2
                obtain ⟨cs, hcs, em⟩ := opd_sound hi hmm
                have hkr := opd_sound hi hxx
                have hvr := opd_sound hi hyy
                have hlt : ob < st.os.length := (List.getElem?_eq_some_iff.1 hob).1
                cases hcs with
                | @mp _ _ _ b ty2 r1 r2 r3 =>
                  obtain ⟨b', ty3, ents, clock, s1, s2, s3, s4, s5⟩ := hi.os.ob ob _ hob
                  rw [r1] at s1; injection s1 with s1; injection s1 with s1 s1'; subst s1 s1'
                  have em' : a.eval m = .map (some b) := by simpa [ofCells, Ty.isAgg] using em
                  have hkx := key_is hd1 hkr
                  have fin : ∀ (ob2 : Obj) (z : Ob), (Instr.mapUpdate t (a.eval m) (a.eval x) (a.eval y)).run P w = .ok () { w with heap := w.heap.setIfInBounds b ob2 } → os = st.os.set ob z →
                      (∀ w' : World, w' = { w with heap := w.heap.setIfInBounds b ob2 } → Step g w g w' → w'.heap[b]? = some ob2 → ObR cx.T g w' ob z) → Owed P cx g w st' a o := by
                    intro ob2 z hr hz hob2
                    subst hz
                    obtain ⟨hs1, hs2⟩ := MapKept.heap_set (o' := ob2) s4
                    have hst := touch_step (g := g) (w := w) (w' := { w with heap := w.heap.setIfInBounds b ob2 }) r3 (by simp) hs2 rfl rfl
                    exact Owed.skip (w' := { w with heap := w.heap.setIfInBounds b ob2 }) (by simp [execOp, hop, hr]) (hi.touch (w' := { w with heap := w.heap.setIfInBounds b ob2 }) r3 (by simp) hs2 rfl rfl hlt (hob2 _ rfl hst hs1)) h hst
                  split at hl
                  · rename_i i v' hfv
                    simp only [Option.some.injEq] at hl
                    subst hl
                    rcases find_sound hd1 hkr s5 hfv with ⟨e1, _⟩ | ⟨j, v2, x', e1, e2, e3, e4, e5⟩
                    · simp at e1
                    · injection e1 with e1; injection e1 with e1 e1'; subst e1'
                      rw [Nat.zero_add] at e1 e3
                      subst e1
                      refine fin (.map (ents.modify i fun e => { e with key := a.eval x, val := a.eval y }) clock) _ ?_ rfl ?_
                      · have e2' : ents[i]? = some x' := by rw [← Array.getElem?_toList]; exact e2
                        simp [Instr.mapUpdate, run_underlying hm, em', MapKept.run_getObj_map s4, MapKept.run_checkKey hd2 hkx, MapKept.run_findKey hd2 e3, e2', e4, MapKept.run_keyThatStays hkx, MapKept.run_setObj_map _ s4]
                      · intro w' _ hst hw
                        refine ⟨b, ty2, _, clock, r1, Nat.lt_of_lt_of_le s2 hst.size, r3, hw, ?_⟩
                        have hlist : (ents.modify i fun e => { e with key := a.eval x, val := a.eval y }).toList = ents.toList.set i { x' with key := a.eval x, val := a.eval y } := by
                          rw [Array.toList_modify]
                          apply List.ext_getElem?
                          intro q
                          rw [List.getElem?_modify, List.getElem?_set]
                          by_cases hq : i = q
                          · subst hq
                            have hlt2 : i < ents.toList.length := (List.getElem?_eq_some_iff.1 e2).1
                            rw [e2]
                            simp [hlt2]
                            simpa using hlt2
                          · simp [hq]
                        rw [hlist]
                        exact entsR_set (s5.mono hst.ext) (hkr.mono hst.ext) (hvr.mono hst.ext)
                  · rename_i hfv
                    simp only [Option.some.injEq] at hl
                    subst hl
                    rcases find_sound hd1 hkr s5 hfv with ⟨_, e2⟩ | ⟨j, v2, x', e1, _⟩
                    · refine fin (.map (ents.push { key := a.eval x, val := a.eval y, born := clock }) (clock + 1)) _ ?_ rfl ?_
                      · simp [Instr.mapUpdate, run_underlying hm, em', MapKept.run_getObj_map s4, MapKept.run_checkKey hd2 hkx, MapKept.run_findKey hd2 e2, MapKept.run_setObj_map _ s4]
                      · intro w' _ hst hw
                        refine ⟨b, ty2, _, _, r1, Nat.lt_of_lt_of_le s2 hst.size, r3, hw, ?_⟩
                        rw [Array.toList_push]
                        exact entsR_push (s5.mono hst.ext) (hkr.mono hst.ext) (hvr.mono hst.ext)
                    · simp at e1
                  · simp at hl
              · simp at hl
            · simp at hl
          · simp at hl
        · simp at hl
      · simp at hl
    · simp at hl
end
end Go.Vm
