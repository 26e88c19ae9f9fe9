/- Operations, one behind the other: what the evaluator answers, the model's run comes to. -/
import Derived.Test.YtjbehmedbefbpaaGreatVmCall
import Derived.Test.YtjbehmedbefbpaaGreatVmOpsK
import Derived.Test.YtjbehmedbefbpaaGreatVmSym
import Derived.Orders
set_option linter.unusedVariables false
set_option linter.unusedSimpArgs false
namespace Go.Vm
open Go

section
variable {P : Program} {cx : Cx} {g : Gh} {w : World} {st st' : St} {a : Act} {o : Oper}

theorem guardEv_sound (hi : Inv cx.T g w st a) {ops : Array Oper} {r : Bool} (h : guardEv ops st o.guard = some r) : Region.wanted o (yielded ops a.tmps) = r := by
  unfold Region.wanted
  cases hg : o.guard with
  | none => simp only [hg, guardEv, Option.some.injEq] at h; simpa using h
  | some jw =>
    obtain ⟨j, want⟩ := jw
    simp only [hg, guardEv] at h
    cases hd : (ops[j]?).bind (·.dst) with
    | none => simp [hd] at h
    | some d =>
      simp only [hd] at h
      cases he : st.env.get d with
      | none => simp [he] at h
      | some e =>
        have hev := hi.env d e he
        cases e with
        | tup l => simp [he] at h
        | un =>
          simp only [he, Option.some.injEq] at h
          subst h
          have hud : a.tmps.getD d undef = undef := hev
          simp only [yielded, hd, Option.bind_some]
          rw [Array.getD_eq_getD_getElem?] at hud
          cases ht : a.tmps[d]? with
          | none => rfl
          | some v =>
            rw [ht, Option.getD_some] at hud
            subst hud
            rfl
        | one ty v own =>
          cases ty <;> first | (simp [he] at h; done) | skip
          cases v <;> first | (simp [he] at h; done) | skip
          rename_i b
          simp only [he, Option.some.injEq] at h
          obtain ⟨b', hb, hv⟩ := valR_bool hev.1
          injection hb with hb
          subst hb
          rw [Array.getD_eq_getD_getElem?] at hv
          simp only [yielded, hd, Option.bind_some]
          cases ht : a.tmps[d]? with
          | none => rw [ht] at hv; simp [undef] at hv
          | some v =>
            rw [ht, Option.getD_some] at hv
            subst hv
            rw [← h]
            cases b <;> cases want <;> rfl

theorem callAny_sound (G : Good P cx) (X : Exts P cx) {call : Nat → List V → List Ob → Option (Rs × List Ob)} (HC : ∀ f vs os r os', call f vs os = some (r, os') → CallOK P cx f vs os r os') (hi : Inv cx.T g w st a)
    {c : Call} (hop : o.op = .call c) (h : callAny cx call o st c = some st') : Owed P cx g w st' a o := by
  unfold callAny at h
  split at h
  · rename_i f hc
    exact call_owed G X HC hop hc (by exact ⟨#[], rfl, .nil⟩) hi h
  · rename_i t hc
    split at h
    · rename_i f caps hx
      refine call_owed G X HC hop hc ?_ hi h
      obtain ⟨cs, hcs, ex⟩ := opd_sound hi hx
      cases hcs with
      | @fn _ cs _ hv => exact ⟨cs.toArray, by simpa [ofCells, Ty.isAgg] using ex, by simpa using hv⟩
    · simp at h
  · rename_i hc
    unfold lenAny at h
    split at h
    · rename_i ht hx
      split at h
      · rename_i hv
        unfold orElse at hv
        split at hv
        · rename_i hv'; injection hv with hv; subst hv; exact len_owed G hop hc ht hx hi hv' h
        · exact symLen_owed G hop hc ht hx hi hv h
      · simp at h
    · simp at h
  · rename_i hc
    unfold appAny at h
    split at h
    · rename_i ht hx
      exact append_owed G hop hc ht hx hi h
    · simp at h
  · rename_i hc
    unfold minmaxAny at h
    split at h
    · rename_i hk hxs
      split at h
      · rename_i hx
        split at h
        · rename_i hm; exact minmax_owed true hop hc hxs hi hx hm h
        · simp at h
      · simp at h
    · simp at h
  · rename_i hc
    unfold minmaxAny at h
    split at h
    · rename_i hk hxs
      split at h
      · rename_i hx
        split at h
        · rename_i hm; exact minmax_owed false hop hc hxs hi hx hm h
        · simp at h
      · simp at h
    · simp at h
  · simp at h

theorem evOp_sound (G : Good P cx) (X : Exts P cx) {call : Nat → List V → List Ob → Option (Rs × List Ob)} (HC : ∀ f vs os r os', call f vs os = some (r, os') → CallOK P cx f vs os r os') (hi : Inv cx.T g w st a)
    (h : evOp cx call o st = some st') : Owed P cx g w st' a o := by
  unfold evOp at h
  split at h
  · rename_i x hop; exact move_owed hop hi h
  · rename_i x hop; exact assign_owed hop hi h
  · rename_i c x y hop; exact pick_owed hop hi h
  · rename_i e hop; exact alloc_owed G hop hi h
  · rename_i e x hop; exact box_owed G hop hi h
  · rename_i t ps hop; exact build_owed G hop hi h
  · rename_i t len ps hop; exact buildSlice_owed G hop hi h
  · rename_i t x hop; exact load_owed G hop hi h
  · rename_i t x y hop; exact store_owed G hop hi h
  · rename_i x hop
    unfold nilEv at h
    split at h
    · rename_i hx; exact nilCheck_owed hop hi hx (by simp) h
    · rename_i hx; exact nilCheck_owed hop hi hx (by simp) h
    · simp at h
  · rename_i op xt x y yt hop
    obtain ⟨ty, v, hb, hs⟩ := put1_spec h
    unfold orElse at hb
    split at hb
    · rename_i hb'; injection hb with hb; subst hb; exact binOwed G hop hi hb' hs
    · exact symBinOwed G hop hi hb hs
  · rename_i op xt x hop
    obtain ⟨ty, v, hb, hs⟩ := put1_spec h
    unfold orElse at hb
    split at hb
    · rename_i hb'; injection hb with hb; subst hb; exact unOwed hop hi hb' hs
    · exact symUnOwed G hop hi hb hs
  · rename_i s t x hop
    unfold convAny at h
    split at h
    · rename_i hb; exact conv_owed G hop hi hb h
    · split at h
      · rename_i hb; exact convOwn_owed G hop hi hb h
      · split at h
        · rename_i hb; exact symConv_owed G hop hi hb h
        · split at h
          · rename_i hb; exact symConvOwn_owed G hop hi hb h
          · simp at h
  · rename_i f first caps hop; exact makeFunc_owed hop hi h
  · rename_i t x lo hi' hop
    obtain ⟨ty, v, hb, hs⟩ := put1_spec h
    exact slice_owed G hop hi hb hs
  · rename_i t x lo hi' mx hop
    obtain ⟨ty, v, hb, hs⟩ := put1_spec h
    exact slice3_owed G hop hi hb hs
  · rename_i t hop; exact makeMap_owed G hop hi h
  · rename_i t m x ok hop; exact lookup_owed G hop hi h
  · rename_i t m x y hop; exact mapUpdate_owed G hop hi h
  · rename_i s x f hop
    obtain ⟨v, hb, hs⟩ := putP_spec h
    exact faddr_owed G hop hi hb hs
  · rename_i s x f hop
    obtain ⟨ty, v, hb, hs⟩ := put1_spec h
    exact field_owed G hop hi hb hs
  · rename_i t x ix hop
    obtain ⟨v, hb, hs⟩ := putP_spec h
    exact iaddr_owed G hop hi hb hs
  · rename_i t x ix hop
    obtain ⟨ty, v, hb, hs⟩ := put1_spec h
    unfold orElse at hb
    split at hb
    · rename_i hb'; injection hb with hb; subst hb; exact index_owed G hop hi hb' hs
    · split at hb
      · rename_i hb'; injection hb with hb; subst hb; exact symIndex_owed G hop hi hb' hs
      · exact symIndex2_owed G hop hi hb hs
  · rename_i x ix hop; exact extract_owed hop hi h
  · rename_i c hop; exact callAny_sound G X HC hi hop h
  · simp at h

/-! One operation under its guard. -/

theorem stepEv_sound (G : Good P cx) (X : Exts P cx) {call : Nat → List V → List Ob → Option (Rs × List Ob)} (HC : ∀ f vs os r os', call f vs os = some (r, os') → CallOK P cx f vs os r os') {ops : Array Oper} {Q : Exit → Act → World → Prop}
    {k : Nat} (ho : ops[k]? = some o) (hi : Inv cx.T g w st a) (h : stepEv cx call ops o st = some st') {K : Act → World → Prop} (hK : ∀ g' a' w', Inv cx.T g' w' st' a' → Step g w g' w' → K a' w') : wpOp P ops Q k K a w := by
  unfold wpOp
  simp only [ho]
  unfold stepEv at h
  cases hg : guardEv ops st o.guard with
  | none => simp [hg] at h
  | some r =>
    rw [guardEv_sound hi hg]
    cases r with
    | true =>
      simp only [hg] at h
      simp only [if_true]
      left
      exact evOp_sound G X HC hi h _ _ hK
    | false =>
      simp only [hg] at h
      simp only [Bool.false_eq_true, if_false]
      exact hK g _ w (hi.set (val := undef) h fun _ _ => rfl) (Step.refl g w)

/-- operations in the order of the text -/
theorem evOps_sound (G : Good P cx) (X : Exts P cx) {call : Nat → List V → List Ob → Option (Rs × List Ob)} (HC : ∀ f vs os r os', call f vs os = some (r, os') → CallOK P cx f vs os r os') {ops : Array Oper} {Q : Exit → Act → World → Prop} :
    ∀ (l : List Oper) (k : Nat) (g : Gh) (w : World) (st st' : St) (a : Act), (∀ j, l[j]? = ops[k + j]?) → Inv cx.T g w st a → evOps cx call ops l st = some st' →
      (∀ g' a' w', Inv cx.T g' w' st' a' → Step g w g' w' → Q .normal a' w') → wpOps P ops Q (List.range' k l.length) a w
  | [], k, g, w, st, st', a, _, hi, h, hQ => by
    simp only [evOps, Option.some.injEq] at h
    subst h
    simp only [List.length_nil, List.range'_zero, wpOps]
    exact hQ g a w hi (Step.refl g w)
  | o :: l, k, g, w, st, st', a, hl, hi, h, hQ => by
    have ho : ops[k]? = some o := by have := hl 0; simpa using this.symm
    have hl' : ∀ j, l[j]? = ops[k + 1 + j]? := fun j => by
      have := hl (j + 1)
      rw [List.getElem?_cons_succ] at this
      rw [this]; congr 1; omega
    simp only [List.length_cons, List.range'_succ]
    rw [wpOps_cons]
    simp only [evOps] at h
    cases hop : stepEv cx call ops o st with
    | none => simp [hop] at h
    | some st1 =>
      simp only [hop] at h
      refine stepEv_sound G X HC ho hi hop fun g1 a1 w1 i1 s1 => ?_
      exact evOps_sound G X HC l (k + 1) g1 w1 st1 st' a1 hl' i1 h fun g2 a2 w2 i2 s2 => hQ g2 a2 w2 i2 (s1.trans s2)
end
end Go.Vm
