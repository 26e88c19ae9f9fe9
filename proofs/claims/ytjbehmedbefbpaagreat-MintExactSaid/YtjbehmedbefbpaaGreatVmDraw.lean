/- A region whose order is drawn: the walk in the order of the text speaks for all orders. -/
import Derived.Test.YtjbehmedbefbpaaGreatVmSwap
import Derived.Test.YtjbehmedbefbpaaGreatVmStep
set_option linter.unusedVariables false
set_option linter.unusedSimpArgs false
namespace Go.Vm
open Go

section
variable {cx : Cx} {call : Nat → List V → List Ob → Option (Rs × List Ob)} {ops : Array Oper} {s s1 s2 : St}

theorem get_put_apart : ∀ {p q : List Nat} {v v' x : V}, v.put q x = some v' → pathApart p q = true → v'.get p = v.get p
  | [], q, v, v', x, _, h => by cases q <;> simp [pathApart] at h
  | _ :: _, [], v, v', x, _, h => by simp [pathApart] at h
  | i :: p, j :: q, v, v', x, hp, h => by
    cases v with
    | rc vs =>
      simp only [V.put] at hp
      cases hj : vs[j]? with
      | none => simp [hj] at hp
      | some u =>
        simp only [hj] at hp
        cases hu : u.put q x with
        | none => simp [hu] at hp
        | some u' =>
          simp only [hu, Option.some.injEq] at hp
          subst hp
          simp only [V.get, List.getElem?_set]
          by_cases hij : j = i
          · subst hij
            have hlt := (List.getElem?_eq_some_iff.1 hj).1
            simp only [pathApart, Bool.or_eq_true, Bool.not_eq_true'] at h
            rcases h with h | h
            · exact absurd rfl (Nat.ne_of_beq_eq_false h)
            · rw [if_pos rfl, if_pos hlt, hj]
              exact get_put_apart hu h
          · rw [if_neg hij]
    | _ => simp [V.put] at hp

theorem look_stash_apart {os os' : List Ob} {o : Nat} {p : List Nat} {u : Ty} {x : V} {own : Bool} (h : stash os o p u x own = some os') {o2 : Nat} {p2 : List Nat} (ha : placeApart (o2, p2) (o, p) = true) {r : Ty × V} (hl : look os o2 p2 = some r) : look os' o2 p2 = some r := by
  obtain ⟨i, q, ty, vs, ow, v, v', ow', rfl, ho, hv, hp, rfl⟩ := stash_os h
  cases p2 with
  | nil => simp [look] at hl
  | cons j q2 =>
    simp only [look] at hl ⊢
    rw [List.getElem?_set]
    by_cases hoo : o = o2
    · subst hoo
      rw [if_pos rfl, if_pos (List.getElem?_eq_some_iff.1 ho).1]
      rw [ho] at hl
      simp only at hl ⊢
      simp only [placeApart, Bool.or_eq_true, Bool.not_eq_true'] at ha
      rcases ha with ha | ha
      · exact absurd rfl (Nat.ne_of_beq_eq_false ha)
      · rw [List.getElem?_set]
        by_cases hij : i = j
        · subst hij
          rw [if_pos rfl, if_pos (List.getElem?_eq_some_iff.1 hv).1]
          rw [hv] at hl
          simp only [pathApart, Bool.or_eq_true, Bool.not_eq_true'] at ha
          rcases ha with ha | ha
          · exact absurd rfl (Nat.ne_of_beq_eq_false ha)
          · cases hty : ty.at q2 with
            | none => simp [hty] at hl
            | some z =>
              simp only [hty] at hl ⊢
              rw [get_put_apart hp ha]
              exact hl
        · rw [if_neg hij]; exact hl
    · rw [if_neg hoo]; exact hl

/-- a load of what is no slice -/
noncomputable def plainLoad (cx : Cx) (o : Oper) : Bool :=
  match o.op with
  | .load t _ => match cx.T t with
    | some ty => !isSl ty
    | none => false
  | _ => false

theorem load_step {o : Oper} (hp : plainLoad cx o = true) {dp : Bool} {L : List Nat} (hq : quiet cx o = some (dp, L)) {s' : St} (he : stepEv cx call ops o s = some s') : ∃ e, s.setX o.dst e none = some s' ∧
    ∀ s2, Sees false (L ++ guardSlot ops o) s s2 → (∀ ob p r, accOf s o = some (ob, p) → look s.os ob p = some r → look s2.os ob p = some r) → stepEv cx call ops o s2 = s2.setX o.dst e none := by
  unfold plainLoad at hp
  split at hp
  · rename_i t a hop
    simp only [quiet, hop, Option.some.injEq, Prod.mk.injEq] at hq
    obtain ⟨rfl, rfl⟩ := hq
    cases hT : cx.T t with
    | none => simp [hT] at hp
    | some ty =>
      simp only [hT, Bool.not_eq_true'] at hp
      unfold stepEv at he
      split at he
      · rename_i hg
        unfold evOp at he
        simp only [hop, hT] at he
        unfold loadEv at he
        simp only at he
        split at he
        · rename_i ob p ha
          cases hl : look s.os ob p with
          | none => simp [hl] at he
          | some uv =>
            simp only [hl, hp] at he
            split at he
            · rename_i hb
              refine ⟨_, he, fun s2 hs hlook => ?_⟩
              have hacc : accOf s o = some (ob, p) := by simp [accOf, hop, ha]
              unfold stepEv
              rw [← guard_sees hs (fun t ht => by simp [ht]), hg]
              simp only [evOp, hop, hT]
              unfold loadEv
              simp only
              rw [← hs.opd (fun t ht => by simp [ht]), ha]
              simp only
              rw [hlook ob p _ hacc hl]
              simp only [hb, hp]
              rfl
            · simp at he
        · rename_i u v ha
          split at he
          · rename_i hb
            refine ⟨_, he, fun s2 hs hlook => ?_⟩
            unfold stepEv
            rw [← guard_sees hs (fun t ht => by simp [ht]), hg]
            simp only [evOp, hop, hT]
            unfold loadEv
            simp only
            rw [← hs.opd (fun t ht => by simp [ht]), ha]
            simp only [hb]
            rfl
          · simp at he
        · simp at he
      · rename_i hg
        refine ⟨_, he, fun s2 hs hlook => ?_⟩
        unfold stepEv
        rw [← guard_sees hs (fun t ht => by simp [ht]), hg]
        rfl
      · simp at he
  · simp at hp

/-- the slots that an operation looks at -/
noncomputable def looksOf (cx : Cx) (o : Oper) : Option (List Nat) :=
  match quiet cx o with
  | some (_, L) => some L
  | none => effLooks o

theorem acc_sees {o : Oper} {L : List Nat} (hL : looksOf cx o = some L) {dp : Bool} {L' : List Nat} (h : Sees dp L' s1 s2) (hs : ∀ t ∈ L, t ∈ L') : accOf s1 o = accOf s2 o := by
  unfold accOf
  split
  · rename_i t a hop
    simp only [looksOf, quiet, hop, Option.some.injEq] at hL
    subst hL
    rw [h.opd hs]
  · rename_i t a x hop
    simp only [looksOf, quiet, effLooks, hop, Option.some.injEq] at hL
    subst hL
    rw [h.opd fun t ht => hs t (by simp [ht])]
  · rfl

noncomputable def memN (l : List Nat) (t : Nat) : Bool := l.any fun u => Nat.beq u t

theorem memN_false {l : List Nat} {t : Nat} (h : memN l t = false) : t ∉ l := by
  intro hm
  unfold memN at h
  rw [List.any_eq_false] at h
  exact h t hm (Nat.beq_refl t)

noncomputable def dstApart (d : Option Nat) (l : List Nat) : Bool :=
  match d with
  | none => true
  | some t => !memN l t

theorem dstApart_spec {d : Option Nat} {l : List Nat} (h : dstApart d l = true) : ∀ t, d = some t → t ∉ l := by
  rintro t rfl
  simp only [dstApart, Bool.not_eq_true'] at h
  exact memN_false h

noncomputable def isMapUpd (o : Oper) : Bool :=
  match o.op with
  | .mapUpdate .. => true
  | _ => false

/-- what a load sees behind an effect elsewhere -/
theorem eff_look {o : Oper} {LE : List Nat} (hE : effLooks o = some LE) (h : stepEv cx call ops o s = some s1) {ob : Nat} {q : List Nat} {r : Ty × V}
    (hd : isMapUpd o = true ∨ ∀ y, accOf s o = some y → placeApart (ob, q) y = true) (hl : look s.os ob q = some r) : look s1.os ob q = some r := by
  unfold stepEv at h
  split at h
  · unfold effLooks at hE
    unfold evOp at h
    split at hE
    · rename_i ty hop
      simp only [hop] at h
      unfold allocEv at h
      split at h
      · have := setX_os (og := none) h
        rw [this]
        obtain ⟨env, orgs, os, n, thaw⟩ := s
        exact look_ext hl
      · simp at h
    · rename_i x hop
      simp only [hop] at h
      unfold assignEv at h
      split at h
      · split at h
        · split at h
          · have := setX_os (og := none) h; rw [this]; exact hl
          · have := setX_os (og := none) h; rw [this]; exact hl
        · simp at h
      · simp at h
    · rename_i ty ad x hop
      simp only [hop] at h
      unfold storeEv at h
      split at h
      · split at h
        · rename_i ob' p' had
          split at h
          · split at h
            · rename_i os' hst
              have := setX_os (og := none) h
              rw [this]
              rcases hd with hd | hd
              · simp [isMapUpd, hop] at hd
              · exact look_stash_apart hst (hd (ob', p') (by simp [accOf, hop, had])) hl
            · simp at h
          · simp at h
        · simp at h
      · simp at h
    · rename_i ty m x y hop
      simp only [hop] at h
      unfold updAny at h
      split at h
      · rename_i os' hu
        have := setX_os (og := none) h
        rw [this]
        obtain ⟨o', k, e, es, k', e', es', ho, rfl⟩ := updEv_os hu
        exact look_set_map ho hl
      · simp at h
    · simp at hE
  · have := setX_os (og := none) h; rw [this]; exact hl
  · simp at h

/-- an operation, and a later one that may come first -/
noncomputable def commOK (cx : Cx) (ops : Array Oper) (pairs : List (Nat × Nat)) (p i : Nat × Oper) : Bool :=
  match quiet cx p.2, looksOf cx i.2 with
  | some (dp, Lp), some Li =>
    dstApart p.2.dst (Li ++ guardSlot ops i.2) && dstApart i.2.dst (Lp ++ guardSlot ops p.2) && dstApart p.2.dst i.2.dst.toList &&
    ((quiet cx i.2).isSome || !isMut i.2 || !dp || (plainLoad cx p.2 && (isMapUpd i.2 || hasPair p.1 i.1 pairs)))
  | _, _ => false

theorem swap {pairs : List (Nat × Nat)} {p i : Nat × Oper} (hc : commOK cx ops pairs p i = true) (h1 : stepEv cx call ops p.2 s = some s1) (h2 : stepEv cx call ops i.2 s1 = some s2)
    (hdyn : hasPair p.1 i.1 pairs = true → ∀ x y, accOf s p.2 = some x → accOf s1 i.2 = some y → placeApart x y = true) :
    ∃ s1', stepEv cx call ops i.2 s = some s1' ∧ stepEv cx call ops p.2 s1' = some s2 ∧ accOf s i.2 = accOf s1 i.2 ∧ accOf s1' p.2 = accOf s p.2 := by
  unfold commOK at hc
  cases hp : quiet cx p.2 with
  | none => simp [hp] at hc
  | some x =>
    obtain ⟨dp, Lp⟩ := x
    cases hi : looksOf cx i.2 with
    | none => simp [hp, hi] at hc
    | some Li =>
      simp only [hp, hi, Bool.and_eq_true] at hc
      obtain ⟨⟨⟨ha, hb⟩, hcd⟩, hk⟩ := hc
      have ha' := dstApart_spec ha
      have hb' := dstApart_spec hb
      have hne : ∀ d, p.2.dst = some d → i.2.dst ≠ some d := fun d hd he => by
        have := dstApart_spec hcd d hd
        rw [he] at this
        simp at this
      have hlp : looksOf cx p.2 = some Lp := by simp [looksOf, hp]
      obtain ⟨ep, ogp, hx, -, hogp⟩ := quiet_step (s2 := s) hp ⟨fun t _ => rfl, fun o p u h => h, fun _ => ⟨[], by simp⟩⟩ h1
      have sees1 : Sees true (Li ++ guardSlot ops i.2) s1 s := setX_sees' hx ha' true
      have hacc : accOf s i.2 = accOf s1 i.2 := (acc_sees hi sees1 fun t ht => by simp [ht]).symm
      cases hqi : quiet cx i.2 with
      | some y =>
        obtain ⟨di, Li'⟩ := y
        have : Li' = Li := by simpa [looksOf, hqi] using hi
        subst this
        obtain ⟨ei, ogi, hx2, e2, hogi⟩ := quiet_step (s2 := s) hqi (sees1.weak (fun _ => rfl) fun t ht => ht) h2
        obtain ⟨s1', q1, q2⟩ := setX_comm hx hx2 hne (fun d hd he => hb' d hd (by simp [hogp.slot d he])) (fun d hd he => ha' d hd (by simp [hogi.slot d he]))
        have sees2 : Sees true (Lp ++ guardSlot ops p.2) s s1' := setX_sees q1 hb' true
        refine ⟨s1', e2.trans q1, ?_, hacc, (acc_sees hlp sees2 fun t ht => by simp [ht]).symm⟩
        obtain ⟨ep', ogp', hx', e3, hogp'⟩ := quiet_step (s2 := s1') hp (sees2.weak (fun _ => rfl) fun t ht => ht) h1
        rw [e3]
        obtain ⟨s1'', q1', q2'⟩ := setX_comm hx' hx2 hne (fun d hd he => hb' d hd (by simp [hogp'.slot d he])) (fun d hd he => ha' d hd (by simp [hogi.slot d he]))
        rw [q1] at q1'
        injection q1' with q1'
        rw [q1']
        exact q2'
      | none =>
        have hE : effLooks i.2 = some Li := by simpa [looksOf, hqi] using hi
        simp only [hqi, Option.isSome_none, Bool.false_or] at hk
        have dpl : isMut i.2 = false ∨ dp = false ∨ (plainLoad cx p.2 = true ∧ (isMapUpd i.2 = true ∨ hasPair p.1 i.1 pairs = true)) := by
          simp only [Bool.or_eq_true, Bool.not_eq_true', Bool.and_eq_true] at hk
          rcases hk with (hk | hk) | hk
          · exact .inl hk
          · exact .inr (.inl hk)
          · exact .inr (.inr hk)
        have cont : (isMut i.2 = false ∨ dp = false) → ∃ s1', stepEv cx call ops i.2 s = some s1' ∧ stepEv cx call ops p.2 s1' = some s2 ∧ accOf s i.2 = accOf s1 i.2 ∧ accOf s1' p.2 = accOf s p.2 := by
          intro hor
          have back : ∀ ep ogp, s.setX p.2.dst ep ogp = some s1 → OgIn dp Lp ogp → ∃ s1', stepEv cx call ops i.2 s = some s1' ∧ s1'.setX p.2.dst ep ogp = some s2 := fun ep ogp hx hogp =>
            eff_back hE hx ha' hne (fun t ht he => hb' t ht (by simp [hogp.slot t he])) (fun hm => by
              rcases hor with h | h
              · rw [h] at hm; simp at hm
              · exact hogp.place h) h2
          obtain ⟨s1', q1, -⟩ := back ep ogp hx hogp
          have sees2 : Sees dp (Lp ++ guardSlot ops p.2) s s1' := eff_sees hE hb' (fun h => by
            rcases hor with h' | h'
            · exact h'
            · rw [h'] at h; simp at h) q1
          obtain ⟨ep', ogp', hx', e3, hogp'⟩ := quiet_step (s2 := s1') hp sees2 h1
          obtain ⟨s1'', q1', q2'⟩ := back ep' ogp' hx' hogp'
          rw [q1] at q1'
          injection q1' with q1'
          rw [← q1'] at q2'
          exact ⟨s1', q1, e3.trans q2', hacc, (acc_sees hlp sees2 fun t ht => by simp [ht]).symm⟩
        rcases dpl with h | h | ⟨hl, hm⟩
        · exact cont (.inl h)
        · exact cont (.inr h)
        · obtain ⟨e, hx', hall⟩ := load_step hl hp h1
          obtain ⟨s1', q1, q2⟩ := eff_back hE hx' ha' hne (fun t ht he => by simp at he) (fun _ ob q he => by simp at he) h2
          have sees2 : Sees false (Lp ++ guardSlot ops p.2) s s1' := eff_sees hE hb' (fun h => by simp at h) q1
          refine ⟨s1', q1, ?_, hacc, (acc_sees hlp sees2 fun t ht => by simp [ht]).symm⟩
          rw [hall s1' sees2 ?_]
          · exact q2
          · intro ob q r hac hlk
            exact eff_look hE q1 (by
              rcases hm with hm | hm
              · exact .inl hm
              · refine .inr fun y hy => hdyn hm (ob, q) y hac (hacc ▸ hy)) hlk


/-! All orders. -/

def DynOK (pairs : List (Nat × Nat)) (l : List (Nat × Nat × List Nat)) : Prop := ∀ a ∈ l, ∀ b ∈ l, hasPair a.1 b.1 pairs = true → placeApart a.2 b.2 = true

theorem DynOK.sub {pairs : List (Nat × Nat)} {l l' : List (Nat × Nat × List Nat)} (h : DynOK pairs l) (hs : ∀ x ∈ l', x ∈ l) : DynOK pairs l' :=
  fun a ha b hb hp => h a (hs a ha) b (hs b hb) hp

theorem dynCheck_ok {pairs : List (Nat × Nat)} {l : List (Nat × Nat × List Nat)} (h : dynCheck pairs l = true) : DynOK pairs l := by
  intro a ha b hb hp
  unfold dynCheck at h
  have := List.all_eq_true.1 (List.all_eq_true.1 h a ha) b hb
  simpa [hp] using this

theorem noted_mem {k : Nat} {x : Option (Nat × List Nat)} {l : List (Nat × Nat × List Nat)} {y : Nat × Nat × List Nat} : y ∈ noted k x l ↔ (∃ z, x = some z ∧ y = (k, z)) ∨ y ∈ l := by
  cases x <;> simp [noted]

theorem evT_cons {k : Nat} {o : Oper} {r : List (Nat × Oper)} {l : List (Nat × Nat × List Nat)} {s' : St} : evT cx call ops ((k, o) :: r) s = some (l, s') ↔ ∃ s1 l1, stepEv cx call ops o s = some s1 ∧ evT cx call ops r s1 = some (l1, s') ∧ l = noted k (accOf s o) l1 := by
  simp only [evT]
  cases h1 : stepEv cx call ops o s with
  | none => simp
  | some s1 =>
    simp only [Option.some.injEq]
    cases h2 : evT cx call ops r s1 with
    | none =>
      simp only [false_iff, reduceCtorEq]
      rintro ⟨s1', l1, rfl, h3, -⟩
      rw [h2] at h3; simp at h3
    | some x =>
      obtain ⟨l1, s2⟩ := x
      simp only [Option.some.injEq, Prod.mk.injEq]
      constructor
      · rintro ⟨rfl, rfl⟩
        exact ⟨s1, l1, rfl, h2, rfl⟩
      · rintro ⟨s1', l1', rfl, h3, rfl⟩
        rw [h2] at h3
        simp only [Option.some.injEq, Prod.mk.injEq] at h3
        obtain ⟨rfl, rfl⟩ := h3
        exact ⟨rfl, rfl⟩

/-- an operation that may come before all that stand before it comes first -/
theorem evT_front {pairs : List (Nat × Nat)} {k : Nat} {o : Oper} {R2 : List (Nat × Oper)} {s' : St} : ∀ {R1 : List (Nat × Oper)} {s : St} {l : List (Nat × Nat × List Nat)}, (∀ p ∈ R1, commOK cx ops pairs p (k, o) = true) → evT cx call ops (R1 ++ (k, o) :: R2) s = some (l, s') → DynOK pairs l →
    ∃ s1 l1, stepEv cx call ops o s = some s1 ∧ evT cx call ops (R1 ++ R2) s1 = some (l1, s') ∧ ∀ x ∈ noted k (accOf s o) l1, x ∈ l
  | [], s, l, _, h, _ => by
    obtain ⟨s1, l1, h1, h2, rfl⟩ := evT_cons.1 h
    exact ⟨s1, l1, h1, h2, fun x hx => hx⟩
  | (kp, p) :: R1, s, l, hc, h, hd => by
    obtain ⟨s1, l1, h1, h2, rfl⟩ := evT_cons.1 h
    obtain ⟨s2, l2, h3, h4, h5⟩ := evT_front (fun q hq => hc q (List.mem_cons_of_mem _ hq)) h2 (hd.sub fun x hx => noted_mem.2 (.inr hx))
    obtain ⟨s1', q1, q2, q3, q4⟩ := swap (hc (kp, p) (List.mem_cons_self ..)) h1 h3 (fun hpair x y hx hy =>
      hd (kp, x) (noted_mem.2 (.inl ⟨x, hx, rfl⟩)) (k, y) (noted_mem.2 (.inr (h5 _ (noted_mem.2 (.inl ⟨y, hy, rfl⟩))))) hpair)
    refine ⟨s1', _, q1, evT_cons.2 ⟨s2, l2, q2, h4, rfl⟩, ?_⟩
    intro x hx
    rcases noted_mem.1 hx with ⟨z, hz, rfl⟩ | hx
    · exact noted_mem.2 (.inr (h5 _ (noted_mem.2 (.inl ⟨z, by rw [← hz]; exact q3.symm, rfl⟩))))
    · rcases noted_mem.1 hx with ⟨z, hz, rfl⟩ | hx
      · exact noted_mem.2 (.inl ⟨z, by rw [← hz]; exact q4.symm, rfl⟩)
      · exact noted_mem.2 (.inr (h5 _ (noted_mem.2 (.inr hx))))

theorem evT_of_evOps : ∀ {R : List (Nat × Oper)} {s s' : St}, evOps cx call ops (R.map (·.2)) s = some s' → ∃ l, evT cx call ops R s = some (l, s')
  | [], s, s', h => by simp only [List.map_nil, evOps, Option.some.injEq] at h; subst h; exact ⟨[], rfl⟩
  | (k, o) :: R, s, s', h => by
    simp only [List.map_cons, evOps] at h
    cases h1 : stepEv cx call ops o s with
    | none => simp [h1] at h
    | some s1 =>
      simp only [h1] at h
      obtain ⟨l, hl⟩ := evT_of_evOps h
      exact ⟨_, evT_cons.2 ⟨s1, l, h1, hl, rfl⟩⟩

theorem number_map : ∀ (k : Nat) (l : List Oper), (number k l).map (·.2) = l
  | _, [] => rfl
  | k, o :: r => by simp [number, number_map (k + 1) r]

theorem number_mem : ∀ {k : Nat} {l : List Oper} {j : Nat} {o : Oper}, (j, o) ∈ number k l ↔ k ≤ j ∧ l[j - k]? = some o
  | k, [], j, o => by simp [number]
  | k, x :: r, j, o => by
    simp only [number, List.mem_cons, Prod.mk.injEq]
    rw [number_mem]
    constructor
    · rintro (⟨rfl, rfl⟩ | ⟨h1, h2⟩)
      · exact ⟨Nat.le_refl _, by simp⟩
      · refine ⟨by omega, ?_⟩
        rw [show j - k = (j - (k + 1)) + 1 by omega, List.getElem?_cons_succ]
        exact h2
    · rintro ⟨h1, h2⟩
      by_cases hj : j = k
      · subst hj
        left
        simp only [Nat.sub_self, List.getElem?_cons_zero, Option.some.injEq] at h2
        exact ⟨rfl, h2.symm⟩
      · right
        rw [show j - k = (j - (k + 1)) + 1 by omega, List.getElem?_cons_succ] at h2
        exact ⟨by omega, h2⟩

theorem number_sorted : ∀ (k : Nat) (l : List Oper), (number k l).Pairwise (fun a b => a.1 < b.1)
  | _, [] => by simp [number]
  | k, o :: r => by
    simp only [number, List.pairwise_cons]
    refine ⟨fun x hx => ?_, number_sorted (k + 1) r⟩
    obtain ⟨j, o'⟩ := x
    have := (number_mem.1 hx).1
    show k < j
    omega

noncomputable def bindsB (e : Edge) : Bool :=
  match e.ground with
  | .textOnly _ => false
  | .gcOnly _ => false
  | _ => true

theorem bindsB_eq (e : Edge) : Region.binds .any e = bindsB e := by
  unfold Region.binds bindsB
  cases e.ground <;> rfl

/-- whether one must come before another -/
noncomputable def bef (ops : Array Oper) : Nat → Nat → Nat → Bool
  | 0, _, _ => false
  | n + 1, i, p => match ops[i]? with
    | none => false
    | some o => o.after.toList.any (fun e => bindsB e && Nat.beq e.on p) || o.after.toList.any (fun e => bindsB e && bef ops n e.on p)

noncomputable def allPairs (f : Nat × Oper → Nat × Oper → Bool) : List (Nat × Oper) → Bool
  | [] => true
  | x :: r => r.all (f x) && allPairs f r

theorem allPairs_ok {f : Nat × Oper → Nat × Oper → Bool} : ∀ {l : List (Nat × Oper)}, allPairs f l = true → l.Pairwise fun a b => f a b = true
  | [], _ => .nil
  | x :: r, h => by
    simp only [allPairs, Bool.and_eq_true] at h
    exact List.pairwise_cons.2 ⟨fun y hy => List.all_eq_true.1 h.1 y hy, allPairs_ok h.2⟩

/-- a drawn region that one walk speaks for -/
noncomputable def drawOk (cx : Cx) (ops : Array Oper) (pairs : List (Nat × Nat)) : Bool :=
  (number 0 ops.toList).all (fun x => x.2.after.toList.all fun e => !bindsB e || Nat.blt e.on x.1) &&
  allPairs (fun p i => commOK cx ops pairs p i || bef ops 12 i.1 p.1) (number 0 ops.toList)

structure Rem (cx : Cx) (ops : Array Oper) (pairs : List (Nat × Nat)) (R : List (Nat × Oper)) (listed : Array Bool) : Prop where
  size : listed.size = ops.size
  rel : R.Pairwise fun p i => p.1 < i.1 ∧ (commOK cx ops pairs p i = true ∨ bef ops 12 i.1 p.1 = true)
  mem : ∀ k o, (k, o) ∈ R ↔ ops[k]? = some o ∧ listed.getD k true = false
  closed : ∀ k o, ops[k]? = some o → listed.getD k false = true → ∀ e ∈ o.after, Region.binds .any e = true → listed.getD e.on false = true
  edges : ∀ k o, ops[k]? = some o → ∀ e ∈ o.after, Region.binds .any e = true → e.on < k

theorem bef_listed {listed : Array Bool} (hc : ∀ k o, ops[k]? = some o → listed.getD k false = true → ∀ e ∈ o.after, Region.binds .any e = true → listed.getD e.on false = true) : ∀ {n i p : Nat} {o : Oper}, ops[i]? = some o →
    (∀ e ∈ o.after, Region.binds .any e = true → listed.getD e.on false = true) → bef ops n i p = true → listed.getD p false = true
  | 0, i, p, o, _, _, h => by simp [bef] at h
  | n + 1, i, p, o, ho, he, h => by
    simp only [bef, ho, Bool.or_eq_true, List.any_eq_true, Bool.and_eq_true] at h
    rcases h with ⟨e, hm, hb, hp⟩ | ⟨e, hm, hb, hp⟩
    · have := he e (by simpa using hm) (by rw [bindsB_eq]; exact hb)
      rw [Nat.eq_of_beq_eq_true hp] at this
      exact this
    · have h1 := he e (by simpa using hm) (by rw [bindsB_eq]; exact hb)
      cases ho2 : ops[e.on]? with
      | none =>
        cases n with
        | zero => simp [bef] at hp
        | succ n => simp [bef, ho2] at hp
      | some o2 => exact bef_listed hc ho2 (hc _ _ ho2 h1) hp

theorem getD_tf {listed : Array Bool} {k : Nat} (h1 : listed.getD k true = false) (h2 : listed.getD k false = true) : False := by
  simp only [Array.getD_eq_getD_getElem?] at h1 h2
  cases h : listed[k]? with
  | none => simp [h] at h2
  | some b => simp [h] at h1 h2; rw [h1] at h2; simp at h2

theorem anyOrder {P : Program} (G : Good P cx) (X : Exts P cx) (HC : ∀ f vs os r os', call f vs os = some (r, os') → CallOK P cx f vs os r os') {Q : Exit → Act → World → Prop} {pairs : List (Nat × Nat)} {st' : St} :
    ∀ (n : Nat) (R : List (Nat × Oper)) (listed : Array Bool) (g : Gh) (w : World) (st : St) (a : Act) (l : List (Nat × Nat × List Nat)), R.length = n → Rem cx ops pairs R listed → Inv cx.T g w st a → evT cx call ops R st = some (l, st') → DynOK pairs l →
      (∀ g' a' w', Inv cx.T g' w' st' a' → Step g w g' w' → Q .normal a' w') → wpAny P .any ops Q n listed a w := by
  intro n
  induction n with
  | zero =>
    intro R listed g w st a l hn hr hi h hd hQ
    obtain rfl := List.length_eq_zero_iff.1 hn
    simp only [evT, Option.some.injEq, Prod.mk.injEq] at h
    obtain ⟨rfl, rfl⟩ := h
    refine ⟨?_, hQ g a w hi (Step.refl g w)⟩
    cases hre : Region.ready .any ops listed with
    | nil => rfl
    | cons k rs =>
      have hk : k ∈ Region.ready .any ops listed := by rw [hre]; exact List.mem_cons_self ..
      obtain ⟨h0, o, ho, -⟩ := mem_ready.1 hk
      have := (hr.mem k o).2 ⟨ho, h0⟩
      simp at this
  | succ n ih =>
    intro R listed g w st a l hn hr hi h hd hQ
    refine ⟨fun hnil => ?_, fun k hk => ?_⟩
    · cases R with
      | nil => simp at hn
      | cons x R =>
        obtain ⟨k, o⟩ := x
        obtain ⟨ho, h0⟩ := (hr.mem k o).1 (List.mem_cons_self ..)
        have hk : k ∈ Region.ready .any ops listed := by
          refine mem_ready.2 ⟨h0, o, ho, fun e he hb => ?_⟩
          have hlt := hr.edges k o ho e he hb
          have hks : k < ops.size := (Array.getElem?_eq_some_iff.1 ho).1
          have hes : e.on < listed.size := by rw [hr.size]; omega
          cases hl : listed[e.on]'hes with
          | true => simp [Array.getD_eq_getD_getElem?, hes, hl]
          | false =>
            exfalso
            have hm := (hr.mem e.on (ops[e.on]'(by omega))).2 ⟨by simp, by simp [Array.getD_eq_getD_getElem?, hes, hl]⟩
            rcases List.mem_cons.1 hm with hm | hm
            · injection hm with hm1 hm2; omega
            · have := (List.pairwise_cons.1 hr.rel).1 _ hm
              have := this.1
              simp only at this
              omega
        rw [hnil] at hk
        simp at hk
    · obtain ⟨h0, o, ho, hall⟩ := mem_ready.1 hk
      have hmem := (hr.mem k o).2 ⟨ho, h0⟩
      obtain ⟨R1, R2, rfl⟩ := List.append_of_mem hmem
      have hpw := hr.rel
      rw [List.pairwise_append] at hpw
      obtain ⟨p1, p2, p3⟩ := hpw
      obtain ⟨p4, p5⟩ := List.pairwise_cons.1 p2
      have hcomm : ∀ p ∈ R1, commOK cx ops pairs p (k, o) = true := by
        intro p hp
        rcases (p3 p hp (k, o) (List.mem_cons_self ..)).2 with hc | hb
        · exact hc
        · exfalso
          have h1 := bef_listed hr.closed ho hall hb
          obtain ⟨kp, op⟩ := p
          have h2 := ((hr.mem kp op).1 (List.mem_append_left _ hp)).2
          exact getD_tf h2 h1
      obtain ⟨s1, l1, q1, q2, q3⟩ := evT_front hcomm h hd
      refine stepEv_sound G X HC ho hi q1 fun g1 a1 w1 i1 st1 => ?_
      have hks : k < listed.size := by
        rw [hr.size]; exact (Array.getElem?_eq_some_iff.1 ho).1
      refine ih (R1 ++ R2) (listed.setIfInBounds k true) g1 w1 s1 a1 l1 ?_ ?_ i1 q2 (hd.sub fun x hx => q3 x (noted_mem.2 (.inr hx))) fun g2 a2 w2 i2 st2 => hQ g2 a2 w2 i2 (st1.trans st2)
      · simp at hn ⊢; omega
      · have hnk : ∀ x ∈ R1 ++ R2, x.1 ≠ k := by
          intro x hx
          rcases List.mem_append.1 hx with hx | hx
          · have := (p3 x hx (k, o) (List.mem_cons_self ..)).1; simp only at this; omega
          · have := (p4 x hx).1; simp only at this; omega
        refine ⟨by simp [hr.size], ?_, ?_, ?_, hr.edges⟩
        · rw [List.pairwise_append]
          exact ⟨p1, p5, fun a ha b hb => p3 a ha b (List.mem_cons_of_mem _ hb)⟩
        · intro j oj
          constructor
          · intro hm
            have hjk : j ≠ k := hnk _ hm
            have hm' : (j, oj) ∈ R1 ++ (k, o) :: R2 := by
              rcases List.mem_append.1 hm with hm | hm
              · exact List.mem_append_left _ hm
              · exact List.mem_append_right _ (List.mem_cons_of_mem _ hm)
            obtain ⟨a1, a2⟩ := (hr.mem j oj).1 hm'
            exact ⟨a1, by rw [getD_set_ne true (Ne.symm hjk)]; exact a2⟩
          · rintro ⟨a1, a2⟩
            have hjk : j ≠ k := by
              rintro rfl
              simp [Array.getD_eq_getD_getElem?, hks] at a2
            rw [getD_set_ne true (Ne.symm hjk)] at a2
            have hm := (hr.mem j oj).2 ⟨a1, a2⟩
            rcases List.mem_append.1 hm with hm | hm
            · exact List.mem_append_left _ hm
            · rcases List.mem_cons.1 hm with hm | hm
              · injection hm with hm1 hm2; exact absurd hm1 hjk
              · exact List.mem_append_right _ hm
        · intro j oj hoj hj e he hb
          by_cases hjk : j = k
          · subst hjk
            rw [ho] at hoj
            injection hoj with hoj
            subst hoj
            exact getD_set_true (hall e he hb)
          · rw [getD_set_ne false (Ne.symm hjk)] at hj
            exact getD_set_true (hr.closed j oj hoj hj e he hb)

/-- a region, its order drawn -/
theorem region_drawn {P : Program} (G : Good P cx) (X : Exts P cx) (HC : ∀ f vs os r os', call f vs os = some (r, os') → CallOK P cx f vs os r os') {Q : Exit → Act → World → Prop} {pairs : List (Nat × Nat)} {st st' : St} {g : Gh} {w : World} {a : Act} {id : Nat}
    (hok : drawOk cx ops pairs = true) (hi : Inv cx.T g w st a) (h : regionEv cx call ops st pairs = some st') (hQ : ∀ g' a' w', Inv cx.T g' w' st' a' → Step g w g' w' → Q .normal a' w') : (Code.region id ops true).wp P Q a w := by
  have hT : ∃ l, evT cx call ops (number 0 ops.toList) st = some (l, st') ∧ DynOK pairs l := by
    cases pairs with
    | nil =>
      simp only [regionEv] at h
      rw [← number_map 0 ops.toList] at h
      obtain ⟨l, hl⟩ := evT_of_evOps h
      exact ⟨l, hl, fun a _ b _ hp => by simp [hasPair] at hp⟩
    | cons x r =>
      simp only [regionEv] at h
      split at h
      · rename_i l s' hl
        split at h
        · rename_i hc
          injection h with h
          subst h
          exact ⟨l, hl, dynCheck_ok hc⟩
        · simp at h
      · simp at h
  obtain ⟨l, hl, hd⟩ := hT
  unfold drawOk at hok
  simp only [Bool.and_eq_true] at hok
  obtain ⟨he, hp⟩ := hok
  have k : Keep g w g { w with drawn := w.drawn + 1 } := keep_of_heap rfl rfl rfl
  refine wp_region_any G.mixed ?_
  refine anyOrder G X HC ops.size (number 0 ops.toList) _ g _ st a l ?_ ?_ (hi.keep k fun o h => h) hl hd fun g' a' w' i' s' => hQ g' a' w' i' (k.step.trans s')
  · have := congrArg List.length (number_map 0 ops.toList)
    simpa using this
  · refine ⟨by simp, ?_, ?_, ?_, ?_⟩
    · have h1 := allPairs_ok hp
      have h2 := number_sorted 0 ops.toList
      refine List.Pairwise.imp₂ (fun a b ha hb => ⟨hb, by simpa using ha⟩) h1 h2
    · intro k o
      rw [number_mem]
      simp only [Nat.zero_le, true_and, Nat.sub_zero, Array.getElem?_toList]
      constructor
      · intro ho
        have hks : k < ops.size := (Array.getElem?_eq_some_iff.1 ho).1
        exact ⟨ho, by simp [Array.getD_eq_getD_getElem?, hks]⟩
      · exact fun h => h.1
    · intro k o _ hk
      simp only [Array.getD_eq_getD_getElem?, Array.getElem?_replicate] at hk
      split at hk <;> simp at hk
    · intro k o ho e hem hb
      have hm : (k, o) ∈ number 0 ops.toList := number_mem.2 ⟨Nat.zero_le _, by simpa using ho⟩
      have := List.all_eq_true.1 (List.all_eq_true.1 he _ hm) e (by simpa using hem)
      rw [bindsB_eq] at hb
      simp only [hb, Bool.not_true, Bool.false_or] at this
      exact Nat.le_of_ble_eq_true this
end
end Go.Vm
