/- Two operations that are in no order: either may come first. -/
import Derived.Test.YtjbehmedbefbpaaGreatVmFrame
set_option linter.unusedVariables false
set_option linter.unusedSimpArgs false
namespace Go.Vm
open Go

/-! Slots. -/

theorem Env.ins_comm {d1 d2 : Nat} (h : d1 ≠ d2) (e1 e2 : Ent) : ∀ env : Env, (env.ins d1 e1).ins d2 e2 = (env.ins d2 e2).ins d1 e1
  | [] => by
    rw [ins_nil, ins_nil, ins_cons, ins_cons, ins_nil, ins_nil]
    rw [if_neg h, if_neg (Ne.symm h)]
    rcases Nat.lt_or_gt_of_ne h with hl | hl
    · rw [if_pos (by omega), if_neg (by omega)]
    · rw [if_neg (by omega), if_pos (by omega)]
  | (u, x) :: r => by
    rw [ins_cons, ins_cons]
    by_cases h1 : u = d1
    · subst h1
      rw [if_pos rfl, if_neg h]
      by_cases h2 : u ≤ d2
      · rw [if_pos h2, ins_cons, if_neg h, if_pos h2, ins_cons, if_neg (Ne.symm h), if_neg (by omega), ins_cons, if_pos rfl]
      · rw [if_neg h2, ins_cons, if_neg h, if_neg h2, ins_cons, if_pos rfl]
    · rw [if_neg h1]
      by_cases h2 : u = d2
      · subst h2
        rw [if_pos rfl]
        by_cases h3 : u ≤ d1
        · rw [if_pos h3, ins_cons, if_neg h, if_neg (by omega), ins_cons, if_pos rfl, ins_cons, if_neg (Ne.symm h), if_pos h3]
        · rw [if_neg h3, ins_cons, if_pos rfl, ins_cons, if_neg (Ne.symm h), if_neg h3]
      · rw [if_neg h2]
        by_cases h3 : u ≤ d1
        · rw [if_pos h3]
          by_cases h4 : u ≤ d2
          · rw [if_pos h4, ins_cons, ins_cons, ins_cons, ins_cons]
            rw [if_neg h, if_neg (Ne.symm h), if_neg h2, if_neg h1]
            rcases Nat.lt_or_gt_of_ne h with hl | hl
            · rw [if_pos (by omega), if_neg (by omega), if_pos h3]
            · rw [if_neg (by omega), if_pos h4, if_pos (by omega)]
          · rw [if_neg h4, ins_cons, ins_cons, ins_cons]
            rw [if_neg h, if_neg (by omega), if_neg h2, if_neg h4, if_neg h1, if_pos h3]
        · rw [if_neg h3]
          by_cases h4 : u ≤ d2
          · rw [if_pos h4, ins_cons, ins_cons, ins_cons]
            rw [if_neg h2, if_pos h4, if_neg (Ne.symm h), if_neg (by omega), if_neg h1, if_neg h3]
          · rw [if_neg h4, ins_cons, ins_cons, if_neg h2, if_neg h4, if_neg h1, if_neg h3, Env.ins_comm h]

theorem Env.ins_ins (d : Nat) (e1 e2 : Ent) : ∀ env : Env, (env.ins d e1).ins d e2 = env.ins d e2
  | [] => by rw [ins_nil, ins_nil, ins_cons, if_pos rfl]
  | (u, x) :: r => by
    rw [ins_cons, ins_cons]
    by_cases h1 : u = d
    · rw [if_pos h1, if_pos h1, ins_cons, if_pos rfl]
    · rw [if_neg h1, if_neg h1]
      by_cases h2 : u ≤ d
      · rw [if_pos h2, if_pos h2, ins_cons, if_pos rfl]
      · rw [if_neg h2, if_neg h2, ins_cons, if_neg h1, if_neg h2, Env.ins_ins]

theorem offOrg_fst (d : Nat) (x : Nat × Org) : (offOrg d x).1 = x.1 := by unfold offOrg; split <;> rfl

theorem offOrg_ne {d t : Nat} {o : Org} (h : t ≠ d) (ho : o ≠ .slot d) : offOrg d (t, o) = (t, o) := by
  have ht : Nat.beq t d = false := by
    cases hb : Nat.beq t d with
    | false => rfl
    | true => exact absurd (Nat.eq_of_beq_eq_true hb) h
  cases o with
  | no => simp [offOrg, aboutB, ht]
  | place _ _ => simp [offOrg, aboutB, ht]
  | slot s =>
    have hs : Nat.beq s d = false := by
      cases hb : Nat.beq s d with
      | false => rfl
      | true => exact absurd (by rw [Nat.eq_of_beq_eq_true hb]) ho
    simp [offOrg, aboutB, ht, hs]

theorem dropOrg_insOrg {d d' : Nat} {o : Org} (h : d' ≠ d) (ho : o ≠ .slot d) : ∀ l : List (Nat × Org), dropOrg d (insOrg d' o l) = insOrg d' o (dropOrg d l)
  | [] => by simp [insOrg, dropOrg, offOrg_ne h ho]
  | x :: r => by
    simp only [insOrg, dropOrg, offOrg_fst]
    split
    · simp [dropOrg, offOrg_ne h ho]
    · split
      · simp [dropOrg, offOrg_ne h ho]
      · simp [dropOrg, dropOrg_insOrg h ho r]

theorem offOrg_no (d t : Nat) : offOrg d (t, .no) = (t, .no) := by
  unfold offOrg
  split <;> rfl

theorem offOrg_comm (d1 d2 : Nat) (x : Nat × Org) : offOrg d1 (offOrg d2 x) = offOrg d2 (offOrg d1 x) := by
  cases h1 : aboutB d1 x <;> cases h2 : aboutB d2 x
  · simp [offOrg, h1, h2]
  · have e1 : offOrg d1 x = x := by simp [offOrg, h1]
    have e2 : offOrg d2 x = (x.1, .no) := by simp [offOrg, h2]
    rw [e1, e2, offOrg_no]
  · have e1 : offOrg d1 x = (x.1, .no) := by simp [offOrg, h1]
    have e2 : offOrg d2 x = x := by simp [offOrg, h2]
    rw [e1, e2, offOrg_no, e1]
  · have e1 : offOrg d1 x = (x.1, .no) := by simp [offOrg, h1]
    have e2 : offOrg d2 x = (x.1, .no) := by simp [offOrg, h2]
    rw [e1, e2, offOrg_no, offOrg_no]

theorem dropOrg_comm (d1 d2 : Nat) : ∀ l : List (Nat × Org), dropOrg d1 (dropOrg d2 l) = dropOrg d2 (dropOrg d1 l)
  | [] => rfl
  | x :: r => by simp [dropOrg, offOrg_comm d1 d2 x, dropOrg_comm d1 d2 r]

theorem insOrg_cons (d : Nat) (o : Org) (u : Nat) (x : Org) (r : List (Nat × Org)) : insOrg d o ((u, x) :: r) = if u = d then (d, o) :: r else if d ≤ u then (d, o) :: (u, x) :: r else (u, x) :: insOrg d o r := by
  simp only [insOrg]
  cases h : Nat.beq u d with
  | true => rw [if_pos (Nat.eq_of_beq_eq_true h)]
  | false =>
    rw [if_neg (Nat.ne_of_beq_eq_false h)]
    cases h2 : Nat.ble d u with
    | true => rw [if_pos (Nat.le_of_ble_eq_true h2)]
    | false => rw [if_neg (by intro h3; rw [Nat.ble_eq_true_of_le h3] at h2; simp at h2)]

theorem insOrg_comm {d1 d2 : Nat} (h : d1 ≠ d2) (e1 e2 : Org) : ∀ l : List (Nat × Org), insOrg d2 e2 (insOrg d1 e1 l) = insOrg d1 e1 (insOrg d2 e2 l)
  | [] => by
    show insOrg d2 e2 [(d1, e1)] = insOrg d1 e1 [(d2, e2)]
    rw [insOrg_cons, insOrg_cons]
    rw [if_neg h, if_neg (Ne.symm h)]
    rcases Nat.lt_or_gt_of_ne h with hl | hl
    · rw [if_neg (by omega), if_pos (by omega)]; rfl
    · rw [if_pos (by omega), if_neg (by omega)]; rfl
  | (u, x) :: r => by
    rw [insOrg_cons, insOrg_cons]
    by_cases h1 : u = d1
    · subst h1
      rw [if_pos rfl, if_neg h]
      by_cases h2 : d2 ≤ u
      · rw [if_pos h2, insOrg_cons, if_neg h, if_pos h2, insOrg_cons, if_neg (Ne.symm h), if_neg (by omega), insOrg_cons, if_pos rfl]
      · rw [if_neg h2, insOrg_cons, if_neg h, if_neg h2, insOrg_cons, if_pos rfl]
    · rw [if_neg h1]
      by_cases h2 : u = d2
      · subst h2
        rw [if_pos rfl]
        by_cases h3 : d1 ≤ u
        · rw [if_pos h3, insOrg_cons, if_neg h, if_neg (by omega), insOrg_cons, if_pos rfl, insOrg_cons, if_neg (Ne.symm h), if_pos h3]
        · rw [if_neg h3, insOrg_cons, if_pos rfl, insOrg_cons, if_neg (Ne.symm h), if_neg h3]
      · rw [if_neg h2]
        by_cases h3 : d1 ≤ u
        · rw [if_pos h3]
          by_cases h4 : d2 ≤ u
          · rw [if_pos h4, insOrg_cons, insOrg_cons, insOrg_cons, insOrg_cons]
            rw [if_neg h, if_neg (Ne.symm h), if_neg h2, if_neg h1]
            rcases Nat.lt_or_gt_of_ne h with hl | hl
            · rw [if_neg (by omega), if_pos h4, if_pos (by omega)]
            · rw [if_pos (by omega), if_neg (by omega), if_pos h3]
          · rw [if_neg h4, insOrg_cons, insOrg_cons, insOrg_cons]
            rw [if_neg h, if_neg (by omega), if_neg h2, if_neg h4, if_neg h1, if_pos h3]
        · rw [if_neg h3]
          by_cases h4 : d2 ≤ u
          · rw [if_pos h4, insOrg_cons, insOrg_cons, insOrg_cons]
            rw [if_neg h2, if_pos h4, if_neg (Ne.symm h), if_neg (by omega), if_neg h1, if_neg h3]
          · rw [if_neg h4, insOrg_cons, insOrg_cons, if_neg h2, if_neg h4, if_neg h1, if_neg h3, insOrg_comm h]

theorem slotOrg_fst (x : Nat × Org) : (slotOrg x).1 = x.1 := by obtain ⟨t, o⟩ := x; cases o <;> rfl

theorem slotOrgs_insOrg {d : Nat} {o : Org} (ho : ∀ ob p, o ≠ .place ob p) : ∀ l : List (Nat × Org), slotOrgs (insOrg d o l) = insOrg d o (slotOrgs l)
  | [] => by cases o <;> simp_all [insOrg, slotOrgs, slotOrg]
  | x :: r => by
    have e : slotOrg (d, o) = (d, o) := by cases o <;> simp_all [slotOrg]
    simp only [insOrg, slotOrgs, slotOrg_fst]
    split
    · simp [slotOrgs, e]
    · split
      · simp [slotOrgs, e]
      · simp [slotOrgs, slotOrgs_insOrg ho r]

theorem slotOrg_offOrg (d : Nat) (x : Nat × Org) : slotOrg (offOrg d x) = offOrg d (slotOrg x) := by
  obtain ⟨t, o⟩ := x
  cases h : aboutB d (t, o) with
  | true =>
    have e : offOrg d (t, o) = (t, .no) := by simp [offOrg, h]
    rw [e]
    cases o with
    | no => simp [slotOrg, offOrg_no]
    | slot s => simp only [slotOrg]; rw [e]
    | place _ _ => simp [slotOrg, offOrg_no]
  | false =>
    have e : offOrg d (t, o) = (t, o) := by simp [offOrg, h]
    rw [e]
    cases o with
    | no => simp [slotOrg, offOrg_no]
    | slot s => simp only [slotOrg]; rw [e]
    | place _ _ => simp [slotOrg, offOrg_no]

theorem slotOrgs_dropOrg (d : Nat) : ∀ l : List (Nat × Org), slotOrgs (dropOrg d l) = dropOrg d (slotOrgs l)
  | [] => rfl
  | x :: r => by simp [dropOrg, slotOrgs, slotOrg_offOrg, slotOrgs_dropOrg d r]

/-! One slot written, and another. -/

noncomputable def orgsX (d : Nat) : Option Org → List (Nat × Org) → List (Nat × Org)
  | none, l => dropOrg d l
  | some o, l => insOrg d o (dropOrg d l)

theorem setX_none' {s s1 : St} {e : Ent} {og : Option Org} : s.setX none e og = some s1 ↔ s1 = s := by
  cases og <;> simp [St.setX, St.set, St.setO, eq_comm]

theorem setX_iff {s s1 : St} {d : Nat} {e : Ent} {og : Option Org} : s.setX (some d) e og = some s1 ↔ d < s.n ∧ s1 = ⟨s.env.ins d e, orgsX d og s.orgs, s.os, s.n, s.thaw⟩ := by
  obtain ⟨env, orgs, os, n, thaw⟩ := s
  cases hd : Nat.blt d n with
  | true =>
    have hlt : d < n := Nat.le_of_ble_eq_true hd
    cases og <;> simp [St.setX, St.set, St.setO, hd, hlt, orgsX, eq_comm]
  | false =>
    have hlt : ¬ d < n := by intro h; rw [Nat.blt, Nat.ble_eq_true_of_le h] at hd; simp at hd
    cases og <;> simp [St.setX, St.set, St.setO, hd, hlt]

theorem orgsX_comm {d1 d2 : Nat} {og1 og2 : Option Org} (h : d1 ≠ d2) (h1 : og1 ≠ some (.slot d2)) (h2 : og2 ≠ some (.slot d1)) (l : List (Nat × Org)) : orgsX d2 og2 (orgsX d1 og1 l) = orgsX d1 og1 (orgsX d2 og2 l) := by
  cases og1 with
  | none =>
    cases og2 with
    | none => simp only [orgsX]; exact dropOrg_comm _ _ _
    | some o2 =>
      simp only [orgsX]
      rw [dropOrg_insOrg (Ne.symm h) (by simpa using h2), dropOrg_comm]
  | some o1 =>
    cases og2 with
    | none =>
      simp only [orgsX]
      rw [dropOrg_insOrg h (by simpa using h1), dropOrg_comm]
    | some o2 =>
      simp only [orgsX]
      rw [dropOrg_insOrg (Ne.symm h) (by simpa using h2), dropOrg_insOrg h (by simpa using h1), insOrg_comm h, dropOrg_comm]

theorem setX_comm {s s1 s12 : St} {d1 d2 : Option Nat} {e1 e2 : Ent} {og1 og2 : Option Org} (h1 : s.setX d1 e1 og1 = some s1) (h2 : s1.setX d2 e2 og2 = some s12) (hd : ∀ d, d1 = some d → d2 ≠ some d)
    (hs1 : ∀ d, d2 = some d → og1 ≠ some (.slot d)) (hs2 : ∀ d, d1 = some d → og2 ≠ some (.slot d)) : ∃ s2, s.setX d2 e2 og2 = some s2 ∧ s2.setX d1 e1 og1 = some s12 := by
  cases d1 with
  | none =>
    rw [setX_none'] at h1
    subst h1
    exact ⟨s12, h2, setX_none'.2 rfl⟩
  | some d1 =>
    cases d2 with
    | none =>
      rw [setX_none'] at h2
      subst h2
      exact ⟨s, setX_none'.2 rfl, h1⟩
    | some d2 =>
      have hne : d1 ≠ d2 := fun h => hd d1 rfl (by rw [h])
      rw [setX_iff] at h1
      obtain ⟨l1, rfl⟩ := h1
      rw [setX_iff] at h2
      obtain ⟨l2, rfl⟩ := h2
      refine ⟨_, setX_iff.2 ⟨l2, rfl⟩, setX_iff.2 ⟨l1, ?_⟩⟩
      simp only [St.mk.injEq, and_true]
      exact ⟨Env.ins_comm hne e1 e2 _, orgsX_comm hne (hs1 d2 rfl) (hs2 d1 rfl) _⟩

theorem setX_withOs {s s1 : St} {d : Option Nat} {e : Ent} {og : Option Org} (h : s.setX d e og = some s1) (os : List Ob) : (s.withOs os).setX d e og = some (s1.withOs os) := by
  cases d with
  | none => rw [setX_none'] at h ⊢; rw [h]
  | some d =>
    rw [setX_iff] at h ⊢
    obtain ⟨h1, rfl⟩ := h
    obtain ⟨env, orgs, os', n, thaw⟩ := s
    exact ⟨h1, rfl⟩

theorem setX_newOs {s s1 : St} {d : Option Nat} {e : Ent} {og : Option Org} (h : s.setX d e og = some s1) (hp : ∀ o p, og ≠ some (.place o p)) (os : List Ob) : (s.newOs os).setX d e og = some (s1.newOs os) := by
  cases d with
  | none => rw [setX_none'] at h ⊢; rw [h]
  | some d =>
    rw [setX_iff] at h ⊢
    obtain ⟨h1, rfl⟩ := h
    obtain ⟨env, orgs, os', n, thaw⟩ := s
    refine ⟨h1, ?_⟩
    cases og with
    | none => simp only [St.newOs, orgsX, slotOrgs_dropOrg]
    | some o => simp only [St.newOs, orgsX, slotOrgs_dropOrg, slotOrgs_insOrg (o := o) (fun ob p e => hp ob p (by rw [e]))]

theorem disown_comm {env : Env} {d t : Nat} {e : Ent} (h : d ≠ t) : (env.ins d e).disown t = (env.disown t).ins d e := by
  have hg : (env.ins d e).get t = env.get t := by rw [get_ins, if_neg h]
  unfold Env.disown
  rw [hg]
  split
  · rw [Env.ins_comm h]
  · rfl

theorem setX_disown {s s1 : St} {d : Option Nat} {e : Ent} {og : Option Org} (h : s.setX d e og = some s1) {x : Operand} (hx : ∀ t, d = some t → t ∉ opTmps x) : (s.withEnv (disown s.env x)).setX d e og = some (s1.withEnv (disown s1.env x)) := by
  cases d with
  | none => rw [setX_none'] at h ⊢; rw [h]
  | some d =>
    rw [setX_iff] at h ⊢
    obtain ⟨h1, rfl⟩ := h
    obtain ⟨env, orgs, os', n, thaw⟩ := s
    refine ⟨h1, ?_⟩
    cases x with
    | tmp t =>
      have : d ≠ t := fun e => hx d rfl (by simp [opTmps, e])
      simp only [St.withEnv, disown, disown_comm this]
    | _ => rfl

theorem setX_os {s s1 : St} {d : Option Nat} {e : Ent} {og : Option Org} (h : s.setX d e og = some s1) : s1.os = s.os := by
  cases d with
  | none => rw [setX_none'] at h; rw [h]
  | some d => rw [setX_iff] at h; rw [h.2]

theorem setX_get {s s1 : St} {d : Option Nat} {e : Ent} {og : Option Org} (h : s.setX d e og = some s1) {t : Nat} (ht : d ≠ some t) : s1.env.get t = s.env.get t := by
  cases d with
  | none => rw [setX_none'] at h; rw [h]
  | some d =>
    rw [setX_iff] at h
    rw [h.2]
    simp only [get_ins]
    rw [if_neg (fun e => ht (by rw [e]))]

theorem setX_sees {s s1 : St} {d : Option Nat} {e : Ent} {og : Option Org} (h : s.setX d e og = some s1) {L : List Nat} (hL : ∀ t, d = some t → t ∉ L) (dp : Bool) : Sees dp L s s1 :=
  ⟨fun t ht => by rw [setX_get h fun e => hL t e ht], fun o p u hu => by rw [setX_os h]; exact hu, fun _ => ⟨[], by rw [setX_os h]; simp⟩⟩

theorem setX_sees' {s s1 : St} {d : Option Nat} {e : Ent} {og : Option Org} (h : s.setX d e og = some s1) {L : List Nat} (hL : ∀ t, d = some t → t ∉ L) (dp : Bool) : Sees dp L s1 s :=
  ⟨fun t ht => by rw [setX_get h fun e => hL t e ht], fun o p u hu => by rw [setX_os h] at hu; exact hu, fun _ => ⟨[], by rw [setX_os h]; simp⟩⟩

/-! Guards. -/

def guardSlot (ops : Array Oper) (o : Oper) : List Nat :=
  match o.guard with
  | none => []
  | some (j, _) => match (ops[j]?).bind (·.dst) with
    | some d => [d]
    | none => []

theorem guard_sees {ops : Array Oper} {o : Oper} {L : List Nat} {dp : Bool} {s1 s2 : St} (h : Sees dp L s1 s2) (hg : ∀ t ∈ guardSlot ops o, t ∈ L) : guardEv ops s1 o.guard = guardEv ops s2 o.guard := by
  unfold guardSlot at hg
  unfold guardEv
  cases ho : o.guard with
  | none => rfl
  | some jw =>
    obtain ⟨j, want⟩ := jw
    simp only [ho] at hg ⊢
    cases hd : (ops[j]?).bind (·.dst) with
    | none => rfl
    | some d =>
      simp only [hd] at hg ⊢
      have hq := h.get d (hg d (by simp))
      cases h1 : s1.env.get d with
      | none =>
        cases h2 : s2.env.get d with
        | none => rfl
        | some e2 => simp [h1, h2] at hq
      | some e1 =>
        cases h2 : s2.env.get d with
        | none => simp [h1, h2] at hq
        | some e2 =>
          simp only [h1, h2, Option.map_some, Option.some.injEq] at hq
          cases e1 <;> cases e2 <;> simp only [Ent.bare, Ent.one.injEq, Ent.tup.injEq, reduceCtorEq] at hq ⊢
          obtain ⟨rfl, rfl, -⟩ := hq
          rename_i ty v _ _
          cases ty <;> try rfl
          cases v <;> rfl

section
variable {cx : Cx} {call : Nat → List V → List Ob → Option (Rs × List Ob)} {ops : Array Oper} {s s1 s2 : St}

/-- a quiet operation under its guard -/
theorem quiet_step {o : Oper} {dp : Bool} {L : List Nat} {s' : St} (hq : quiet cx o = some (dp, L)) (h : Sees dp (L ++ guardSlot ops o) s1 s2) (he : stepEv cx call ops o s1 = some s') :
    SameX dp L s1 s2 o.dst s' (stepEv cx call ops o s2) := by
  unfold stepEv at he ⊢
  rw [guard_sees h (fun t ht => by simp [ht])] at he
  split at he
  · exact quiet_frame hq (h.weak id fun t ht => by simp [ht]) he
  · exact setX_none he s2
  · simp at he

/-! Operations with an effect. -/

def effLooks (o : Oper) : Option (List Nat) :=
  match o.op with
  | .alloc _ => some []
  | .assign x => some (opTmps x)
  | .store _ a x => some (opTmps a ++ opTmps x)
  | .mapUpdate _ m x y => some (opTmps m ++ (opTmps x ++ opTmps y))
  | _ => none

/-- objects that are there are written -/
def isMut (o : Oper) : Bool :=
  match o.op with
  | .store .. => true
  | .mapUpdate .. => true
  | _ => false

theorem owns_setX {d : Option Nat} {e : Ent} {og : Option Org} (h : s.setX d e og = some s1) {x : Operand} (hx : ∀ t, d = some t → t ∉ opTmps x) : owns s1 x = owns s x := by
  cases x with
  | tmp t => simp only [owns]; rw [setX_get h fun e => hx t e (by simp [opTmps])]
  | _ => rfl

/-- an effect comes before a slot's writing as well -/
theorem eff_back {o : Oper} {LE : List Nat} (hE : effLooks o = some LE) {d : Option Nat} {e : Ent} {og : Option Org} (hx : s.setX d e og = some s1) (hL : ∀ t, d = some t → t ∉ LE ++ guardSlot ops o) (hne : ∀ t, d = some t → o.dst ≠ some t)
    (hog : ∀ t, o.dst = some t → og ≠ some (.slot t)) (hpl : isMut o = true → ∀ ob p, og ≠ some (.place ob p)) (h : stepEv cx call ops o s1 = some s2) : ∃ s1', stepEv cx call ops o s = some s1' ∧ s1'.setX d e og = some s2 := by
  have sees : Sees true (LE ++ guardSlot ops o) s1 s := setX_sees' hx hL true
  have hLE : ∀ {x : Operand}, (∀ t ∈ opTmps x, t ∈ LE) → ∀ t, d = some t → t ∉ opTmps x := fun hs t ht hm => hL t ht (by simp [hs t hm])
  unfold stepEv at h ⊢
  rw [guard_sees sees (fun t ht => by simp [ht])] at h
  split at h
  · unfold effLooks at hE
    unfold evOp at h ⊢
    split at hE
    · rename_i ty hop
      simp only [hop] at h ⊢
      unfold allocEv at h ⊢
      split at h
      · rename_i u hu
        rw [setX_os hx] at h
        exact setX_comm (og2 := none) (setX_withOs hx _) h hne hog (by simp)
      · simp at h
    · rename_i x hop
      simp only [Option.some.injEq] at hE
      subst hE
      simp only [hop] at h ⊢
      unfold assignEv at h ⊢
      split at h
      · rw [sees.opd (fun t ht => by simp [ht])] at h
        split at h
        · rw [owns_setX hx (hLE fun t ht => ht)] at h
          split at h
          · exact setX_comm (og2 := none) (setX_disown hx (hLE fun t ht => ht)) h hne hog (by simp)
          · exact setX_comm (og2 := none) hx h hne hog (by simp)
        · simp at h
      · simp at h
    · rename_i ty ad x hop
      simp only [Option.some.injEq] at hE
      subst hE
      simp only [hop] at h ⊢
      have hm : isMut o = true := by simp [isMut, hop]
      unfold storeEv at h ⊢
      split at h
      · rw [sees.opd (fun t ht => by simp [ht])] at h
        split at h
        · rw [sees.opd (fun t ht => by simp [ht])] at h
          split at h
          · rw [owns_setX hx (hLE fun t ht => by simp [ht]), setX_os hx] at h
            split at h
            · exact setX_comm (og2 := none) (setX_newOs (setX_disown hx (hLE fun t ht => by simp [ht])) (hpl hm) _) h hne hog (by simp)
            · simp at h
          · simp at h
        · simp at h
      · simp at h
    · rename_i ty m x y hop
      simp only [Option.some.injEq] at hE
      subst hE
      simp only [hop] at h ⊢
      have hm : isMut o = true := by simp [isMut, hop]
      have hu : updEv cx s1 ty m x y = updEv cx s ty m x y := by
        unfold updEv
        simp only [sees.opd (x := m) (fun t ht => by simp [ht]), sees.opd (x := x) (fun t ht => by simp [ht]), sees.opd (x := y) (fun t ht => by simp [ht]), setX_os hx]
      rw [hu] at h
      unfold updAny at h ⊢
      split at h
      · exact setX_comm (og2 := none) (setX_newOs hx (hpl hm) _) h hne hog (by simp)
      · simp at h
    · simp at hE
  · exact setX_comm (og2 := none) hx h hne hog (by simp)
  · simp at h

theorem bare_disown (env : Env) (x : Operand) (t : Nat) : ((disown env x).get t).map Ent.bare = (env.get t).map Ent.bare := by
  cases x with
  | tmp u =>
    simp only [disown, Env.disown]
    split
    · rename_i ty v hu
      rw [get_ins]
      split
      · rename_i hut
        subst hut
        rw [hu]; rfl
      · rfl
    · rfl
  | _ => rfl

theorem lookTy_set_row {os : List Ob} {o : Nat} {ty : Ty} {vs vs' : List V} {ow ow' : List (List Nat)} (h : os[o]? = some (.row ty vs ow)) {o2 : Nat} {p : List Nat} {u : Ty} (hl : lookTy os o2 p = some u) : lookTy (os.set o (.row ty vs' ow')) o2 p = some u := by
  cases p with
  | nil => simp [lookTy] at hl
  | cons i q =>
    simp only [lookTy] at hl ⊢
    rw [List.getElem?_set]
    by_cases ho : o = o2
    · subst ho
      rw [if_pos rfl, if_pos (List.getElem?_eq_some_iff.1 h).1]
      rw [h] at hl
      exact hl
    · rw [if_neg ho]; exact hl

theorem lookTy_set_map {os : List Ob} {o : Nat} {k e k' e' : Ty} {es es' : List (V × V)} (h : os[o]? = some (.mapo k e es)) {o2 : Nat} {p : List Nat} {u : Ty} (hl : lookTy os o2 p = some u) : lookTy (os.set o (.mapo k' e' es')) o2 p = some u := by
  cases p with
  | nil => simp [lookTy] at hl
  | cons i q =>
    simp only [lookTy] at hl ⊢
    rw [List.getElem?_set]
    by_cases ho : o = o2
    · subst ho
      rw [h] at hl
      simp at hl
    · rw [if_neg ho]; exact hl

theorem look_set_map {os : List Ob} {o : Nat} {k e k' e' : Ty} {es es' : List (V × V)} (h : os[o]? = some (.mapo k e es)) {o2 : Nat} {p : List Nat} {r : Ty × V} (hl : look os o2 p = some r) : look (os.set o (.mapo k' e' es')) o2 p = some r := by
  cases p with
  | nil => simp [look] at hl
  | cons i q =>
    simp only [look] at hl ⊢
    rw [List.getElem?_set]
    by_cases ho : o = o2
    · subst ho
      rw [h] at hl
      simp at hl
    · rw [if_neg ho]; exact hl

theorem updEv_os {st : St} {ty : Nat} {m x y : Operand} {os : List Ob} (h : updEv cx st ty m x y = some os) : ∃ o k e es k' e' es', st.os[o]? = some (.mapo k e es) ∧ os = st.os.set o (.mapo k' e' es') := by
  unfold updEv at h
  split at h
  · split at h
    · split at h
      · split at h
        · split at h
          · rename_i ho
            split at h
            · split at h
              · injection h with h; exact ⟨_, _, _, _, _, _, _, ho, h.symm⟩
              · injection h with h; exact ⟨_, _, _, _, _, _, _, ho, h.symm⟩
              · simp at h
            · simp at h
          · simp at h
        · simp at h
      · simp at h
    · simp at h
  · simp at h

theorem stash_os {os os' : List Ob} {o : Nat} {p : List Nat} {u : Ty} {x : V} {own : Bool} (h : stash os o p u x own = some os') : ∃ i q ty vs ow v v' ow', p = i :: q ∧ os[o]? = some (.row ty vs ow) ∧ vs[i]? = some v ∧ v.put q x = some v' ∧ os' = os.set o (.row ty (vs.set i v') ow') := by
  cases p with
  | nil => simp [stash] at h
  | cons i q =>
    simp only [stash] at h
    split at h
    · rename_i ho
      split at h
      · rename_i hv
        split at h
        · split at h
          · rename_i hp
            injection h with h
            exact ⟨i, q, _, _, _, _, _, _, rfl, ho, hv, hp, h.symm⟩
          · simp at h
        · simp at h
      · simp at h
    · simp at h

/-- what is seen behind an effect -/
theorem eff_sees {o : Oper} {LE : List Nat} (hE : effLooks o = some LE) {L : List Nat} (hL : ∀ t, o.dst = some t → t ∉ L) {dp : Bool} (hdp : dp = true → isMut o = false) (h : stepEv cx call ops o s = some s1) : Sees dp L s s1 := by
  unfold stepEv at h
  split at h
  · unfold effLooks at hE
    unfold evOp at h
    split at hE
    · rename_i ty hop
      simp only [hop] at h
      unfold allocEv at h
      split at h
      · rename_i u hu
        have hs := setX_sees (og := none) h hL dp
        refine ⟨fun t ht => by rw [← hs.get t ht]; rfl, fun o p u hl => hs.ty o p u (lookTy_ext hl), fun hd => ?_⟩
        obtain ⟨ext, he⟩ := hs.ext hd
        refine ⟨[.row u [u.zeroV] []] ++ ext, ?_⟩
        rw [he]
        obtain ⟨env, orgs, os, n, thaw⟩ := s
        simp [St.withOs]
      · simp at h
    · rename_i x hop
      simp only [hop] at h
      unfold assignEv at h
      split at h
      · split at h
        · split at h
          · have hs := setX_sees (og := none) h hL dp
            refine ⟨fun t ht => ?_, hs.ty, hs.ext⟩
            rw [← hs.get t ht]
            exact (bare_disown s.env x t).symm
          · exact setX_sees (og := none) h hL dp
        · simp at h
      · simp at h
    · rename_i ty ad x hop
      simp only [hop] at h
      have hm : isMut o = true := by simp [isMut, hop]
      have hd : dp = false := by cases dp with | false => rfl | true => exact absurd (hdp rfl) (by simp [hm])
      subst hd
      unfold storeEv at h
      split at h
      · split at h
        · split at h
          · split at h
            · rename_i os' hst
              have hs := setX_sees (og := none) h hL false
              refine ⟨fun t ht => ?_, fun o2 p2 u hl => hs.ty o2 p2 u ?_, by simp⟩
              · rw [← hs.get t ht]
                exact (bare_disown s.env x t).symm
              · obtain ⟨i, q, ty', vs, ow, v, v', ow', rfl, ho, _, _, rfl⟩ := stash_os hst
                exact lookTy_set_row ho hl
            · simp at h
          · simp at h
        · simp at h
      · simp at h
    · rename_i ty m x y hop
      simp only [hop] at h
      have hm : isMut o = true := by simp [isMut, hop]
      have hd : dp = false := by cases dp with | false => rfl | true => exact absurd (hdp rfl) (by simp [hm])
      subst hd
      unfold updAny at h
      split at h
      · rename_i os' hu
        have hs := setX_sees (og := none) h hL false
        refine ⟨fun t ht => by rw [← hs.get t ht]; rfl, fun o2 p2 u hl => hs.ty o2 p2 u ?_, by simp⟩
        obtain ⟨ob, k, e, es, k', e', es', ho, rfl⟩ := updEv_os hu
        exact lookTy_set_map ho hl
      · simp at h
    · simp at hE
  · exact setX_sees (og := none) h hL dp
  · simp at h
end
end Go.Vm
