/- Tables by number. -/
import Derived.Test.YtjbehmedbefbpaaGreatVmEval
set_option linter.unusedVariables false
set_option linter.unusedSimpArgs false
namespace Go.Vm

inductive Tree (α : Type) where
  | e
  | n (k : Nat) (v : α) (l r : Tree α)

noncomputable def Tree.get {α : Type} (t : Tree α) (i : Nat) : Option α :=
  @Tree.rec α (fun _ => Option α) none (fun k v _ _ ihl ihr => @Bool.rec (fun _ => Option α) (@Bool.rec (fun _ => Option α) ihr ihl (Nat.ble i k)) (some v) (Nat.beq i k)) t

theorem Tree.get_n {α : Type} (k : Nat) (v : α) (l r : Tree α) (i : Nat) : (Tree.n k v l r).get i = match Nat.beq i k with
    | true => some v
    | false => match Nat.ble i k with
      | true => l.get i
      | false => r.get i := by
  show (@Bool.rec (fun _ => Option α) _ _ (Nat.beq i k) : Option α) = _
  cases Nat.beq i k
  · show (@Bool.rec (fun _ => Option α) _ _ (Nat.ble i k) : Option α) = _
    cases Nat.ble i k <;> rfl
  · rfl

def Tree.All {α : Type} (p : Nat → α → Prop) : Tree α → Prop
  | .e => True
  | .n k v l r => p k v ∧ l.All p ∧ r.All p

def Tree.all {α : Type} (p : Nat → α → Bool) : Tree α → Bool
  | .e => true
  | .n k v l r => p k v && (l.all p && r.all p)

theorem Tree.of_get {α : Type} {p : Nat → α → Prop} {i : Nat} {v : α} : ∀ {t : Tree α}, t.All p → t.get i = some v → p i v
  | .e, _, h => by simp [Tree.get] at h
  | .n k x l r, ⟨h1, h2, h3⟩, h => by
    rw [Tree.get_n] at h
    cases hk : Nat.beq i k with
    | true =>
      simp only [hk, Option.some.injEq] at h
      subst h
      rw [Nat.eq_of_beq_eq_true hk]
      exact h1
    | false =>
      cases hl : Nat.ble i k with
      | true => simp only [hk, hl] at h; exact Tree.of_get h2 h
      | false => simp only [hk, hl] at h; exact Tree.of_get h3 h

theorem Tree.of_all {α : Type} {p : Nat → α → Bool} {i : Nat} {v : α} : ∀ {t : Tree α}, t.all p = true → t.get i = some v → p i v = true
  | .e, _, h => by simp [Tree.get] at h
  | .n k x l r, ha, h => by
    simp only [Tree.all, Bool.and_eq_true] at ha
    rw [Tree.get_n] at h
    cases hk : Nat.beq i k with
    | true =>
      simp only [hk, Option.some.injEq] at h
      subst h
      rw [Nat.eq_of_beq_eq_true hk]
      exact ha.1
    | false =>
      cases hl : Nat.ble i k with
      | true => simp only [hk, hl] at h; exact Tree.of_all ha.2.1 h
      | false => simp only [hk, hl] at h; exact Tree.of_all ha.2.2 h
end Go.Vm
