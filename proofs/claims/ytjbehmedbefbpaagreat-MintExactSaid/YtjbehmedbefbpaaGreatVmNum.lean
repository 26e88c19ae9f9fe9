/- Numbers in range. -/
import Derived.Test.YtjbehmedbefbpaaGreatVmFacts
import Derived.IntWalk
set_option linter.unusedVariables false
set_option linter.unusedSimpArgs false
namespace Go.Vm
open Go

theorem wrapF_u8 {n : Int} (h0 : 0 ≤ n) (h1 : n < 256) : wrapF .u8 n = n := by rw [wrapF_eq]; exact IntWalk.u8_in n ⟨h0, by omega⟩
theorem wrapF_u32 {n : Int} (h0 : 0 ≤ n) (h1 : n < 4294967296) : wrapF .u32 n = n := by rw [wrapF_eq]; exact IntWalk.u32_in n ⟨h0, by omega⟩
theorem wrapF_u64 {n : Int} (h0 : 0 ≤ n) (h1 : n < 18446744073709551616) : wrapF .u64 n = n := by rw [wrapF_eq]; exact IntWalk.u64_in n ⟨h0, by omega⟩
theorem wrapF_i64 {n : Int} (h0 : -9223372036854775808 ≤ n) (h1 : n < 9223372036854775808) : wrapF .i64 n = n := by rw [wrapF_eq]; exact IntWalk.i64_in n ⟨h0, by omega⟩

theorem wrapF_mod (k : IntKind) (hs : k.signed = false) (n : Int) : wrapF k n = n % (modN k : Int) := by
  unfold wrapF
  have h : 0 ≤ n % (modN k : Int) := Int.emod_nonneg _ (by cases k <;> simp [modN])
  have e : halfN k = none := by cases k <;> simp_all [halfN, IntKind.signed]
  rw [show Int.emod n (Int.ofNat (modN k)) = n % (modN k : Int) from rfl]
  cases hm : n % (modN k : Int) with
  | ofNat a => simp only [e]
  | negSucc a => rfl

theorem get_each {env env' : Env} (h : Each (fun x => env.get x.1 = some x.2) env') : ∀ t e, env'.get t = some e → env.get t = some e := by
  induction env' with
  | nil => intro t e he; simp [get_nil] at he
  | cons x r ih =>
    intro t e he
    obtain ⟨u, y⟩ := x
    rw [get_cons] at he
    split at he
    · rename_i hu
      injection he with he
      rw [← hu, ← he]
      exact h.1
    · exact ih h.2 t e he

theorem St.Sub.of {env env' : Env} {orgs : List (Nat × Org)} {os : List Ob} {n : Nat} {thaw thaw' : List Nat} (h : Each (fun x => env.get x.1 = some x.2) env') : St.Sub ⟨env, orgs, os, n, thaw⟩ ⟨env', [], os, n, thaw'⟩ :=
  ⟨get_each h, fun x hx => by simp at hx, rfl, rfl⟩
end Go.Vm
