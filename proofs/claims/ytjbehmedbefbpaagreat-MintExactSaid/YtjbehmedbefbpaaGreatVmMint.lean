/- mint.Bundle and its reference answer the same text. -/
import Derived.Test.YtjbehmedbefbpaaGreatVmMintR0
import Derived.Test.YtjbehmedbefbpaaGreatVmMintR1
import Derived.Test.YtjbehmedbefbpaaGreatVmMintR2
set_option linter.unusedVariables false
set_option linter.unusedSimpArgs false
namespace Go.Vm
open Go Go.Proofs

/-- both bundles are one text -/
def Bundled (v : Int) : Prop := ∃ l : List UInt8, 50 < l.length ∧ l.length ≤ 1099511627776 ∧ CallOK Tryz.prog cx 13 [.i v] [] (.one .str (.s l) false) [] ∧ CallOK Tryz.prog cx 14 [.i v] [] (.one .str (.s l) false) []

theorem adler_lt (l : List UInt8) : adler l < 4294967296 := by
  have h := adFold_lt l (1, 0) (by decide) (by decide)
  unfold adler
  omega

noncomputable def noS : Nat → List UInt8 := fun _ => []

theorem bundled_of {v : Int} {a b c d : Int} {L : List SB} (h1 : 1 ≤ v) (h2 : v < 1073741824) (ha : v % 3 = a) (hb : v % 2 = b) (hc : (v + 1) % 3 = c) (hd : (v + 1) % 2 = d)
    (hL : ∀ m, denS (TM v m noS) L = denS (TM v 0 noS) L) (hlen : (denS (TM v 0 noS) L).length ≤ 1099511627776) {B : List SB} (hB : 50 < (denS (TM v (adler (denS (TM v 0 noS) L)) noS) B).length ∧ (denS (TM v (adler (denS (TM v 0 noS) L)) noS) B).length ≤ 1099511627776)
    (rA : ∀ r s, evCallF ((mintTab a b c d).on (tblK [⟨81, [.tx L], [], .one (.int .u32) (.ix (.v 40)) false, []⟩, ⟨95, [.tx L], [], .one (.int .u32) (.ix (.v 40)) false, []⟩]) (cxOf r s)) 300 13 [.ix (.v 0)] [] = some (.one .str (.tx B) false, []))
    (rB : ∀ r s, evCallF ((mintTab a b c d).on (tblK [⟨81, [.tx L], [], .one (.int .u32) (.ix (.v 40)) false, []⟩, ⟨95, [.tx L], [], .one (.int .u32) (.ix (.v 40)) false, []⟩]) (cxOf r s)) 300 14 [.ix (.v 0)] [] = some (.one .str (.tx B) false, [])) : Bundled v := by
  have hm := adler_lt (denS (TM v 0 noS) L)
  have ok := mint_ok (m := (adler (denS (TM v 0 noS) L) : Nat)) (s := noS) h1 h2 ha hb hc hd (by omega) (by omega) (fun _ => by simp [noS])
  have hK : Each (KRow.Ok Tryz.prog ((mintTab a b c d).on (tblK [⟨81, [.tx L], [], .one (.int .u32) (.ix (.v 40)) false, []⟩, ⟨95, [.tx L], [], .one (.int .u32) (.ix (.v 40)) false, []⟩]) (cxOf (rhoM v (adler (denS (TM v 0 noS) L) : Nat)) noS)))
      [⟨81, [.tx L], [], .one (.int .u32) (.ix (.v 40)) false, []⟩, ⟨95, [.tx L], [], .one (.int .u32) (.ix (.v 40)) false, []⟩] := by
    refine ⟨row_of ?_, row_of ?_, trivial⟩
    · have := call81 hlen
      rw [← hL (adler (denS (TM v 0 noS) L) : Nat)] at this
      rw [hL] at this
      show CallOK Tryz.prog cx 81 [.s (denS (TM v (adler (denS (TM v 0 noS) L) : Nat) noS) L)] [] (.one (.int .u32) (.i (adler (denS (TM v 0 noS) L) : Nat)) false) []
      rw [hL]
      exact this
    · have := call95 hlen
      show CallOK Tryz.prog cx 95 [.s (denS (TM v (adler (denS (TM v 0 noS) L) : Nat) noS) L)] [] (.one (.int .u32) (.i (adler (denS (TM v 0 noS) L) : Nat)) false) []
      rw [hL]
      exact this
  exact ⟨_, hB.1, hB.2, call_lit (call_on ok (tblK_ok hK) (rA _ _)), call_lit (call_on ok (tblK_ok hK) (rB _ _))⟩

theorem bundled {v : Int} (h1 : 1 ≤ v) (h2 : v < 1073741824) : Bundled v := by
  have hr : v % 6 = 0 ∨ v % 6 = 1 ∨ v % 6 = 2 ∨ v % 6 = 3 ∨ v % 6 = 4 ∨ v % 6 = 5 := by omega
  rcases hr with hr | hr | hr | hr | hr | hr
  · exact bundled_of (L := mintL0) (B := mintB0) h1 h2 (a := 0) (b := 0) (c := 1) (d := 1) (by omega) (by omega) (by omega) (by omega) (fun _ => by kernel_rfl) (Nat.le_of_ble_eq_true (by kernel_rfl)) ⟨Nat.le_of_ble_eq_true (by kernel_rfl), Nat.le_of_ble_eq_true (by kernel_rfl)⟩ mintRunA0 mintRunB0
  · exact bundled_of (L := mintL1) (B := mintB1) h1 h2 (a := 1) (b := 1) (c := 2) (d := 0) (by omega) (by omega) (by omega) (by omega) (fun _ => by kernel_rfl) (Nat.le_of_ble_eq_true (by kernel_rfl)) ⟨Nat.le_of_ble_eq_true (by kernel_rfl), Nat.le_of_ble_eq_true (by kernel_rfl)⟩ mintRunA1 mintRunB1
  · exact bundled_of (L := mintL2) (B := mintB2) h1 h2 (a := 2) (b := 0) (c := 0) (d := 1) (by omega) (by omega) (by omega) (by omega) (fun _ => by kernel_rfl) (Nat.le_of_ble_eq_true (by kernel_rfl)) ⟨Nat.le_of_ble_eq_true (by kernel_rfl), Nat.le_of_ble_eq_true (by kernel_rfl)⟩ mintRunA2 mintRunB2
  · exact bundled_of (L := mintL3) (B := mintB3) h1 h2 (a := 0) (b := 1) (c := 1) (d := 0) (by omega) (by omega) (by omega) (by omega) (fun _ => by kernel_rfl) (Nat.le_of_ble_eq_true (by kernel_rfl)) ⟨Nat.le_of_ble_eq_true (by kernel_rfl), Nat.le_of_ble_eq_true (by kernel_rfl)⟩ mintRunA3 mintRunB3
  · exact bundled_of (L := mintL4) (B := mintB4) h1 h2 (a := 1) (b := 0) (c := 2) (d := 1) (by omega) (by omega) (by omega) (by omega) (fun _ => by kernel_rfl) (Nat.le_of_ble_eq_true (by kernel_rfl)) ⟨Nat.le_of_ble_eq_true (by kernel_rfl), Nat.le_of_ble_eq_true (by kernel_rfl)⟩ mintRunA4 mintRunB4
  · exact bundled_of (L := mintL5) (B := mintB5) h1 h2 (a := 2) (b := 1) (c := 0) (d := 0) (by omega) (by omega) (by omega) (by omega) (fun _ => by kernel_rfl) (Nat.le_of_ble_eq_true (by kernel_rfl)) ⟨Nat.le_of_ble_eq_true (by kernel_rfl), Nat.le_of_ble_eq_true (by kernel_rfl)⟩ mintRunA5 mintRunB5
end Go.Vm
