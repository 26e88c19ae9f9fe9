/- The law MintExact: runs, a class of versions each; every seed. -/
import Derived.Test.YtjbehmedbefbpaaGreatVmMint
set_option linter.unusedVariables false
set_option linter.unusedSimpArgs false
namespace Go.Vm
open Go Go.Proofs

noncomputable def osOf (o : Option (Rs × List Ob)) : List Ob := match o with
  | some (_, os) => os
  | none => []
noncomputable def isTrue (o : Option (Rs × List Ob)) : Bool := match o with
  | some (.one .bool (.b true) false, _) => true
  | _ => false
theorem of_isTrue {o : Option (Rs × List Ob)} (h : isTrue o = true) : o = some (.one .bool (.b true) false, osOf o) := by
  unfold isTrue at h
  split at h
  · rfl
  · simp at h

/-- the draws of a seed -/
def seedR : List (SI × SI) := [
  (.o .add .u64 (.o .mul .u64 (.c .u64 (.v 1)) (.l 6364136223846793005)) (.l 1442695040888963407), .v 50), (.o .shr .u64 (.v 50) (.l 33), .v 51), (.o .quo .u64 (.v 50) (.l 8589934592), .v 51), (.c .i64 (.v 51), .v 51),
  (.o .add .u64 (.o .mul .u64 (.v 50) (.l 6364136223846793005)) (.l 1442695040888963407), .v 52), (.o .shr .u64 (.v 52) (.l 33), .v 53), (.o .quo .u64 (.v 52) (.l 8589934592), .v 53), (.c .i64 (.v 53), .v 53),
  (.o .add .u64 (.o .mul .u64 (.v 52) (.l 6364136223846793005)) (.l 1442695040888963407), .v 54), (.o .shr .u64 (.v 54) (.l 33), .v 55), (.o .quo .u64 (.v 54) (.l 8589934592), .v 55), (.c .i64 (.v 55), .v 55),
  (.o .add .u64 (.o .mul .u64 (.v 54) (.l 6364136223846793005)) (.l 1442695040888963407), .v 56), (.o .shr .u64 (.v 56) (.l 33), .v 57), (.o .quo .u64 (.v 56) (.l 8589934592), .v 57), (.c .i64 (.v 57), .v 57)]

def restR : List (SI × SI) := [(.o .rem .i64 (.v 0) (.l 7), .v 2), (.c .u64 (.v 2), .v 2), (.c .u8 (.v 2), .v 2), (.o .rem .u64 (.v 2) (.l 256), .v 2), (.o .quo .u64 (.v 2) (.l 256), .l 0)]
def lawTab (a b : Int) : Tab := { R := (.o .rem .i64 (.v 0) (.l 3), .l a) :: (.o .rem .i64 (.v 0) (.l 2), .l b) :: (restR ++ seedR), C := mintC, Z := [.v 2] }
def lowTab : Tab := { R := seedR, C := [(.geq, .v 0, .l 1, false), (.lss, .v 0, .l 1, true)] }
def highTab : Tab := { R := seedR, C := [(.geq, .v 0, .l 1, true), (.leq, .v 0, .l 1073741824, false), (.lss, .v 0, .l 1, false), (.gtr, .v 0, .l 1073741824, true), (.geq, .v 0, .l 1073741824, true)] }
def lastTab : Tab := { R := seedR }
noncomputable def awakeK (os : List Ob) : List KRow := [⟨5, [], [], .one .bool (.b true) false, os⟩]
noncomputable def lawK (os : List Ob) : List KRow := [⟨5, [], [], .one .bool (.b true) false, os⟩, ⟨13, [.ix (.v 0)], [], .one .str (.tx [.gr 0]) false, []⟩, ⟨14, [.ix (.v 0)], [], .one .str (.tx [.gr 0]) false, []⟩]

theorem run00 (r : Nat → Int) (s : Nat → List UInt8) (os : List Ob) : isTrue (evCallF ((lawTab 0 0).on (tblK (lawK os)) (cxOf r s)) 300 3 [.ix (.v 0), .ix (.v 1)] []) = true := by kernel_rfl
theorem run01 (r : Nat → Int) (s : Nat → List UInt8) (os : List Ob) : isTrue (evCallF ((lawTab 0 1).on (tblK (lawK os)) (cxOf r s)) 300 3 [.ix (.v 0), .ix (.v 1)] []) = true := by kernel_rfl
theorem run10 (r : Nat → Int) (s : Nat → List UInt8) (os : List Ob) : isTrue (evCallF ((lawTab 1 0).on (tblK (lawK os)) (cxOf r s)) 300 3 [.ix (.v 0), .ix (.v 1)] []) = true := by kernel_rfl
theorem run11 (r : Nat → Int) (s : Nat → List UInt8) (os : List Ob) : isTrue (evCallF ((lawTab 1 1).on (tblK (lawK os)) (cxOf r s)) 300 3 [.ix (.v 0), .ix (.v 1)] []) = true := by kernel_rfl
theorem run20 (r : Nat → Int) (s : Nat → List UInt8) (os : List Ob) : isTrue (evCallF ((lawTab 2 0).on (tblK (lawK os)) (cxOf r s)) 300 3 [.ix (.v 0), .ix (.v 1)] []) = true := by kernel_rfl
theorem run21 (r : Nat → Int) (s : Nat → List UInt8) (os : List Ob) : isTrue (evCallF ((lawTab 2 1).on (tblK (lawK os)) (cxOf r s)) 300 3 [.ix (.v 0), .ix (.v 1)] []) = true := by kernel_rfl
theorem runLow (r : Nat → Int) (s : Nat → List UInt8) (os : List Ob) : isTrue (evCallF (lowTab.on (tblK (awakeK os)) (cxOf r s)) 300 3 [.ix (.v 0), .ix (.v 1)] []) = true := by kernel_rfl
theorem runHigh (r : Nat → Int) (s : Nat → List UInt8) (os : List Ob) : isTrue (evCallF (highTab.on (tblK (awakeK os)) (cxOf r s)) 300 3 [.ix (.v 0), .ix (.v 1)] []) = true := by kernel_rfl
theorem runLast (r : Nat → Int) (s : Nat → List UInt8) (os : List Ob) : isTrue (evCallF (lastTab.on (tblK (awakeK os)) (cxOf r s)) 300 3 [.i 1073741824, .ix (.v 1)] []) = true := by kernel_rfl

/-- awake: with what is known of three bundles -/
def awakeTab : Tab := { C := [(.gtr, .v 60, .l 50, true)], N := [([.gr 1], .v 60)] }
noncomputable def awakeRows : List KRow := [⟨13, [.i 1], [], .one .str (.tx [.gr 1]) false, []⟩, ⟨13, [.i 2], [], .one .str (.tx [.gr 2]) false, []⟩, ⟨13, [.i 3], [], .one .str (.tx [.gr 3]) false, []⟩]
theorem runAwake (r : Nat → Int) (s : Nat → List UInt8) : isTrue (evCallF (awakeTab.on (tblK awakeRows) (cxOf r s)) 300 5 [] []) = true := by kernel_rfl
end Go.Vm
