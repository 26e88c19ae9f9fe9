/- The law MintExact, of every version and seed. -/
import Derived.Test.YtjbehmedbefbpaaGreatVmMintL
set_option linter.unusedVariables false
set_option linter.unusedSimpArgs false
namespace Go.Vm
open Go Go.Proofs

def awakeOs : List Ob := [(.row (.st [(.int .i64), (.sl 67)]) [(.rc [(.i 2), (.sl false [(.rc [(.i 1), (.s [104, 112]), (.sl false [(.rc [(.s [110]), (.i 4), (.i 1)])])]), (.rc [(.i 2), (.s [112, 111, 115]), (.sl false [(.rc [(.s [120]), (.i 3), (.i 1)]), (.rc [(.s [121]), (.i 3), (.i 1)])])]), (.rc [(.i 3), (.s [116, 97, 103]), .snil])])])] []), (.row (.st [(.st [(.int .i64), (.sl 67)]), (.sl 78), (.st [(.int .i64), (.int .i64), (.int .i64), (.int .i64), (.int .i64), (.int .i64)])]) [(.rc [(.rc [(.i 1), (.sl false [(.rc [(.i 1), (.s [104, 112]), (.sl false [(.rc [(.s [110]), (.i 6), (.i 1)])])]), (.rc [(.i 2), (.s [112, 111, 115]), (.sl false [(.rc [(.s [120]), (.i 3), (.i 1)]), (.rc [(.s [121]), (.i 3), (.i 1)])])])])]), (.sl false [(.rc [(.s [97, 103, 101]), (.i 0), .snil, (.i 2), (.i 0), (.sl false [(.rc [(.i 2), (.i 1), (.i 0), (.i 0), (.i 0)]), (.rc [(.i 1), (.i 0), (.i 0), (.i 0), (.i 1)]), (.rc [(.i 4), (.i 0), (.i 0), (.i 0), (.i 0)]), (.rc [(.i 3), (.i 1), (.i 0), (.i 0), (.i 0)])])]), (.rc [(.s [109, 111, 118, 101]), (.i 0), (.sl false [(.s [97, 103, 101])]), (.i 4), (.i 0), (.sl false [(.rc [(.i 2), (.i 2), (.i 0), (.i 0), (.i 0)]), (.rc [(.i 2), (.i 2), (.i 1), (.i 0), (.i 0)]), (.rc [(.i 4), (.i 0), (.i 0), (.i 0), (.i 0)]), (.rc [(.i 3), (.i 2), (.i 0), (.i 0), (.i 0)])])])]), (.rc [(.i 10), (.i 6), (.i 6), (.i 4), (.i 93), (.i 3)])])] [])]

theorem runAwakeOs (r : Nat → Int) (s : Nat → List UInt8) : evCallF (awakeTab.on (tblK awakeRows) (cxOf r s)) 300 5 [] [] = some (.one .bool (.b true) false, awakeOs) := by kernel_rfl
theorem awakeOs_lit (T : TR) : litOs T awakeOs = awakeOs := by kernel_rfl

/-- the first answers stand -/
theorem awake_ok : CallOK Tryz.prog cx 5 [] [] (.one .bool (.b true) false) awakeOs := by
  obtain ⟨l1, a1, b1, c1, -⟩ := bundled (v := 1) (by decide) (by decide)
  obtain ⟨l2, -, b2, c2, -⟩ := bundled (v := 2) (by decide) (by decide)
  obtain ⟨l3, -, b3, c3, -⟩ := bundled (v := 3) (by decide) (by decide)
  let r : Nat → Int := fun k => match k with | 60 => (l1.length : Int) | _ => 0
  let s : Nat → List UInt8 := fun k => match k with | 1 => l1 | 2 => l2 | 3 => l3 | _ => []
  have ok : awakeTab.Ok ⟨tyTree.get, r, s⟩ := by
    refine ⟨trivial, ⟨?_, trivial⟩, trivial, ⟨?_, trivial⟩, trivial, trivial, fun k => ?_⟩
    · exact decide_eq_true (p := (l1.length : Int) > 50) (by omega)
    · show (l1.length : Int) = ((l1 ++ []).length : Int)
      rw [List.append_nil]
    · show (match k with | 1 => l1 | 2 => l2 | 3 => l3 | _ => []).length ≤ _
      split
      · exact b1
      · exact b2
      · exact b3
      · exact Nat.zero_le _
  have hK : Each (KRow.Ok Tryz.prog (awakeTab.on (tblK awakeRows) (cxOf r s))) awakeRows := by
    refine ⟨row_of ?_, row_of ?_, row_of ?_, trivial⟩
    · show CallOK Tryz.prog cx 13 [.i 1] [] (.one .str (.s (l1 ++ [])) false) []
      rw [List.append_nil]; exact c1
    · show CallOK Tryz.prog cx 13 [.i 2] [] (.one .str (.s (l2 ++ [])) false) []
      rw [List.append_nil]; exact c2
    · show CallOK Tryz.prog cx 13 [.i 3] [] (.one .str (.s (l3 ++ [])) false) []
      rw [List.append_nil]; exact c3
  have := call_lit (call_on ok (tblK_ok hK) (runAwakeOs r s))
  rw [awakeOs_lit] at this
  exact this

/-- the next draw's state -/
noncomputable def lcg (x : Int) : Int := wrapF .u64 (wrapF .u64 (x * 6364136223846793005) + 1442695040888963407)

theorem u64_mod (n : Int) : wrapF .u64 n = n % 18446744073709551616 := wrapF_mod .u64 rfl n
theorem lcg_range (x : Int) : 0 ≤ lcg x ∧ lcg x < 18446744073709551616 := by
  unfold lcg
  rw [u64_mod]
  omega

noncomputable def rhoL (v sd : Int) : Nat → Int
  | 0 => v
  | 1 => sd
  | 2 => v % 7
  | 3 => v + 1
  | 50 => lcg (wrapF .u64 sd)
  | 51 => lcg (wrapF .u64 sd) / 8589934592
  | 52 => lcg (lcg (wrapF .u64 sd))
  | 53 => lcg (lcg (wrapF .u64 sd)) / 8589934592
  | 54 => lcg (lcg (lcg (wrapF .u64 sd)))
  | 55 => lcg (lcg (lcg (wrapF .u64 sd))) / 8589934592
  | 56 => lcg (lcg (lcg (lcg (wrapF .u64 sd))))
  | 57 => lcg (lcg (lcg (lcg (wrapF .u64 sd)))) / 8589934592
  | _ => 0

theorem draw_ok {x : Int} (h0 : 0 ≤ x) (h1 : x < 18446744073709551616) : x.fdiv (Int.ofNat (2 ^ 33)) = x / 8589934592 ∧ wrapF .u64 (x.tdiv 8589934592) = x / 8589934592 ∧ wrapF .i64 (x / 8589934592) = x / 8589934592 := by
  refine ⟨shr_eq 33 8589934592 (by decide) (by decide), ?_, ?_⟩
  · rw [tdiv_pos h0, wrapF_u64 (by omega) (by omega)]
  · exact wrapF_i64 (by omega) (by omega)

theorem seedR_ok (v sd : Int) (s : Nat → List UInt8) : Each (fun y => y.1.den ⟨tyTree.get, rhoL v sd, s⟩ = y.2.den ⟨tyTree.get, rhoL v sd, s⟩) seedR := by
  have k1 := lcg_range (wrapF .u64 sd)
  have k2 := lcg_range (lcg (wrapF .u64 sd))
  have k3 := lcg_range (lcg (lcg (wrapF .u64 sd)))
  have k4 := lcg_range (lcg (lcg (lcg (wrapF .u64 sd))))
  have d1 := draw_ok k1.1 k1.2
  have d2 := draw_ok k2.1 k2.2
  have d3 := draw_ok k3.1 k3.2
  have d4 := draw_ok k4.1 k4.2
  exact ⟨rfl, d1.1, d1.2.1, d1.2.2, rfl, d2.1, d2.2.1, d2.2.2, rfl, d3.1, d3.2.1, d3.2.2, rfl, d4.1, d4.2.1, d4.2.2, trivial⟩

/-- what is asked of a version and a seed -/
def Exact (v sd : Int) : Prop := ∃ own os', CallOK Tryz.prog cx 3 [.i v, .i sd] [] (.one .bool (.b true) own) os'

theorem awakeK_ok (t : Tab) (r : Nat → Int) (s : Nat → List UInt8) : Each (KRow.Ok Tryz.prog (t.on (tblK (awakeK awakeOs)) (cxOf r s))) (awakeK awakeOs) := by
  refine ⟨row_of ?_, trivial⟩
  rw [awakeOs_lit]
  exact awake_ok

theorem exact_low {v : Int} (sd : Int) (h : v < 1) : Exact v sd := by
  have ok : lowTab.Ok ⟨tyTree.get, rhoL v sd, noS⟩ := by
    refine ⟨seedR_ok v sd noS, ⟨?_, ?_, trivial⟩, trivial, trivial, trivial, trivial, fun _ => by simp [noS]⟩
    · exact decide_eq_false (p := v ≥ 1) (by omega)
    · exact decide_eq_true (p := v < 1) h
  exact ⟨false, _, call_lit (call_on ok (tblK_ok (awakeK_ok _ _ _)) (of_isTrue (runLow _ _ awakeOs)))⟩

theorem exact_high {v : Int} (sd : Int) (h : v > 1073741824) : Exact v sd := by
  have ok : highTab.Ok ⟨tyTree.get, rhoL v sd, noS⟩ := by
    refine ⟨seedR_ok v sd noS, ⟨?_, ?_, ?_, ?_, ?_, trivial⟩, trivial, trivial, trivial, trivial, fun _ => by simp [noS]⟩
    · exact decide_eq_true (p := v ≥ 1) (by omega)
    · exact decide_eq_false (p := v ≤ 1073741824) (by omega)
    · exact decide_eq_false (p := v < 1) (by omega)
    · exact decide_eq_true (p := v > 1073741824) h
    · exact decide_eq_true (p := v ≥ 1073741824) (by omega)
  exact ⟨false, _, call_lit (call_on ok (tblK_ok (awakeK_ok _ _ _)) (of_isTrue (runHigh _ _ awakeOs)))⟩

theorem exact_last (sd : Int) : Exact 1073741824 sd := by
  have ok : lastTab.Ok ⟨tyTree.get, rhoL 1073741824 sd, noS⟩ := ⟨seedR_ok _ sd noS, trivial, trivial, trivial, trivial, trivial, fun _ => by simp [noS]⟩
  exact ⟨false, _, call_lit (call_on ok (tblK_ok (awakeK_ok _ _ _)) (of_isTrue (runLast _ _ awakeOs)))⟩

theorem exact_of {v a b : Int} (sd : Int) (h1 : 1 ≤ v) (h2 : v < 1073741824) (ha : v % 3 = a) (hb : v % 2 = b)
    (run : ∀ r s os, isTrue (evCallF ((lawTab a b).on (tblK (lawK os)) (cxOf r s)) 300 3 [.ix (.v 0), .ix (.v 1)] []) = true) : Exact v sd := by
  obtain ⟨l, -, bl, c1, c2⟩ := bundled h1 h2
  have ok : (lawTab a b).Ok ⟨tyTree.get, rhoL v sd, fun _ => l⟩ := by
    refine ⟨⟨?_, ?_, ?_, ?_, ?_, ?_, ?_, seedR_ok v sd _⟩, ?_, ⟨?_, trivial⟩, trivial, trivial, trivial, fun _ => bl⟩
    · show v.tmod 3 = a
      rw [tmod_pos (by omega)]; exact ha
    · show v.tmod 2 = b
      rw [tmod_pos (by omega)]; exact hb
    · show v.tmod 7 = v % 7
      rw [tmod_pos (by omega)]
    · show wrapF .u64 (v % 7) = v % 7
      exact wrapF_u64 (by omega) (by omega)
    · show wrapF .u8 (v % 7) = v % 7
      exact wrapF_u8 (by omega) (by omega)
    · show (v % 7).tmod 256 = v % 7
      rw [tmod_pos (by omega)]; omega
    · show wrapF .u64 ((v % 7).tdiv 256) = 0
      rw [tdiv_pos (by omega), wrapF_u64 (by omega) (by omega)]; omega
    · refine ⟨?_, ?_, ?_, ?_, ?_, ?_, ?_, ?_, ?_, trivial⟩
      · exact decide_eq_true (p := v ≥ 1) h1
      · exact decide_eq_true (p := v ≤ 1073741824) (by omega)
      · exact decide_eq_true (p := v + 1 ≥ 1) (by omega)
      · exact decide_eq_true (p := v + 1 ≤ 1073741824) (by omega)
      · exact decide_eq_false (p := v + 1 < 1) (by omega)
      · exact decide_eq_false (p := v + 1 > 1073741824) (by omega)
      · exact decide_eq_false (p := v < 1) (by omega)
      · exact decide_eq_false (p := v > 1073741824) (by omega)
      · exact decide_eq_false (p := v ≥ 1073741824) (by omega)
    · show 0 ≤ v % 7 ∧ v % 7 < 256; omega
  have hK : Each (KRow.Ok Tryz.prog ((lawTab a b).on (tblK (lawK awakeOs)) (cxOf (rhoL v sd) (fun _ => l)))) (lawK awakeOs) := by
    refine ⟨row_of ?_, row_of ?_, row_of ?_, trivial⟩
    · rw [awakeOs_lit]
      exact awake_ok
    · show CallOK Tryz.prog cx 13 [.i v] [] (.one .str (.s (l ++ [])) false) []
      rw [List.append_nil]; exact c1
    · show CallOK Tryz.prog cx 14 [.i v] [] (.one .str (.s (l ++ [])) false) []
      rw [List.append_nil]; exact c2
  exact ⟨false, _, call_lit (call_on ok (tblK_ok hK) (of_isTrue (run _ _ awakeOs)))⟩

theorem exact_all (v sd : Int) : Exact v sd := by
  rcases Int.lt_or_le v 1 with h | h1
  · exact exact_low sd h
  · rcases Int.lt_or_le v 1073741824 with h2 | h2
    · have hr : v % 6 = 0 ∨ v % 6 = 1 ∨ v % 6 = 2 ∨ v % 6 = 3 ∨ v % 6 = 4 ∨ v % 6 = 5 := by omega
      rcases hr with hr | hr | hr | hr | hr | hr
      · exact exact_of sd h1 h2 (a := 0) (b := 0) (by omega) (by omega) run00
      · exact exact_of sd h1 h2 (a := 1) (b := 1) (by omega) (by omega) run11
      · exact exact_of sd h1 h2 (a := 2) (b := 0) (by omega) (by omega) run20
      · exact exact_of sd h1 h2 (a := 0) (b := 1) (by omega) (by omega) run01
      · exact exact_of sd h1 h2 (a := 1) (b := 0) (by omega) (by omega) run10
      · exact exact_of sd h1 h2 (a := 2) (b := 1) (by omega) (by omega) run21
    · rcases Int.lt_or_eq_of_le h2 with h3 | h3
      · exact exact_high sd h3
      · rw [← h3]; exact exact_last sd
end Go.Vm
