/- The sum of bytes: both texts reckon the same. -/
import Derived.Test.YtjbehmedbefbpaaGreatVmSeat
import Derived.Test.YtjbehmedbefbpaaGreatVmNum
set_option linter.unusedVariables false
set_option linter.unusedSimpArgs false
namespace Go.Vm
open Go Go.Proofs

noncomputable def bodyOf (f : Nat) : Code := match fnTree.get f with | some i => (match i.fn.body with | some c => c | none => .skip) | none => .skip
noncomputable def keepOf (f : Nat) : Nat := match fnTree.get f with | some i => i.keep | none => 0
noncomputable def dynsOf (f : Nat) : List (Nat × List (Nat × Nat)) := match fnTree.get f with | some i => i.dyn | none => []
noncomputable abbrev noK : Nat → Option (List V → List Ob → Option (Rs × List Ob)) := fun _ => none
noncomputable def run (r : Nat → Int) (s : Nat → List UInt8) (t : Tab) (f : Nat) (c : Code) (st : St) := (twoF (t.on noK (cxOf r s)) 100).code (keepOf f) (dynsOf f) c st

theorem run_ok {r : Nat → Int} {s : Nat → List UInt8} {t : Tab} (h : t.Ok ⟨tyTree.get, r, s⟩) {f : Nat} {c : Code} {st st' : St} {ex : Ex} (hc : codeDraws cx (dynsOf f) c = true) (he : run r s t f c st = some (ex, st')) :
    CodeOK Tryz.prog cx c (st.lit ⟨tyTree.get, r, s⟩) ex (st'.lit ⟨tyTree.get, r, s⟩) :=
  code_on h (fun _ _ _ _ _ hk => by simp [askK] at hk) hc he

/-- one byte more -/
def adStep (x : Nat × Nat) (c : UInt8) : Nat × Nat := ((x.1 + c.toNat) % 65521, (x.2 + (x.1 + c.toNat) % 65521) % 65521)
def adFold (x : Nat × Nat) (l : List UInt8) : Nat × Nat := l.foldl adStep x
def adler (l : List UInt8) : Nat := (adFold (1, 0) l).2 * 65536 + (adFold (1, 0) l).1

theorem adStep_lt (x : Nat × Nat) (c : UInt8) : (adStep x c).1 < 65521 ∧ (adStep x c).2 < 65521 := ⟨Nat.mod_lt _ (by decide), Nat.mod_lt _ (by decide)⟩
theorem adFold_lt : ∀ (l : List UInt8) (x : Nat × Nat), x.1 < 65521 → x.2 < 65521 → (adFold x l).1 < 65521 ∧ (adFold x l).2 < 65521
  | [], _, h1, h2 => ⟨h1, h2⟩
  | c :: l, x, _, _ => adFold_lt l (adStep x c) (adStep_lt x c).1 (adStep_lt x c).2

noncomputable def rhoAd (l : List UInt8) (x : Nat × Nat) (i : Nat) : Nat → Int
  | 0 => (x.1 : Int)
  | 1 => (x.2 : Int)
  | 2 => (i : Int)
  | 3 => (l.length : Int)
  | 4 => ((l.getD i 0).toNat : Int)
  | 5 => ((i + 1 : Nat) : Int)
  | 6 => ((adStep x (l.getD i 0)).1 : Int)
  | 7 => ((adStep x (l.getD i 0)).2 : Int)
  | 8 => ((x.2 * 65536 : Nat) : Int)
  | 9 => ((x.2 * 65536 + x.1 : Nat) : Int)
  | _ => 0

noncomputable abbrev TAd (l : List UInt8) (x : Nat × Nat) (i : Nat) : TR := ⟨tyTree.get, rhoAd l x i, fun _ => l⟩

noncomputable def s109 : St := { env := [(15, .one (.int .i64) (.ix (.v 2)) false), (14, .one (.int .i64) (.ix (.v 3)) false), (6, .one (.int .u64) (.ix (.v 1)) false), (5, .one (.int .u64) (.ix (.v 0)) false), (1, .one .str (.tx [.gr 0]) false)], orgs := [], os := [], n := 33, thaw := [] }
noncomputable def A109 : Code := cl (cl (cr (cl (cr (cr (bodyOf 109))))))
noncomputable def t109 : Tab := { C := [(.lss, .v 2, .v 3, true)], I := [([.gr 0], .v 2, .v 4)], R := [(.o .add .i64 (.v 2) (.l 1), .v 5), (.c .u64 (.v 4), .v 4), (.o .rem .u64 (.o .add .u64 (.v 0) (.v 4)) (.l 65521), .v 6), (.o .rem .u64 (.o .add .u64 (.v 1) (.v 6)) (.l 65521), .v 7)] }

theorem u8_lt (c : UInt8) : c.toNat < 256 := c.toNat_lt

theorem get_at {l : List UInt8} {i : Nat} (h : i < l.length) : l[i]? = some (l.getD i 0) := by
  rw [List.getElem?_eq_getElem h, List.getD_eq_getElem?_getD, List.getElem?_eq_getElem h]; rfl

theorem tmod_nat (a b : Nat) : Int.tmod (a : Int) (b : Int) = ((a % b : Nat) : Int) := rfl

theorem ok109 {l : List UInt8} (hl : l.length ≤ 1099511627776) {x : Nat × Nat} (h1 : x.1 < 65521) (h2 : x.2 < 65521) {i : Nat} (hi : i < l.length) : t109.Ok (TAd l x i) := by
  have hc := u8_lt (l.getD i 0)
  refine ⟨⟨?_, ?_, ?_, ?_, trivial⟩, ⟨?_, trivial⟩, trivial, trivial, trivial, ⟨⟨?_, ?_⟩, trivial⟩, fun _ => hl⟩
  · show wrapF .i64 ((i : Int) + 1) = ((i + 1 : Nat) : Int)
    rw [wrapF_i64 (by omega) (by omega)]; omega
  · show wrapF .u64 (((l.getD i 0).toNat : Nat) : Int) = _
    exact wrapF_u64 (by omega) (by omega)
  · show Int.tmod (wrapF .u64 ((x.1 : Int) + ((l.getD i 0).toNat : Int))) 65521 = ((adStep x (l.getD i 0)).1 : Int)
    rw [wrapF_u64 (by omega) (by omega)]
    exact tmod_nat (x.1 + (l.getD i 0).toNat) 65521
  · have h3 := (adStep_lt x (l.getD i 0)).1
    show Int.tmod (wrapF .u64 ((x.2 : Int) + ((adStep x (l.getD i 0)).1 : Int))) 65521 = ((adStep x (l.getD i 0)).2 : Int)
    rw [wrapF_u64 (by omega) (by omega)]
    exact tmod_nat (x.2 + (adStep x (l.getD i 0)).1) 65521
  · show decide ((i : Int) < (l.length : Int)) = true
    exact decide_eq_true (by omega)
  · show (0 : Int) ≤ (i : Int)
    omega
  · exact ⟨l.getD i 0, by show (l ++ [])[((i : Int)).toNat]? = _; rw [List.append_nil]; exact get_at hi, rfl⟩

theorem round109 {l : List UInt8} (hl : l.length ≤ 1099511627776) {x : Nat × Nat} (h1 : x.1 < 65521) (h2 : x.2 < 65521) {i : Nat} (hi : i < l.length) :
    CodeOK Tryz.prog cx A109 (s109.lit (TAd l x i)) .normal (s109.lit (TAd l (adStep x (l.getD i 0)) (i + 1))) := by
  have h := run_ok (ok109 hl h1 h2 hi) (f := 109) (c := A109) (st := s109) (ex := .normal) (st' := ⟨[(16, (.one .bool (.b true) false)), (15, (.one (.int .i64) (.ix (.v 5)) false)), (14, (.one (.int .i64) (.ix (.v 3)) false)), (7, (.one (.int .i64) (.ix (.v 2)) false)), (6, (.one (.int .u64) (.ix (.v 7)) false)), (5, (.one (.int .u64) (.ix (.v 6)) false)), (1, (.one .str (.tx [(.gr 0)]) false))], [], [], 33, []⟩) (by kernel_rfl) (by kernel_rfl)
  exact h.weaken ⟨fun _ _ h => h, fun _ h => h, rfl, rfl⟩ (St.Sub.of ⟨rfl, rfl, rfl, rfl, rfl, trivial⟩)

theorem out109 {l : List UInt8} (hl : l.length ≤ 1099511627776) (x : Nat × Nat) : CodeOK Tryz.prog cx A109 (s109.lit (TAd l x l.length)) (.exit 0) (s109.lit (TAd l x l.length)) := by
  have ok : Tab.Ok { C := [(.lss, .v 2, .v 3, false)] } (TAd l x l.length) := by
    refine ⟨trivial, ⟨?_, trivial⟩, trivial, trivial, trivial, trivial, fun _ => hl⟩
    show decide ((l.length : Int) < (l.length : Int)) = false
    exact decide_eq_false (by omega)
  have h := run_ok ok (f := 109) (c := A109) (st := s109) (ex := .exit 0) (st' := ⟨[(16, (.one .bool (.b false) false)), (15, (.one (.int .i64) (.ix (.v 2)) false)), (14, (.one (.int .i64) (.ix (.v 3)) false)), (6, (.one (.int .u64) (.ix (.v 1)) false)), (5, (.one (.int .u64) (.ix (.v 0)) false)), (1, (.one .str (.tx [(.gr 0)]) false))], [], [], 33, []⟩) (by kernel_rfl) (by kernel_rfl)
  exact h.weaken ⟨fun _ _ h => h, fun _ h => h, rfl, rfl⟩ (St.Sub.of ⟨rfl, rfl, rfl, rfl, rfl, trivial⟩)

theorem loop109 {l : List UInt8} (hl : l.length ≤ 1099511627776) : ∀ (k i : Nat) (x : Nat × Nat), x.1 < 65521 → x.2 < 65521 → i + k = l.length →
    LoopOK Tryz.prog cx A109 (s109.lit (TAd l x i)) (.exit 0) (s109.lit (TAd l (adFold x (l.drop i)) l.length))
  | 0, i, x, _, _, hk => by
    obtain rfl : i = l.length := by omega
    rw [List.drop_length]
    exact LoopOK.out (by simp) (out109 hl x)
  | k + 1, i, x, h1, h2, hk => by
    have hi : i < l.length := by omega
    have ih := loop109 hl k (i + 1) (adStep x (l.getD i 0)) (adStep_lt _ _).1 (adStep_lt _ _).2 (by omega)
    have e : l.drop i = l.getD i 0 :: l.drop (i + 1) := by
      rw [List.drop_eq_getElem_cons hi]
      congr 1
      rw [List.getD_eq_getElem?_getD, List.getElem?_eq_getElem hi]; rfl
    rw [e]
    exact LoopOK.round (round109 hl h1 h2 hi) ih

theorem lit_id {st : St} : st.Sub st := ⟨fun _ _ h => h, fun _ h => h, rfl, rfl⟩

/-- what is known at the end -/
theorem lor_add {a b : Nat} (ha : a < 65536) : Nat.lor (b * 65536) a = b * 65536 + a := by
  have := Nat.two_pow_add_eq_or_of_lt (i := 16) (b := a) (by simpa using ha) b
  have e : (2 : Nat) ^ 16 = 65536 := by decide
  rw [e, Nat.mul_comm] at this
  exact this.symm

theorem toN_u32 {n : Nat} (h : n < 4294967296) : toN .u32 (n : Int) = n := by
  unfold toN modN
  show (((n : Int) % (4294967296 : Int))).toNat = n
  omega

theorem call109 {l : List UInt8} (hl : l.length ≤ 1099511627776) : CallOK Tryz.prog cx 109 [.i 1, .s l] [] (.one (.int .u32) (.i (adler l)) false) [] := by
  have hx := adFold_lt l (1, 0) (by decide) (by decide)
  have okq : Tab.Ok { N := [([.gr 0], .v 3)] } (TAd l (1, 0) 0) := by
    refine ⟨trivial, trivial, trivial, ⟨?_, trivial⟩, trivial, trivial, fun _ => hl⟩
    show (l.length : Int) = ((l ++ []).length : Int)
    rw [List.append_nil]
  have h0 := run_ok okq (f := 109) (c := cl (bodyOf 109)) (ex := .normal) (st := ⟨[(0, (.one (.int .u32) (.i 1) false)), (1, (.one .str (.tx [(.gr 0)]) false))], [], [], 33, []⟩)
    (st' := ⟨[(4, (.one (.int .u32) (.i 0) false)), (0, (.one (.int .u32) (.i 1) false)), (1, (.one .str (.tx [(.gr 0)]) false))], [], [], 33, []⟩) (by kernel_rfl) (by kernel_rfl)
  have h1 := run_ok okq (f := 109) (c := cl (cr (bodyOf 109))) (ex := .normal) (st := ⟨[(4, (.one (.int .u32) (.i 0) false)), (0, (.one (.int .u32) (.i 1) false)), (1, (.one .str (.tx [(.gr 0)]) false))], [], [], 33, []⟩)
    (st' := ⟨[(6, (.one (.int .u64) (.i 0) false)), (5, (.one (.int .u64) (.i 1) false)), (4, (.one (.int .u32) (.i 0) false)), (0, (.one (.int .u32) (.i 1) false)), (1, (.one .str (.tx [(.gr 0)]) false))], [], [], 33, []⟩) (by kernel_rfl) (by kernel_rfl)
  have h2 := run_ok okq (f := 109) (c := cl (cl (cr (cr (bodyOf 109))))) (ex := .normal) (st := ⟨[(6, (.one (.int .u64) (.i 0) false)), (5, (.one (.int .u64) (.i 1) false)), (4, (.one (.int .u32) (.i 0) false)), (0, (.one (.int .u32) (.i 1) false)), (1, (.one .str (.tx [(.gr 0)]) false))], [], [], 33, []⟩)
    (st' := ⟨[(15, (.one (.int .i64) (.i 0) false)), (14, (.one (.int .i64) (.ix (.v 3)) false)), (6, (.one (.int .u64) (.i 0) false)), (5, (.one (.int .u64) (.i 1) false)), (4, (.one (.int .u32) (.i 0) false)), (0, (.one (.int .u32) (.i 1) false)), (1, (.one .str (.tx [(.gr 0)]) false))], [], [], 33, []⟩) (by kernel_rfl) (by kernel_rfl)
  have h2' := h2.weaken (s1 := _) ⟨fun _ _ h => h, fun _ h => h, rfl, rfl⟩ (st1 := s109.lit (TAd l (1, 0) 0)) (St.Sub.of ⟨rfl, rfl, rfl, rfl, by simp only [litEnv, Ent.lit, V.lit]; rfl, trivial⟩)
  have h3 := (LoopOK.code (loop109 hl l.length 0 (1, 0) (by decide) (by decide) (by omega))).block (id := 0)
  rw [List.drop_zero] at h3
  have okz : Tab.Ok { R := [(.o .rem .u64 (.v 0) (.l 65521), .v 0), (.o .rem .u64 (.v 1) (.l 65521), .v 1), (.c .u32 (.v 0), .v 0), (.c .u32 (.v 1), .v 1), (.o .shl .u32 (.v 1) (.l 16), .v 8), (.o .or .u32 (.v 8) (.v 0), .v 9) ] } (TAd l (adFold (1, 0) l) l.length) := by
    refine ⟨⟨?_, ?_, ?_, ?_, ?_, ?_, trivial⟩, trivial, trivial, trivial, trivial, trivial, fun _ => hl⟩
    · show Int.tmod ((adFold (1, 0) l).1 : Int) 65521 = _
      exact (tmod_nat _ 65521).trans (by rw [Nat.mod_eq_of_lt hx.1]; rfl)
    · show Int.tmod ((adFold (1, 0) l).2 : Int) 65521 = _
      exact (tmod_nat _ 65521).trans (by rw [Nat.mod_eq_of_lt hx.2]; rfl)
    · exact wrapF_u32 (n := ((adFold (1, 0) l).1 : Int)) (by omega) (by omega)
    · exact wrapF_u32 (n := ((adFold (1, 0) l).2 : Int)) (by omega) (by omega)
    · show wrapF .u32 (((adFold (1, 0) l).2 : Int) * Int.ofNat (2 ^ 16)) = (((adFold (1, 0) l).2 * 65536 : Nat) : Int)
      have e : Int.ofNat (2 ^ 16) = 65536 := by decide
      rw [e, wrapF_u32 (by omega) (by omega)]
      omega
    · show wrapF .u32 (Int.ofNat (Nat.lor (toN .u32 (((adFold (1, 0) l).2 * 65536 : Nat) : Int)) (toN .u32 ((adFold (1, 0) l).1 : Int)))) = (((adFold (1, 0) l).2 * 65536 + (adFold (1, 0) l).1 : Nat) : Int)
      rw [toN_u32 (by omega), toN_u32 (by omega), lor_add (by omega)]
      exact wrapF_u32 (n := (((adFold (1, 0) l).2 * 65536 + (adFold (1, 0) l).1 : Nat) : Int)) (by omega) (by omega)
  have h4 := run_ok okz (f := 109) (c := cr (cr (cr (bodyOf 109)))) (ex := .ret) (st := s109) (st' := ⟨[(15, (.one (.int .i64) (.ix (.v 2)) false)), (14, (.one (.int .i64) (.ix (.v 3)) false)), (6, (.one (.int .u64) (.ix (.v 1)) false)), (5, (.one (.int .u64) (.ix (.v 0)) false)), (4, (.one (.int .u32) (.ix (.v 9)) false)), (1, (.one .str (.tx [(.gr 0)]) false))], [], [], 33, []⟩) (by kernel_rfl) (by kernel_rfl)
  have hc := CodeOK.seq h0 (CodeOK.seq h1 (CodeOK.seq (CodeOK.seq h2' h3) h4))
  have := CallOK.of_code good0 (f := 109) (i := ⟨Tryz.f109, keepOf 109, true, [], []⟩) (ts := [.int .u32, .str]) (vs := [.i 1, .s l]) (os := []) (env := [(0, .one (.int .u32) (.i 1) false), (1, .one .str (.s l) false)]) (ex := .ret)
    (l := [(.int .u32, .i (adler l), false)]) (by kernel_rfl) rfl (by kernel_rfl) rfl (Nat.le_of_ble_eq_true rfl) (hc.weaken ⟨?_, fun _ h => h, rfl, rfl⟩ ⟨fun _ _ h => h, fun _ h => h, rfl, rfl⟩) (.inr rfl) (by kernel_rfl)
  · exact this
  · refine get_each (env := [(0, .one (.int .u32) (.i 1) false), (1, .one .str (.s l) false)]) ⟨rfl, ?_, trivial⟩
    show some (Ent.one .str (.s l) false) = some (Ent.one .str (.s (l ++ [])) false)
    rw [List.append_nil]

/-- the sum, of the program -/
theorem call81 {l : List UInt8} (hl : l.length ≤ 1099511627776) : CallOK Tryz.prog cx 81 [.s l] [] (.one (.int .u32) (.i (adler l)) false) [] := by
  have ok : Tab.Ok {} (TAd l (adFold (1, 0) l) l.length) := ⟨trivial, trivial, trivial, trivial, trivial, trivial, fun _ => hl⟩
  have hK : Each (KRow.Ok Tryz.prog (Tab.on {} (tblK [⟨109, [.i 1, .tx [.gr 0]], [], .one (.int .u32) (.ix (.v 9)) false, []⟩]) (cxOf (rhoAd l (adFold (1, 0) l) l.length) (fun _ => l)))) [⟨109, [.i 1, .tx [.gr 0]], [], .one (.int .u32) (.ix (.v 9)) false, []⟩] := by
    refine ⟨row_of ?_, trivial⟩
    have := call109 hl
    show CallOK Tryz.prog cx 109 [.i 1, .s (l ++ [])] [] (.one (.int .u32) (.i (adler l)) false) []
    rw [List.append_nil]
    exact this
  have h := call_on ok (tblK_ok hK) (n := 50) (f := 81) (vs := [.tx [.gr 0]]) (os := []) (x := .one (.int .u32) (.ix (.v 9)) false) (os' := []) (by kernel_rfl)
  have h2 := call_lit h
  have h3 : CallOK Tryz.prog cx 81 [.s (l ++ [])] [] (.one (.int .u32) (.i (adler l)) false) [] := h2
  rw [List.append_nil] at h3
  exact h3

/-! The reference's. -/

noncomputable def s95 : St := { env := [(5, .one (.int .i64) (.ix (.v 2)) false), (4, .one (.int .i64) (.ix (.v 1)) false), (3, .one (.int .i64) (.ix (.v 0)) false), (0, .one .str (.tx [.gr 0]) false)], orgs := [], os := [], n := 28, thaw := [] }
noncomputable def A95 : Code := cl (cl (cr (cl (cr (cr (cr (bodyOf 95)))))))
noncomputable def t95 : Tab := { N := [([.gr 0], .v 3)], C := [(.lss, .v 2, .v 3, true)], I := [([.gr 0], .v 2, .v 4)], R := [(.o .add .i64 (.v 2) (.l 1), .v 5), (.c .i64 (.v 4), .v 4), (.o .rem .i64 (.o .add .i64 (.v 0) (.v 4)) (.l 65521), .v 6), (.o .rem .i64 (.o .add .i64 (.v 1) (.v 6)) (.l 65521), .v 7)] }

theorem ok95 {l : List UInt8} (hl : l.length ≤ 1099511627776) {x : Nat × Nat} (h1 : x.1 < 65521) (h2 : x.2 < 65521) {i : Nat} (hi : i < l.length) : t95.Ok (TAd l x i) := by
  have hc := u8_lt (l.getD i 0)
  refine ⟨⟨?_, ?_, ?_, ?_, trivial⟩, ⟨?_, trivial⟩, trivial, ⟨?_, trivial⟩, trivial, ⟨⟨?_, ?_⟩, trivial⟩, fun _ => hl⟩
  · show wrapF .i64 ((i : Int) + 1) = ((i + 1 : Nat) : Int)
    rw [wrapF_i64 (by omega) (by omega)]; omega
  · show wrapF .i64 (((l.getD i 0).toNat : Nat) : Int) = _
    exact wrapF_i64 (by omega) (by omega)
  · show Int.tmod (wrapF .i64 ((x.1 : Int) + ((l.getD i 0).toNat : Int))) 65521 = ((adStep x (l.getD i 0)).1 : Int)
    rw [wrapF_i64 (by omega) (by omega)]
    exact tmod_nat (x.1 + (l.getD i 0).toNat) 65521
  · have h3 := (adStep_lt x (l.getD i 0)).1
    show Int.tmod (wrapF .i64 ((x.2 : Int) + ((adStep x (l.getD i 0)).1 : Int))) 65521 = ((adStep x (l.getD i 0)).2 : Int)
    rw [wrapF_i64 (by omega) (by omega)]
    exact tmod_nat (x.2 + (adStep x (l.getD i 0)).1) 65521
  · show decide ((i : Int) < (l.length : Int)) = true
    exact decide_eq_true (by omega)
  · show (l.length : Int) = ((l ++ []).length : Int)
    rw [List.append_nil]
  · show (0 : Int) ≤ (i : Int)
    omega
  · exact ⟨l.getD i 0, by show (l ++ [])[((i : Int)).toNat]? = _; rw [List.append_nil]; exact get_at hi, rfl⟩

theorem round95 {l : List UInt8} (hl : l.length ≤ 1099511627776) {x : Nat × Nat} (h1 : x.1 < 65521) (h2 : x.2 < 65521) {i : Nat} (hi : i < l.length) :
    CodeOK Tryz.prog cx A95 (s95.lit (TAd l x i)) .normal (s95.lit (TAd l (adStep x (l.getD i 0)) (i + 1))) := by
  have h := run_ok (ok95 hl h1 h2 hi) (f := 95) (c := A95) (st := s95) (ex := .normal) (st' := ⟨[(9, (.one .bool (.b true) false)), (5, (.one (.int .i64) (.ix (.v 5)) false)), (4, (.one (.int .i64) (.ix (.v 7)) false)), (3, (.one (.int .i64) (.ix (.v 6)) false)), (0, (.one .str (.tx [(.gr 0)]) false))], [], [], 28, []⟩) (by kernel_rfl) (by kernel_rfl)
  exact h.weaken lit_id (St.Sub.of ⟨rfl, rfl, rfl, rfl, trivial⟩)

theorem out95 {l : List UInt8} (hl : l.length ≤ 1099511627776) (x : Nat × Nat) : CodeOK Tryz.prog cx A95 (s95.lit (TAd l x l.length)) (.exit 0) (s95.lit (TAd l x l.length)) := by
  have ok : Tab.Ok { N := [([.gr 0], .v 3)], C := [(.lss, .v 2, .v 3, false)] } (TAd l x l.length) := by
    refine ⟨trivial, ⟨?_, trivial⟩, trivial, ⟨?_, trivial⟩, trivial, trivial, fun _ => hl⟩
    · show decide ((l.length : Int) < (l.length : Int)) = false
      exact decide_eq_false (by omega)
    · show (l.length : Int) = ((l ++ []).length : Int)
      rw [List.append_nil]
  have h := run_ok ok (f := 95) (c := A95) (st := s95) (ex := .exit 0) (st' := ⟨[(9, (.one .bool (.b false) false)), (5, (.one (.int .i64) (.ix (.v 2)) false)), (4, (.one (.int .i64) (.ix (.v 1)) false)), (3, (.one (.int .i64) (.ix (.v 0)) false)), (0, (.one .str (.tx [(.gr 0)]) false))], [], [], 28, []⟩) (by kernel_rfl) (by kernel_rfl)
  exact h.weaken lit_id (St.Sub.of ⟨rfl, rfl, rfl, rfl, trivial⟩)

theorem loop95 {l : List UInt8} (hl : l.length ≤ 1099511627776) : ∀ (k i : Nat) (x : Nat × Nat), x.1 < 65521 → x.2 < 65521 → i + k = l.length →
    LoopOK Tryz.prog cx A95 (s95.lit (TAd l x i)) (.exit 0) (s95.lit (TAd l (adFold x (l.drop i)) l.length))
  | 0, i, x, _, _, hk => by
    obtain rfl : i = l.length := by omega
    rw [List.drop_length]
    exact LoopOK.out (by simp) (out95 hl x)
  | k + 1, i, x, h1, h2, hk => by
    have hi : i < l.length := by omega
    have ih := loop95 hl k (i + 1) (adStep x (l.getD i 0)) (adStep_lt _ _).1 (adStep_lt _ _).2 (by omega)
    have e : l.drop i = l.getD i 0 :: l.drop (i + 1) := by
      rw [List.drop_eq_getElem_cons hi]
      congr 1
      rw [List.getD_eq_getElem?_getD, List.getElem?_eq_getElem hi]; rfl
    rw [e]
    exact LoopOK.round (round95 hl h1 h2 hi) ih

/-- retrofitref03.Of -/
theorem call95 {l : List UInt8} (hl : l.length ≤ 1099511627776) : CallOK Tryz.prog cx 95 [.s l] [] (.one (.int .u32) (.i (adler l)) false) [] := by
  have hx := adFold_lt l (1, 0) (by decide) (by decide)
  have okq : Tab.Ok {} (TAd l (1, 0) 0) := ⟨trivial, trivial, trivial, trivial, trivial, trivial, fun _ => hl⟩
  have h0 := run_ok okq (f := 95) (c := cl (bodyOf 95)) (ex := .normal) (st := ⟨[(0, (.one .str (.tx [(.gr 0)]) false))], [], [], 28, []⟩)
    (st' := ⟨[(2, (.one (.int .u32) (.i 0) false)), (0, (.one .str (.tx [(.gr 0)]) false))], [], [], 28, []⟩) (by kernel_rfl) (by kernel_rfl)
  have h1 := run_ok okq (f := 95) (c := cl (cr (bodyOf 95))) (ex := .normal) (st := ⟨[(2, (.one (.int .u32) (.i 0) false)), (0, (.one .str (.tx [(.gr 0)]) false))], [], [], 28, []⟩)
    (st' := ⟨[(3, (.one (.int .i64) (.i 1) false)), (2, (.one (.int .u32) (.i 0) false)), (0, (.one .str (.tx [(.gr 0)]) false))], [], [], 28, []⟩) (by kernel_rfl) (by kernel_rfl)
  have h2 := run_ok okq (f := 95) (c := cl (cr (cr (bodyOf 95)))) (ex := .normal) (st := ⟨[(3, (.one (.int .i64) (.i 1) false)), (2, (.one (.int .u32) (.i 0) false)), (0, (.one .str (.tx [(.gr 0)]) false))], [], [], 28, []⟩)
    (st' := ⟨[(4, (.one (.int .i64) (.i 0) false)), (3, (.one (.int .i64) (.i 1) false)), (2, (.one (.int .u32) (.i 0) false)), (0, (.one .str (.tx [(.gr 0)]) false))], [], [], 28, []⟩) (by kernel_rfl) (by kernel_rfl)
  have h3 := run_ok okq (f := 95) (c := cl (cl (cr (cr (cr (bodyOf 95)))))) (ex := .normal) (st := ⟨[(4, (.one (.int .i64) (.i 0) false)), (3, (.one (.int .i64) (.i 1) false)), (2, (.one (.int .u32) (.i 0) false)), (0, (.one .str (.tx [(.gr 0)]) false))], [], [], 28, []⟩)
    (st' := ⟨[(5, (.one (.int .i64) (.i 0) false)), (4, (.one (.int .i64) (.i 0) false)), (3, (.one (.int .i64) (.i 1) false)), (2, (.one (.int .u32) (.i 0) false)), (0, (.one .str (.tx [(.gr 0)]) false))], [], [], 28, []⟩) (by kernel_rfl) (by kernel_rfl)
  have h3' := h3.weaken (s1 := _) ⟨fun _ _ h => h, fun _ h => h, rfl, rfl⟩ (st1 := s95.lit (TAd l (1, 0) 0)) (St.Sub.of ⟨rfl, rfl, rfl, rfl, trivial⟩)
  have h4 := (LoopOK.code (loop95 hl l.length 0 (1, 0) (by decide) (by decide) (by omega))).block (id := 0)
  rw [List.drop_zero] at h4
  have okz : Tab.Ok { R := [(.o .mul .i64 (.v 1) (.l 65536), .v 8), (.o .add .i64 (.v 8) (.v 0), .v 9), (.c .u32 (.v 9), .v 9)] } (TAd l (adFold (1, 0) l) l.length) := by
    refine ⟨⟨?_, ?_, ?_, trivial⟩, trivial, trivial, trivial, trivial, trivial, fun _ => hl⟩
    · show wrapF .i64 (((adFold (1, 0) l).2 : Int) * 65536) = (((adFold (1, 0) l).2 * 65536 : Nat) : Int)
      rw [wrapF_i64 (by omega) (by omega)]; omega
    · show wrapF .i64 ((((adFold (1, 0) l).2 * 65536 : Nat) : Int) + ((adFold (1, 0) l).1 : Int)) = (((adFold (1, 0) l).2 * 65536 + (adFold (1, 0) l).1 : Nat) : Int)
      rw [wrapF_i64 (by omega) (by omega)]; omega
    · exact wrapF_u32 (n := (((adFold (1, 0) l).2 * 65536 + (adFold (1, 0) l).1 : Nat) : Int)) (by omega) (by omega)
  have h5 := run_ok okz (f := 95) (c := cr (cr (cr (cr (bodyOf 95))))) (ex := .ret) (st := s95) (st' := ⟨[(5, (.one (.int .i64) (.ix (.v 2)) false)), (4, (.one (.int .i64) (.ix (.v 1)) false)), (3, (.one (.int .i64) (.ix (.v 0)) false)), (2, (.one (.int .u32) (.ix (.v 9)) false)), (0, (.one .str (.tx [(.gr 0)]) false))], [], [], 28, []⟩) (by kernel_rfl) (by kernel_rfl)
  have hc := CodeOK.seq h0 (CodeOK.seq h1 (CodeOK.seq h2 (CodeOK.seq (CodeOK.seq h3' h4) h5)))
  have := CallOK.of_code good0 (f := 95) (i := ⟨Tryz.f95, keepOf 95, true, [], []⟩) (ts := [.str]) (vs := [.s l]) (os := []) (env := [(0, .one .str (.s l) false)]) (ex := .ret)
    (l := [(.int .u32, .i (adler l), false)]) (by kernel_rfl) rfl (by kernel_rfl) rfl (Nat.le_of_ble_eq_true rfl) (hc.weaken ⟨?_, fun _ h => h, rfl, rfl⟩ lit_id) (.inr rfl) (by kernel_rfl)
  · exact this
  · refine get_each (env := [(0, .one .str (.s l) false)]) ⟨?_, trivial⟩
    show some (Ent.one .str (.s l) false) = some (Ent.one .str (.s (l ++ [])) false)
    rw [List.append_nil]
end Go.Vm
