/- What is known of a version: its bytes. -/
import Derived.Test.YtjbehmedbefbpaaGreatVmSeal
set_option linter.unusedVariables false
set_option linter.unusedSimpArgs false
namespace Go.Vm
open Go Go.Proofs

/-- bytes of a number below 2^32, as both texts reckon them -/
def verR (x b : Nat) : List (SI × SI) := [
  (.c .u64 (.v x), .v x), (.o .shr .u64 (.v x) (.l 32), .l 0), (.c .u8 (.v x), .v b), (.o .shr .u64 (.v x) (.l 8), .v (b + 1)), (.c .u8 (.v (b + 1)), .v (b + 2)), (.o .shr .u64 (.v (b + 1)) (.l 8), .v (b + 3)),
  (.c .u8 (.v (b + 3)), .v (b + 4)), (.o .shr .u64 (.v (b + 3)) (.l 8), .v (b + 5)), (.c .u8 (.v (b + 5)), .v (b + 5)), (.o .shr .u64 (.v (b + 5)) (.l 8), .l 0),
  (.o .rem .i64 (.v x) (.l 256), .v b), (.c .u8 (.v b), .v b), (.o .quo .i64 (.v x) (.l 256), .v (b + 1)), (.o .rem .i64 (.v (b + 1)) (.l 256), .v (b + 2)), (.c .u8 (.v (b + 2)), .v (b + 2)),
  (.o .quo .i64 (.v x) (.l 65536), .v (b + 3)), (.o .rem .i64 (.v (b + 3)) (.l 256), .v (b + 4)), (.c .u8 (.v (b + 4)), .v (b + 4)), (.o .quo .i64 (.v x) (.l 16777216), .v (b + 5))]
def verU (x b : Nat) : List (SI × SI) := [(.o .rem .u32 (.v x) (.l 256), .v b), (.o .quo .u32 (.v x) (.l 256), .v (b + 1)), (.o .rem .u32 (.v (b + 1)) (.l 256), .v (b + 2)), (.o .quo .u32 (.v x) (.l 65536), .v (b + 3)), (.o .rem .u32 (.v (b + 3)) (.l 256), .v (b + 4)), (.o .quo .u32 (.v x) (.l 16777216), .v (b + 5))]

/-- the numbers that these tables speak of -/
def verV (n : Int) : Nat → Int
  | 0 => n % 256
  | 1 => n / 256
  | 2 => n / 256 % 256
  | 3 => n / 65536
  | 4 => n / 65536 % 256
  | 5 => n / 16777216
  | _ => 0

structure IsVer (T : TR) (x b : Nat) (n : Int) : Prop where
  x : T.ρ x = n
  b0 : T.ρ b = n % 256
  b1 : T.ρ (b + 1) = n / 256
  b2 : T.ρ (b + 2) = n / 256 % 256
  b3 : T.ρ (b + 3) = n / 65536
  b4 : T.ρ (b + 4) = n / 65536 % 256
  b5 : T.ρ (b + 5) = n / 16777216
  lo : 0 ≤ n
  hi : n < 4294967296

theorem shr_eq {n : Int} (k : Nat) (m : Int) (hm : Int.ofNat (2 ^ k) = m) (hp : 0 < m) : n.fdiv (Int.ofNat (2 ^ k)) = n / m := by
  rw [hm]
  exact Int.fdiv_eq_ediv_of_nonneg _ (by omega)

theorem u8_mod (n : Int) : wrapF .u8 n = n % 256 := wrapF_mod .u8 rfl n
theorem tmod_pos {n m : Int} (h : 0 ≤ n) : n.tmod m = n % m := Int.tmod_eq_emod_of_nonneg h
theorem tdiv_pos {n m : Int} (h : 0 ≤ n) : n.tdiv m = n / m := Int.tdiv_eq_ediv_of_nonneg h

theorem verR_ok {T : TR} {x b : Nat} {n : Int} (h : IsVer T x b n) : Each (fun y => y.1.den T = y.2.den T) (verR x b) := by
  obtain ⟨hx, h0, h1, h2, h3, h4, h5, lo, hi⟩ := h
  refine ⟨?_, ?_, ?_, ?_, ?_, ?_, ?_, ?_, ?_, ?_, ?_, ?_, ?_, ?_, ?_, ?_, ?_, ?_, ?_, trivial⟩
  · show wrapF .u64 (T.ρ x) = T.ρ x
    rw [hx, wrapF_u64 lo (by omega)]
  · show (T.ρ x).fdiv (Int.ofNat (2 ^ 32)) = 0
    rw [hx, shr_eq 32 4294967296 (by decide) (by decide)]; omega
  · show wrapF .u8 (T.ρ x) = T.ρ b
    rw [hx, h0, u8_mod]
  · show (T.ρ x).fdiv (Int.ofNat (2 ^ 8)) = T.ρ (b + 1)
    rw [hx, h1, shr_eq 8 256 (by decide) (by decide)]
  · show wrapF .u8 (T.ρ (b + 1)) = T.ρ (b + 2)
    rw [h1, h2, u8_mod]
  · show (T.ρ (b + 1)).fdiv (Int.ofNat (2 ^ 8)) = T.ρ (b + 3)
    rw [h1, h3, shr_eq 8 256 (by decide) (by decide)]; omega
  · show wrapF .u8 (T.ρ (b + 3)) = T.ρ (b + 4)
    rw [h3, h4, u8_mod]
  · show (T.ρ (b + 3)).fdiv (Int.ofNat (2 ^ 8)) = T.ρ (b + 5)
    rw [h3, h5, shr_eq 8 256 (by decide) (by decide)]; omega
  · show wrapF .u8 (T.ρ (b + 5)) = T.ρ (b + 5)
    rw [h5, u8_mod]; omega
  · show (T.ρ (b + 5)).fdiv (Int.ofNat (2 ^ 8)) = 0
    rw [h5, shr_eq 8 256 (by decide) (by decide)]; omega
  · show (T.ρ x).tmod 256 = T.ρ b
    rw [hx, h0, tmod_pos lo]
  · show wrapF .u8 (T.ρ b) = T.ρ b
    rw [h0, u8_mod]; omega
  · show wrapF .i64 ((T.ρ x).tdiv 256) = T.ρ (b + 1)
    rw [hx, h1, tdiv_pos lo, wrapF_i64 (by omega) (by omega)]
  · show (T.ρ (b + 1)).tmod 256 = T.ρ (b + 2)
    rw [h1, h2, tmod_pos (by omega)]
  · show wrapF .u8 (T.ρ (b + 2)) = T.ρ (b + 2)
    rw [h2, u8_mod]; omega
  · show wrapF .i64 ((T.ρ x).tdiv 65536) = T.ρ (b + 3)
    rw [hx, h3, tdiv_pos lo, wrapF_i64 (by omega) (by omega)]
  · show (T.ρ (b + 3)).tmod 256 = T.ρ (b + 4)
    rw [h3, h4, tmod_pos (by omega)]
  · show wrapF .u8 (T.ρ (b + 4)) = T.ρ (b + 4)
    rw [h4, u8_mod]; omega
  · show wrapF .i64 ((T.ρ x).tdiv 16777216) = T.ρ (b + 5)
    rw [hx, h5, tdiv_pos lo, wrapF_i64 (by omega) (by omega)]

theorem verU_ok {T : TR} {x b : Nat} {n : Int} (h : IsVer T x b n) : Each (fun y => y.1.den T = y.2.den T) (verU x b) := by
  obtain ⟨hx, h0, h1, h2, h3, h4, h5, lo, hi⟩ := h
  refine ⟨?_, ?_, ?_, ?_, ?_, ?_, trivial⟩
  · show (T.ρ x).tmod 256 = T.ρ b
    rw [hx, h0, tmod_pos lo]
  · show wrapF .u32 ((T.ρ x).tdiv 256) = T.ρ (b + 1)
    rw [hx, h1, tdiv_pos lo, wrapF_u32 (by omega) (by omega)]
  · show (T.ρ (b + 1)).tmod 256 = T.ρ (b + 2)
    rw [h1, h2, tmod_pos (by omega)]
  · show wrapF .u32 ((T.ρ x).tdiv 65536) = T.ρ (b + 3)
    rw [hx, h3, tdiv_pos lo, wrapF_u32 (by omega) (by omega)]
  · show (T.ρ (b + 3)).tmod 256 = T.ρ (b + 4)
    rw [h3, h4, tmod_pos (by omega)]
  · show wrapF .u32 ((T.ρ x).tdiv 16777216) = T.ρ (b + 5)
    rw [hx, h5, tdiv_pos lo, wrapF_u32 (by omega) (by omega)]

theorem Each.append {α : Type} {p : α → Prop} : ∀ {l m : List α}, Each p l → Each p m → Each p (l ++ m)
  | [], _, _, h => h
  | _ :: _, _, ⟨h1, h2⟩, h => ⟨h1, h2.append h⟩

/-- what is known of a version between 1 and 2^30 - 1: its rests; its bytes, the next one's, and a sum's -/
def mintR (a b c d : Int) : List (SI × SI) := [(.o .add .i64 (.v 0) (.l 1), .v 3), (.o .rem .i64 (.v 0) (.l 3), .l a), (.o .rem .i64 (.v 0) (.l 2), .l b), (.o .rem .i64 (.v 3) (.l 3), .l c), (.o .rem .i64 (.v 3) (.l 2), .l d), (.o .rem .i64 (.v 3) (.l 7), .v 4),
    (.c .u64 (.v 4), .v 4), (.c .u8 (.v 4), .v 4), (.o .shr .u64 (.v 4) (.l 8), .l 0), (.o .rem .u64 (.v 4) (.l 256), .v 4), (.o .quo .u64 (.v 4) (.l 256), .l 0)] ++ (verR 0 20 ++ (verR 3 30 ++ (verR 40 41 ++ verU 40 41)))
def mintC : List (BinOp × SI × SI × Bool) := [(.geq, .v 0, .l 1, true), (.leq, .v 0, .l 1073741824, true), (.geq, .v 3, .l 1, true), (.leq, .v 3, .l 1073741824, true), (.lss, .v 3, .l 1, false), (.gtr, .v 3, .l 1073741824, false), (.lss, .v 0, .l 1, false), (.gtr, .v 0, .l 1073741824, false), (.geq, .v 0, .l 1073741824, false)]
def mintTab (a b c d : Int) : Tab := { R := mintR a b c d, C := mintC, Z := [.v 20, .v 22, .v 24, .v 25, .v 30, .v 32, .v 34, .v 35, .v 4, .v 41, .v 43, .v 45, .v 46] }

def rhoM (v m : Int) : Nat → Int
  | 0 => v
  | 3 => v + 1
  | 4 => (v + 1) % 7
  | 20 => v % 256 | 21 => v / 256 | 22 => v / 256 % 256 | 23 => v / 65536 | 24 => v / 65536 % 256 | 25 => v / 16777216
  | 30 => (v + 1) % 256 | 31 => (v + 1) / 256 | 32 => (v + 1) / 256 % 256 | 33 => (v + 1) / 65536 | 34 => (v + 1) / 65536 % 256 | 35 => (v + 1) / 16777216
  | 40 => m
  | 41 => m % 256 | 42 => m / 256 | 43 => m / 256 % 256 | 44 => m / 65536 | 45 => m / 65536 % 256 | 46 => m / 16777216
  | _ => 0

noncomputable abbrev TM (v m : Int) (s : Nat → List UInt8) : TR := ⟨tyTree.get, rhoM v m, s⟩

theorem mint_ok {v m : Int} {s : Nat → List UInt8} {a b c d : Int} (h1 : 1 ≤ v) (h2 : v < 1073741824) (ha : v % 3 = a) (hb : v % 2 = b) (hc : (v + 1) % 3 = c) (hd : (v + 1) % 2 = d) (m0 : 0 ≤ m) (m1 : m < 4294967296)
    (hs : ∀ k, (s k).length ≤ 1099511627776) : (mintTab a b c d).Ok (TM v m s) := by
  have i0 : IsVer (TM v m s) 0 20 v := ⟨rfl, rfl, rfl, rfl, rfl, rfl, rfl, by omega, by omega⟩
  have i3 : IsVer (TM v m s) 3 30 (v + 1) := ⟨rfl, rfl, rfl, rfl, rfl, rfl, rfl, by omega, by omega⟩
  have i4 : IsVer (TM v m s) 40 41 m := ⟨rfl, rfl, rfl, rfl, rfl, rfl, rfl, m0, m1⟩
  refine ⟨Each.append ?_ ((verR_ok i0).append ((verR_ok i3).append ((verR_ok i4).append (verU_ok i4)))), ?_, ?_, trivial, trivial, trivial, hs⟩
  · refine ⟨?_, ?_, ?_, ?_, ?_, ?_, ?_, ?_, ?_, ?_, ?_, trivial⟩
    · show wrapF .i64 (v + 1) = v + 1
      exact wrapF_i64 (by omega) (by omega)
    · show v.tmod 3 = a
      rw [tmod_pos (by omega)]; exact ha
    · show v.tmod 2 = b
      rw [tmod_pos (by omega)]; exact hb
    · show (v + 1).tmod 3 = c
      rw [tmod_pos (by omega)]; exact hc
    · show (v + 1).tmod 2 = d
      rw [tmod_pos (by omega)]; exact hd
    · show (v + 1).tmod 7 = (v + 1) % 7
      rw [tmod_pos (by omega)]
    · show wrapF .u64 ((v + 1) % 7) = (v + 1) % 7
      exact wrapF_u64 (by omega) (by omega)
    · show wrapF .u8 ((v + 1) % 7) = (v + 1) % 7
      exact wrapF_u8 (by omega) (by omega)
    · show ((v + 1) % 7).fdiv (Int.ofNat (2 ^ 8)) = 0
      rw [shr_eq 8 256 (by decide) (by decide)]; omega
    · show ((v + 1) % 7).tmod 256 = (v + 1) % 7
      rw [tmod_pos (by omega)]; omega
    · show wrapF .u64 (((v + 1) % 7).tdiv 256) = 0
      rw [tdiv_pos (by omega), wrapF_u64 (by omega) (by omega)]; omega
  · refine ⟨?_, ?_, ?_, ?_, ?_, ?_, ?_, ?_, ?_, trivial⟩
    · exact decide_eq_true (p := v ≥ 1) h1
    · exact decide_eq_true (p := v ≤ 1073741824) (by omega)
    · exact decide_eq_true (p := v + 1 ≥ 1) (by omega)
    · exact decide_eq_true (p := v + 1 ≤ 1073741824) (by omega)
    · exact decide_eq_false (p := v + 1 < 1) (by omega)
    · exact decide_eq_false (p := v + 1 > 1073741824) (by omega)
    · exact decide_eq_false (p := v < 1) (by omega)
    · exact decide_eq_false (p := v > 1073741824) (by omega)
    · exact decide_eq_false (p := v ≥ 1073741824) (by omega)
  · refine ⟨?_, ?_, ?_, ?_, ?_, ?_, ?_, ?_, ?_, ?_, ?_, ?_, ?_, trivial⟩
    · show 0 ≤ v % 256 ∧ v % 256 < 256; omega
    · show 0 ≤ v / 256 % 256 ∧ v / 256 % 256 < 256; omega
    · show 0 ≤ v / 65536 % 256 ∧ v / 65536 % 256 < 256; omega
    · show 0 ≤ v / 16777216 ∧ v / 16777216 < 256; omega
    · show 0 ≤ (v + 1) % 256 ∧ (v + 1) % 256 < 256; omega
    · show 0 ≤ (v + 1) / 256 % 256 ∧ (v + 1) / 256 % 256 < 256; omega
    · show 0 ≤ (v + 1) / 65536 % 256 ∧ (v + 1) / 65536 % 256 < 256; omega
    · show 0 ≤ (v + 1) / 16777216 ∧ (v + 1) / 16777216 < 256; omega
    · show 0 ≤ (v + 1) % 7 ∧ (v + 1) % 7 < 256; omega
    · show 0 ≤ m % 256 ∧ m % 256 < 256; omega
    · show 0 ≤ m / 256 % 256 ∧ m / 256 % 256 < 256; omega
    · show 0 ≤ m / 65536 % 256 ∧ m / 65536 % 256 < 256; omega
    · show 0 ≤ m / 16777216 ∧ m / 16777216 < 256; omega
end Go.Vm
