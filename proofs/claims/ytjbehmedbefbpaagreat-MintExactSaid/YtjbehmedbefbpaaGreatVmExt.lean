/- Functions without a body. -/
import Derived.Test.YtjbehmedbefbpaaGreatVmSound
import Derived.Lib.Bytealg
import Derived.Laws.Externs
set_option linter.unusedVariables false
set_option linter.unusedSimpArgs false
namespace Go.Vm
open Go

theorem idxB_eq (c : UInt8) : ∀ (l : List UInt8) (k : Nat), (Lib.indexByte l c = -1 → idxB c l k = -1) ∧ (Lib.indexByte l c ≠ -1 → idxB c l k = Lib.indexByte l c + k)
  | [], k => ⟨fun _ => rfl, fun h => absurd rfl h⟩
  | b :: l, k => by
    have ge := Lib.indexByte_ge l c
    obtain ⟨h1, h2⟩ := idxB_eq c l (k + 1)
    have e : Lib.indexByte (b :: l) c = if b == c then 0 else if Lib.indexByte l c == -1 then -1 else Lib.indexByte l c + 1 := rfl
    cases hb : Nat.beq b.toNat c.toNat with
    | true =>
      have hbc : b = c := UInt8.toNat_inj.1 (Nat.eq_of_beq_eq_true hb)
      have e2 : idxB c (b :: l) k = k := by simp only [idxB, hb]
      have e3 : Lib.indexByte (b :: l) c = 0 := by rw [e, if_pos (by simp [hbc])]
      rw [e2, e3]
      exact ⟨fun h => by simp at h, fun _ => by omega⟩
    | false =>
      have hbc : ¬ (b == c) = true := by
        simp only [beq_iff_eq]
        rintro rfl
        exact Nat.ne_of_beq_eq_false hb rfl
      have e2 : idxB c (b :: l) k = idxB c l (k + 1) := by simp only [idxB, hb]
      rw [if_neg hbc] at e
      by_cases hi : Lib.indexByte l c = -1
      · have e3 : Lib.indexByte (b :: l) c = -1 := by rw [e, if_pos (by simp [hi])]
        rw [e2, e3]
        exact ⟨fun _ => h1 hi, fun h => absurd rfl h⟩
      · have e3 : Lib.indexByte (b :: l) c = Lib.indexByte l c + 1 := by rw [e, if_neg (by simpa using hi)]
        rw [e2, e3, h2 hi]
        exact ⟨fun h => by omega, fun _ => by omega⟩

section
variable {P : Program} {cx : Cx}

theorem extOK_indexByte (G : Good P cx) {f : Nat} {i : Fi} (hF : cx.F f = some i) (hb : i.fn.body.isNone = true) (hn : Extern.findNext i.fn = none) (he : Extern.find i.fn = some Extern.BytealgIndexByte.indexByte)
    (hts : tys cx.T i.fn.params.toList = some [.str, .int .u8]) : ExtOK P cx f i idxByteEv := by
  intro g w ts vs vals ty v h1 h2 h3
  rw [hts] at h1
  injection h1 with h1
  subst h1
  unfold idxByteEv at h3
  split at h3
  · rename_i l c
    split at h3
    · rename_i b hb'
      simp only [Option.some.injEq, Prod.mk.injEq] at h3
      obtain ⟨rfl, rfl⟩ := h3
      match vals, h2 with
      | [x, y], ⟨hx, hy, _⟩ =>
        have ey := valR_i hy
        subst ey
        rcases valR_str hx with ⟨s, hs, rfl⟩ | ⟨s, m, hs, _, _⟩
        · injection hs with hs
          subst hs
          obtain ⟨hf, hname⟩ := G.fn f i hF
          simp only [vByte] at hb'
          split at hb'
          · rename_i hc
            injection hb' with hb'
            subst hb'
            refine ⟨.int .i64 (Lib.indexByte s.data.toList c.toNat.toUInt8), w, ?_, rfl, rfl, rfl, ?_⟩
            · rw [run_callFunc_extern hf hname hb hn he, show ([Value.string s, Value.int .u8 c].toArray : Array Value) = #[.string s, .int .u8 c] from rfl, Lib.run_indexByteString]
              rfl
            · have : idxB (UInt8.ofNat c.toNat) s.data.toList 0 = Lib.indexByte s.data.toList c.toNat.toUInt8 := by
                obtain ⟨h1, h2⟩ := idxB_eq (UInt8.ofNat c.toNat) s.data.toList 0
                by_cases hi : Lib.indexByte s.data.toList (UInt8.ofNat c.toNat) = -1
                · rw [h1 hi]; exact hi.symm
                · rw [h2 hi]; exact Int.add_zero _
              rw [this]
              exact .int _ _
          · simp at hb'
        · simp at hs
    · simp at h3
  · simp at h3
end
end Go.Vm
