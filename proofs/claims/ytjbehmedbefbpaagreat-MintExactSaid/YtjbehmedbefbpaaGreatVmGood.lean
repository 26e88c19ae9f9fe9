/- That tables fit a program: by reckoning. -/
import Derived.Test.YtjbehmedbefbpaaGreatVmTree
import Derived.Test.YtjbehmedbefbpaaGreatVmSound
set_option linter.unusedVariables false
set_option linter.unusedSimpArgs false
namespace Go.Vm
open Go

def cellB : Value → Value → Bool
  | .bool false, .bool false => true
  | .int k a, .int l b => Nat.beq (kindNo k) (kindNo l) && intB a b
  | .string ⟨⟨[]⟩⟩, .string ⟨⟨[]⟩⟩ => true
  | .pointer none, .pointer none => true
  | .slice none 0 0, .slice none 0 0 => true
  | .map none, .map none => true
  | .nilFunc, .nilFunc => true
  | .nilIface, .nilIface => true
  | _, _ => false

theorem cellB_eq {a b : Value} (h : cellB a b = true) : a = b := by
  unfold cellB at h
  split at h <;> first | rfl | (simp at h; done) | skip
  simp only [Bool.and_eq_true] at h
  rw [kindNo_inj h.1, intB_eq h.2]

def cellsB : List Value → List Value → Bool
  | [], [] => true
  | a :: l, b :: m => cellB a b && cellsB l m
  | _, _ => false

theorem cellsB_eq : ∀ {a b : List Value}, cellsB a b = true → a = b
  | [], [], _ => rfl
  | a :: l, b :: m, h => by
    simp only [cellsB, Bool.and_eq_true] at h
    rw [cellB_eq h.1, cellsB_eq h.2]
  | [], _ :: _, h => by simp [cellsB] at h
  | _ :: _, [], h => by simp [cellsB] at h

def zeroB (ty : Ty) : Option Value → Bool
  | some (.agg cs) => ty.isAgg && cellsB cs.toList ty.zeroC
  | some v => !ty.isAgg && cellsB [v] ty.zeroC
  | none => false

theorem zeroB_eq {ty : Ty} {v : Option Value} (h : zeroB ty v = true) : v = some (ofCells ty ty.zeroC) := by
  unfold zeroB at h
  split at h
  · rename_i cs
    simp only [Bool.and_eq_true] at h
    rw [← cellsB_eq h.2]
    simp [ofCells, h.1]
  · rename_i v hv
    simp only [Bool.and_eq_true, Bool.not_eq_true'] at h
    rw [← cellsB_eq h.2]
    simp [ofCells, h.1]
  · simp at h

def tyIs (T : Nat → Option Ty) (t : Nat) (u : Ty) : Bool :=
  match T t with
  | some v => v.beq u
  | none => false

theorem tyIs_eq {T : Nat → Option Ty} {t : Nat} {u : Ty} (h : tyIs T t u = true) : T t = some u := by
  unfold tyIs at h
  split at h
  · rename_i v hv; rw [hv, Ty.eq_of_beq _ _ h]
  · simp at h

def fldsB (T : Nat → Option Ty) (all : List Ty) : Nat → List Field → List Ty → Bool
  | _, [], [] => true
  | i, f :: fs, t :: ts => (match fieldOff all i with
      | some (o, u) => Nat.beq o f.offset && Ty.beq u t
      | none => false) && tyIs T f.type t && fldsB T all (i + 1) fs ts
  | _, _, _ => false

theorem fldsB_ok {T : Nat → Option Ty} {all : List Ty} : ∀ {i : Nat} {fs : List Field} {ts : List Ty}, fldsB T all i fs ts = true → fs.length = ts.length ∧ ∀ j f, fs[j]? = some f → ∃ u, fieldOff all (i + j) = some (f.offset, u) ∧ T f.type = some u
  | i, [], [], _ => ⟨rfl, fun j f h => by simp at h⟩
  | i, f :: fs, t :: ts, h => by
    simp only [fldsB, Bool.and_eq_true] at h
    obtain ⟨⟨h1, h2⟩, h3⟩ := h
    obtain ⟨q1, q2⟩ := fldsB_ok h3
    refine ⟨by simp [q1], fun j f' hf => ?_⟩
    cases j with
    | zero =>
      simp only [List.getElem?_cons_zero, Option.some.injEq] at hf
      subst hf
      split at h1
      · rename_i o u ho
        simp only [Bool.and_eq_true] at h1
        refine ⟨t, ?_, tyIs_eq h2⟩
        rw [Nat.add_zero, ho, Nat.eq_of_beq_eq_true h1.1, Ty.eq_of_beq _ _ h1.2]
      · simp at h1
    | succ j =>
      simp only [List.getElem?_cons_succ] at hf
      have := q2 j f' hf
      rwa [show i + 1 + j = i + (j + 1) by omega] at this
  | _, [], _ :: _, h => by simp [fldsB] at h
  | _, _ :: _, [], h => by simp [fldsB] at h

def descB (T : Nat → Option Ty) : Ty → Option TypeDesc → Bool
  | .bool, some .bool => true
  | .int k, some (.int l) => Nat.beq (kindNo k) (kindNo l)
  | .str, some .string => true
  | .ptr, some (.pointer _) => true
  | .sl e, some (.slice f) => Nat.beq e f
  | .mp k e, some (.map l f) => Nat.beq k l && Nat.beq e f
  | .fn, some (.func _ _ _) => true
  | .ifc, some (.interface _) => true
  | .st fs, some (.struct flds) => fldsB T fs 0 flds.toList fs
  | .ar n e, some (.array m et) => Nat.beq n m && tyIs T et e
  | _, _ => false

theorem descB_ok {P : Program} {T : TR} {t : Nat} {ty : Ty} (h : descB T ty (P.underlying t) = true) : DescOk P T t ty := by
  unfold descB at h
  split at h
  · rename_i hu; exact hu
  · rename_i k l hu; rw [kindNo_inj h]; exact hu
  · rename_i hu; exact hu
  · rename_i hu; exact ⟨_, hu⟩
  · rename_i e f hu; rw [Nat.eq_of_beq_eq_true h]; exact hu
  · rename_i k e l f hu
    simp only [Bool.and_eq_true] at h
    rw [Nat.eq_of_beq_eq_true h.1, Nat.eq_of_beq_eq_true h.2]; exact hu
  · rename_i hu; exact ⟨_, _, _, hu⟩
  · rename_i hu; exact ⟨_, hu⟩
  · rename_i fs flds hu
    obtain ⟨q1, q2⟩ := fldsB_ok h
    refine ⟨flds, hu, by simpa using q1, fun i f hf => ?_⟩
    have := q2 i f (by simpa using hf)
    simpa using this
  · rename_i n e m et hu
    simp only [Bool.and_eq_true] at h
    refine ⟨et, ?_, tyIs_eq h.2⟩
    rw [Nat.eq_of_beq_eq_true h.1]; exact hu
  · simp at h

/-- a type's row -/
def tyB (P : Program) (T : Nat → Option Ty) (B : Nat → Nat) (t : Nat) (ty : Ty) : Bool :=
  (match P.info? t with
    | some i => Nat.beq i.size ty.size && zeroB ty i.zero && Nat.beq i.bytes (B t) && Nat.blt 0 i.bytes
    | none => false) && descB T ty (P.underlying t) && Nat.blt 0 ty.size

theorem tyB_ok {P : Program} {T : TR} {B : Nat → Nat} {t : Nat} {ty : Ty} (h : tyB P T B t ty = true) : TyOk P T t ty ∧ (∀ i, P.info? t = some i → i.bytes = B t) ∧ 0 < B t := by
  unfold tyB at h
  simp only [Bool.and_eq_true] at h
  obtain ⟨⟨h1, h2⟩, h3⟩ := h
  split at h1
  · rename_i i hi
    simp only [Bool.and_eq_true] at h1
    obtain ⟨⟨⟨a1, a2⟩, a3⟩, a4⟩ := h1
    have e3 := Nat.eq_of_beq_eq_true a3
    refine ⟨⟨⟨i, hi, Nat.eq_of_beq_eq_true a1, zeroB_eq a2⟩, descB_ok h2, Nat.le_of_ble_eq_true h3⟩, fun j hj => ?_, ?_⟩
    · rw [hi] at hj; injection hj with hj; rw [← hj]; exact e3
    · rw [← e3]; exact Nat.le_of_ble_eq_true a4
  · simp at h1

/-- a struct that may be compared -/
def eqB (P : Program) (T : Nat → Option Ty) (E : Nat → Bool) (t : Nat) : Bool :=
  !P.stoodInHeld t && !P.eqGuardType P.depth t && match P.underlying t with
    | some (.struct flds) => flds.toList.all fun f => !(f.name == "_") && match T f.type with
      | some (.st _) => E f.type
      | _ => true
    | _ => false

theorem eqB_ok {P : Program} {T : TR} {E : Nat → Bool} {t : Nat} (h : eqB P T E t = true) : P.stoodInHeld t = false ∧ P.eqGuardType P.depth t = false ∧
    ∀ flds : Array Field, P.underlying t = some (.struct flds) → ∀ f ∈ flds, f.name ≠ "_" ∧ ∀ fs, T f.type = some (.st fs) → E f.type = true := by
  unfold eqB at h
  simp only [Bool.and_eq_true, Bool.not_eq_true'] at h
  obtain ⟨⟨h1, h2⟩, h3⟩ := h
  refine ⟨h1, h2, fun flds hu f hf => ?_⟩
  rw [hu] at h3
  simp only [List.all_eq_true] at h3
  have := h3 f (by simpa using hf)
  simp only [Bool.and_eq_true, Bool.not_eq_true', beq_eq_false_iff_ne] at this
  refine ⟨this.1, fun fs hfs => ?_⟩
  have h4 := this.2
  rw [hfs] at h4
  exact h4

noncomputable def drawsB (cx : Cx) (_ : Nat) (i : Fi) : Bool :=
  match i.fn.body with
  | some c => codeDraws cx i.dyn c
  | none => true

/-- calls of a seat's law: from the evaluator's answer -/
theorem calls_of_ev {P : Program} {cx : Cx} (G : Good P cx) (X : Exts P cx) (D : Draws cx) {n f : Nat} {vs : List V} {r : Rs} {os' : List Ob} (h : evCall cx n f vs [] = some (r, os')) : CallOK P cx f vs [] r os' :=
  (ev_sound G X D n).2.2 f vs [] r os' h
end Go.Vm
