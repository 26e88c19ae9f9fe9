/- Tables of what is known of unknowns. -/
import Derived.Test.YtjbehmedbefbpaaGreatVmLit
import Derived.Test.YtjbehmedbefbpaaGreatVmFast
set_option linter.unusedVariables false
set_option linter.unusedSimpArgs false
namespace Go.Vm
open Go

noncomputable def tblR (l : List (SI × SI)) (e : SI) : Option SI :=
  @List.rec (SI × SI) (fun _ => Option SI) none (fun x _ ih => @Bool.rec (fun _ => Option SI) ih (some x.2) (SI.beq x.1 e)) l

noncomputable def tblC (l : List (BinOp × SI × SI × Bool)) (op : BinOp) (a b : SI) : Option Bool :=
  @List.rec (BinOp × SI × SI × Bool) (fun _ => Option Bool) none (fun x _ ih => @Bool.rec (fun _ => Option Bool) ih (some x.2.2.2) (Nat.beq (opNo x.1) (opNo op) && (SI.beq x.2.1 a && SI.beq x.2.2.1 b))) l

noncomputable def tblZ (l : List SI) (e : SI) : Bool :=
  @List.rec SI (fun _ => Bool) false (fun x _ ih => @Bool.rec (fun _ => Bool) ih true (SI.beq x e)) l

noncomputable def tblN (l : List (List SB × SI)) (s : List SB) : Option SI :=
  @List.rec (List SB × SI) (fun _ => Option SI) none (fun x _ ih => @Bool.rec (fun _ => Option SI) ih (some x.2) (sbBeq x.1 s)) l

noncomputable def tblQ (l : List (List SB × List SB × Bool)) (a b : List SB) : Option Bool :=
  @List.rec (List SB × List SB × Bool) (fun _ => Option Bool) none (fun x _ ih => @Bool.rec (fun _ => Option Bool) ih (some x.2.2) (sbBeq x.1 a && sbBeq x.2.1 b)) l

noncomputable def tblI (l : List (List SB × SI × SI)) (s : List SB) (e : SI) : Option SI :=
  @List.rec (List SB × SI × SI) (fun _ => Option SI) none (fun x _ ih => @Bool.rec (fun _ => Option SI) ih (some x.2.2) (sbBeq x.1 s && SI.beq x.2.1 e)) l

structure Tab where
  R : List (SI × SI) := []
  C : List (BinOp × SI × SI × Bool) := []
  Z : List SI := []
  N : List (List SB × SI) := []
  Q : List (List SB × List SB × Bool) := []
  I : List (List SB × SI × SI) := []

/-- tables, laid onto a program's -/
noncomputable def Tab.on (t : Tab) (K : Nat → Option (List V → List Ob → Option (Rs × List Ob))) (c : Cx) : Cx :=
  { c with R := tblR t.R, C := tblC t.C, Z := tblZ t.Z, N := tblN t.N, Q := tblQ t.Q, I := tblI t.I, K := K }

/-- every row of a table -/
def Each {α : Type} (p : α → Prop) : List α → Prop
  | [] => True
  | x :: l => p x ∧ Each p l

theorem Each.mem {α : Type} {p : α → Prop} : ∀ {l : List α}, Each p l → ∀ x ∈ l, p x
  | y :: l, ⟨h1, h2⟩, x, hx => by
    rcases List.mem_cons.1 hx with hx | hx
    · subst hx; exact h1
    · exact h2.mem x hx

structure Tab.Ok (t : Tab) (T : TR) : Prop where
  R : Each (fun x => x.1.den T = x.2.den T) t.R
  C : Each (fun x => cmpN x.1 (x.2.1.den T) (x.2.2.1.den T) = x.2.2.2) t.C
  Z : Each (fun x => 0 ≤ x.den T ∧ x.den T < 256) t.Z
  N : Each (fun x => x.2.den T = ((denS T x.1).length : Int)) t.N
  Q : Each (fun x => (denS T x.1 == denS T x.2.1) = x.2.2) t.Q
  I : Each (fun x => 0 ≤ x.2.1.den T ∧ ∃ b : UInt8, (denS T x.1)[(x.2.1.den T).toNat]? = some b ∧ x.2.2.den T = (b.toNat : Int)) t.I
  σ : ∀ k, (T.σ k).length ≤ 1099511627776

theorem tblR_mem {l : List (SI × SI)} {e r : SI} (h : tblR l e = some r) : (e, r) ∈ l := by
  induction l with
  | nil => simp [tblR] at h
  | cons x l ih =>
    have h' : (@Bool.rec (fun _ => Option SI) (tblR l e) (some x.2) (SI.beq x.1 e) : Option SI) = some r := h
    cases hb : SI.beq x.1 e with
    | true =>
      simp only [hb, Option.some.injEq] at h'
      have := SI.eq_of_beq hb
      obtain ⟨x1, x2⟩ := x
      simp only at this h'
      subst this h'
      exact List.mem_cons_self ..
    | false => simp only [hb] at h'; exact List.mem_cons_of_mem _ (ih h')

theorem tblC_mem {l : List (BinOp × SI × SI × Bool)} {op : BinOp} {a b : SI} {r : Bool} (h : tblC l op a b = some r) : (op, a, b, r) ∈ l := by
  induction l with
  | nil => simp [tblC] at h
  | cons x l ih =>
    have h' : (@Bool.rec (fun _ => Option Bool) (tblC l op a b) (some x.2.2.2) (Nat.beq (opNo x.1) (opNo op) && (SI.beq x.2.1 a && SI.beq x.2.2.1 b)) : Option Bool) = some r := h
    cases hb : (Nat.beq (opNo x.1) (opNo op) && (SI.beq x.2.1 a && SI.beq x.2.2.1 b)) with
    | true =>
      simp only [hb, Option.some.injEq] at h'
      simp only [Bool.and_eq_true] at hb
      obtain ⟨x1, x2, x3, x4⟩ := x
      simp only at hb h'
      rw [← opNo_inj hb.1, ← SI.eq_of_beq hb.2.1, ← SI.eq_of_beq hb.2.2, ← h']
      exact List.mem_cons_self ..
    | false => simp only [hb] at h'; exact List.mem_cons_of_mem _ (ih h')

theorem tblZ_mem {l : List SI} {e : SI} (h : tblZ l e = true) : e ∈ l := by
  induction l with
  | nil => simp [tblZ] at h
  | cons x l ih =>
    have h' : (@Bool.rec (fun _ => Bool) (tblZ l e) true (SI.beq x e) : Bool) = true := h
    cases hb : SI.beq x e with
    | true => rw [SI.eq_of_beq hb]; exact List.mem_cons_self ..
    | false => simp only [hb] at h'; exact List.mem_cons_of_mem _ (ih h')

theorem tblN_mem {l : List (List SB × SI)} {s : List SB} {r : SI} (h : tblN l s = some r) : (s, r) ∈ l := by
  induction l with
  | nil => simp [tblN] at h
  | cons x l ih =>
    have h' : (@Bool.rec (fun _ => Option SI) (tblN l s) (some x.2) (sbBeq x.1 s) : Option SI) = some r := h
    cases hb : sbBeq x.1 s with
    | true =>
      simp only [hb, Option.some.injEq] at h'
      obtain ⟨x1, x2⟩ := x
      simp only at hb h'
      rw [← sb_eq hb, ← h']
      exact List.mem_cons_self ..
    | false => simp only [hb] at h'; exact List.mem_cons_of_mem _ (ih h')

theorem tblQ_mem {l : List (List SB × List SB × Bool)} {a b : List SB} {r : Bool} (h : tblQ l a b = some r) : (a, b, r) ∈ l := by
  induction l with
  | nil => simp [tblQ] at h
  | cons x l ih =>
    have h' : (@Bool.rec (fun _ => Option Bool) (tblQ l a b) (some x.2.2) (sbBeq x.1 a && sbBeq x.2.1 b) : Option Bool) = some r := h
    cases hb : (sbBeq x.1 a && sbBeq x.2.1 b) with
    | true =>
      simp only [hb, Option.some.injEq] at h'
      simp only [Bool.and_eq_true] at hb
      obtain ⟨x1, x2, x3⟩ := x
      simp only at hb h'
      rw [← sb_eq hb.1, ← sb_eq hb.2, ← h']
      exact List.mem_cons_self ..
    | false => simp only [hb] at h'; exact List.mem_cons_of_mem _ (ih h')

theorem tblI_mem {l : List (List SB × SI × SI)} {s : List SB} {e r : SI} (h : tblI l s e = some r) : (s, e, r) ∈ l := by
  induction l with
  | nil => simp [tblI] at h
  | cons x l ih =>
    have h' : (@Bool.rec (fun _ => Option SI) (tblI l s e) (some x.2.2) (sbBeq x.1 s && SI.beq x.2.1 e) : Option SI) = some r := h
    cases hb : (sbBeq x.1 s && SI.beq x.2.1 e) with
    | true =>
      simp only [hb, Option.some.injEq] at h'
      simp only [Bool.and_eq_true] at hb
      obtain ⟨x1, x2, x3⟩ := x
      simp only at hb h'
      rw [← sb_eq hb.1, ← SI.eq_of_beq hb.2, ← h']
      exact List.mem_cons_self ..
    | false => simp only [hb] at h'; exact List.mem_cons_of_mem _ (ih h')

theorem Tab.Ok.facts {t : Tab} {c : Cx} (h : t.Ok c.T) (K : Nat → Option (List V → List Ob → Option (Rs × List Ob))) : Facts (t.on K c) where
  R := fun e e' he => h.R.mem _ (tblR_mem he)
  C := fun op a b r he => h.C.mem _ (tblC_mem he)
  Z := fun e he => h.Z.mem _ (tblZ_mem he)
  Q := fun a b r he => h.Q.mem _ (tblQ_mem he)
  N := fun l e he => h.N.mem _ (tblN_mem he)
  I := fun l e e' he => h.I.mem _ (tblI_mem he)
  σ := h.σ

/-! Drawn regions: their tables alone count. -/

theorem quiet_congr {cx cx' : Cx} (hF : cx'.F = cx.F) (hY : cx'.Y = cx.Y) (o : Oper) : quiet cx' o = quiet cx o := by
  unfold quiet
  rw [hF, hY]

theorem plainLoad_congr {cx cx' : Cx} (hT : cx'.T.T = cx.T.T) (o : Oper) : plainLoad cx' o = plainLoad cx o := by
  unfold plainLoad
  rw [hT]

theorem commOK_congr {cx cx' : Cx} (hT : cx'.T.T = cx.T.T) (hF : cx'.F = cx.F) (hY : cx'.Y = cx.Y) (ops : Array Oper) (pairs : List (Nat × Nat)) (p i : Nat × Oper) : commOK cx' ops pairs p i = commOK cx ops pairs p i := by
  unfold commOK looksOf
  simp only [quiet_congr hF hY, plainLoad_congr hT]

theorem drawOk_congr {cx cx' : Cx} (hT : cx'.T.T = cx.T.T) (hF : cx'.F = cx.F) (hY : cx'.Y = cx.Y) (ops : Array Oper) (pairs : List (Nat × Nat)) : drawOk cx' ops pairs = drawOk cx ops pairs := by
  unfold drawOk
  simp only [commOK_congr hT hF hY]

theorem codeDraws_congr {cx cx' : Cx} (hT : cx'.T.T = cx.T.T) (hF : cx'.F = cx.F) (hY : cx'.Y = cx.Y) (dyn : List (Nat × List (Nat × Nat))) : ∀ c : Code, codeDraws cx' dyn c = codeDraws cx dyn c
  | .region id ops draw => by simp only [codeDraws, drawOk_congr hT hF hY]
  | .seq a b => by simp only [codeDraws, codeDraws_congr hT hF hY dyn a, codeDraws_congr hT hF hY dyn b]
  | .cond x a b => by simp only [codeDraws, codeDraws_congr hT hF hY dyn a, codeDraws_congr hT hF hY dyn b]
  | .block id c => by simp only [codeDraws, codeDraws_congr hT hF hY dyn c]
  | .loop c => by simp only [codeDraws, codeDraws_congr hT hF hY dyn c]
  | .skip => rfl
  | .rangeFunc .. => rfl
  | .exit _ => rfl
  | .scope _ => rfl
  | .label _ => rfl
  | .goto _ => rfl
  | .ret => rfl
  | .refuse _ => rfl

theorem Draws.congr {cx cx' : Cx} (hT : cx'.T.T = cx.T.T) (hF : cx'.F = cx.F) (hY : cx'.Y = cx.Y) (h : Draws cx) : Draws cx' := by
  intro f i c hf hb
  rw [codeDraws_congr hT hF hY]
  rw [hF] at hf
  exact h f i c hf hb

/-! Contracts, by rows. -/

def boolB : Bool → Bool → Bool
  | true, true => true
  | false, false => true
  | _, _ => false
theorem boolB_eq : ∀ {a b : Bool}, boolB a b = true → a = b
  | true, true, _ => rfl
  | false, false, _ => rfl
  | true, false, h => by simp [boolB] at h
  | false, true, h => by simp [boolB] at h

def natsB : List Nat → List Nat → Bool
  | [], [] => true
  | a :: l, b :: m => Nat.beq a b && natsB l m
  | _, _ => false
theorem natsB_eq : ∀ {a b : List Nat}, natsB a b = true → a = b
  | [], [], _ => rfl
  | a :: l, b :: m, h => by simp only [natsB, Bool.and_eq_true] at h; rw [Nat.eq_of_beq_eq_true h.1, natsB_eq h.2]
  | [], _ :: _, h => by simp [natsB] at h
  | _ :: _, [], h => by simp [natsB] at h

def natssB : List (List Nat) → List (List Nat) → Bool
  | [], [] => true
  | a :: l, b :: m => natsB a b && natssB l m
  | _, _ => false
theorem natssB_eq : ∀ {a b : List (List Nat)}, natssB a b = true → a = b
  | [], [], _ => rfl
  | a :: l, b :: m, h => by simp only [natssB, Bool.and_eq_true] at h; rw [natsB_eq h.1, natssB_eq h.2]
  | [], _ :: _, h => by simp [natssB] at h
  | _ :: _, [], h => by simp [natssB] at h

def u8sB : List UInt8 → List UInt8 → Bool
  | [], [] => true
  | a :: l, b :: m => Nat.beq a.toNat b.toNat && u8sB l m
  | _, _ => false
theorem u8sB_eq : ∀ {a b : List UInt8}, u8sB a b = true → a = b
  | [], [], _ => rfl
  | a :: l, b :: m, h => by simp only [u8sB, Bool.and_eq_true] at h; rw [UInt8.toNat_inj.1 (Nat.eq_of_beq_eq_true h.1), u8sB_eq h.2]
  | [], _ :: _, h => by simp [u8sB] at h
  | _ :: _, [], h => by simp [u8sB] at h

mutual
def V.beq : V → V → Bool
  | .b x, .b y => boolB x y
  | .i x, .i y => intB x y
  | .s x, .s y => u8sB x y
  | .pnil, .pnil => true
  | .ptr o p, .ptr o' p' => Nat.beq o o' && natsB p p'
  | .cp ty v, .cp ty' v' => Ty.beq ty ty' && V.beq v v'
  | .snil, .snil => true
  | .sl f vs, .sl f' vs' => boolB f f' && V.beqs vs vs'
  | .rw o k l, .rw o' k' l' => Nat.beq o o' && (Nat.beq k k' && Nat.beq l l')
  | .mnil, .mnil => true
  | .mp o, .mp o' => Nat.beq o o'
  | .fnil, .fnil => true
  | .fn f vs, .fn f' vs' => Nat.beq f f' && V.beqs vs vs'
  | .inil, .inil => true
  | .ifc t v, .ifc t' v' => Nat.beq t t' && V.beq v v'
  | .rc vs, .rc vs' => V.beqs vs vs'
  | .ix e, .ix e' => SI.beq e e'
  | .tx l, .tx l' => sbBeq l l'
  | _, _ => false
def V.beqs : List V → List V → Bool
  | [], [] => true
  | v :: vs, v' :: vs' => V.beq v v' && V.beqs vs vs'
  | _, _ => false
end

mutual
theorem V.eq_of_beq : ∀ (a b : V), V.beq a b = true → a = b
  | .b x, z, h => by cases z <;> simp only [V.beq, Bool.false_eq_true] at h; rw [boolB_eq h]
  | .i x, z, h => by cases z <;> simp only [V.beq, Bool.false_eq_true] at h; rw [intB_eq h]
  | .s x, z, h => by cases z <;> simp only [V.beq, Bool.false_eq_true] at h; rw [u8sB_eq h]
  | .pnil, z, h => by cases z <;> simp only [V.beq, Bool.false_eq_true] at h; rfl
  | .ptr o p, z, h => by cases z <;> simp only [V.beq, Bool.false_eq_true, Bool.and_eq_true] at h; rw [Nat.eq_of_beq_eq_true h.1, natsB_eq h.2]
  | .cp ty v, z, h => by cases z <;> simp only [V.beq, Bool.false_eq_true, Bool.and_eq_true] at h; rw [Ty.eq_of_beq _ _ h.1, V.eq_of_beq v _ h.2]
  | .snil, z, h => by cases z <;> simp only [V.beq, Bool.false_eq_true] at h; rfl
  | .sl f vs, z, h => by cases z <;> simp only [V.beq, Bool.false_eq_true, Bool.and_eq_true] at h; rw [boolB_eq h.1, V.eqs_of_beqs vs _ h.2]
  | .rw o k l, z, h => by cases z <;> simp only [V.beq, Bool.false_eq_true, Bool.and_eq_true] at h; rw [Nat.eq_of_beq_eq_true h.1, Nat.eq_of_beq_eq_true h.2.1, Nat.eq_of_beq_eq_true h.2.2]
  | .mnil, z, h => by cases z <;> simp only [V.beq, Bool.false_eq_true] at h; rfl
  | .mp o, z, h => by cases z <;> simp only [V.beq, Bool.false_eq_true] at h; rw [Nat.eq_of_beq_eq_true h]
  | .fnil, z, h => by cases z <;> simp only [V.beq, Bool.false_eq_true] at h; rfl
  | .fn f vs, z, h => by cases z <;> simp only [V.beq, Bool.false_eq_true, Bool.and_eq_true] at h; rw [Nat.eq_of_beq_eq_true h.1, V.eqs_of_beqs vs _ h.2]
  | .inil, z, h => by cases z <;> simp only [V.beq, Bool.false_eq_true] at h; rfl
  | .ifc t v, z, h => by cases z <;> simp only [V.beq, Bool.false_eq_true, Bool.and_eq_true] at h; rw [Nat.eq_of_beq_eq_true h.1, V.eq_of_beq v _ h.2]
  | .rc vs, z, h => by cases z <;> simp only [V.beq, Bool.false_eq_true] at h; rw [V.eqs_of_beqs vs _ h]
  | .ix e, z, h => by cases z <;> simp only [V.beq, Bool.false_eq_true] at h; rw [SI.eq_of_beq h]
  | .tx l, z, h => by cases z <;> simp only [V.beq, Bool.false_eq_true] at h; rw [sb_eq h]
  | .bad, z, h => by simp [V.beq] at h
theorem V.eqs_of_beqs : ∀ (a b : List V), V.beqs a b = true → a = b
  | [], z, h => by cases z <;> simp_all [V.beqs]
  | v :: vs, z, h => by
    cases z with
    | nil => simp [V.beqs] at h
    | cons y ys =>
      simp only [V.beqs, Bool.and_eq_true] at h
      rw [V.eq_of_beq v _ h.1, V.eqs_of_beqs vs _ h.2]
end

def entsB : List (V × V) → List (V × V) → Bool
  | [], [] => true
  | x :: l, y :: m => V.beq x.1 y.1 && (V.beq x.2 y.2 && entsB l m)
  | _, _ => false
theorem entsB_eq : ∀ {a b : List (V × V)}, entsB a b = true → a = b
  | [], [], _ => rfl
  | (_, _) :: l, (_, _) :: m, h => by
    simp only [entsB, Bool.and_eq_true] at h
    rw [V.eq_of_beq _ _ h.1, V.eq_of_beq _ _ h.2.1, entsB_eq h.2.2]
  | [], _ :: _, h => by simp [entsB] at h
  | _ :: _, [], h => by simp [entsB] at h

def Ob.beq : Ob → Ob → Bool
  | .row ty vs ow, .row ty' vs' ow' => Ty.beq ty ty' && (V.beqs vs vs' && natssB ow ow')
  | .mapo k e es, .mapo k' e' es' => Ty.beq k k' && (Ty.beq e e' && entsB es es')
  | .dead, .dead => true
  | _, _ => false
theorem Ob.eq_of_beq {a b : Ob} (h : Ob.beq a b = true) : a = b := by
  cases a <;> cases b <;> simp only [Ob.beq, Bool.false_eq_true, Bool.and_eq_true] at h
  · rw [Ty.eq_of_beq _ _ h.1, V.eqs_of_beqs _ _ h.2.1, natssB_eq h.2.2]
  · rw [Ty.eq_of_beq _ _ h.1, Ty.eq_of_beq _ _ h.2.1, entsB_eq h.2.2]
  · rfl

def obsB : List Ob → List Ob → Bool
  | [], [] => true
  | x :: l, y :: m => Ob.beq x y && obsB l m
  | _, _ => false
theorem obsB_eq : ∀ {a b : List Ob}, obsB a b = true → a = b
  | [], [], _ => rfl
  | x :: l, y :: m, h => by
    simp only [obsB, Bool.and_eq_true] at h
    rw [Ob.eq_of_beq h.1, obsB_eq h.2]
  | [], _ :: _, h => by simp [obsB] at h
  | _ :: _, [], h => by simp [obsB] at h

structure KRow where
  f : Nat
  vs : List V
  os : List Ob
  r : Rs
  os' : List Ob

noncomputable def rowsK (l : List KRow) (f : Nat) (vs : List V) (os : List Ob) : Option (Rs × List Ob) :=
  @List.rec KRow (fun _ => Option (Rs × List Ob)) none (fun x _ ih => @Bool.rec (fun _ => Option (Rs × List Ob)) ih (@Bool.rec (fun _ => Option (Rs × List Ob)) ih (some (x.r, x.os')) (V.beqs x.vs vs && obsB x.os os)) (Nat.beq x.f f)) l

noncomputable def tblK (l : List KRow) (f : Nat) : Option (List V → List Ob → Option (Rs × List Ob)) := some (rowsK l f)

def KRow.Ok (P : Program) (cx : Cx) (x : KRow) : Prop := CallOK P cx x.f x.vs x.os x.r x.os'

theorem rowsK_ok {P : Program} {cx : Cx} {l : List KRow} (h : Each (KRow.Ok P cx) l) {f : Nat} {vs : List V} {os os' : List Ob} {r : Rs} (he : rowsK l f vs os = some (r, os')) : CallOK P cx f vs os r os' := by
  induction l with
  | nil => simp [rowsK] at he
  | cons x l ih =>
    have he' : (@Bool.rec (fun _ => Option (Rs × List Ob)) (rowsK l f vs os) (@Bool.rec (fun _ => Option (Rs × List Ob)) (rowsK l f vs os) (some (x.r, x.os')) (V.beqs x.vs vs && obsB x.os os)) (Nat.beq x.f f) : Option (Rs × List Ob)) = some (r, os') := he
    cases hf : Nat.beq x.f f with
    | false => simp only [hf] at he'; exact ih h.2 he'
    | true =>
      simp only [hf] at he'
      cases hv : (V.beqs x.vs vs && obsB x.os os) with
      | false => simp only [hv] at he'; exact ih h.2 he'
      | true =>
        simp only [hv, Option.some.injEq, Prod.mk.injEq] at he'
        simp only [Bool.and_eq_true] at hv
        have h1 := h.1
        unfold KRow.Ok at h1
        rw [Nat.eq_of_beq_eq_true hf, V.eqs_of_beqs _ _ hv.1, obsB_eq hv.2, he'.1, he'.2] at h1
        exact h1

theorem tblK_ok {P : Program} {cx : Cx} {l : List KRow} (h : Each (KRow.Ok P cx) l) (f : Nat) (vs : List V) (os : List Ob) (r : Rs) (os' : List Ob) (he : askK (tblK l f) vs os = some (r, os')) : CallOK P cx f vs os r os' :=
  rowsK_ok h he

/-! Steps into a text. -/

noncomputable def cl : Code → Code
  | .seq a _ => a
  | .cond _ a _ => a
  | .block _ c => c
  | .loop c => c
  | c => c
noncomputable def cr : Code → Code
  | .seq _ b => b
  | .cond _ _ b => b
  | c => c
end Go.Vm
