/- The evaluator: the model's own code, run over trees; it answers none where it cannot tell. -/
import Derived.Test.YtjbehmedbefbpaaGreatVmBase
set_option linter.unusedVariables false
set_option linter.unusedSimpArgs false
namespace Go.Vm
open Go

inductive Org where
  | no
  | slot (t : Nat)
  | place (o : Nat) (p : List Nat)

inductive Ent where
  | one (ty : Ty) (v : V) (own : Bool)
  | tup (l : List (Ty × V))
  | un

abbrev Env := List (Nat × Ent)

/-- objects: a row of values of a type, and the places of it that own what they hold -/
inductive Ob where
  | row (ty : Ty) (vs : List V) (own : List (List Nat))
  | mapo (k e : Ty) (es : List (V × V))
  | dead

structure St where
  env : Env
  orgs : List (Nat × Org)
  os : List Ob
  n : Nat
  thaw : List Nat

/-- what a call answers -/
inductive Rs where
  | one (ty : Ty) (v : V) (own : Bool)
  | tup (l : List (Ty × V))

inductive Ex where
  | normal
  | exit (id : Nat)
  | ret

structure Fi where
  fn : Func
  keep : Nat
  pure : Bool
  thaw : List Nat := []
  dyn : List (Nat × List (Nat × Nat)) := []

structure Cx where
  T : TR
  B : Nat → Nat
  E : Nat → Bool
  Y : Nat → Option (List V → Option (Ty × V))
  F : Nat → Option Fi
  /-- what is known of unknown numbers and texts -/
  R : SI → Option SI := fun _ => none
  C : BinOp → SI → SI → Option Bool := fun _ _ _ => none
  Z : SI → Bool := fun _ => false
  Q : List SB → List SB → Option Bool := fun _ _ => none
  N : List SB → Option SI := fun _ => none
  I : List SB → SI → Option SI := fun _ _ => none
  /-- contracts -/
  K : Nat → Option (List V → List Ob → Option (Rs × List Ob)) := fun _ => none

/-! These few are written by recursors: the kernel runs them much faster so. -/

noncomputable def Env.get (env : Env) (t : Nat) : Option Ent :=
  @List.rec (Nat × Ent) (fun _ => Option Ent) none (fun x _ ih => @Bool.rec (fun _ => Option Ent) ih (some x.2) (Nat.beq x.1 t)) env

/-- by falling slots -/
noncomputable def Env.ins (env : Env) (t : Nat) (e : Ent) : Env :=
  @List.rec (Nat × Ent) (fun _ => Env) [(t, e)] (fun x r ih => @Bool.rec (fun _ => Env) (@Bool.rec (fun _ => Env) (x :: ih) ((t, e) :: x :: r) (Nat.ble x.1 t)) ((t, e) :: r) (Nat.beq x.1 t)) env

/-- a set of numbers, as bits -/
noncomputable def memB (m : Nat) (t : Nat) : Bool := Nat.beq (Nat.land (Nat.shiftRight m t) 1) 1

/-- whether an origin speaks of a slot -/
noncomputable def aboutB (d : Nat) : Nat × Org → Bool
  | (t, .slot s) => Nat.beq t d || Nat.beq s d
  | (t, .no) => Nat.beq t d
  | (t, .place _ _) => Nat.beq t d

/-- an origin that speaks of a slot is known no more -/
noncomputable def offOrg (d : Nat) (x : Nat × Org) : Nat × Org :=
  match aboutB d x with
  | true => (x.1, .no)
  | false => x

noncomputable def dropOrg (d : Nat) : List (Nat × Org) → List (Nat × Org)
  | [] => []
  | x :: r => offOrg d x :: dropOrg d r

/-- by rising slots -/
noncomputable def insOrg (d : Nat) (o : Org) : List (Nat × Org) → List (Nat × Org)
  | [] => [(d, o)]
  | x :: r => match Nat.beq x.1 d with
    | true => (d, o) :: r
    | false => match Nat.ble d x.1 with
      | true => (d, o) :: x :: r
      | false => x :: insOrg d o r

noncomputable def getOrg : List (Nat × Org) → Nat → Org
  | [], _ => .no
  | (u, o) :: r, t => match Nat.beq u t with
    | true => o
    | false => getOrg r t

/-- write a slot -/
noncomputable def St.set : St → Option Nat → Ent → Option St
  | st, none, _ => some st
  | ⟨env, orgs, os, n, thaw⟩, some d, e => match Nat.blt d n with
    | true => some ⟨env.ins d e, dropOrg d orgs, os, n, thaw⟩
    | false => none

/-- .. with a slice whose origin is known -/
noncomputable def St.setO : St → Option Nat → Ent → Org → Option St
  | st, none, _, _ => some st
  | ⟨env, orgs, os, n, thaw⟩, some d, e, o => match Nat.blt d n with
    | true => some ⟨env.ins d e, insOrg d o (dropOrg d orgs), os, n, thaw⟩
    | false => none

noncomputable def St.withEnv : St → Env → St
  | ⟨_, orgs, os, n, thaw⟩, env => ⟨env, orgs, os, n, thaw⟩

noncomputable def St.withOs : St → List Ob → St
  | ⟨env, orgs, _, n, thaw⟩, os => ⟨env, orgs, os, n, thaw⟩

noncomputable def slotOrg : Nat × Org → Nat × Org
  | (t, .slot s) => (t, .slot s)
  | (t, .no) => (t, .no)
  | (t, .place _ _) => (t, .no)

noncomputable def slotOrgs : List (Nat × Org) → List (Nat × Org)
  | [] => []
  | x :: r => slotOrg x :: slotOrgs r

/-- objects have changed: no place is an origin -/
noncomputable def St.newOs : St → List Ob → St
  | ⟨env, orgs, _, n, thaw⟩, os => ⟨env, slotOrgs orgs, os, n, thaw⟩

/-- the end of a region: what is kept, its list written out -/
noncomputable def Env.keepK (l : Nat) (env : Env) (k : Env → St) : St :=
  @List.rec (Nat × Ent) (fun _ => (Env → St) → St) (fun k => k []) (fun x _ ih k => @Bool.rec (fun _ => St) (ih k) (ih fun r' => k (x :: r')) (memB l x.1)) env k

noncomputable def St.keep (l : Nat) : St → St
  | ⟨env, _, os, n, thaw⟩ => Env.keepK l env fun env' => ⟨env', [], os, n, thaw⟩

/-- a slot owns no more -/
noncomputable def Env.disown (env : Env) (t : Nat) : Env :=
  match env.get t with
  | some (.one ty v true) => env.ins t (.one ty v false)
  | _ => env

mutual
noncomputable def vOf : Ty → List Value → Option V
  | .bool, [.bool b] => some (.b b)
  | .int k, [.int l n] => if k = l then some (.i n) else none
  | .str, [.string s] => some (.s s.data.toList)
  | .ptr, [.pointer none] => some .pnil
  | .sl _, [.slice none 0 0] => some .snil
  | .mp _ _, [.map none] => some .mnil
  | .fn, [.nilFunc] => some .fnil
  | .ifc, [.nilIface] => some .inil
  | .st fs, cs => match vsOf fs cs with
    | some vs => some (.rc vs)
    | none => none
  | _, _ => none
noncomputable def vsOf : List Ty → List Value → Option (List V)
  | [], [] => some []
  | t :: ts, cs => match vOf t (cs.take t.size), vsOf ts (cs.drop t.size) with
    | some v, some vs => some (v :: vs)
    | _, _ => none
  | _, _ => none
end

/-- a constant, at a type -/
noncomputable def cst (ty : Ty) (c : Value) : Option V :=
  match ty, c with
  | .st fs, .agg cs => vOf (.st fs) cs.toList
  | .st _, _ => none
  | .ar _ _, _ => none
  | _, .agg _ => none
  | _, .tuple _ => none
  | ty, c => vOf ty [c]

noncomputable def opd (st : St) (ty : Ty) : Operand → Option V
  | .tmp t => match st.env.get t with
    | some (.one u v _) => match u.beq ty with
      | true => some v
      | false => none
    | _ => none
  | .const c => cst ty c
  | .func f => match ty with
    | .fn => some (.fn f [])
    | _ => none
  | .global _ => none

/-- an integer of whatever kind -/
noncomputable def opi (st : St) : Operand → Option (IntKind × Int)
  | .tmp t => match st.env.get t with
    | some (.one (.int k) (.i n) _) => some (k, n)
    | _ => none
  | .const (.int k n) => some (k, n)
  | _ => none

noncomputable def isSl : Ty → Bool
  | .sl _ => true
  | _ => false

noncomputable def orgOf : Operand → Org
  | .tmp t => .slot t
  | _ => .no

noncomputable def owns (st : St) : Operand → Bool
  | .tmp t => match st.env.get t with
    | some (.one _ _ own) => own
    | _ => false
  | _ => false

noncomputable def disown (env : Env) : Operand → Env
  | .tmp t => env.disown t
  | _ => env

/-- parts of a struct, an array, a slice -/
noncomputable def fill (st : St) (ty : Nat → Option Ty) : List V → List (Nat × Operand) → Option (List V)
  | vs, [] => some vs
  | vs, (i, x) :: r => match ty i with
    | none => none
    | some t => match opd st t x with
      | none => none
      | some v => if i < vs.length then fill st ty (vs.set i v) r else none

/-- what stands at a place of an object, and its type -/
noncomputable def look (os : List Ob) (o : Nat) : List Nat → Option (Ty × V)
  | [] => none
  | i :: q => match os[o]? with
    | some (.row ty vs _) => match ty.at q, vs[i]? with
      | some (_, u), some v => match v.get q with
        | some x => some (u, x)
        | none => none
      | _, _ => none
    | _ => none

noncomputable def lookTy (os : List Ob) (o : Nat) : List Nat → Option Ty
  | [] => none
  | _ :: q => match os[o]? with
    | some (.row ty _ _) => match ty.at q with
      | some (_, u) => some u
      | none => none
    | _ => none

/-- a store at a place -/
noncomputable def stash (os : List Ob) (o : Nat) (p : List Nat) (u : Ty) (x : V) (own : Bool) : Option (List Ob) :=
  match p with
  | [] => none
  | i :: q => match os[o]? with
    | some (.row ty vs ow) => match ty.at q, vs[i]? with
      | some (_, t), some v => if t.beq u then match v.put q x with
          | some v' => some (os.set o (.row ty (vs.set i v') ((if own then [p] else []) ++ ow.filter fun r => !p.isPrefixOf r)))
          | none => none
        else none
      | _, _ => none
    | _ => none

/-- a place owns no more -/
noncomputable def unown (os : List Ob) (o : Nat) (p : List Nat) : List Ob :=
  match os[o]? with
  | some (.row ty vs ow) => os.set o (.row ty vs (ow.filter fun r => !(r == p)))
  | _ => os

noncomputable def ownsPlace (os : List Ob) (o : Nat) (p : List Nat) : Bool :=
  match os[o]? with
  | some (.row _ _ ow) => ow.contains p
  | _ => false

noncomputable def intOp (op : BinOp) (k : IntKind) (x y : Int) : Option V :=
  match op with
  | .add => some (.i (wrapF k (x + y)))
  | .sub => some (.i (wrapF k (x - y)))
  | .mul => some (.i (wrapF k (x * y)))
  | .quo => if y = 0 then none else some (.i (wrapF k (x.tdiv y)))
  | .rem => if y = 0 then none else some (.i (x.tmod y))
  | .and => some (.i (wrapF k (Int.ofNat (Nat.land (toN k x) (toN k y)))))
  | .or => some (.i (wrapF k (Int.ofNat (Nat.lor (toN k x) (toN k y)))))
  | .xor => some (.i (wrapF k (Int.ofNat (Nat.xor (toN k x) (toN k y)))))
  | .andNot => some (.i (wrapF k (Int.ofNat (Nat.land (toN k x) (modN k - 1 - toN k y)))))
  | .shl => none
  | .shr => none
  | .eql => some (.b (x == y))
  | .neq => some (.b (x != y))
  | .lss => some (.b (x < y))
  | .leq => some (.b (x ≤ y))
  | .gtr => some (.b (x > y))
  | .geq => some (.b (x ≥ y))

noncomputable def shOp (op : BinOp) (k : IntKind) (x y : Int) : Option V :=
  if y < 0 then none else
  match op with
  | .shl => some (.i (wrapF k (x * Int.ofNat (2 ^ (min y.toNat k.bits)))))
  | .shr => some (.i (x.fdiv (Int.ofNat (2 ^ (min y.toNat k.bits)))))
  | _ => none

noncomputable def strOp (op : BinOp) (x y : List UInt8) : Option V :=
  match op with
  | .add => if x.length + y.length ≤ 4611686018427387904 then some (.s (x ++ y)) else none
  | .eql => some (.b (x == y))
  | .neq => some (.b (!(x == y)))
  | .lss => some (.b (Op.bytesLess x y))
  | .leq => some (.b (Op.bytesLess x y || x == y))
  | .gtr => some (.b (!(Op.bytesLess x y || x == y)))
  | .geq => some (.b (!Op.bytesLess x y))
  | _ => none

mutual
noncomputable def Ty.rank : Ty → Nat
  | .st fs => Ty.ranks fs + 1
  | .ar _ e => e.rank + 1
  | .bool => 1 | .int _ => 1 | .str => 1 | .ptr => 1 | .sl _ => 1 | .mp _ _ => 1 | .fn => 1 | .ifc => 1
noncomputable def Ty.ranks : List Ty → Nat
  | [] => 0
  | t :: ts => t.rank + Ty.ranks ts
end

noncomputable def isSt : Ty → Bool
  | .st _ => true
  | _ => false

mutual
/-- equality of values of a type that can be compared -/
noncomputable def eqV : Ty → V → V → Option Bool
  | .bool, .b x, .b y => some (x == y)
  | .int _, .i x, .i y => some (x == y)
  | .str, .s x, .s y => some (x == y)
  | .int _, .ix a, .ix b => match SI.beq a b with
    | true => some true
    | false => none
  | .str, .tx a, .tx b => match sbBeq a b with
    | true => some true
    | false => none
  | .st fs, .rc xs, .rc ys => eqVs fs xs ys
  | .ptr, .pnil, .pnil => some true
  | .ptr, .pnil, .ptr _ _ => some false
  | .ptr, .ptr _ _, .pnil => some false
  | .ptr, .pnil, .cp _ _ => some false
  | .ptr, .cp _ _, .pnil => some false
  | .sl _, .snil, .snil => some true
  | .sl _, .snil, .sl _ _ => some false
  | .sl _, .snil, .rw _ _ _ => some false
  | .sl _, .sl _ _, .snil => some false
  | .sl _, .rw _ _ _, .snil => some false
  | _, _, _ => none
noncomputable def eqVs : List Ty → List V → List V → Option Bool
  | [], [], [] => some true
  | t :: ts, x :: xs, y :: ys => match eqV t x y with
    | some true => eqVs ts xs ys
    | some false => some false
    | none => none
  | _, _, _ => none
end

noncomputable def shEv (st : St) (op : BinOp) (k : IntKind) (x y : Operand) : Option (Ty × V) :=
  match opd st (.int k) x, opi st y with
  | some (.i a), some (_, b) => match shOp op k a b with
    | some r => some (.int k, r)
    | none => none
  | _, _ => none

noncomputable def intEv (st : St) (op : BinOp) (k : IntKind) (x y : Operand) : Option (Ty × V) :=
  match opd st (.int k) x, opd st (.int k) y with
  | some (.i a), some (.i b) => match intOp op k a b with
    | some (.b r) => some (.bool, .b r)
    | some (.i n) => some (.int k, .i n)
    | _ => none
  | _, _ => none

noncomputable def strEv (st : St) (op : BinOp) (x y : Operand) : Option (Ty × V) :=
  match opd st .str x, opd st .str y with
  | some (.s a), some (.s b) => match strOp op a b with
    | some (.b r) => some (.bool, .b r)
    | some (.s l) => some (.str, .s l)
    | _ => none
  | _, _ => none

noncomputable def eqEv (st : St) (neg : Bool) (u : Ty) (x y : Operand) : Option (Ty × V) :=
  match opd st u x, opd st u y with
  | some a, some b => match eqV u a b with
    | some r => some (.bool, .b (neg ^^ r))
    | none => none
  | _, _ => none

noncomputable def cmpEv (st : St) (E : Bool) (op : BinOp) (u : Ty) (x y : Operand) : Option (Ty × V) :=
  if (!isSt u || E) && decide (u.rank ≤ 1000) then match op with
    | .eql => eqEv st false u x y
    | .neq => eqEv st true u x y
    | _ => none
  else none

noncomputable def binEv (cx : Cx) (st : St) (op : BinOp) (xt : Nat) (x y : Operand) : Option (Ty × V) :=
  match cx.T xt with
  | some (.int k) => match op with
    | .shl => shEv st .shl k x y
    | .shr => shEv st .shr k x y
    | op => intEv st op k x y
  | some .str => strEv st op x y
  | some u => cmpEv st (cx.E xt) op u x y
  | none => none

noncomputable def unEv (cx : Cx) (st : St) (op : UnOp) (xt : Nat) (x : Operand) : Option (Ty × V) :=
  match op, cx.T xt with
  | .not, some .bool => match opd st .bool x with
    | some (.b r) => some (.bool, .b (!r))
    | _ => none
  | .neg, some (.int k) => match opd st (.int k) x with
    | some (.i a) => some (.int k, .i (wrapF k (0 - a)))
    | _ => none
  | .xor, some (.int k) => match opd st (.int k) x with
    | some (.i a) => some (.int k, .i (wrapF k (Int.ofNat (Nat.xor (modN k - 1) (toN k a)))))
    | _ => none
  | _, _ => none

noncomputable def byteV (b : UInt8) : V := .i b.toNat

noncomputable def vByte : V → Option UInt8
  | .i n => if 0 ≤ n ∧ n < 256 then some (UInt8.ofNat n.toNat) else none
  | _ => none

noncomputable def vBytes : List V → Option (List UInt8)
  | [] => some []
  | v :: vs => match vByte v, vBytes vs with
    | some b, some bs => some (b :: bs)
    | _, _ => none

/-- the elements of a slice -/
noncomputable def elems (os : List Ob) : V → Option (List V)
  | .snil => some []
  | .sl _ vs => some vs
  | .rw o off len => match os[o]? with
    | some (.row _ vs _) => if off + len ≤ vs.length then some ((vs.drop off).take len) else none
    | _ => none
  | _ => none

noncomputable def convEv (cx : Cx) (st : St) (src dst : Nat) (x : Operand) : Option (Ty × V) :=
  match cx.T src, cx.T dst with
  | some (.int k), some (.int l) => match opd st (.int k) x with
    | some (.i n) => some (.int l, .i (wrapF l n))
    | _ => none
  | some .str, some .str => match opd st .str x with
    | some v => some (.str, v)
    | none => none
  | some (.sl e), some .str => match cx.T e, opd st (.sl e) x with
    | some (.int .u8), some v => match elems st.os v with
      | some vs => match vBytes vs with
        | some l => some (.str, .s l)
        | none => none
      | none => none
    | _, _ => none
  | _, _ => none

/-- a slice of bytes out of a text: it is owned -/
noncomputable def convOwn (cx : Cx) (st : St) (src dst : Nat) (x : Operand) : Option (Ty × V) :=
  match cx.T src, cx.T dst with
  | some .str, some (.sl e) => match cx.T e, opd st .str x with
    | some (.int .u8), some (.s l) => some (.sl e, .sl false (l.map byteV))
    | _, _ => none
  | _, _ => none

noncomputable def faddrEv (cx : Cx) (st : St) (s : Nat) (x : Operand) (f : Nat) : Option V :=
  match cx.T s, opd st .ptr x with
  | some (.st fs), some (.ptr o p) => match lookTy st.os o p, fieldOff fs f with
    | some u, some _ => if u.beq (.st fs) then some (.ptr o (p ++ [f])) else none
    | _, _ => none
  | some (.st fs), some (.cp u v) => match fieldOff fs f, v.get [f] with
    | some (_, t), some y => if u.beq (.st fs) then some (.cp t y) else none
    | _, _ => none
  | _, _ => none

noncomputable def fieldEv (cx : Cx) (st : St) (s : Nat) (x : Operand) (f : Nat) : Option (Ty × V) :=
  match cx.T s with
  | some (.st fs) => match opd st (.st fs) x with
    | some (.rc vs) => match fieldOff fs f, vs[f]? with
      | some (_, t), some v => some (t, v)
      | _, _ => none
    | _ => none
  | _ => none

noncomputable def iaddrEv (cx : Cx) (st : St) (t : Nat) (x ix : Operand) : Option V :=
  match cx.T t, opi st ix with
  | some (.sl e), some (_, i) => match cx.T e, opd st (.sl e) x with
    | some u, some (.sl _ vs) => if 0 ≤ i then match vs[i.toNat]? with
        | some v => some (.cp u v)
        | none => none
      else none
    | some _, some (.rw o off len) => if 0 ≤ i ∧ i < (len : Int) then some (.ptr o [off + i.toNat]) else none
    | _, _ => none
  | some (.ar n e), some (_, i) => if 0 ≤ i ∧ i < (n : Int) then match opd st .ptr x with
      | some (.ptr o p) => match lookTy st.os o p with
        | some u => if u.beq (.ar n e) then some (.ptr o (p ++ [i.toNat])) else none
        | none => none
      | some (.cp u v) => if u.beq (.ar n e) then match v.get [i.toNat] with
          | some y => some (.cp e y)
          | none => none
        else none
      | _ => none
    else none
  | _, _ => none

noncomputable def indexEv (cx : Cx) (st : St) (t : Nat) (x ix : Operand) : Option (Ty × V) :=
  match cx.T t, opi st ix with
  | some (.ar n e), some (_, i) => if 0 ≤ i ∧ i < (n : Int) then match opd st (.ar n e) x with
      | some (.rc vs) => match vs[i.toNat]? with
        | some v => some (e, v)
        | none => none
      | _ => none
    else none
  | some .str, some (_, i) => if 0 ≤ i then match opd st .str x with
      | some (.s l) => match l[i.toNat]? with
        | some b => some (.int .u8, byteV b)
        | none => none
      | _ => none
    else none
  | _, _ => none

/-- bounds of a cut: low, high -/
noncomputable def bounds (st : St) (len : Nat) (lo hi : Option Operand) : Option (Nat × Nat) :=
  match (match hi with
    | none => some (len : Int)
    | some h => (opi st h).map (·.2)), (match lo with
    | none => some (0 : Int)
    | some l => (opi st l).map (·.2)) with
  | some h, some l => if 0 ≤ l ∧ l ≤ h ∧ h ≤ (len : Int) then some (l.toNat, h.toNat) else none
  | _, _ => none

noncomputable def sliceEv (cx : Cx) (st : St) (t : Nat) (x : Operand) (lo hi : Option Operand) : Option (Ty × V) :=
  match cx.T t with
  | some .str => match opd st .str x with
    | some (.s s) => match bounds st s.length lo hi with
      | some (l, h) => some (.str, .s ((s.take h).drop l))
      | none => none
    | _ => none
  | some (.sl e) => match opd st (.sl e) x with
    | some (.sl _ vs) => match bounds st vs.length lo hi with
      | some (l, h) => some (.sl e, .sl false ((vs.take h).drop l))
      | none => none
    | some .snil => match bounds st 0 lo hi, cx.T e with
      | some _, some _ => some (.sl e, .snil)
      | _, _ => none
    | some (.rw o off len) => match bounds st len lo hi with
      | some (l, h) => some (.sl e, .rw o (off + l) (h - l))
      | none => none
    | _ => none
  | _ => none

noncomputable def opds (st : St) : List Ty → List Operand → Option (List V)
  | [], [] => some []
  | t :: ts, x :: xs => match opd st t x, opds st ts xs with
    | some v, some vs => some (v :: vs)
    | _, _ => none
  | _, _ => none

noncomputable def tys (T : TR) : List Nat → Option (List Ty)
  | [] => some []
  | t :: ts => match T t, tys T ts with
    | some u, some us => some (u :: us)
    | _, _ => none

noncomputable def lenEv (cx : Cx) (st : St) (t : Nat) (x : Operand) : Option V :=
  match cx.T t with
  | some .str => match opd st .str x with
    | some (.s l) => some (.i l.length)
    | _ => none
  | some (.ar n _) => some (.i n)
  | some (.sl e) => match opd st (.sl e) x with
    | some .snil => some (.i 0)
    | some (.sl _ vs) => some (.i vs.length)
    | some (.rw _ _ len) => some (.i len)
    | _ => none
  | _ => none

noncomputable def minmax (isMax : Bool) (st : St) (k : IntKind) : Int → List Operand → Option Int
  | a, [] => some a
  | a, x :: xs => match opd st (.int k) x with
    | some (.i b) => minmax isMax st k (if isMax then (if b > a then b else a) else (if b < a then b else a)) xs
    | _ => none

/-- the right to append behind a row's end is taken -/
noncomputable def takeOwn (st : St) (ty : Ty) (a : Operand) : Option St :=
  match a with
  | .tmp t => match st.env.get t with
    | some (.one _ _ true) => some (st.withEnv (st.env.disown t))
    | some (.one _ _ false) => match getOrg st.orgs t with
      | .slot s => match st.env.get s with
        | some (.one u _ true) => if u.beq ty then some (st.withEnv (st.env.disown s)) else none
        | _ => none
      | .place o p => if ownsPlace st.os o p then match lookTy st.os o p with
          | some u => if u.beq ty then some (st.withOs (unown st.os o p)) else none
          | none => none
        else none
      | .no => none
    | _ => none
  | _ => none

noncomputable def ofSb (cx : Cx) : SB → Option V
  | .kn b => some (byteV b)
  | .nu e => match cx.Z e with
    | true => some (.ix e)
    | false => none
  | .gr _ => none

noncomputable def ofSbs (cx : Cx) : List SB → Option (List V)
  | [] => some []
  | b :: l => match ofSb cx b with
    | some v => match ofSbs cx l with
      | some r => some (v :: r)
      | none => none
    | none => none

/-- what is appended -/
noncomputable def srcEv (cx : Cx) (st : St) (e u : Nat) (x : Operand) : Option (List V) :=
  match cx.T u with
  | some (.sl e') => if e' = e then match opd st (.sl e) x with
      | some v => elems st.os v
      | none => none
    else none
  | some .str => match cx.T e, opd st .str x with
    | some (.int .u8), some (.s l) => some (l.map byteV)
    | some (.int .u8), some (.tx l) => ofSbs cx l
    | _, _ => none
  | _ => none

noncomputable def thaws (st : St) : Option Nat → Bool
  | some d => st.thaw.contains d
  | none => false

/-- a new row: owned, or an object of its own -/
noncomputable def newRowEv (st : St) (d : Option Nat) (e : Nat) (u : Ty) (vs : List V) : Option St :=
  match thaws st d with
  | true => (st.withOs (st.os ++ [Ob.row u vs []])).set d (.one (.sl e) (.rw st.os.length 0 vs.length) false)
  | false => st.set d (.one (.sl e) (.sl false vs) true)

noncomputable def appEv (cx : Cx) (st : St) (d : Option Nat) (t u : Nat) (a x : Operand) : Option St :=
  match cx.T t with
  | some (.sl e) => match cx.T e with
    | some ue => match opd st (.sl e) a, srcEv cx st e u x with
      | some .snil, some ys => if ys.isEmpty then st.set d (.one (.sl e) .snil true)
        else if ys.length * cx.B e ≤ 140737488355328 then newRowEv st d e ue ys else none
      | some (.sl true vs), some ys => if ys.isEmpty then st.set d (.one (.sl e) (.sl true vs) false)
        else if (vs.length + ys.length) * cx.B e ≤ 140737488355328 then newRowEv st d e ue (vs ++ ys) else none
      | some (.sl false vs), some ys => if (vs.length + ys.length) * cx.B e ≤ 140737488355328 then match takeOwn st (.sl e) a with
          | some st' => st'.set d (.one (.sl e) (.sl false (vs ++ ys)) true)
          | none => none
        else none
      | _, _ => none
    | none => none
  | _ => none

noncomputable def Rs.plain : Rs → Bool
  | .one _ v _ => v.plain
  | .tup l => V.plains (l.map (·.2))

noncomputable def idxB (c : UInt8) : List UInt8 → Nat → Int
  | [], _ => -1
  | b :: l, k => match Nat.beq b.toNat c.toNat with
    | true => (k : Int)
    | false => idxB c l (k + 1)

/-- internal/bytealg.IndexByteString -/
noncomputable def idxByteEv : List V → Option (Ty × V)
  | [.s l, .i c] => match vByte (.i c) with
    | some b => some (.int .i64, .i (idxB b l 0))
    | none => none
  | _ => none

noncomputable def forgetTup : List (Ty × V) → List (Ty × V)
  | [] => []
  | (ty, v) :: l => (ty, v.forget) :: forgetTup l

noncomputable def Rs.forget : Rs → Rs
  | .one ty v own => .one ty v.forget own
  | .tup l => .tup (forgetTup l)

/-- a row of an object, by value: nobody writes it any more -/
noncomputable def freezeRow (os : List Ob) (o off len : Nat) : Option V :=
  match os[o]? with
  | some (.row _ vs _) => if off + len ≤ vs.length && V.plains vs then some (.sl false ((vs.drop off).take len)) else none
  | _ => none

mutual
noncomputable def V.freeze (os : List Ob) : V → Option V
  | .rw o off len => freezeRow os o off len
  | .rc vs => match V.freezes os vs with
    | some l => some (.rc l)
    | none => none
  | v => if v.plain then some v else none
noncomputable def V.freezes (os : List Ob) : List V → Option (List V)
  | [] => some []
  | v :: vs => match V.freeze os v, V.freezes os vs with
    | some x, some l => some (x :: l)
    | _, _ => none
end

noncomputable def freezeTup (os : List Ob) : List (Ty × V) → Option (List (Ty × V))
  | [] => some []
  | (ty, v) :: l => match v.freeze os, freezeTup os l with
    | some x, some r => some ((ty, x) :: r)
    | _, _ => none

noncomputable def Rs.freeze (os : List Ob) : Rs → Option Rs
  | .one ty v own => match v.freeze os with
    | some x => some (.one ty x own)
    | none => none
  | .tup l => match freezeTup os l with
    | some r => some (.tup r)
    | none => none

noncomputable def callRs (st : St) (d : Option Nat) (r : Rs) : Option St :=
  match r with
  | .one ty v own => st.set d (.one ty v own)
  | .tup l => st.set d (.tup l)

noncomputable def callEv (call : Nat → List V → List Ob → Option (Rs × List Ob)) (cx : Cx) (st : St) (d : Option Nat) (f : Nat) (caps : List V) (args : List Operand) : Option St :=
  match cx.F f with
  | none => none
  | some i => match tys cx.T i.fn.params.toList with
    | none => none
    | some ts => match opds st ts args with
      | none => none
      | some vs =>
        match cx.Y f with
        | some h => match h vs with
          | some (ty, v) => if caps.isEmpty && i.fn.body.isNone then st.set d (.one ty v false) else none
          | none => none
        | none =>
        if i.pure then
          if V.plains (vs ++ caps) then match call f (V.forgets (vs ++ caps)) [] with
            | some (r, os') => match r.freeze os' with
              | some r' => callRs st d r'.forget
              | none => none
            | none => none
          else none
        else match call f (V.forgets (vs ++ caps)) st.os with
          | some (r, os) => callRs (st.newOs os) d r.forget
          | none => none

noncomputable def tupOf (st : St) : Operand → Option (List (Ty × V))
  | .tmp t => match st.env.get t with
    | some (.tup l) => some l
    | _ => none
  | _ => none

/-- a cut with a bound: it is full where it ends at the bound -/
noncomputable def slice3Ev (cx : Cx) (st : St) (t : Nat) (x : Operand) (lo hi : Option Operand) (mx : Operand) : Option (Ty × V) :=
  match cx.T t with
  | some (.sl e) => match cx.T e, opi st mx with
    | some _, some (_, m) => match hi with
     | none => none
     | some _ => match opd st (.sl e) x with
      | some (.sl _ vs) => match bounds st vs.length lo hi with
        | some (l, h) => if (h : Int) ≤ m ∧ m ≤ vs.length then some (.sl e, .sl (decide ((h : Int) = m)) ((vs.take h).drop l)) else none
        | none => none
      | some .snil => match bounds st 0 lo hi with
        | some _ => if m = 0 then some (.sl e, .snil) else none
        | none => none
      | _ => none
    | _, _ => none
  | _ => none

/-- keys that are told apart by their letters -/
noncomputable def keyEq : Ty → V → V → Option Bool
  | .int _, .i a, .i b => some (a == b)
  | .str, .s a, .s b => some (a == b)
  | .bool, .b a, .b b => some (a == b)
  | _, _, _ => none

noncomputable def findV (k : Ty) (x : V) : List (V × V) → Nat → Option (Option (Nat × V))
  | [], _ => some none
  | (y, v) :: r, i => match keyEq k x y with
    | some true => some (some (i, v))
    | some false => findV k x r (i + 1)
    | none => none

noncomputable def isKey : Ty → Bool
  | .int _ => true
  | .str => true
  | .bool => true
  | _ => false

/-- what a map answers -/
noncomputable def lookupEv (cx : Cx) (st : St) (t : Nat) (m x : Operand) : Option (Ty × V × Bool) :=
  match cx.T t with
  | some (.mp k e) => match cx.T k, cx.T e with
    | some kt, some et => if isKey kt then match opd st (.mp k e) m, opd st kt x with
      | some .mnil, some _ => some (et, et.zeroV, false)
      | some (.mp ob), some key => match st.os[ob]? with
        | some (.mapo kt' et' es) => if kt'.beq kt && et'.beq et then match findV kt key es 0 with
            | some (some (_, v)) => some (et, v, true)
            | some none => some (et, et.zeroV, false)
            | none => none
          else none
        | _ => none
      | _, _ => none
      else none
    | _, _ => none
  | _ => none

/-- a map's entry is written -/
noncomputable def updEv (cx : Cx) (st : St) (t : Nat) (m x y : Operand) : Option (List Ob) :=
  match cx.T t with
  | some (.mp k e) => match cx.T k, cx.T e with
    | some kt, some et => if isKey kt then match opd st (.mp k e) m, opd st kt x, opd st et y with
      | some (.mp ob), some key, some v => match st.os[ob]? with
        | some (.mapo kt' et' es) => if kt'.beq kt && et'.beq et then match findV kt key es 0 with
            | some (some (i, _)) => some (st.os.set ob (.mapo kt et (es.set i (key, v))))
            | some none => some (st.os.set ob (.mapo kt et (es ++ [(key, v)])))
            | none => none
          else none
        | _ => none
      | _, _, _ => none
      else none
    | _, _ => none
  | _ => none

/-! Unknown numbers and texts. -/

noncomputable def vI : V → Option SI
  | .i n => some (.l n)
  | .ix e => some e
  | _ => none

noncomputable def knowns : List UInt8 → List SB
  | [] => []
  | b :: l => .kn b :: knowns l

noncomputable def vS : V → Option (List SB)
  | .s l => some (knowns l)
  | .tx l => some l
  | _ => none

noncomputable def opI (st : St) (k : IntKind) (x : Operand) : Option SI :=
  match opd st (.int k) x with
  | some v => vI v
  | none => none

noncomputable def opS (st : St) (x : Operand) : Option (List SB) :=
  match opd st .str x with
  | some v => vS v
  | none => none

noncomputable def mkI (cx : Cx) (e : SI) : V :=
  match cx.R e with
  | some (.l n) => .i n
  | some e' => .ix e'
  | none => .ix e

noncomputable def allKn : List SB → Option (List UInt8)
  | [] => some []
  | .kn b :: l => match allKn l with
    | some r => some (b :: r)
    | none => none
  | .nu _ :: _ => none
  | .gr _ :: _ => none

noncomputable def mkS (l : List SB) : V :=
  match allKn l with
  | some r => .s r
  | none => .tx l

noncomputable def sameCmp : BinOp → Option Bool
  | .eql => some true | .leq => some true | .geq => some true
  | .neq => some false | .lss => some false | .gtr => some false
  | _ => none

noncomputable def isCmp : BinOp → Bool
  | .eql => true | .neq => true | .lss => true | .leq => true | .gtr => true | .geq => true
  | _ => false

noncomputable def cmpSym (cx : Cx) (op : BinOp) (a b : SI) : Option Bool :=
  match isCmp op with
  | true => match cx.C op a b with
    | some r => some r
    | none => match SI.beq a b with
      | true => sameCmp op
      | false => none
  | false => none

noncomputable def symInt (cx : Cx) (op : BinOp) (k : IntKind) (a b : SI) : Option (Ty × V) :=
  match op with
  | .add => some (.int k, mkI cx (.o .add k a b))
  | .sub => some (.int k, mkI cx (.o .sub k a b))
  | .mul => some (.int k, mkI cx (.o .mul k a b))
  | .and => some (.int k, mkI cx (.o .and k a b))
  | .or => some (.int k, mkI cx (.o .or k a b))
  | .xor => some (.int k, mkI cx (.o .xor k a b))
  | .andNot => some (.int k, mkI cx (.o .andNot k a b))
  | .quo => match b with
    | .l n => if n = 0 then none else some (.int k, mkI cx (.o .quo k a (.l n)))
    | _ => none
  | .rem => match b with
    | .l n => if n = 0 then none else some (.int k, mkI cx (.o .rem k a (.l n)))
    | _ => none
  | .shl => none
  | .shr => none
  | op => match cmpSym cx op a b with
    | some r => some (.bool, .b r)
    | none => none

noncomputable def symSh (cx : Cx) (op : BinOp) (k : IntKind) (a : SI) (n : Int) : Option (Ty × V) :=
  if n < 0 then none else some (.int k, mkI cx (.o op k a (.l n)))

/-- how long at most -/
noncomputable def sbW : List SB → Nat
  | [] => 0
  | .kn _ :: l => sbW l + 1
  | .nu _ :: l => sbW l + 1
  | .gr _ :: l => sbW l + 1099511627776

noncomputable def eqSym (cx : Cx) (a b : List SB) : Option Bool :=
  match cx.Q a b with
  | some r => some r
  | none => match sbBeq a b with
    | true => some true
    | false => none

noncomputable def symStr (cx : Cx) (op : BinOp) (a b : List SB) : Option (Ty × V) :=
  match op with
  | .add => match Nat.ble (sbW a + sbW b) 4611686018427387904 with
    | true => some (.str, mkS (a ++ b))
    | false => none
  | .eql => match eqSym cx a b with
    | some r => some (.bool, .b r)
    | none => none
  | .neq => match eqSym cx a b with
    | some r => some (.bool, .b (!r))
    | none => none
  | _ => none

noncomputable def symBin (cx : Cx) (st : St) (op : BinOp) (xt : Nat) (x y : Operand) : Option (Ty × V) :=
  match cx.T xt with
  | some (.int k) => match op with
    | .shl => match opI st k x, opi st y with
      | some a, some (_, n) => symSh cx .shl k a n
      | _, _ => none
    | .shr => match opI st k x, opi st y with
      | some a, some (_, n) => symSh cx .shr k a n
      | _, _ => none
    | op => match opI st k x, opI st k y with
      | some a, some b => symInt cx op k a b
      | _, _ => none
  | some .str => match opS st x, opS st y with
    | some a, some b => symStr cx op a b
    | _, _ => none
  | _ => none

noncomputable def symUn (cx : Cx) (st : St) (op : UnOp) (xt : Nat) (x : Operand) : Option (Ty × V) :=
  match op, cx.T xt with
  | .neg, some (.int k) => match opI st k x with
    | some a => some (.int k, mkI cx (.o .sub k (.l 0) a))
    | none => none
  | _, _ => none

noncomputable def sbOf (cx : Cx) : V → Option SB
  | .i n => match vByte (.i n) with
    | some b => some (.kn b)
    | none => none
  | .ix e => match cx.Z e with
    | true => some (.nu e)
    | false => none
  | _ => none

noncomputable def sbsOf (cx : Cx) : List V → Option (List SB)
  | [] => some []
  | v :: l => match sbOf cx v with
    | some b => match sbsOf cx l with
      | some r => some (b :: r)
      | none => none
    | none => none

noncomputable def symConv (cx : Cx) (st : St) (src dst : Nat) (x : Operand) : Option (Ty × V) :=
  match cx.T src, cx.T dst with
  | some (.int k), some (.int l) => match opI st k x with
    | some a => some (.int l, mkI cx (.c l a))
    | none => none
  | some (.sl e), some .str => match cx.T e, opd st (.sl e) x with
    | some (.int .u8), some v => match elems st.os v with
      | some vs => match sbsOf cx vs with
        | some l => some (.str, mkS l)
        | none => none
      | none => none
    | _, _ => none
  | _, _ => none

noncomputable def symConvOwn (cx : Cx) (st : St) (src dst : Nat) (x : Operand) : Option (Ty × V) :=
  match cx.T src, cx.T dst with
  | some .str, some (.sl e) => match cx.T e, opd st .str x with
    | some (.int .u8), some (.tx l) => match ofSbs cx l with
      | some vs => some (.sl e, .sl false vs)
      | none => none
    | _, _ => none
  | _, _ => none

noncomputable def symIndex (cx : Cx) (st : St) (t : Nat) (x ix : Operand) : Option (Ty × V) :=
  match cx.T t, opi st ix with
  | some .str, some (_, i) => if 0 ≤ i then match opd st .str x with
      | some (.tx l) => match ofSbs cx l with
        | some vs => match vs[i.toNat]? with
          | some v => some (.int .u8, v)
          | none => none
        | none => none
      | _ => none
    else none
  | _, _ => none

noncomputable def opiS (st : St) : Operand → Option (IntKind × SI)
  | .tmp t => match st.env.get t with
    | some (.one (.int k) v _) => match vI v with
      | some e => some (k, e)
      | none => none
    | _ => none
  | .const (.int k n) => some (k, .l n)
  | _ => none

noncomputable def siV : SI → V
  | .l n => .i n
  | e => .ix e

/-- a letter at a place that is not known -/
noncomputable def symIndex2 (cx : Cx) (st : St) (t : Nat) (x ix : Operand) : Option (Ty × V) :=
  match cx.T t, opiS st ix with
  | some .str, some (_, e) => match opS st x with
    | some l => match cx.I l e with
      | some e' => some (.int .u8, siV e')
      | none => none
    | none => none
  | _, _ => none

noncomputable def symLen (cx : Cx) (st : St) (t : Nat) (x : Operand) : Option V :=
  match cx.T t with
  | some .str => match opd st .str x with
    | some (.tx l) => match cx.N l with
      | some e => some (match e with
        | .l n => .i n
        | e => .ix e)
      | none => match ofSbs cx l with
        | some vs => some (.i vs.length)
        | none => none
    | _ => none
  | _ => none

noncomputable def orElse {α : Type} : Option α → Option α → Option α
  | some r, _ => some r
  | none, b => b

noncomputable def askK (h : Option (List V → List Ob → Option (Rs × List Ob))) (vs : List V) (os : List Ob) : Option (Rs × List Ob) :=
  match h with
  | some h => h vs os
  | none => none

/-! One operation each: small texts, so that a run by the kernel copies little. -/

noncomputable def put1 (st : St) (d : Option Nat) : Option (Ty × V) → Option St
  | some (ty, v) => st.set d (.one ty v false)
  | none => none

noncomputable def putP (st : St) (d : Option Nat) : Option V → Option St
  | some v => st.set d (.one .ptr v false)
  | none => none

noncomputable def moveEv (st : St) (d : Option Nat) (x : Operand) : Option Ty → Option St
  | some ty => match opd st ty x with
    | some v => match isSl ty with
      | true => st.setO d (.one ty v false) (orgOf x)
      | false => st.set d (.one ty v false)
    | none => none
  | none => match tupOf st x with
    | some l => st.set d (.tup l)
    | none => none

noncomputable def assignEv (st : St) (d : Option Nat) (x : Operand) : Option Ty → Option St
  | some ty => match opd st ty x with
    | some v => match owns st x with
      | true => (st.withEnv (disown st.env x)).set d (.one ty v true)
      | false => st.set d (.one ty v false)
    | none => none
  | none => none

noncomputable def pickEv (st : St) (d : Option Nat) (c a b : Operand) : Option Ty → Option St
  | some ty => match opd st .bool c with
    | some (.b r) => match (match r with | true => opd st ty a | false => opd st ty b) with
      | some v => st.set d (.one ty v false)
      | none => none
    | _ => none
  | none => none

noncomputable def allocEv (st : St) (d : Option Nat) : Option Ty → Option St
  | some ty => (st.withOs (st.os ++ [Ob.row ty [ty.zeroV] []])).set d (.one .ptr (.ptr st.os.length [0]) false)
  | none => none

noncomputable def boxEv (st : St) (d : Option Nat) (x : Operand) : Option Ty → Option St
  | some ty => match opd st ty x with
    | some v => ((st.withEnv (disown st.env x)).withOs (st.os ++ [Ob.row ty [v] (match owns st x with | true => [[0]] | false => [])])).set d (.one .ptr (.ptr st.os.length [0]) false)
    | none => none
  | none => none

noncomputable def buildEv (st : St) (d : Option Nat) (ps : List (Nat × Operand)) : Option Ty → Option St
  | some (.st fs) => match fill st (fun i => (fieldOff fs i).map (·.2)) (Ty.zeroVs fs) ps with
    | some vs => st.set d (.one (.st fs) (.rc vs) false)
    | none => none
  | some (.ar n e) => match fill st (fun _ => some e) (List.replicate n e.zeroV) ps with
    | some vs => st.set d (.one (.ar n e) (.rc vs) false)
    | none => none
  | _ => none

noncomputable def buildSlEv (cx : Cx) (st : St) (d : Option Nat) (len : Nat) (ps : List (Nat × Operand)) : Option Ty → Option St
  | some (.sl e) => match cx.T e with
    | some u => match Nat.ble (len * u.size) 16777216 with
      | true => match fill st (fun _ => some u) (List.replicate len u.zeroV) ps with
        | some vs => st.set d (.one (.sl e) (.sl true vs) true)
        | none => none
      | false => none
    | none => none
  | _ => none

noncomputable def loadEv (st : St) (d : Option Nat) (a : Operand) : Option Ty → Option St
  | some ty => match opd st .ptr a with
    | some (.ptr ob p) => match look st.os ob p with
      | some (u, v) => match u.beq ty with
        | true => match isSl ty with
          | true => st.setO d (.one ty v false) (.place ob p)
          | false => st.set d (.one ty v false)
        | false => none
      | none => none
    | some (.cp u v) => match u.beq ty with
      | true => st.set d (.one ty v false)
      | false => none
    | _ => none
  | none => none

noncomputable def storeEv (st : St) (d : Option Nat) (a x : Operand) : Option Ty → Option St
  | some ty => match opd st .ptr a with
    | some (.ptr ob p) => match opd st ty x with
      | some v => match stash st.os ob p ty v (owns st x) with
        | some os => ((st.withEnv (disown st.env x)).newOs os).set d .un
        | none => none
      | none => none
    | _ => none
  | none => none

noncomputable def nilEv (st : St) (d : Option Nat) (x : Operand) : Option St :=
  match opd st .ptr x with
  | some (.ptr ob p) => st.set d (.one .ptr (.ptr ob p) false)
  | some (.cp u v) => st.set d (.one .ptr (.cp u v) false)
  | _ => none

noncomputable def convAny (cx : Cx) (st : St) (d : Option Nat) (s t : Nat) (x : Operand) : Option St :=
  match convEv cx st s t x with
  | some (ty, v) => st.set d (.one ty v false)
  | none => match convOwn cx st s t x with
    | some (ty, v) => st.set d (.one ty v true)
    | none => match symConv cx st s t x with
      | some (ty, v) => st.set d (.one ty v false)
      | none => match symConvOwn cx st s t x with
        | some (ty, v) => st.set d (.one ty v true)
        | none => none

noncomputable def fnEv (st : St) (d : Option Nat) (f : Nat) (first caps : Array Operand) : Option St :=
  match first.isEmpty with
  | true => match opds st (List.replicate caps.size .ptr) caps.toList with
    | some vs => st.set d (.one .fn (.fn f vs) false)
    | none => none
  | false => none

noncomputable def mkMapEv (cx : Cx) (st : St) (d : Option Nat) : Option Ty → Option St
  | some (.mp k e) => match cx.T k, cx.T e with
    | some kt, some et => (st.withOs (st.os ++ [Ob.mapo kt et []])).set d (.one (.mp k e) (.mp st.os.length) false)
    | _, _ => none
  | _ => none

noncomputable def lookupAny (st : St) (d : Option Nat) (ok : Bool) : Option (Ty × V × Bool) → Option St
  | some (ty, v, is) => match ok with
    | true => st.set d (.tup [(ty, v), (.bool, .b is)])
    | false => st.set d (.one ty v false)
  | none => none

noncomputable def updAny (st : St) (d : Option Nat) : Option (List Ob) → Option St
  | some os => (st.newOs os).set d .un
  | none => none

noncomputable def extractEv (st : St) (d : Option Nat) (ix : Nat) : Option (List (Ty × V)) → Option St
  | some l => put1 st d l[ix]?
  | none => none

noncomputable def lenAny (cx : Cx) (st : St) (d : Option Nat) : List Nat → List Operand → Option St
  | [t], [x] => match orElse (lenEv cx st t x) (symLen cx st t x) with
    | some v => st.set d (.one (.int .i64) v false)
    | none => none
  | _, _ => none

noncomputable def appAny (cx : Cx) (st : St) (d : Option Nat) : List Nat → List Operand → Option St
  | [t, u], [a, x] => appEv cx st d t u a x
  | _, _ => none

noncomputable def minmaxAny (isMax : Bool) (st : St) (d : Option Nat) : Option Ty → List Operand → Option St
  | some (.int k), x :: xs => match opd st (.int k) x with
    | some (.i a) => match minmax isMax st k a xs with
      | some r => st.set d (.one (.int k) (.i r) false)
      | none => none
    | _ => none
  | _, _ => none

noncomputable def callAny (cx : Cx) (call : Nat → List V → List Ob → Option (Rs × List Ob)) (o : Oper) (st : St) (c : Call) : Option St :=
  match c.callee with
  | .value (.func f) => callEv call cx st o.dst f [] c.args.toList
  | .value (.tmp t) => match opd st .fn (.tmp t) with
    | some (.fn f caps) => callEv call cx st o.dst f caps c.args.toList
    | _ => none
  | .builtin .len => lenAny cx st o.dst c.argTypes.toList c.args.toList
  | .builtin .append => appAny cx st o.dst c.argTypes.toList c.args.toList
  | .builtin .max => minmaxAny true st o.dst (cx.T o.type) c.args.toList
  | .builtin .min => minmaxAny false st o.dst (cx.T o.type) c.args.toList
  | _ => none

/-- one operation -/
noncomputable def evOp (cx : Cx) (call : Nat → List V → List Ob → Option (Rs × List Ob)) (o : Oper) (st : St) : Option St :=
  match o.op with
  | .move x => moveEv st o.dst x (cx.T o.type)
  | .assign x => assignEv st o.dst x (cx.T o.type)
  | .pick c a b => pickEv st o.dst c a b (cx.T o.type)
  | .alloc e => allocEv st o.dst (cx.T e)
  | .box e x => boxEv st o.dst x (cx.T e)
  | .build t ps => buildEv st o.dst ps.toList (cx.T t)
  | .buildSlice t len ps => buildSlEv cx st o.dst len ps.toList (cx.T t)
  | .load t a => loadEv st o.dst a (cx.T t)
  | .store t a x => storeEv st o.dst a x (cx.T t)
  | .nilCheck x => nilEv st o.dst x
  | .binOp op xt x y _ => put1 st o.dst (orElse (binEv cx st op xt x y) (symBin cx st op xt x y))
  | .unOp op xt x => put1 st o.dst (orElse (unEv cx st op xt x) (symUn cx st op xt x))
  | .convert s t x => convAny cx st o.dst s t x
  | .makeFunc (.func f) first caps => fnEv st o.dst f first caps
  | .slice t x lo hi none => put1 st o.dst (sliceEv cx st t x lo hi)
  | .slice t x lo hi (some mx) => put1 st o.dst (slice3Ev cx st t x lo hi mx)
  | .makeMap t none => mkMapEv cx st o.dst (cx.T t)
  | .lookup t m x ok => lookupAny st o.dst ok (lookupEv cx st t m x)
  | .mapUpdate t m x y => updAny st o.dst (updEv cx st t m x y)
  | .fieldAddr s x f => putP st o.dst (faddrEv cx st s x f)
  | .field s x f => put1 st o.dst (fieldEv cx st s x f)
  | .indexAddr t x ix => putP st o.dst (iaddrEv cx st t x ix)
  | .index t x ix => put1 st o.dst (orElse (indexEv cx st t x ix) (orElse (symIndex cx st t x ix) (symIndex2 cx st t x ix)))
  | .extract x ix => extractEv st o.dst ix (tupOf st x)
  | .call c => callAny cx call o st c
  | _ => none

/-- what an operation's guard says -/
noncomputable def guardEv (ops : Array Oper) (st : St) : Option (Nat × Bool) → Option Bool
  | none => some true
  | some (j, want) => match (ops[j]?).bind (·.dst) with
    | none => none
    | some d => match st.env.get d with
      | some (.one .bool (.b r) _) => some (match r, want with
        | true, true => true
        | false, false => true
        | _, _ => false)
      | some .un => some false
      | _ => none

/-- an operation, under its guard -/
noncomputable def stepEv (cx : Cx) (call : Nat → List V → List Ob → Option (Rs × List Ob)) (ops : Array Oper) (o : Oper) (st : St) : Option St :=
  match guardEv ops st o.guard with
  | some true => evOp cx call o st
  | some false => st.set o.dst .un
  | none => none

/-- operations, one behind the other -/
noncomputable def evOps (cx : Cx) (call : Nat → List V → List Ob → Option (Rs × List Ob)) (ops : Array Oper) : List Oper → St → Option St
  | [], st => some st
  | o :: r, st => match stepEv cx call ops o st with
    | some st' => evOps cx call ops r st'
    | none => none

/-- the place that a load reads, a store writes -/
noncomputable def accOf (st : St) (o : Oper) : Option (Nat × List Nat) :=
  match o.op with
  | .load _ a => match opd st .ptr a with
    | some (.ptr ob p) => some (ob, p)
    | _ => none
  | .store _ a _ => match opd st .ptr a with
    | some (.ptr ob p) => some (ob, p)
    | _ => none
  | _ => none

noncomputable def noted (k : Nat) : Option (Nat × List Nat) → List (Nat × Nat × List Nat) → List (Nat × Nat × List Nat)
  | some x, l => (k, x) :: l
  | none, l => l

/-- .. and which places were touched -/
noncomputable def evT (cx : Cx) (call : Nat → List V → List Ob → Option (Rs × List Ob)) (ops : Array Oper) : List (Nat × Oper) → St → Option (List (Nat × Nat × List Nat) × St)
  | [], st => some ([], st)
  | (k, o) :: r, st => match stepEv cx call ops o st with
    | some st' => match evT cx call ops r st' with
      | some (l, s) => some (noted k (accOf st o) l, s)
      | none => none
    | none => none

noncomputable def pathApart : List Nat → List Nat → Bool
  | i :: p, j :: q => !(Nat.beq i j) || pathApart p q
  | _, _ => false

noncomputable def placeApart (x y : Nat × List Nat) : Bool := !(Nat.beq x.1 y.1) || pathApart x.2 y.2

noncomputable def hasPair (i j : Nat) : List (Nat × Nat) → Bool
  | [] => false
  | x :: r => (Nat.beq x.1 i && Nat.beq x.2 j) || hasPair i j r

noncomputable def dynCheck (pairs : List (Nat × Nat)) (l : List (Nat × Nat × List Nat)) : Bool :=
  l.all fun a => l.all fun b => !(hasPair a.1 b.1 pairs) || placeApart a.2 b.2

noncomputable def dynOf (id : Nat) : List (Nat × List (Nat × Nat)) → List (Nat × Nat)
  | [] => []
  | x :: r => match Nat.beq x.1 id with
    | true => x.2
    | false => dynOf id r

noncomputable def number : Nat → List Oper → List (Nat × Oper)
  | _, [] => []
  | k, o :: r => (k, o) :: number (k + 1) r

/-- a region; 'pairs': a load and a store that are in no order: they must touch other places -/
noncomputable def regionEv (cx : Cx) (call : Nat → List V → List Ob → Option (Rs × List Ob)) (ops : Array Oper) (st : St) : List (Nat × Nat) → Option St
  | [] => evOps cx call ops ops.toList st
  | x :: r => match evT cx call ops (number 0 ops.toList) st with
    | some (l, s) => match dynCheck (x :: r) l with
      | true => some s
      | false => none
    | none => none

noncomputable def results (st : St) : List ResultVar → List Nat → (T : TR) → Option (List (Ty × V × Bool))
  | [], [], _ => some []
  | .tmp t :: rs, k :: ks, T => match T k, st.env.get t with
    | some ty, some (.one u v own) => if u.beq ty then (results st rs ks T).map ((ty, v, own) :: ·) else none
    | _, _ => none
  | .cell a u :: rs, k :: ks, T => match T k, T u, opd st .ptr (.tmp a) with
    | some ty, some ty', some (.ptr o p) => match look st.os o p with
      | some (t, v) => if t.beq ty && ty'.beq ty then (results st rs ks T).map ((ty, v, false) :: ·) else none
      | none => none
    | _, _, _ => none
  | _, _, _ => none

noncomputable def resultRs : List (Ty × V × Bool) → Rs
  | [(ty, v, own)] => .one ty v own
  | l => .tup (l.map fun x => (x.1, x.2.1))

noncomputable def zipEnv : Nat → List Ty → List V → Option Env
  | _, [], [] => some []
  | k, t :: ts, v :: vs => (zipEnv (k + 1) ts vs).map ((k, .one t v false) :: ·)
  | k, [], v :: vs => (zipEnv (k + 1) [] vs).map ((k, .one .ptr v false) :: ·)
  | _, _, _ => none

mutual
noncomputable def ev (cx : Cx) : Nat → Nat → List (Nat × List (Nat × Nat)) → Code → St → Option (Ex × St)
  | 0, _, _, _, _ => none
  | _ + 1, _, _, .skip, st => some (.normal, st)
  | n + 1, keep, dyn, .region id ops _, st => match regionEv cx (fun f vs os => evCall cx n f vs os) ops st (dynOf id dyn) with
    | some st' => some (.normal, st'.keep keep)
    | none => none
  | n + 1, keep, dyn, .seq a b, st => match ev cx n keep dyn a st with
    | some (.normal, st') => ev cx n keep dyn b st'
    | r => r
  | n + 1, keep, dyn, .cond c a b, st => match opd st .bool c with
    | some (.b true) => ev cx n keep dyn a st
    | some (.b false) => ev cx n keep dyn b st
    | _ => none
  | n + 1, keep, dyn, .block id c, st => match ev cx n keep dyn c st with
    | some (.exit id', st') => match Nat.beq id' id with
      | true => some (.normal, st')
      | false => some (.exit id', st')
    | r => r
  | n + 1, keep, dyn, .loop c, st => match ev cx n keep dyn c st with
    | some (.normal, st') => ev cx n keep dyn (.loop c) st'
    | r => r
  | _ + 1, _, _, .exit id, st => some (.exit id, st)
  | _ + 1, _, _, .ret, st => some (.ret, st)
  | _ + 1, _, _, _, _ => none
noncomputable def evCall (cx : Cx) : Nat → Nat → List V → List Ob → Option (Rs × List Ob)
  | 0, _, _, _ => none
  | n + 1, f, vs, os => match askK (cx.K f) vs os with
    | some r => some r
    | none => match cx.F f with
    | none => none
    | some i => match i.fn.body, tys cx.T i.fn.params.toList with
      | some c, some ts => match zipEnv 0 ts vs with
        | some env => if vs.length ≤ i.fn.ntmps then match ev cx n i.keep i.dyn c { env := env, orgs := [], os := os, n := i.fn.ntmps, thaw := i.thaw } with
            | some (.normal, st) => (results st i.fn.results.toList i.fn.resultTypes.toList cx.T).map fun l => (resultRs l, st.os)
            | some (.ret, st) => (results st i.fn.results.toList i.fn.resultTypes.toList cx.T).map fun l => (resultRs l, st.os)
            | _ => none
          else none
        | none => none
      | _, _ => none
end
end Go.Vm
