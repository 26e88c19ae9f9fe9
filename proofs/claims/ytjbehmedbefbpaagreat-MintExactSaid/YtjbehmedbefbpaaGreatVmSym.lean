/- Operations on unknown numbers and texts. -/
import Derived.Test.YtjbehmedbefbpaaGreatVmOpsI
set_option linter.unusedVariables false
set_option linter.unusedSimpArgs false
namespace Go.Vm
open Go

section
variable {P : Program} {cx : Cx} {g : Gh} {w : World} {st st' : St} {a : Act} {o : Oper}

theorem vI_sound {k : IntKind} {v : V} {val : Value} {e : SI} (h : ValR cx.T g w (.int k) v val) (he : vI v = some e) : val = .int k (e.den cx.T) := by
  rcases valR_int h with ⟨n, rfl, hv⟩ | ⟨e', rfl, hv⟩
  · simp only [vI, Option.some.injEq] at he; subst he; exact hv
  · simp only [vI, Option.some.injEq] at he; subst he; exact hv

theorem opI_sound (hi : Inv cx.T g w st a) {k : IntKind} {x : Operand} {e : SI} (h : opI st k x = some e) : a.eval x = .int k (e.den cx.T) := by
  unfold opI at h
  split at h
  · rename_i v hv; exact vI_sound (opd_sound hi hv) h
  · simp at h

theorem denS_knowns (T : TR) : ∀ l : List UInt8, denS T (knowns l) = l
  | [] => rfl
  | b :: l => by simp [knowns, denS, SB.den, denS_knowns T l]

theorem denS_append (T : TR) : ∀ l m : List SB, denS T (l ++ m) = denS T l ++ denS T m
  | [], m => rfl
  | b :: l, m => by simp [denS, denS_append T l m]

theorem opS_sound (hi : Inv cx.T g w st a) {x : Operand} {l : List SB} (h : opS st x = some l) : ∃ z : ByteArray, a.eval x = .string z ∧ z.data.toList = denS cx.T l := by
  unfold opS at h
  split at h
  · rename_i v hv
    rcases valR_str (opd_sound hi hv) with ⟨z, rfl, ex⟩ | ⟨z, m, rfl, ex, hz⟩
    · simp only [vS, Option.some.injEq] at h
      subst h
      exact ⟨z, ex, (denS_knowns _ _).symm⟩
    · simp only [vS, Option.some.injEq] at h
      subst h
      exact ⟨z, ex, hz⟩
  · simp at h

theorem mkI_sound (F : Facts cx) (k : IntKind) (e : SI) : ValR cx.T g w (.int k) (mkI cx e) (.int k (e.den cx.T)) := by
  unfold mkI
  split
  · rename_i n h
    have := F.R _ _ h
    rw [this]
    exact ⟨_, .i k n, rfl⟩
  · rename_i e' _ h
    rw [F.R _ _ h]
    exact ⟨_, .ix k e', rfl⟩
  · exact ⟨_, .ix k e, rfl⟩

theorem allKn_sound (T : TR) : ∀ {l : List SB} {r : List UInt8}, allKn l = some r → denS T l = r
  | [], r, h => by simp only [allKn, Option.some.injEq] at h; subst h; rfl
  | .kn b :: l, r, h => by
    simp only [allKn] at h
    split at h
    · rename_i r' hr
      injection h with h
      subst h
      simp [denS, SB.den, allKn_sound T hr]
    · simp at h
  | .nu _ :: l, r, h => by simp [allKn] at h
  | .gr _ :: l, r, h => by simp [allKn] at h

theorem mkS_sound {l : List SB} {z : ByteArray} (hz : z.data.toList = denS cx.T l) : ValR cx.T g w .str (mkS l) (.string z) := by
  unfold mkS
  split
  · rename_i r h
    rw [allKn_sound cx.T h] at hz
    rw [← hz]
    exact ⟨_, .s z, rfl⟩
  · exact ⟨_, .tx z l hz, rfl⟩

theorem sbW_len (F : Facts cx) : ∀ l : List SB, (denS cx.T l).length ≤ sbW l
  | [] => by simp [denS]
  | .kn b :: l => by have := sbW_len F l; simp [denS, SB.den, sbW]; omega
  | .nu e :: l => by have := sbW_len F l; simp [denS, SB.den, sbW]; omega
  | .gr k :: l => by have := sbW_len F l; have := F.σ k; simp [denS, SB.den, sbW]; omega

theorem cmpSym_sound (F : Facts cx) {op : BinOp} {x y : SI} {r : Bool} (h : cmpSym cx op x y = some r) : isCmp op = true ∧ cmpN op (x.den cx.T) (y.den cx.T) = r := by
  unfold cmpSym at h
  split at h
  · rename_i hc
    refine ⟨hc, ?_⟩
    split at h
    · rename_i r' hr
      injection h with h
      subst h
      exact F.C _ _ _ _ hr
    · split at h
      · rename_i hb
        rw [SI.eq_of_beq hb]
        cases op <;> simp only [sameCmp, reduceCtorEq, Option.some.injEq] at h <;> subst h <;> simp [cmpN]
      · simp at h
  · simp at h

theorem cmp_intOp {op : BinOp} (hc : isCmp op = true) (k : IntKind) (x y : Int) : intOp op k x y = some (.b (cmpN op x y)) := by
  cases op <;> simp [isCmp] at hc <;> rfl

/-- arithmetic and comparison -/
theorem symInt_sound (F : Facts cx) {op : BinOp} {k : IntKind} {x y : SI} {ty : Ty} {v : V} (h : symInt cx op k x y = some (ty, v)) (t : TypeId) :
    ∃ val, (binOp op t (.int k (x.den cx.T)) (.int k (y.den cx.T))).run P w = .ok val w ∧ ValR cx.T g w ty v val := by
  have ari : ∀ n : Int, intOp op k (x.den cx.T) (y.den cx.T) = some (.i n) → n = (SI.o op k x y).den cx.T → some (Ty.int k, mkI cx (.o op k x y)) = some (ty, v) →
      ∃ val, (binOp op t (.int k (x.den cx.T)) (.int k (y.den cx.T))).run P w = .ok val w ∧ ValR cx.T g w ty v val := by
    intro n hn hd he
    simp only [Option.some.injEq, Prod.mk.injEq] at he
    obtain ⟨rfl, rfl⟩ := he
    obtain ⟨val, hr, hm⟩ := binInt_run (P := P) (w := w) hn t
    simp only at hm
    subst hm
    refine ⟨_, hr, ?_⟩
    rw [hd]
    exact mkI_sound F k _
  have cmp : (match cmpSym cx op x y with
      | some r => some (Ty.bool, V.b r)
      | none => none) = some (ty, v) → ∃ val, (binOp op t (.int k (x.den cx.T)) (.int k (y.den cx.T))).run P w = .ok val w ∧ ValR cx.T g w ty v val := by
    intro he
    split at he
    · rename_i r hr
      simp only [Option.some.injEq, Prod.mk.injEq] at he
      obtain ⟨rfl, rfl⟩ := he
      obtain ⟨hc, hv⟩ := cmpSym_sound F hr
      obtain ⟨val, hr, hm⟩ := binInt_run (P := P) (w := w) (cmp_intOp hc k _ _) t
      simp only at hm
      subst hm
      rw [hv] at hr
      exact ⟨_, hr, .bool _⟩
    · simp at he
  cases op <;> simp only [symInt] at h
  case add => exact ari _ rfl rfl h
  case sub => exact ari _ rfl rfl h
  case mul => exact ari _ rfl rfl h
  case and => exact ari _ rfl rfl h
  case or => exact ari _ rfl rfl h
  case xor => exact ari _ rfl rfl h
  case andNot => exact ari _ rfl rfl h
  case quo =>
    split at h
    · split at h
      · simp at h
      · rename_i n hn
        exact ari (binN .quo k (x.den cx.T) n) (by show (if n = 0 then none else some (V.i (wrapF k ((x.den cx.T).tdiv n)))) = _; rw [if_neg hn]; rfl) rfl h
    · simp at h
  case rem =>
    split at h
    · split at h
      · simp at h
      · rename_i n hn
        exact ari (binN .rem k (x.den cx.T) n) (by show (if n = 0 then none else some (V.i ((x.den cx.T).tmod n))) = _; rw [if_neg hn]; rfl) rfl h
    · simp at h
  case shl => simp at h
  case shr => simp at h
  all_goals exact cmp h

theorem symSh_owed (G : Good P cx) {op : BinOp} {xt yt : Nat} {k k' : IntKind} {x y : Operand} {e : SI} {n : Int} {ty : Ty} {v : V} (h2 : op = .shl ∨ op = .shr) (hop : o.op = .binOp op xt x y yt) (hi : Inv cx.T g w st a)
    (hx : opI st k x = some e) (hy : opi st y = some (k', n)) (he : symSh cx op k e n = some (ty, v)) (hs : st.set o.dst (.one ty v false) = some st') : Owed P cx g w st' a o := by
  have ex := opI_sound hi hx
  have ey := opi_sound hi hy
  unfold symSh at he
  split at he
  · simp at he
  · rename_i hn
    simp only [Option.some.injEq, Prod.mk.injEq] at he
    obtain ⟨rfl, rfl⟩ := he
    have hsh : shOp op k (e.den cx.T) n = some (.i ((SI.o op k e (.l n)).den cx.T)) := by
      unfold shOp
      rw [if_neg hn]
      rcases h2 with rfl | rfl <;> rfl
    obtain ⟨m, hr, hm⟩ := sh_run (P := P) (w := w) h2 (k' := k') hsh xt
    injection hm with hm
    subst hm
    exact bin_owed hop hi hs (by rw [ex]; exact guard_int ..) (by rw [ex, ey]; exact hr) (mkI_sound G.facts k _)

theorem eqSym_sound (F : Facts cx) {x y : List SB} {r : Bool} (h : eqSym cx x y = some r) : (denS cx.T x == denS cx.T y) = r := by
  unfold eqSym at h
  split at h
  · rename_i hq
    injection h with h
    subst h
    exact F.Q _ _ _ hq
  · split at h
    · rename_i hb
      injection h with h
      subst h
      rw [sb_eq hb]
      simp
    · simp at h

theorem symBinOwed (G : Good P cx) {op : BinOp} {xt yt : Nat} {x y : Operand} {ty : Ty} {v : V} (hop : o.op = .binOp op xt x y yt) (hi : Inv cx.T g w st a) (he : symBin cx st op xt x y = some (ty, v))
    (hs : st.set o.dst (.one ty v false) = some st') : Owed P cx g w st' a o := by
  unfold symBin at he
  split at he
  · rename_i k hT
    have gen : (match opI st k x, opI st k y with
        | some a, some b => symInt cx op k a b
        | _, _ => none) = some (ty, v) → Owed P cx g w st' a o := by
      intro he
      split at he
      · rename_i e1 e2 h1 h2
        have ex := opI_sound hi h1
        have ey := opI_sound hi h2
        obtain ⟨val, hr, hv⟩ := symInt_sound (P := P) (g := g) (w := w) G.facts he xt
        exact bin_owed hop hi hs (by rw [ex]; exact guard_int ..) (by rw [ex, ey]; exact hr) hv
      · simp at he
    split at he
    · split at he
      · rename_i h1 h2
        exact symSh_owed G (.inl rfl) hop hi h1 h2 he hs
      · simp at he
    · split at he
      · rename_i h1 h2
        exact symSh_owed G (.inr rfl) hop hi h1 h2 he hs
      · simp at he
    · exact gen he
  · rename_i hT
    split at he
    · rename_i l1 l2 h1 h2
      obtain ⟨z1, ex, hz1⟩ := opS_sound hi h1
      obtain ⟨z2, ey, hz2⟩ := opS_sound hi h2
      have run : ∀ r, strOp op z1.data.toList z2.data.toList = some r → (∀ val : Value, ((∃ b, r = .b b ∧ val = .bool b) ∨ ∃ s : ByteArray, r = .s s.data.toList ∧ val = .string s) → ValR cx.T g w ty v val) → Owed P cx g w st' a o := by
        intro r hr hv
        obtain ⟨val, q1, q2⟩ := binStr_run (P := P) (w := w) hr xt
        exact bin_owed hop hi hs (by rw [ex]; exact guard_str ..) (by rw [ex, ey]; exact q1) (hv val q2)
      unfold symStr at he
      split at he
      · split at he
        · rename_i hb
          simp only [Option.some.injEq, Prod.mk.injEq] at he
          obtain ⟨rfl, rfl⟩ := he
          have hle := Nat.le_of_ble_eq_true hb
          have w1 := sbW_len G.facts l1
          have w2 := sbW_len G.facts l2
          refine run (.s (z1.data.toList ++ z2.data.toList)) (by simp only [strOp]; rw [if_pos (by rw [hz1, hz2]; omega)]) ?_
          rintro val (⟨b, hb, _⟩ | ⟨s, hs', rfl⟩)
          · simp at hb
          · injection hs' with hs'
            exact mkS_sound (by rw [denS_append, ← hz1, ← hz2, hs'])
        · simp at he
      · split at he
        · rename_i r hr
          simp only [Option.some.injEq, Prod.mk.injEq] at he
          obtain ⟨rfl, rfl⟩ := he
          have := eqSym_sound G.facts hr
          refine run (.b (z1.data.toList == z2.data.toList)) rfl ?_
          rintro val (⟨b, hb, rfl⟩ | ⟨s, hs', _⟩)
          · injection hb with hb
            rw [← hb, hz1, hz2, this]
            exact .bool _
          · simp at hs'
        · simp at he
      · split at he
        · rename_i r hr
          simp only [Option.some.injEq, Prod.mk.injEq] at he
          obtain ⟨rfl, rfl⟩ := he
          have := eqSym_sound G.facts hr
          refine run (.b (!(z1.data.toList == z2.data.toList))) rfl ?_
          rintro val (⟨b, hb, rfl⟩ | ⟨s, hs', _⟩)
          · injection hb with hb
            rw [← hb, hz1, hz2, this]
            exact .bool _
          · simp at hs'
        · simp at he
      · simp at he
    · simp at he
  · simp at he

theorem symUnOwed (G : Good P cx) {op : UnOp} {xt : Nat} {x : Operand} {ty : Ty} {v : V} (hop : o.op = .unOp op xt x) (hi : Inv cx.T g w st a) (he : symUn cx st op xt x = some (ty, v))
    (hs : st.set o.dst (.one ty v false) = some st') : Owed P cx g w st' a o := by
  unfold symUn at he
  split at he
  · rename_i k hT
    split at he
    · rename_i e hx
      have ex := opI_sound hi hx
      simp only [Option.some.injEq, Prod.mk.injEq] at he
      obtain ⟨rfl, rfl⟩ := he
      refine Owed.pure hi hs (val := .int k ((SI.o .sub k (.l 0) e).den cx.T)) ?_ (mkI_sound G.facts k _)
      simp [execOp, hop, Op.unary, Op.intArith, ex, SI.den, binN, wrapF_eq]
    · simp at he
  · simp at he

theorem sbsOf_cells (F : Facts cx) : ∀ {n : Nat} {ds : List Value} {vs : List V} {l : List SB}, VRs cx.T g w (List.replicate n (.int .u8)) ds vs → sbsOf cx vs = some l →
    ∃ ns : List Int, ds = ns.map (Value.int .u8) ∧ ns.map (fun n => UInt8.ofNat n.toNat) = denS cx.T l
  | 0, ds, vs, l, h, hb => by
    cases h
    simp only [sbsOf, Option.some.injEq] at hb
    subst hb
    exact ⟨[], rfl, rfl⟩
  | n + 1, ds, vs, l, h, hb => by
    rw [List.replicate_succ] at h
    cases h with
    | @cons _ _ c cs v vs h1 h2 =>
      simp only [sbsOf] at hb
      split at hb
      · rename_i b e1
        split at hb
        · rename_i r e2
          injection hb with hb
          subst hb
          obtain ⟨ns, q1, q2⟩ := sbsOf_cells F h2 e2
          cases h1 with
          | i k m =>
            simp only [sbOf] at e1
            split at e1
            · rename_i b' hb'
              injection e1 with e1
              subst e1
              simp only [vByte] at hb'
              split at hb'
              · injection hb' with hb'
                subst hb' q1
                exact ⟨m :: ns, rfl, by simp [q2, denS, SB.den]⟩
              · simp at hb'
            · simp at e1
          | ix k e =>
            simp only [sbOf] at e1
            split at e1
            · injection e1 with e1
              subst e1 q1
              exact ⟨e.den cx.T :: ns, rfl, by simp [q2, denS, SB.den]⟩
            · simp at e1
        · simp at hb
      · simp at hb

theorem symConv_owed (G : Good P cx) {s t : Nat} {x : Operand} {ty : Ty} {v : V} (hop : o.op = .convert s t x) (hi : Inv cx.T g w st a) (he : symConv cx st s t x = some (ty, v))
    (hs : st.set o.dst (.one ty v false) = some st') : Owed P cx g w st' a o := by
  unfold symConv at he
  split at he
  · rename_i k l hS hD
    have hs1 := (G.ty s _ hS).desc
    have hd1 := (G.ty t _ hD).desc
    simp only [DescOk] at hs1 hd1
    split at he
    · rename_i e hx
      have ex := opI_sound hi hx
      simp only [Option.some.injEq, Prod.mk.injEq] at he
      obtain ⟨rfl, rfl⟩ := he
      refine Owed.pure hi hs (val := .int l ((SI.c l e).den cx.T)) ?_ (mkI_sound G.facts l _)
      simp [execOp, hop, convert, run_underlying hs1, run_underlying hd1, ex, Conv.intToInt, SI.den, wrapF_eq]
    · simp at he
  · rename_i e hS hD
    have hs1 := (G.ty s _ hS).desc
    have hd1 := (G.ty t _ hD).desc
    simp only [DescOk] at hs1 hd1
    split at he
    · rename_i v0 hTe hx
      have he1 := (G.ty e _ hTe).desc
      simp only [DescOk] at he1
      split at he
      · rename_i vs hel
        split at he
        · rename_i l hl
          simp only [Option.some.injEq, Prod.mk.injEq] at he
          obtain ⟨rfl, rfl⟩ := he
          obtain ⟨ds, q1, q2, q3, q4⟩ := elems_sound (P := P) hi.os hTe hel (opd_sound hi hx)
          obtain ⟨ns, n1, n2⟩ := sbsOf_cells G.facts q1 hl
          exact toText_core hop hi hs hs1 hd1 he1 q3 n1 n2 (fun z hz => mkS_sound hz) q4
        · simp at he
      · simp at he
    · simp at he
  · simp at he

theorem symConvOwn_owed (G : Good P cx) {s t : Nat} {x : Operand} {ty : Ty} {v : V} (hop : o.op = .convert s t x) (hi : Inv cx.T g w st a) (he : symConvOwn cx st s t x = some (ty, v))
    (hs : st.set o.dst (.one ty v true) = some st') : Owed P cx g w st' a o := by
  unfold symConvOwn at he
  split at he
  · rename_i e hS hD
    have hs1 := (G.ty s _ hS).desc
    have hd1 := (G.ty t _ hD).desc
    simp only [DescOk] at hs1 hd1
    split at he
    · rename_i l hTe hx
      have he1 := (G.ty e _ hTe).desc
      simp only [DescOk] at he1
      split at he
      · rename_i vs hvs
        simp only [Option.some.injEq, Prod.mk.injEq] at he
        obtain ⟨rfl, rfl⟩ := he
        rcases valR_str (opd_sound hi hx) with ⟨z, hz, ex⟩ | ⟨z, m, hz, ex, hd⟩
        · simp at hz
        · injection hz with hz
          subst hz
          obtain ⟨q1, q2⟩ := ofSbs_sound (g := g) (w := w) G.facts hvs
          rw [← hd] at q1 q2
          exact toBytes_core G hop hi hs1 hd1 he1 hTe ex q1 q2 hs
      · simp at he
    · simp at he
  · simp at he

theorem vrs_get {v : V} : ∀ {n i : Nat} {ns : List UInt8} {vs : List V}, VRs cx.T g w (List.replicate n (.int .u8)) (ns.map fun b => Value.int .u8 b.toNat) vs → vs[i]? = some v → ∃ b, ns[i]? = some b ∧ VR cx.T g w (.int .u8) [.int .u8 b.toNat] v
  | 0, i, ns, vs, h, hv => by
    have := h.length
    simp only [List.length_replicate] at this
    have := List.length_eq_zero_iff.1 this.symm
    subst this
    simp at hv
  | n + 1, i, ns, vs, h, hv => by
    rw [List.replicate_succ] at h
    cases ns with
    | nil =>
      have := h.len
      simp [Ty.sizes, Ty.size] at this
      omega
    | cons b ns =>
      rw [List.map_cons] at h
      generalize hds : (Value.int .u8 (b.toNat : Int) :: ns.map fun b => Value.int .u8 b.toNat) = ds at h
      cases h with
      | @cons _ _ c cs v0 vs h1 h2 =>
        have hc := h1.len
        simp only [Ty.size] at hc
        cases c with
        | nil => simp at hc
        | cons c0 c' =>
          cases c' with
          | cons _ _ => simp at hc
          | nil =>
            simp only [List.cons_append, List.nil_append, List.cons.injEq] at hds
            obtain ⟨rfl, rfl⟩ := hds
            cases i with
            | zero =>
              simp only [List.getElem?_cons_zero, Option.some.injEq] at hv
              subst hv
              exact ⟨b, rfl, h1⟩
            | succ i =>
              simp only [List.getElem?_cons_succ] at hv
              obtain ⟨b', q1, q2⟩ := vrs_get h2 hv
              exact ⟨b', by simpa using q1, q2⟩

theorem symIndex_owed (G : Good P cx) {t : Nat} {x ix : Operand} {ty : Ty} {v : V} (hop : o.op = .index t x ix) (hi : Inv cx.T g w st a) (he : symIndex cx st t x ix = some (ty, v))
    (hs : st.set o.dst (.one ty v false) = some st') : Owed P cx g w st' a o := by
  unfold symIndex at he
  split at he
  · rename_i k n hT hix
    have hd := (G.ty t _ hT).desc
    simp only [DescOk] at hd
    have eix := opi_sound hi hix
    split at he
    · rename_i hn
      split at he
      · rename_i l hx
        split at he
        · rename_i vs hvs
          split at he
          · rename_i v' hv
            simp only [Option.some.injEq, Prod.mk.injEq] at he
            obtain ⟨rfl, rfl⟩ := he
            rcases valR_str (opd_sound hi hx) with ⟨z, hz, ex⟩ | ⟨z, m, hz, ex, hden⟩
            · simp at hz
            · injection hz with hz
              subst hz
              obtain ⟨q1, q2⟩ := ofSbs_sound (g := g) (w := w) G.facts hvs
              rw [← hden] at q1
              obtain ⟨b, hb, hvr⟩ := vrs_get q1 hv
              have hlt : n.toNat < z.size := (List.getElem?_eq_some_iff.1 hb).1
              have hsb : z[n.toNat]? = some b := by
                rw [getElem?_pos z n.toNat hlt]
                obtain ⟨h1, h2⟩ := List.getElem?_eq_some_iff.1 hb
                rw [← h2]; rfl
              refine Owed.pure hi hs (val := .int .u8 b.toNat) ?_ ⟨_, hvr, rfl⟩
              simp [execOp, hop, Instr.index, run_underlying hd, ex, eix, asIntOf, hn, hsb]
          · simp at he
        · simp at he
      · simp at he
    · simp at he
  · simp at he

theorem opiS_sound (hi : Inv cx.T g w st a) {x : Operand} {k : IntKind} {e : SI} (ho : opiS st x = some (k, e)) : a.eval x = .int k (e.den cx.T) := by
  cases x with
  | tmp t =>
    simp only [opiS] at ho
    split at ho
    · rename_i hg
      split at ho
      · rename_i hv
        simp only [Option.some.injEq, Prod.mk.injEq] at ho
        obtain ⟨rfl, rfl⟩ := ho
        exact vI_sound (hi.env t _ hg).1 hv
      · simp at ho
    · simp at ho
  | const c =>
    cases c <;> simp only [opiS, reduceCtorEq, Option.some.injEq, Prod.mk.injEq] at ho
    obtain ⟨rfl, rfl⟩ := ho
    rfl
  | global i => simp [opiS] at ho
  | func f => simp [opiS] at ho

theorem siV_sound (k : IntKind) (e : SI) : ValR cx.T g w (.int k) (siV e) (.int k (e.den cx.T)) := by
  cases e <;> first | exact ⟨_, .i k _, rfl⟩ | exact ⟨_, .ix k _, rfl⟩

theorem symIndex2_owed (G : Good P cx) {t : Nat} {x ix : Operand} {ty : Ty} {v : V} (hop : o.op = .index t x ix) (hi : Inv cx.T g w st a) (he : symIndex2 cx st t x ix = some (ty, v))
    (hs : st.set o.dst (.one ty v false) = some st') : Owed P cx g w st' a o := by
  unfold symIndex2 at he
  split at he
  · rename_i k e hT hix
    have hd := (G.ty t _ hT).desc
    simp only [DescOk] at hd
    have eix := opiS_sound hi hix
    split at he
    · rename_i l hx
      split at he
      · rename_i e' hI
        simp only [Option.some.injEq, Prod.mk.injEq] at he
        obtain ⟨rfl, rfl⟩ := he
        obtain ⟨z, ex, hz⟩ := opS_sound hi hx
        obtain ⟨h0, b, hb, hv⟩ := G.facts.I _ _ _ hI
        rw [← hz] at hb
        have hlt : (e.den cx.T).toNat < z.size := (List.getElem?_eq_some_iff.1 hb).1
        have hsb : z[(e.den cx.T).toNat]? = some b := by
          rw [getElem?_pos z _ hlt]
          obtain ⟨h1, h2⟩ := List.getElem?_eq_some_iff.1 hb
          rw [← h2]; rfl
        refine Owed.pure hi hs (val := .int .u8 b.toNat) ?_ (by rw [← hv]; exact siV_sound .u8 e')
        simp [execOp, hop, Instr.index, run_underlying hd, ex, eix, asIntOf, h0, hsb]
      · simp at he
    · simp at he
  · simp at he

theorem symLen_owed (G : Good P cx) {c : Call} {t : Nat} {x : Operand} {v : V} (hop : o.op = .call c) (hc : c.callee = .builtin .len) (ht : c.argTypes.toList = [t]) (hx : c.args.toList = [x])
    (hi : Inv cx.T g w st a) (he : symLen cx st t x = some v) (hs : st.set o.dst (.one (.int .i64) v false) = some st') : Owed P cx g w st' a o := by
  have hta : c.argTypes = #[t] := by rw [← Array.toList_inj]; exact ht
  have hxa : c.args = #[x] := by rw [← Array.toList_inj]; exact hx
  have run : ∀ r : Value, (Builtin.len_ #[t] o.type #[a.eval x]).run P w = .ok r w → (execOp a.eval o).run P w = .ok (.value r) w := by
    intro r hr
    simp [execOp, hop, resolve, hc, hta, hxa, invoke, builtin, hr]
  unfold symLen at he
  split at he
  · rename_i hT
    have hd := (G.ty t _ hT).desc
    simp only [DescOk] at hd
    split at he
    · rename_i l hv
      rcases valR_str (opd_sound hi hv) with ⟨z, hz, ex⟩ | ⟨z, m, hz, ex, hden⟩
      · simp at hz
      · injection hz with hz
        subst hz
        have hsz : z.size = (denS cx.T l).length := by rw [← hden]; rfl
        have fin : ∀ n : Int, n = z.size → ValR cx.T g w (.int .i64) v (.int .i64 n) → Owed P cx g w st' a o := by
          intro n hn hvr
          subst hn
          exact Owed.pure hi hs (run (.int .i64 z.size) (by simp [Builtin.len_, run_underlying hd, ex, goInt])) hvr
        split at he
        · rename_i e hN
          have hl := G.facts.N _ _ hN
          injection he with he
          refine fin (e.den cx.T) (by rw [hl, hsz]) ?_
          subst he
          split
          · exact ⟨_, .i .i64 _, rfl⟩
          · exact ⟨_, .ix .i64 _, rfl⟩
        · split at he
          · rename_i vs hvs
            injection he with he
            subst he
            obtain ⟨q1, q2⟩ := ofSbs_sound (g := g) (w := w) G.facts hvs
            exact fin vs.length (by rw [q2, hsz]) ⟨_, .i .i64 _, rfl⟩
          · simp at he
    · simp at he
  · simp at he
end
end Go.Vm
