/- Operations that leave memory alone: parts of values, and addresses. -/
import Derived.Test.YtjbehmedbefbpaaGreatVmOpsB
set_option linter.unusedVariables false
set_option linter.unusedSimpArgs false
namespace Go.Vm
open Go

section
variable {P : Program} {cx : Cx} {g : Gh} {w : World} {st st' : St} {a : Act} {o : Oper}

theorem nilCheck_owed {x : Operand} {v : V} (hop : o.op = .nilCheck x) (hi : Inv cx.T g w st a) (hv : opd st .ptr x = some v) (hn : v ≠ .pnil)
    (hs : st.set o.dst (.one .ptr v false) = some st') : Owed P cx g w st' a o := by
  have h := opd_sound hi hv
  refine Owed.pure hi hs (val := a.eval x) ?_ h
  obtain ⟨cs, hc, ex⟩ := h
  cases hc with
  | pnil => exact absurd rfl hn
  | ptr _ _ _ _ => simp [execOp, hop, ex, ofCells, Ty.isAgg]
  | cp _ _ _ _ _ => simp [execOp, hop, ex, ofCells, Ty.isAgg]

theorem field_owed (G : Good P cx) {s f : Nat} {x : Operand} {ty : Ty} {v : V} (hop : o.op = .field s x f) (hi : Inv cx.T g w st a) (he : fieldEv cx st s x f = some (ty, v))
    (hs : st.set o.dst (.one ty v false) = some st') : Owed P cx g w st' a o := by
  unfold fieldEv at he
  cases hT : cx.T s with
  | none => simp [hT] at he
  | some u =>
    cases u with
    | st fs =>
      simp only [hT] at he
      cases hx : opd st (.st fs) x with
      | none => simp [hx] at he
      | some vx =>
        obtain ⟨vs, cs, rfl, ex, hv⟩ := valR_st (opd_sound hi hx)
        simp only [hx] at he
        cases hf : fieldOff fs f with
        | none => simp [hf] at he
        | some y =>
          obtain ⟨off, t⟩ := y
          cases hk : vs[f]? with
          | none => simp [hf, hk] at he
          | some v1 =>
            simp only [hf, hk, Option.some.injEq, Prod.mk.injEq] at he
            obtain ⟨rfl, rfl⟩ := he
            obtain ⟨v', h1, h2, h3⟩ := hv.sub hf
            rw [hk] at h1; injection h1 with h1; subst h1
            obtain ⟨flds, hu, hsz, hfl⟩ := (G.ty s _ hT).desc
            have hlt : f < flds.size := by
              rw [hsz]
              have := fieldOff_get hf
              exact (List.getElem?_eq_some_iff.1 this).1
            obtain ⟨u', ho, hTu⟩ := hfl f flds[f] (Array.getElem?_eq_getElem hlt)
            rw [hf] at ho; injection ho with ho; injection ho with ho1 ho2
            subst ho2
            refine Owed.pure hi hs (val := ofCells t ((cs.drop off).take t.size)) ?_ ⟨_, h2, rfl⟩
            have hp := run_part (G.ty _ _ hTu) (w := w) (g := g) (cs := cs) (off := off) h2
            simp only [execOp, hop, Instr.field, Sem.run_bind, run_underlying hu, Result.andThen_ok, Array.getElem?_eq_getElem hlt, ex, asAgg, Sem.run_pure, ← ho1, hp]
    | _ => simp [hT] at he

theorem ofCells_st {fs : List Ty} {cs : List Value} : ofCells (.st fs) cs = .agg cs.toArray := by simp [ofCells, Ty.isAgg]

theorem index_owed (G : Good P cx) {t : Nat} {x ix : Operand} {ty : Ty} {v : V} (hop : o.op = .index t x ix) (hi : Inv cx.T g w st a) (he : indexEv cx st t x ix = some (ty, v))
    (hs : st.set o.dst (.one ty v false) = some st') : Owed P cx g w st' a o := by
  unfold indexEv at he
  cases hT : cx.T t with
  | none => simp [hT] at he
  | some u =>
    cases hix : opi st ix with
    | none => cases u <;> simp [hT, hix] at he
    | some kn =>
      obtain ⟨k, n⟩ := kn
      have eix := opi_sound hi hix
      have hd := (G.ty t _ hT).desc
      cases u with
      | ar m e =>
        simp only [hT, hix] at he
        split at he
        · rename_i hb
          cases hx : opd st (.ar m e) x with
          | none => simp [hx] at he
          | some vx =>
            obtain ⟨vs, cs, rfl, ex, hv⟩ := valR_ar (opd_sound hi hx)
            simp only [hx] at he
            cases hk : vs[n.toNat]? with
            | none => simp [hk] at he
            | some v1 =>
              simp only [hk, Option.some.injEq, Prod.mk.injEq] at he
              obtain ⟨rfl, rfl⟩ := he
              obtain ⟨v', h1, h2, h3⟩ := hv.sub (fieldOff_replicate (n := m) (i := n.toNat) (by omega))
              rw [hk] at h1; injection h1 with h1; subst h1
              obtain ⟨et, hu, hTe⟩ := hd
              refine Owed.pure hi hs (val := ofCells e ((cs.drop (n.toNat * e.size)).take e.size)) ?_ ⟨_, h2, rfl⟩
              have hp := run_part (G.ty _ _ hTe) (w := w) (g := g) (cs := cs) (off := n.toNat * e.size) h2
              have hc : (0 ≤ n ∧ n < (m : Int)) := hb
              simp [execOp, hop, Instr.index, run_underlying hu, ex, eix, asIntOf, hc.1, hc.2, (G.ty _ _ hTe).run_sizeOf, hp]
        · simp at he
      | str =>
        simp only [hT, hix] at he
        split at he
        · rename_i hb
          cases hx : opd st .str x with
          | none => simp [hx] at he
          | some vx =>
            rcases valR_str (opd_sound hi hx) with ⟨s, rfl, ex⟩ | ⟨s, l, rfl, ex, -⟩
            case inr => simp [hx] at he
            simp only [hx] at he
            cases hk : s.data.toList[n.toNat]? with
            | none => simp [hk] at he
            | some b =>
              simp only [hk, Option.some.injEq, Prod.mk.injEq] at he
              obtain ⟨rfl, rfl⟩ := he
              have hlt : n.toNat < s.size := (List.getElem?_eq_some_iff.1 hk).1
              have hsb : s[n.toNat]? = some b := by
                rw [getElem?_pos s n.toNat hlt]
                obtain ⟨h1, h2⟩ := List.getElem?_eq_some_iff.1 hk
                rw [← h2]; rfl
              simp only [DescOk] at hd
              refine Owed.pure hi hs (val := .int .u8 b.toNat) ?_ (.int _ _)
              simp [execOp, hop, Instr.index, run_underlying hd, ex, eix, asIntOf, hb, hsb]
        · simp at he
      | _ => simp [hT, hix] at he

theorem len_owed (G : Good P cx) {c : Call} {t : Nat} {x : Operand} {v : V} (hop : o.op = .call c) (hc : c.callee = .builtin .len) (ht : c.argTypes.toList = [t]) (hx : c.args.toList = [x])
    (hi : Inv cx.T g w st a) (he : lenEv cx st t x = some v) (hs : st.set o.dst (.one (.int .i64) v false) = some st') : Owed P cx g w st' a o := by
  have hta : c.argTypes = #[t] := by rw [← Array.toList_inj]; exact ht
  have hxa : c.args = #[x] := by rw [← Array.toList_inj]; exact hx
  have run : ∀ r : Value, (Builtin.len_ #[t] o.type #[a.eval x]).run P w = .ok r w → (execOp a.eval o).run P w = .ok (.value r) w := by
    intro r hr
    simp [execOp, hop, resolve, hc, hta, hxa, invoke, builtin, hr]
  unfold lenEv at he
  cases hT : cx.T t with
  | none => simp [hT] at he
  | some u =>
    have hd := (G.ty t _ hT).desc
    cases u with
    | str =>
      simp only [hT] at he
      cases hv : opd st .str x with
      | none => simp [hv] at he
      | some vx =>
        rcases valR_str (opd_sound hi hv) with ⟨s, rfl, ex⟩ | ⟨s, l, rfl, ex, -⟩
        case inr => simp [hv] at he
        simp only [hv, Option.some.injEq] at he
        subst he
        simp only [DescOk] at hd
        exact Owed.pure hi hs (run (.int .i64 s.size) (by simp [Builtin.len_, run_underlying hd, ex, goInt])) (.int _ _)
    | ar n e =>
      simp only [hT, Option.some.injEq] at he
      subst he
      obtain ⟨et, hu, _⟩ := hd
      exact Owed.pure hi hs (run (.int .i64 n) (by simp [Builtin.len_, run_underlying hu, goInt])) (.int _ _)
    | sl e =>
      simp only [hT] at he
      cases hv : opd st (.sl e) x with
      | none => simp [hv] at he
      | some vx =>
        simp only [DescOk] at hd
        obtain ⟨cs, hcs, ex⟩ := opd_sound hi hv
        cases hcs with
        | snil =>
          simp only [hv, Option.some.injEq] at he
          subst he
          exact Owed.pure hi hs (run (.int .i64 0) (by simp [Builtin.len_, run_underlying hd, ex, goInt, ofCells, Ty.isAgg])) (.int _ _)
        | @sl _ b off len cap n ow ty cs fl vs h1 h2 h3 h4 h5 h6 h7 h8 h9 =>
          simp only [hv, Option.some.injEq] at he
          subst he
          subst h7
          exact Owed.pure hi hs (run (.int .i64 vs.length) (by simp [Builtin.len_, run_underlying hd, ex, goInt, ofCells, Ty.isAgg])) (.int _ _)
        | @rw _ ob b off aoff len cap ty h1 h2 h3 h4 h5 h6 =>
          simp only [hv, Option.some.injEq] at he
          subst he
          exact Owed.pure hi hs (run (.int .i64 len) (by simp [Builtin.len_, run_underlying hd, ex, goInt, ofCells, Ty.isAgg])) (.int _ _)
    | _ => simp [hT] at he

theorem minmax_run {k : IntKind} (isMax : Bool) (hi : Inv cx.T g w st a) : ∀ {xs : List Operand} {m r : Int}, minmax isMax st k m xs = some r →
    ((xs.map a.eval).foldlM (if isMax then Builtin.max2 else Builtin.min2) (.int k m)).run P w = .ok (.int k r) w
  | [], m, r, h => by
    simp only [minmax, Option.some.injEq] at h
    subst h
    simp
  | x :: xs, m, r, h => by
    simp only [minmax] at h
    cases hx : opd st (.int k) x with
    | none => simp [hx] at h
    | some vx =>
      rcases valR_int (opd_sound hi hx) with ⟨n, rfl, ex⟩ | ⟨e, rfl, ex⟩
      case inr => simp [hx] at h
      simp only [hx] at h
      have := minmax_run isMax hi h
      cases isMax with
      | true => simpa [List.foldlM, ex, Builtin.max2] using this
      | false => simpa [List.foldlM, ex, Builtin.min2] using this

theorem minmax_owed (isMax : Bool) {c : Call} {k : IntKind} {x : Operand} {xs : List Operand} {m r : Int} (hop : o.op = .call c) (hc : c.callee = .builtin (if isMax then .max else .min)) (hxs : c.args.toList = x :: xs)
    (hi : Inv cx.T g w st a) (hx : opd st (.int k) x = some (.i m)) (he : minmax isMax st k m xs = some r) (hs : st.set o.dst (.one (.int k) (.i r) false) = some st') : Owed P cx g w st' a o := by
  have ex := valR_i (opd_sound hi hx)
  have := minmax_run (P := P) isMax hi he
  have hl : List.map a.eval c.args.toList = .int k m :: xs.map a.eval := by rw [hxs, List.map_cons, ex]
  refine Owed.pure hi hs (val := .int k r) ?_ (.int _ _)
  cases isMax with
  | true =>
    simp only [if_true] at this hc
    simp [execOp, hop, resolve, hc, invoke, builtin, Builtin.max_, hl, this]
  | false =>
    simp only [Bool.false_eq_true, if_false] at this hc
    simp [execOp, hop, resolve, hc, invoke, builtin, Builtin.min_, hl, this]

theorem tupR_get : ∀ {l : List (Ty × V)} {xs : List Value} {i : Nat} {ty : Ty} {v : V}, TupR cx.T g w l xs → l[i]? = some (ty, v) → ∃ x, xs[i]? = some x ∧ ValR cx.T g w ty v x
  | [], [], i, ty, v, _, h => by simp at h
  | (t, u) :: l, x :: xs, 0, ty, v, ⟨h1, _⟩, h => by
    simp only [List.getElem?_cons_zero, Option.some.injEq, Prod.mk.injEq] at h
    obtain ⟨rfl, rfl⟩ := h
    exact ⟨x, rfl, h1⟩
  | (t, u) :: l, x :: xs, i + 1, ty, v, ⟨_, h2⟩, h => by
    obtain ⟨y, hy, hv⟩ := tupR_get h2 (by simpa using h)
    exact ⟨y, by simpa using hy, hv⟩
  | [], _ :: _, _, _, _, h, _ => h.elim
  | _ :: _, [], _, _, _, h, _ => h.elim

theorem extract_owed {x : Operand} {ix : Nat} (hop : o.op = .extract x ix) (hi : Inv cx.T g w st a) (h : extractEv st o.dst ix (tupOf st x) = some st') : Owed P cx g w st' a o := by
  cases ht : tupOf st x with
  | none => simp [ht, extractEv] at h
  | some l =>
    simp only [ht, extractEv] at h
    obtain ⟨ty, v, hl, hs⟩ := put1_spec h
    obtain ⟨vals, h1, h2⟩ := tupOf_sound hi ht
    obtain ⟨y, hy, hv⟩ := tupR_get h2 hl
    have hy' : vals[ix]? = some y := by simpa using hy
    refine Owed.pure hi hs (val := y) ?_ hv
    simp only [execOp, hop, h1, Instr.extract, hy', Sem.run_bind, Sem.run_pure, Result.andThen_ok]

theorem opds_sound (hi : Inv cx.T g w st a) : ∀ {ts : List Ty} {xs : List Operand} {vs : List V}, opds st ts xs = some vs → ∃ l : List (Ty × V), l.map (·.1) = ts ∧ l.map (·.2) = vs ∧ TupR cx.T g w l (xs.map a.eval)
  | [], [], vs, h => by
    simp only [opds, Option.some.injEq] at h
    subst h
    exact ⟨[], rfl, rfl, trivial⟩
  | t :: ts, x :: xs, vs, h => by
    simp only [opds] at h
    split at h
    · rename_i v vs' h1 h2
      simp only [Option.some.injEq] at h
      subst h
      obtain ⟨l, e1, e2, e3⟩ := opds_sound hi h2
      exact ⟨(t, v) :: l, by simp [e1], by simp [e2], opd_sound hi h1, e3⟩
    · simp at h
  | [], _ :: _, vs, h => by simp [opds] at h
  | _ :: _, [], vs, h => by simp [opds] at h

theorem tupR_ptrs : ∀ {l : List (Ty × V)} {xs : List Value}, TupR cx.T g w l xs → (∀ p ∈ l, p.1 = .ptr) → VRs cx.T g w (List.replicate l.length .ptr) xs (l.map (·.2))
  | [], [], _, _ => .nil
  | (t, u) :: l, x :: xs, ⟨⟨cs, h1, h2⟩, h3⟩, hp => by
    have ht : t = .ptr := hp (t, u) (by simp)
    subst ht
    obtain ⟨c, rfl, _⟩ := h1.single rfl
    have hx : x = c := by simpa [ofCells, Ty.isAgg] using h2
    subst hx
    exact .cons h1 (tupR_ptrs h3 fun p hq => hp p (List.mem_cons_of_mem _ hq))
  | [], _ :: _, h, _ => h.elim
  | _ :: _, [], h, _ => h.elim

theorem makeFunc_owed {f : Nat} {first caps : Array Operand} (hop : o.op = .makeFunc (.func f) first caps) (hi : Inv cx.T g w st a) (h : fnEv st o.dst f first caps = some st') : Owed P cx g w st' a o := by
  unfold fnEv at h
  cases hf : first.isEmpty with
  | false => simp [hf] at h
  | true =>
    simp only [hf] at h
    cases he : opds st (List.replicate caps.size .ptr) caps.toList with
    | none => simp [he] at h
    | some vs =>
      simp only [he] at h
      obtain ⟨l, e1, e2, e3⟩ := opds_sound hi he
      have hp := tupR_ptrs e3 (by
        intro p hp
        have : p.1 ∈ l.map (·.1) := List.mem_map_of_mem hp
        rw [e1] at this
        exact (List.mem_replicate.1 this).2)
      have hfe : first = #[] := by simpa using hf
      have hlv : l.length = vs.length := by rw [← e2]; simp
      rw [e2, hlv] at hp
      refine Owed.pure hi h (val := .func (.func f) #[] (caps.map a.eval)) (by simp [execOp, hop, Instr.makeFunc, hfe]) ?_
      refine ⟨_, .fn hp, ?_⟩
      simp only [ofCells, Ty.isAgg, Bool.false_eq_true, if_false, List.headD_cons]
      congr 1
      rw [← Array.toList_inj, Array.toList_map]

/-! Addresses. -/

theorem lookTy_sound {os : List Ob} {ob : Nat} {p : List Nat} {u : Ty} (hs : SR cx.T g w os) (h : lookTy os ob p = some u) :
    ∃ ty i q off b, p = i :: q ∧ ty.at q = some (off, u) ∧ g.rho ob = some (b, ty) := by
  cases p with
  | nil => simp [lookTy] at h
  | cons i q =>
    simp only [lookTy] at h
    cases hob : os[ob]? with
    | none => simp [hob] at h
    | some x =>
      cases x with
      | dead => simp [hob] at h
      | mapo k e es => simp [hob] at h
      | row ty vs own =>
        simp only [hob] at h
        cases hat : ty.at q with
        | none => simp [hat] at h
        | some y =>
          obtain ⟨off, u'⟩ := y
          simp only [hat, Option.some.injEq] at h
          subst h
          obtain ⟨b, c, et, fr, cs, sp, h1, _⟩ := hs.ob ob _ hob
          exact ⟨ty, i, q, off, b, rfl, hat, h1⟩

theorem at_append : ∀ {p : List Nat} {ty u v : Ty} {k off off' : Nat}, ty.at p = some (off, u) → u.sub k = some (off', v) → ty.at (p ++ [k]) = some (off + off', v)
  | [], ty, u, v, k, off, off', h, hs => by
    simp only [Ty.at, Option.some.injEq, Prod.mk.injEq] at h
    obtain ⟨rfl, rfl⟩ := h
    simp [Ty.at, hs]
  | i :: p, ty, u, v, k, off, off', h, hs => by
    simp only [Ty.at] at h
    cases h1 : ty.sub i with
    | none => simp [h1] at h
    | some y =>
      obtain ⟨o1, t1⟩ := y
      simp only [h1] at h
      cases h2 : t1.at p with
      | none => simp [h2] at h
      | some z =>
        obtain ⟨o2, t2⟩ := z
        simp only [h2, Option.some.injEq, Prod.mk.injEq] at h
        obtain ⟨rfl, rfl⟩ := h
        have := at_append h2 hs
        simp [Ty.at, h1, this, Nat.add_assoc]

theorem has_take {b : Nat} : ∀ {cs : List Value} {off k n : Nat}, Has w b off cs → Has w b (off + k) ((cs.drop k).take n)
  | cs, off, k, n, h => by
    rw [← List.take_append_drop k cs] at h
    obtain ⟨h1, h2⟩ := Has.append.1 h
    by_cases hk : k ≤ cs.length
    · rw [List.length_take, Nat.min_eq_left hk] at h2
      rw [← List.take_append_drop n (cs.drop k)] at h2
      exact (Has.append.1 h2).1
    · rw [List.drop_eq_nil_of_le (by omega)]
      simp [Has]

/-- a step into what nobody writes -/
theorem cp_step {b off n : Nat} {ow : Option Owner} {u t : Ty} {cs : List Value} {v y : V} {k off' : Nat} (hb : b < w.heap.size) (hk : g.kind b = .imm n ow) (hl : off + u.size ≤ n) (hh : Has w b off cs) (hv : VR cx.T g w u cs v)
    (hs : u.sub k = some (off', t)) (hg : v.get [k] = some y) : VR cx.T g w .ptr [.pointer (some ⟨b, off + off', none⟩)] (.cp t y) := by
  have hat : u.at [k] = some (off', t) := by simp [Ty.at, hs]
  obtain ⟨h1, h2⟩ := hv.at hat hg
  rw [hv.len] at h2
  exact .cp hb hk (by omega) (has_take hh) h1

theorem faddr_owed (G : Good P cx) {s f : Nat} {x : Operand} {v : V} (hop : o.op = .fieldAddr s x f) (hi : Inv cx.T g w st a) (he : faddrEv cx st s x f = some v)
    (hs : st.set o.dst (.one .ptr v false) = some st') : Owed P cx g w st' a o := by
  unfold faddrEv at he
  cases hT : cx.T s with
  | none => simp [hT] at he
  | some u =>
    cases u with
    | st fs =>
      obtain ⟨flds, hu, hsz, hfl⟩ := (G.ty s _ hT).desc
      have run : ∀ b off off' t, fieldOff fs f = some (off', t) → a.eval x = .pointer (some ⟨b, off, none⟩) → (execOp a.eval o).run P w = .ok (.value (.pointer (some ⟨b, off + off', none⟩))) w := by
        intro b off off' t hf ex
        have hlt : f < flds.size := by
          rw [hsz]
          exact (List.getElem?_eq_some_iff.1 (fieldOff_get hf)).1
        obtain ⟨u', ho, hTu⟩ := hfl f flds[f] (Array.getElem?_eq_getElem hlt)
        rw [hf] at ho; injection ho with ho; injection ho with ho1 ho2
        have hpos := (G.ty _ _ hTu).pos
        obtain ⟨i, hi1, hi2, _⟩ := (G.ty _ _ hTu).info
        simp [execOp, hop, Instr.fieldAt, run_underlying hu, Array.getElem?_eq_getElem hlt, ex, Instr.sureAddr, fieldPlace, (G.ty _ _ hTu).run_sizeOf, Nat.pos_iff_ne_zero.1 hpos, ← ho1, addr_add]
      cases hx : opd st .ptr x with
      | none => simp [hT, hx] at he
      | some vx =>
        obtain ⟨cs, hcs, ex⟩ := opd_sound hi hx
        cases hcs with
        | pnil => simp [hT, hx] at he
        | ptr h1 h2 h3 h4 =>
          rename_i ob i b off p ty u
          simp only [hT, hx] at he
          cases hl : lookTy st.os ob (i :: p) with
          | none => simp [hl] at he
          | some u2 =>
            cases hf : fieldOff fs f with
            | none => simp [hl, hf] at he
            | some y =>
              obtain ⟨off', t⟩ := y
              simp only [hl, hf] at he
              split at he
              · rename_i hb
                obtain rfl := Ty.eq_of_beq _ _ hb
                simp only [Option.some.injEq] at he
                subst he
                obtain ⟨ty', i', q', off2, b', hp, hat, hr⟩ := lookTy_sound hi.os hl
                injection hp with hp1 hp2
                subst hp1 hp2
                rw [h1] at hr; injection hr with hr; injection hr with hr1 hr2
                subst hr1 hr2
                rw [h4] at hat; injection hat with hat; injection hat with hat1 hat2
                subst hat1 hat2
                have ex' : a.eval x = .pointer (some ⟨b, i * ty.size + off, none⟩) := by simpa [ofCells, Ty.isAgg] using ex
                refine Owed.pure hi hs (run _ _ _ _ hf ex') ?_
                refine ⟨_, VR.ptr (off := off + off') (u := t) h1 h2 h3 (at_append h4 (by simpa [Ty.sub] using hf)), ?_⟩
                simp [ofCells, Ty.isAgg, Nat.add_assoc]
              · simp at he
        | cp h1 h2 h3 h4 h5 =>
          rename_i b off n ow u2 cs2 v2
          simp only [hT, hx] at he
          cases hf : fieldOff fs f with
          | none => simp [hf] at he
          | some y =>
            obtain ⟨off', t⟩ := y
            cases hg : v2.get [f] with
            | none => simp [hf, hg] at he
            | some y =>
              simp only [hf, hg] at he
              split at he
              · rename_i hb
                obtain rfl := Ty.eq_of_beq _ _ hb
                simp only [Option.some.injEq] at he
                subst he
                have ex' : a.eval x = .pointer (some ⟨b, off, none⟩) := by simpa [ofCells, Ty.isAgg] using ex
                refine Owed.pure hi hs (run _ _ _ _ hf ex') ⟨_, cp_step h1 h2 h3 h4 h5 (by simpa [Ty.sub] using hf) hg, ?_⟩
                simp [ofCells, Ty.isAgg]
              · simp at he
    | _ => cases opd st .ptr x <;> simp [hT] at he
end
end Go.Vm
