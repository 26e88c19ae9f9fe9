/- Append, and bytes from and to texts. -/
import Derived.Test.YtjbehmedbefbpaaGreatVmOpsH
import Derived.Laws.BytesArg
set_option linter.unusedVariables false
set_option linter.unusedSimpArgs false
namespace Go.Vm
open Go

section
variable {P : Program} {cx : Cx} {g : Gh} {w : World} {st st' : St} {a : Act} {o : Oper}

theorem elems_sound {os : List Ob} {e : Nat} {u : Ty} {v : V} {ys : List V} {x : Value} (hs : SR cx.T g w os) (hT : cx.T e = some u) (he : elems os v = some ys) (hx : ValR cx.T g w (.sl e) v x) :
    ∃ ds, VRs cx.T g w (List.replicate ys.length u) ds ys ∧ (Builtin.lenOf x).run P w = .ok ys.length w ∧ (∀ w', w'.heap = w.heap → (Builtin.firstCells u.size ys.length x).run P w' = .ok ds.toArray w') ∧
      ((x = .slice none 0 0 ∧ ds = []) ∨ ∃ b off len cap, x = .slice (some ⟨b, off, none⟩) len cap ∧ len = ys.length ∧ (0 < len → Has w b off ds)) := by
  obtain ⟨cs, hcs, rfl⟩ := hx
  have cell_eq : ∀ (w' : World), w'.heap = w.heap → ∀ {b off : Nat} {cs : List Value}, Has w b off cs → Has w' b off cs := by
    intro w' hw b off cs h
    exact h.mono (Nat.le_refl _) fun i _ => cell_of_heap (by rw [hw])
  cases hcs with
  | snil =>
    simp only [elems, Option.some.injEq] at he
    subst he
    exact ⟨[], .nil, by simp [ofCells, Ty.isAgg, Builtin.lenOf], fun w' _ => by simp [ofCells, Ty.isAgg, Builtin.firstCells], .inl ⟨by simp [ofCells, Ty.isAgg], rfl⟩⟩
  | @sl _ b off len cap n ow ty cs ff vs h1 h2 h3 h4 h5 h6 h7 h8 h9 =>
    simp only [elems, Option.some.injEq] at he
    subst he
    rw [hT] at h1; injection h1 with h1; subst h1
    subst h7
    refine ⟨cs, h8, by simp [ofCells, Ty.isAgg, Builtin.lenOf], fun w' hw => ?_, .inr ⟨b, off, vs.length, cap, by simp [ofCells, Ty.isAgg], rfl, fun _ => h6⟩⟩
    have hl := h8.len
    rw [sizes_replicate] at hl
    have := run_loadCells (P := P) (cell_eq w' hw h6)
    rw [hl] at this
    simp [ofCells, Ty.isAgg, Builtin.firstCells, this]
  | @rw _ ob b off aoff len cap ty h1 h2 h3 h4 h5 h6 =>
    rw [hT] at h1; injection h1 with h1; subst h1
    simp only [elems] at he
    cases hob : os[ob]? with
    | none => simp [hob] at he
    | some z =>
      cases z with
      | dead => simp [hob] at he
      | mapo k e es => simp [hob] at he
      | row ty vs own =>
        simp only [hob] at he
        split at he
        · rename_i hle
          simp only [Option.some.injEq] at he
          obtain ⟨b', c, et, fr, cs, sp, k1, k2, k3, k4, k5, k6, k7, k8⟩ := hs.ob ob _ hob
          rw [h2] at k1; injection k1 with k1; injection k1 with k1 k1'; subst k1 k1'
          have hcut := vrs_cut k7 (l := off) (h := off + len) (by omega) hle
          have e1 : off + len - off = len := by omega
          rw [e1, List.drop_take, e1, he] at hcut
          have hyl : ys.length = len := by rw [← he, List.length_take, List.length_drop]; omega
          rw [hyl]
          have hh : Has w b 0 cs := has_of_list k4 (pre := []) (by simpa using k6)
          have hh2 := has_take (k := off * u.size) (n := len * u.size) hh
          rw [Nat.zero_add] at hh2
          refine ⟨_, hcut, by simp [ofCells, Ty.isAgg, Builtin.lenOf], fun w' hw => ?_, .inr ⟨b, aoff, len, cap, by simp [ofCells, Ty.isAgg], rfl, fun hp => by rw [h6 (by omega)]; exact hh2⟩⟩
          have hl := hcut.len
          rw [sizes_replicate] at hl
          by_cases hz : len = 0
          · subst hz
            have : (List.take (0 * u.size) (List.drop (off * u.size) cs)) = [] := by simp
            rw [this]
            simp [ofCells, Ty.isAgg, Builtin.firstCells, loadCells, loadCellsFrom]
          · have e2 := h6 (by omega)
            subst e2
            have := run_loadCells (P := P) (cell_eq w' hw hh2)
            rw [hl] at this
            simp [ofCells, Ty.isAgg, Builtin.firstCells, this]
        · simp at he

theorem byte_of {n : Int} (h0 : 0 ≤ n) (h1 : n < 256) : ((UInt8.ofNat n.toNat).toNat : Int) = n := by
  rw [UInt8.toNat_ofNat']
  omega

theorem ofSbs_sound (F : Facts cx) : ∀ {l : List SB} {ys : List V}, ofSbs cx l = some ys → VRs cx.T g w (List.replicate ys.length (.int .u8)) ((denS cx.T l).map fun b => Value.int .u8 b.toNat) ys ∧ ys.length = (denS cx.T l).length
  | [], ys, h => by
    simp only [ofSbs, Option.some.injEq] at h
    subst h
    exact ⟨.nil, rfl⟩
  | b :: l, ys, h => by
    simp only [ofSbs] at h
    split at h
    · rename_i v hv
      split at h
      · rename_i r hr
        injection h with h
        subst h
        obtain ⟨h1, h2⟩ := ofSbs_sound F hr
        cases b with
        | kn b =>
          simp only [ofSb, Option.some.injEq] at hv
          subst hv
          refine ⟨?_, by simp [denS, SB.den, h2]⟩
          simp only [List.length_cons, List.replicate_succ, denS, SB.den, List.map_append, List.map_cons, List.map_nil]
          exact .cons (.i .u8 b.toNat) h1
        | nu e =>
          simp only [ofSb] at hv
          split at hv
          · rename_i hz
            injection hv with hv
            subst hv
            obtain ⟨z0, z1⟩ := F.Z e hz
            refine ⟨?_, by simp [denS, SB.den, h2]⟩
            simp only [List.length_cons, List.replicate_succ, denS, SB.den, List.map_append, List.map_cons, List.map_nil]
            rw [byte_of z0 z1]
            exact .cons (.ix .u8 e) h1
          · simp at hv
        | gr k => simp [ofSb] at hv
      · simp at h
    · simp at h

theorem vBytes_cells : ∀ {n : Nat} {ds : List Value} {vs : List V} {l : List UInt8}, VRs cx.T g w (List.replicate n (.int .u8)) ds vs → vBytes vs = some l →
    ∃ ns : List Int, ds = ns.map (Value.int .u8) ∧ ns.map (fun n => UInt8.ofNat n.toNat) = l
  | 0, ds, vs, l, h, hb => by
    cases h
    simp only [vBytes, Option.some.injEq] at hb
    subst hb
    exact ⟨[], rfl, rfl⟩
  | n + 1, ds, vs, l, h, hb => by
    rw [List.replicate_succ] at h
    cases h with
    | @cons _ _ c cs v vs h1 h2 =>
      cases h1 with
      | i k m =>
        simp only [vBytes, vByte] at hb
        split at hb
        · rename_i b bs e1 e2
          simp only [Option.some.injEq] at hb
          obtain ⟨ns, q1, q2⟩ := vBytes_cells h2 e2
          split at e1
          · simp only [Option.some.injEq] at e1
            subst e1 hb q1
            exact ⟨m :: ns, rfl, by simp [q2]⟩
          · simp at e1
        · simp at hb
      | ix k m => simp [vBytes, vByte] at hb

/-- bytes become a text -/
theorem toText_core {s t : Nat} {x : Operand} {e : Nat} {vs : List V} {ds : List Value} {ns : List Int} {l : List UInt8} {v : V} (hop : o.op = .convert s t x) (hi : Inv cx.T g w st a) (hs : st.set o.dst (.one .str v false) = some st')
    (hs1 : P.underlying s = some (.slice e)) (hd1 : P.underlying t = some .string) (he1 : P.underlying e = some (.int .u8)) (q3 : ∀ w', w'.heap = w.heap → (Builtin.firstCells (Ty.int .u8).size vs.length (a.eval x)).run P w' = .ok ds.toArray w')
    (n1 : ds = ns.map (Value.int .u8)) (n2 : ns.map (fun n => UInt8.ofNat n.toNat) = l) (hv : ∀ z : ByteArray, z.data.toList = l → ValR cx.T g w .str v (.string z))
    (q4 : (a.eval x = .slice none 0 0 ∧ ds = []) ∨ ∃ b off len cap, a.eval x = .slice (some ⟨b, off, none⟩) len cap ∧ len = vs.length ∧ (0 < len → Has w b off ds)) : Owed P cx g w st' a o := by
  rcases q4 with ⟨hx0, hd0⟩ | ⟨b, off, len, cap, hx0, hl, hh⟩
  · have hn : ns = [] := by
      rw [hd0] at n1
      cases ns with
      | nil => rfl
      | cons _ _ => simp at n1
    subst hn
    have hl0 : l = [] := by rw [← n2]; rfl
    subst hl0
    refine Owed.pure hi hs (val := .string .empty) ?_ (hv .empty rfl)
    simp [execOp, hop, hx0, Go.run_convert_bytes_string w s t e none 0 0 hs1 he1 hd1, Conv.bytesToString]
  · have hload : (loadCells ⟨b, off, none⟩ len).run P w = .ok (ns.map (Value.int .u8)).toArray w := by
      have := q3 w rfl
      rw [hx0] at this
      simp only [Builtin.firstCells, Ty.size, Nat.mul_one] at this
      rw [hl, this, n1]
    have hstr : ((ns.foldl (fun r n => r.push (UInt8.ofNat n.toNat)) ByteArray.empty)).data.toList = l := by
      rw [Go.foldl_push_bytes, ← n2]; simp [ByteArray.empty, ByteArray.emptyWithCapacity]; rfl
    refine Owed.pure hi hs (val := .string (ns.foldl (fun r n => r.push (UInt8.ofNat n.toNat)) ByteArray.empty)) ?_ (hv _ hstr)
    simp [execOp, hop, hx0, Go.run_convert_bytes_string w s t e (some ⟨b, off, none⟩) len cap hs1 he1 hd1, Go.run_bytesToString w ⟨b, off, none⟩ len cap ns hload]

theorem conv_owed (G : Good P cx) {s t : Nat} {x : Operand} {ty : Ty} {v : V} (hop : o.op = .convert s t x) (hi : Inv cx.T g w st a) (he : convEv cx st s t x = some (ty, v))
    (hs : st.set o.dst (.one ty v false) = some st') : Owed P cx g w st' a o := by
  unfold convEv at he
  split at he
  · rename_i k l hS hD
    have hs1 := (G.ty s _ hS).desc
    have hd1 := (G.ty t _ hD).desc
    simp only [DescOk] at hs1 hd1
    cases hx : opd st (.int k) x with
    | none => simp [hx] at he
    | some vx =>
      rcases valR_int (opd_sound hi hx) with ⟨n, rfl, ex⟩ | ⟨e, rfl, ex⟩
      case inr => simp [hx] at he
      simp only [hx, Option.some.injEq, Prod.mk.injEq, wrapF_eq] at he
      obtain ⟨rfl, rfl⟩ := he
      exact Owed.pure hi hs (val := .int l (l.wrap n)) (by simp [execOp, hop, convert, run_underlying hs1, run_underlying hd1, ex, Conv.intToInt]) (.int _ _)
  · rename_i hS hD
    have hs1 := (G.ty s _ hS).desc
    have hd1 := (G.ty t _ hD).desc
    simp only [DescOk] at hs1 hd1
    cases hx : opd st .str x with
    | none => simp [hx] at he
    | some vx =>
      simp only [hx, Option.some.injEq, Prod.mk.injEq] at he
      obtain ⟨rfl, rfl⟩ := he
      have hv := opd_sound hi hx
      have ⟨z, ex⟩ : ∃ z, a.eval x = .string z := by
        rcases valR_str hv with ⟨z, _, ex⟩ | ⟨z, _, _, ex, _⟩
        · exact ⟨z, ex⟩
        · exact ⟨z, ex⟩
      exact Owed.pure hi hs (val := a.eval x) (by simp [execOp, hop, convert, run_underlying hs1, run_underlying hd1, ex]) hv
  · rename_i e hS hD
    have hs1 := (G.ty s _ hS).desc
    have hd1 := (G.ty t _ hD).desc
    simp only [DescOk] at hs1 hd1
    cases hTe : cx.T e with
    | none => simp [hTe] at he
    | some ue =>
      cases hx : opd st (.sl e) x with
      | none => cases ue <;> simp [hTe, hx] at he
      | some vx =>
        by_cases hu : ue = .int .u8
        · subst hu
          simp only [hTe, hx] at he
          cases hel : elems st.os vx with
          | none => simp [hel] at he
          | some vs =>
            cases hb : vBytes vs with
            | none => simp [hel, hb] at he
            | some l =>
              simp only [hel, hb, Option.some.injEq, Prod.mk.injEq] at he
              obtain ⟨rfl, rfl⟩ := he
              have he1 := (G.ty e _ hTe).desc
              simp only [DescOk] at he1
              obtain ⟨ds, q1, q2, q3, q4⟩ := elems_sound (P := P) hi.os hTe hel (opd_sound hi hx)
              obtain ⟨ns, n1, n2⟩ := vBytes_cells q1 hb
              exact toText_core hop hi hs hs1 hd1 he1 q3 n1 n2 (fun z hz => ⟨[.string z], by rw [← hz]; exact .s _, by simp [ofCells, Ty.isAgg]⟩) q4
        · exfalso
          cases ue <;> simp [hTe, hx] at he
          rename_i k
          cases k <;> simp at he hu
  · simp at he

theorem vrs_bytes : ∀ (l : List UInt8), VRs cx.T g w (List.replicate (l.map byteV).length (.int .u8)) (l.map fun b => Value.int .u8 b.toNat) (l.map byteV)
  | [] => .nil
  | b :: l => by
    simp only [List.map_cons, List.length_cons, List.replicate_succ]
    exact .cons (c := [.int .u8 b.toNat]) (.i .u8 b.toNat) (vrs_bytes l)

/-- a text becomes bytes, of its own -/
theorem toBytes_core (G : Good P cx) {s t : Nat} {x : Operand} {e : Nat} {z : ByteArray} {vs : List V} (hop : o.op = .convert s t x) (hi : Inv cx.T g w st a) (hs1 : P.underlying s = some .string) (hd1 : P.underlying t = some (.slice e)) (he1 : P.underlying e = some (.int .u8)) (hTe : cx.T e = some (.int .u8))
    (ex : a.eval x = .string z) (hvs : VRs cx.T g w (List.replicate vs.length (.int .u8)) (z.data.toList.map fun b => Value.int .u8 b.toNat) vs) (hlen : vs.length = z.size) (hs : st.set o.dst (.one (.sl e) (.sl false vs) true) = some st') : Owed P cx g w st' a o := by
  have hz : z.size = z.data.toList.length := rfl
  let cap := (Question.appendCap z.size 0 e).cut (w.tape w.drawn (.appendCap z.size 0 e))
  have hcap : z.size ≤ cap := by show _ ≤ _ + _; omega
  let c : Array Value := z.data.map (fun b => Value.int .u8 b.toNat) ++ Array.replicate (cap - z.size) (.int .u8 0)
  have hcs : c.size = cap := by
    simp only [c, Array.size_append, Array.size_map, Array.size_replicate]
    have : z.data.size = z.size := rfl
    omega
  let w1 : World := { (w.drew.alloc (.cells c e (cap, cap + 1))) with heap := w.heap.push (.cells c e (cap, cap + 1)) }
  obtain ⟨g1, i1, i2, i3, i4⟩ := hi.newRow (w1 := w1) (c := c) (et := e) (fr := (cap, cap + 1)) rfl rfl rfl (by intro j hj; simp only; omega) hTe (cs := z.data.toList.map fun b => Value.int .u8 b.toNat)
    (sp := List.replicate (cap - z.size) (.int .u8 0)) (vs := vs) (cap := cap) (f := false) (by simp) (by simp [c]) hvs (by rw [hcs]; simp [Ty.size]) (by simp [Ty.size]) (.slot (o.dst.getD 0))
  rw [hlen] at i3 i4
  refine Owed.value (g' := g1) (w' := w1) (val := .slice (some ⟨w.heap.size, 0, none⟩) z.size cap) ?_ i1 hs ?_ i2
  · have hq : (Question.appendCap z.size 0 e).forced = false := rfl
    have hfz : ∀ (w2 : World), w2.heap = w.heap.push (.cells c e (0, 0)) → w2.freeze ⟨w.heap.size, c.size, none⟩ 1 = { w2 with heap := w.heap.push (.cells c e (c.size, c.size + 1)) } := by
      intro w2 hw
      simp only [World.freeze, Nat.succ_ne_zero, if_false, hw]
      congr 1
      apply Array.ext_getElem?
      intro i
      rw [Array.getElem?_modify]
      by_cases hi2 : w.heap.size = i
      · subst hi2; simp
      · simp only [hi2, if_false, Array.getElem?_push]
        split
        · rename_i h; exact absurd h.symm hi2
        · rfl
    have h1 : (choose (.appendCap z.size 0 e)).run P w = .ok cap w.drew := by
      simp only [choose, Sem.run, hq, Bool.false_eq_true, if_false]; rfl
    have h2 : (Go.newRow e c).run P w.drew = .ok ⟨w.heap.size, 0, none⟩ (w.drew.alloc (.cells c e (0, 0))) := rfl
    have h3 : (w.drew.alloc (.cells c e (0, 0))).shape? w.heap.size = some (e, c.size) := by
      simp only [World.shape?]
      rw [show (w.drew.alloc (.cells c e (0, 0))).heap[w.heap.size]? = some (.cells c e (0, 0)) from heap_alloc_new (w := w.drew)]
    have h4 : (Go.markStringish ⟨w.heap.size, 0, none⟩).run P (w.drew.alloc (.cells c e (0, 0))) = .ok () w1 := by
      have h5 : (shape w.heap.size).run P (w.drew.alloc (.cells c e (0, 0))) = .ok (some (e, c.size)) (w.drew.alloc (.cells c e (0, 0))) := by
        simp only [shape, Sem.run, h3]
      simp only [Go.markStringish, Sem.run_bind, h5, Result.andThen_ok, freeze, Sem.run]
      rw [hfz _ rfl, hcs]
      rfl
    have : (convert s t (a.eval x)).run P w = .ok (.slice (some ⟨w.heap.size, 0, none⟩) z.size cap) w1 := by
      simp only [ex, convert, Sem.run_bind, run_underlying hs1, run_underlying hd1, run_underlying he1, Result.andThen_ok, Conv.stringToBytes, h1]
      rw [show (z.data.map (fun b => Value.int .u8 b.toNat) ++ Array.replicate (cap - z.size) (.int .u8 0)) = c from rfl]
      simp only [h2, Result.andThen_ok, h4, Sem.run_pure]
    simp only [execOp, hop, Sem.run_bind, this, Result.andThen_ok, Sem.run_pure]
  · intro d hd'
    refine ⟨i3, fun _ => ?_⟩
    rw [hd'] at i4
    exact i4

theorem convOwn_owed (G : Good P cx) {s t : Nat} {x : Operand} {ty : Ty} {v : V} (hop : o.op = .convert s t x) (hi : Inv cx.T g w st a) (he : convOwn cx st s t x = some (ty, v))
    (hs : st.set o.dst (.one ty v true) = some st') : Owed P cx g w st' a o := by
  unfold convOwn at he
  split at he
  · rename_i e hS hD
    have hs1 := (G.ty s _ hS).desc
    have hd1 := (G.ty t _ hD).desc
    simp only [DescOk] at hs1 hd1
    cases hTe : cx.T e with
    | none => simp [hTe] at he
    | some ue =>
      cases hx : opd st .str x with
      | none => cases ue <;> simp [hTe, hx] at he
      | some vx =>
        by_cases hu : ue = .int .u8
        · subst hu
          rcases valR_str (opd_sound hi hx) with ⟨z, rfl, ex⟩ | ⟨z, l, rfl, ex, -⟩
          case inr => simp [hTe, hx] at he
          simp only [hTe, hx, Option.some.injEq, Prod.mk.injEq] at he
          obtain ⟨rfl, rfl⟩ := he
          have he1 := (G.ty e _ hTe).desc
          simp only [DescOk] at he1
          exact toBytes_core G hop hi hs1 hd1 he1 hTe ex (vrs_bytes _) (by rw [List.length_map]; rfl) hs
        · exfalso
          cases ue <;> simp [hTe, hx] at he
          rename_i k
          cases k <;> simp at he hu
  · simp at he

theorem srcEv_sound (G : Good P cx) (hi : Inv cx.T g w st a) {e u : Nat} {ue : Ty} {x : Operand} {ys : List V} (hT : cx.T e = some ue) (he : srcEv cx st e u x = some ys) :
    ∃ ds d, VRs cx.T g w (List.replicate ys.length ue) ds ys ∧ (Builtin.lenOf (a.eval x)).run P w = .ok ys.length w ∧ (∀ w', w'.heap = w.heap → (Builtin.firstCells ue.size ys.length (a.eval x)).run P w' = .ok ds.toArray w') ∧
      P.underlying u = some d ∧ ((∃ e', d = .slice e') ∨ d = .string) := by
  unfold srcEv at he
  split at he
  · rename_i e' hu
    split at he
    · rename_i hee
      subst hee
      cases hx : opd st (.sl e') x with
      | none => simp [hx] at he
      | some v =>
        simp only [hx] at he
        obtain ⟨ds, q1, q2, q3, _⟩ := elems_sound (P := P) hi.os hT he (opd_sound hi hx)
        have hd := (G.ty u _ hu).desc
        simp only [DescOk] at hd
        exact ⟨ds, _, q1, q2, q3, hd, .inl ⟨_, rfl⟩⟩
    · simp at he
  · rename_i hu
    have hd := (G.ty u _ hu).desc
    simp only [DescOk] at hd
    rw [hT] at he
    cases hx : opd st .str x with
    | none => cases ue <;> simp [hx] at he
    | some v =>
      by_cases hue : ue = .int .u8
      · subst hue
        rcases valR_str (opd_sound hi hx) with ⟨z, rfl, ex⟩ | ⟨z, l, rfl, ex, hz⟩
        case inr =>
          simp only [hx] at he
          obtain ⟨q1, q2⟩ := ofSbs_sound (g := g) (w := w) G.facts he
          rw [← hz] at q1 q2
          refine ⟨_, _, q1, ?_, ?_, hd, .inr rfl⟩
          · rw [ex, q2]; rfl
          · intro w' _
            rw [ex, q2]
            have : z.extract 0 z.size = z := by
              apply ByteArray.ext; simp
            simp only [Builtin.firstCells, Sem.run_pure]
            rw [show z.data.toList.length = z.size from rfl, this]
            congr 1
            rw [← Array.toList_inj]; simp
        simp only [hx, Option.some.injEq] at he
        subst he
        refine ⟨_, _, vrs_bytes z.data.toList, ?_, ?_, hd, .inr rfl⟩
        · rw [ex, List.length_map]; rfl
        · intro w' _
          rw [ex, List.length_map]
          have : z.extract 0 z.size = z := by
            apply ByteArray.ext; simp
          simp only [Builtin.firstCells, Sem.run_pure]
          rw [show z.data.toList.length = z.size from rfl, this]
          congr 1
          rw [← Array.toList_inj]; simp
      · exfalso
        cases ue <;> simp [hx] at he
        rename_i k
        cases k <;> simp at he hue
  · simp at he

theorem takeOwn_sound {st1 : St} {e : Nat} {x : Operand} {v : V} (hi : Inv cx.T g w st a) (hx : opd st (.sl e) x = some v) (ht : takeOwn st (.sl e) x = some st1) (ow' : Owner) :
    ∃ g', g'.rho = g.rho ∧ Step g w g' w ∧ Inv cx.T g' w st1 a ∧ OwnV cx.T g' w ow' (.sl e) (a.eval x) ∧ st1.os.length = st.os.length ∧ (∀ b o, g.kind b = .obj o → g'.kind b = .obj o) := by
  cases x with
  | tmp t =>
    simp only [takeOwn] at ht
    cases hg : st.env.get t with
    | none => simp [hg] at ht
    | some ent =>
      cases ent with
      | tup l => simp [hg] at ht
      | un => simp [hg] at ht
      | one ty v' own =>
        have hty : ty = .sl e := by
          simp only [opd, hg] at hx
          split at hx
          · rename_i hb; exact Ty.eq_of_beq _ _ hb
          · simp at hx
        subst hty
        cases own with
        | true =>
          simp only [hg, Option.some.injEq] at ht
          subst ht
          obtain ⟨g', h1, h2, h3, h4, h5⟩ := hi.reown hg ow'
          exact ⟨g', h1, h2, h3, h4, rfl, h5⟩
        | false =>
          simp only [hg] at ht
          cases horg : getOrg st.orgs t with
          | no => simp [horg] at ht
          | slot s =>
            simp only [horg] at ht
            cases hg2 : st.env.get s with
            | none => simp [hg2] at ht
            | some ent2 =>
              cases ent2 with
              | tup l => simp [hg2] at ht
              | un => simp [hg2] at ht
              | one ty2 v2 own2 =>
                cases own2 with
                | false => simp [hg2] at ht
                | true =>
                  simp only [hg2] at ht
                  split at ht
                  · rename_i hb
                    obtain rfl := Ty.eq_of_beq _ _ hb
                    simp only [Option.some.injEq] at ht
                    subst ht
                    obtain ⟨g', h1, h2, h3, h4, h5⟩ := hi.reown hg2 ow'
                    have horg : a.tmps.getD s undef = a.tmps.getD t undef := hi.orgs _ (getOrg_mem horg (by simp))
                    rw [horg] at h4
                    exact ⟨g', h1, h2, h3, h4, rfl, h5⟩
                  · simp at ht
          | place ob p =>
            simp only [horg] at ht
            split at ht
            · rename_i hop
              cases hl : lookTy st.os ob p with
              | none => simp [hl] at ht
              | some u =>
                simp only [hl] at ht
                split at ht
                · rename_i hb
                  obtain rfl := Ty.eq_of_beq _ _ hb
                  simp only [Option.some.injEq] at ht
                  subst ht
                  have hpl : PlaceIs g w ob p (a.tmps.getD t undef) := hi.orgs _ (getOrg_mem horg (by simp))
                  obtain ⟨g', u, h1, h2, h3, h4, ⟨i, q, off, b, ty, hp, hr, hat⟩, h5⟩ := hi.reownPlace hop ow' hpl
                  refine ⟨g', h1, h2, h3, ?_, ?_, h5⟩
                  · obtain ⟨ty', i', q', off', b', hp', hat', hr'⟩ := lookTy_sound hi.os hl
                    rw [hp] at hp'; injection hp' with hp1 hp2; subst hp1 hp2
                    rw [hr] at hr'; injection hr' with hr'; injection hr' with hr1 hr2; subst hr1 hr2
                    rw [hat] at hat'; injection hat' with hat'; injection hat' with hat1 hat2; subst hat2
                    exact h4
                  · simp only [St.withOs]
                    unfold unown; split <;> simp
                · simp at ht
            · simp at ht
  | const c => simp [takeOwn] at ht
  | global i => simp [takeOwn] at ht
  | func f => simp [takeOwn] at ht
end
end Go.Vm
