/- Operations that leave memory alone: elements, cuts, loads. -/
import Derived.Test.YtjbehmedbefbpaaGreatVmOpsC
set_option linter.unusedVariables false
set_option linter.unusedSimpArgs false
namespace Go.Vm
open Go

section
variable {P : Program} {cx : Cx} {g : Gh} {w : World} {st st' : St} {a : Act} {o : Oper}

theorem vrs_elem {e : Ty} {n i : Nat} {cs : List Value} {vs : List V} {v : V} (h : VRs cx.T g w (List.replicate n e) cs vs) (hi : i < n) (hv : vs[i]? = some v) :
    VR cx.T g w e ((cs.drop (i * e.size)).take e.size) v ∧ i * e.size + e.size ≤ cs.length := by
  obtain ⟨v', h1, h2, h3⟩ := h.sub (fieldOff_replicate hi)
  rw [hv] at h1; injection h1 with h1; subst h1
  exact ⟨h2, h3⟩

theorem iaddr_owed (G : Good P cx) {t : Nat} {x ix : Operand} {v : V} (hop : o.op = .indexAddr t x ix) (hi : Inv cx.T g w st a) (he : iaddrEv cx st t x ix = some v)
    (hs : st.set o.dst (.one .ptr v false) = some st') : Owed P cx g w st' a o := by
  unfold iaddrEv at he
  cases hT : cx.T t with
  | none => simp [hT] at he
  | some u =>
    cases hix : opi st ix with
    | none => cases u <;> simp [hT, hix] at he
    | some kn =>
      obtain ⟨k, n⟩ := kn
      have eix := opi_sound hi hix
      have hd := (G.ty t _ hT).desc
      cases u with
      | sl e =>
        simp only [DescOk] at hd
        simp only [hT, hix] at he
        cases hTe : cx.T e with
        | none => simp [hTe] at he
        | some u =>
          have run : ∀ b off len cap, a.eval x = .slice (some ⟨b, off, none⟩) len cap → 0 ≤ n → n < (len : Int) →
              (execOp a.eval o).run P w = .ok (.value (.pointer (some ⟨b, off + n.toNat * u.size, none⟩))) w := by
            intro b off len cap ex h0 h1
            simp [execOp, hop, Instr.indexAt, eix, asIntOf, run_underlying hd, ex, h0, h1, (G.ty _ _ hTe).run_sizeOf, addr_add]
          cases hx : opd st (.sl e) x with
          | none => simp [hTe, hx] at he
          | some vx =>
            obtain ⟨cs, hcs, ex⟩ := opd_sound hi hx
            cases hcs with
            | snil => simp [hTe, hx] at he
            | @sl _ b off len cap n0 ow ty cs fl vs h1 h2 h3 h4 h5 h6 h7 h8 h9 =>
              simp only [hTe, hx] at he
              split at he
              · rename_i h0
                cases hk : vs[n.toNat]? with
                | none => simp [hk] at he
                | some y =>
                  simp only [hk, Option.some.injEq] at he
                  subst he
                  rw [hTe] at h1; injection h1 with h1; subst h1
                  have hlt : n.toNat < len := by rw [← h7]; exact (List.getElem?_eq_some_iff.1 hk).1
                  obtain ⟨a1, a2⟩ := vrs_elem h8 hlt hk
                  have hle : n.toNat * u.size + u.size ≤ len * u.size := by
                    have : (n.toNat + 1) * u.size ≤ len * u.size := Nat.mul_le_mul_right _ hlt
                    rwa [Nat.succ_mul] at this
                  have ex' : a.eval x = .slice (some ⟨b, off, none⟩) len cap := by simpa [ofCells, Ty.isAgg] using ex
                  refine Owed.pure hi hs (run b off len cap ex' h0 (by omega)) ⟨_, .cp h2 h3 (by omega) (has_take h6) a1, ?_⟩
                  simp [ofCells, Ty.isAgg]
              · simp at he
            | @rw _ ob b off aoff len cap ty h1 h2 h3 h4 h5 h6 =>
              simp only [hTe, hx] at he
              split at he
              · rename_i h0
                simp only [Option.some.injEq] at he
                subst he
                rw [hTe] at h1; injection h1 with h1; subst h1
                have ex' : a.eval x = .slice (some ⟨b, aoff, none⟩) len cap := by simpa [ofCells, Ty.isAgg] using ex
                refine Owed.pure hi hs (run b _ len cap ex' h0.1 h0.2) ⟨_, VR.ptr (off := 0) (u := u) h2 h3 h4 rfl, ?_⟩
                rw [h6 (by omega)]
                simp [ofCells, Ty.isAgg, Nat.add_mul]
              · simp at he
      | ar m e =>
        obtain ⟨et, hu, hTe⟩ := hd
        simp only [hT, hix] at he
        split at he
        · rename_i h0
          have run : ∀ b off, a.eval x = .pointer (some ⟨b, off, none⟩) → (execOp a.eval o).run P w = .ok (.value (.pointer (some ⟨b, off + n.toNat * e.size, none⟩))) w := by
            intro b off ex
            simp [execOp, hop, Instr.indexAt, eix, asIntOf, run_underlying hu, ex, h0.1, h0.2, (G.ty _ _ hTe).run_sizeOf, addr_add, Instr.sureAddr]
          have hsub : (Ty.ar m e).sub n.toNat = some (n.toNat * e.size, e) := by
            have : n.toNat < m := by omega
            simp [Ty.sub, this]
          cases hx : opd st .ptr x with
          | none => simp [hx] at he
          | some vx =>
            obtain ⟨cs, hcs, ex⟩ := opd_sound hi hx
            cases hcs with
            | pnil => simp [hx] at he
            | @ptr ob i b off p ty u h1 h2 h3 h4 =>
              simp only [hx] at he
              cases hl : lookTy st.os ob (i :: p) with
              | none => simp [hl] at he
              | some u2 =>
                simp only [hl] at he
                split at he
                · rename_i hb
                  obtain rfl := Ty.eq_of_beq _ _ hb
                  simp only [Option.some.injEq] at he
                  subst he
                  obtain ⟨ty', i', q', off2, b', hp, hat, hr⟩ := lookTy_sound hi.os hl
                  injection hp with hp1 hp2
                  subst hp1 hp2
                  rw [h1] at hr; injection hr with hr; injection hr with hr1 hr2
                  subst hr1 hr2
                  rw [h4] at hat; injection hat with hat; injection hat with hat1 hat2
                  subst hat1 hat2
                  have ex' : a.eval x = .pointer (some ⟨b, i * ty.size + off, none⟩) := by simpa [ofCells, Ty.isAgg] using ex
                  refine Owed.pure hi hs (run _ _ ex') ⟨_, VR.ptr (off := off + n.toNat * e.size) (u := e) h1 h2 h3 (at_append h4 hsub), ?_⟩
                  simp [ofCells, Ty.isAgg, Nat.add_assoc]
                · simp at he
            | @cp b off n0 ow u2 cs2 v2 h1 h2 h3 h4 h5 =>
              simp only [hx] at he
              split at he
              · rename_i hb
                obtain rfl := Ty.eq_of_beq _ _ hb
                cases hg : v2.get [n.toNat] with
                | none => simp [hg] at he
                | some y =>
                  simp only [hg, Option.some.injEq] at he
                  subst he
                  have ex' : a.eval x = .pointer (some ⟨b, off, none⟩) := by simpa [ofCells, Ty.isAgg] using ex
                  refine Owed.pure hi hs (run _ _ ex') ⟨_, cp_step h1 h2 h3 h4 h5 hsub hg, ?_⟩
                  simp [ofCells, Ty.isAgg]
              · simp at he
        · simp at he
      | _ => simp [hT, hix] at he

/-- the bounds of a cut -/
theorem bounds_run {isSlice : Bool} {len cap : Nat} {lo hi : Option Operand} {l h : Nat} (hv : Inv cx.T g w st a) (hb : bounds st len lo hi = some (l, h)) (hc : len ≤ cap) :
    (Instr.sliceBounds isSlice len cap (lo.map a.eval) (hi.map a.eval) none).run P w = .ok (l, h, cap) w ∧ l ≤ h ∧ h ≤ len := by
  have lo_run : ∀ (x : Option Operand) (n : Int), (match x with | none => some (0 : Int) | some l => (opi st l).map (·.2)) = some n → (x = none ∧ n = 0) ∨ ∃ y k, x = some y ∧ a.eval y = .int k n := by
    intro x n hx
    cases x with
    | none => simp only [Option.some.injEq] at hx; exact .inl ⟨rfl, hx.symm⟩
    | some y =>
      cases ho : opi st y with
      | none => simp [ho] at hx
      | some kn =>
        obtain ⟨k, m⟩ := kn
        simp only [ho, Option.map_some, Option.some.injEq] at hx
        subst hx
        exact .inr ⟨y, k, rfl, opi_sound hv ho⟩
  have hi_run : ∀ (x : Option Operand) (n : Int), (match x with | none => some (len : Int) | some l => (opi st l).map (·.2)) = some n → (x = none ∧ n = len) ∨ ∃ y k, x = some y ∧ a.eval y = .int k n := by
    intro x n hx
    cases x with
    | none => simp only [Option.some.injEq] at hx; exact .inl ⟨rfl, hx.symm⟩
    | some y =>
      cases ho : opi st y with
      | none => simp [ho] at hx
      | some kn =>
        obtain ⟨k, m⟩ := kn
        simp only [ho, Option.map_some, Option.some.injEq] at hx
        subst hx
        exact .inr ⟨y, k, rfl, opi_sound hv ho⟩
  unfold bounds at hb
  split at hb
  · rename_i hn ln e1 e2
    split at hb
    · rename_i hc2
      simp only [Option.some.injEq, Prod.mk.injEq] at hb
      obtain ⟨rfl, rfl⟩ := hb
      refine ⟨?_, by omega, by omega⟩
      have b1 : ∀ (y : Operand) (k : IntKind) (n : Int) (m : Nat) (code : BoundsCode), a.eval y = .int k n → 0 ≤ n → n ≤ m → (Instr.sliceBound (a.eval y) m code).run P w = .ok n.toNat w := by
        intro y k n m code ey h0 h1
        simp [Instr.sliceBound, ey, asIntOf, h0, h1]
      have hin : 0 ≤ hn ∧ hn ≤ (cap : Int) := by omega
      have hln : 0 ≤ ln ∧ ln ≤ (hn.toNat : Int) := by omega
      rcases hi_run hi hn e1 with ⟨rfl, rfl⟩ | ⟨y, k, rfl, ey⟩
      · rcases lo_run lo ln e2 with ⟨rfl, rfl⟩ | ⟨z, k2, rfl, ez⟩
        · simp [Instr.sliceBounds]
        · have := b1 z k2 ln len .sliceB ez hln.1 (by simpa using hln.2)
          simp [Instr.sliceBounds, this]
      · have h1 := b1 y k hn cap (if isSlice then .sliceAcap else .sliceAlen) ey hin.1 hin.2
        rcases lo_run lo ln e2 with ⟨rfl, rfl⟩ | ⟨z, k2, rfl, ez⟩
        · simp [Instr.sliceBounds, h1]
        · have h2 := b1 z k2 ln hn.toNat .sliceB ez hln.1 hln.2
          simp [Instr.sliceBounds, h1, h2]
    · simp at hb
  · simp at hb

theorem vrs_cut {e : Ty} {n l h : Nat} {cs : List Value} {vs : List V} (hv : VRs cx.T g w (List.replicate n e) cs vs) (hlh : l ≤ h) (hn : h ≤ n) :
    VRs cx.T g w (List.replicate (h - l) e) ((cs.drop (l * e.size)).take ((h - l) * e.size)) ((vs.take h).drop l) := by
  have drop : ∀ (l n : Nat) (cs : List Value) (vs : List V), VRs cx.T g w (List.replicate n e) cs vs → l ≤ n → VRs cx.T g w (List.replicate (n - l) e) (cs.drop (l * e.size)) (vs.drop l) := by
    intro l
    induction l with
    | zero => intro n cs vs hv _; simpa using hv
    | succ l ih =>
      intro n cs vs hv hl
      cases n with
      | zero => omega
      | succ n =>
        rw [List.replicate_succ] at hv
        cases hv with
        | @cons _ _ c cs v vs h1 h2 =>
          have := ih n cs vs h2 (by omega)
          rw [show (l + 1) * e.size = c.length + l * e.size by rw [h1.len, Nat.succ_mul]; omega, List.drop_length_add_append, List.drop_succ_cons, show n + 1 - (l + 1) = n - l by omega]
          exact this
  have take : ∀ (h n : Nat) (cs : List Value) (vs : List V), VRs cx.T g w (List.replicate n e) cs vs → h ≤ n → VRs cx.T g w (List.replicate h e) (cs.take (h * e.size)) (vs.take h) := by
    intro h
    induction h with
    | zero => intro n cs vs hv _; simpa using VRs.nil
    | succ h ih =>
      intro n cs vs hv hl
      cases n with
      | zero => omega
      | succ n =>
        rw [List.replicate_succ] at hv
        cases hv with
        | @cons _ _ c cs v vs h1 h2 =>
          have := ih n cs vs h2 (by omega)
          rw [show (h + 1) * e.size = c.length + h * e.size by rw [h1.len, Nat.succ_mul]; omega, List.take_length_add_append, List.take_succ_cons, List.replicate_succ]
          exact .cons h1 this
  have h1 := drop l h _ _ (take h n cs vs hv hn) hlh
  rw [List.drop_take, ← Nat.sub_mul] at h1
  exact h1

theorem slice_owed (G : Good P cx) {t : Nat} {x : Operand} {lo hi : Option Operand} {ty : Ty} {v : V} (hop : o.op = .slice t x lo hi none) (hv : Inv cx.T g w st a) (he : sliceEv cx st t x lo hi = some (ty, v))
    (hs : st.set o.dst (.one ty v false) = some st') : Owed P cx g w st' a o := by
  unfold sliceEv at he
  cases hT : cx.T t with
  | none => simp [hT] at he
  | some u =>
    have hd := (G.ty t _ hT).desc
    cases u with
    | str =>
      simp only [DescOk] at hd
      simp only [hT] at he
      cases hx : opd st .str x with
      | none => simp [hx] at he
      | some vx =>
        rcases valR_str (opd_sound hv hx) with ⟨s, rfl, ex⟩ | ⟨s, l, rfl, ex, -⟩
        case inr => simp [hx] at he
        simp only [hx] at he
        rw [show s.data.toList.length = s.size from rfl] at he
        cases hb : bounds st s.size lo hi with
        | none => simp [hb] at he
        | some lh =>
          obtain ⟨l, h⟩ := lh
          simp only [hb, Option.some.injEq, Prod.mk.injEq] at he
          obtain ⟨rfl, rfl⟩ := he
          obtain ⟨hr, h1, h2⟩ := bounds_run (P := P) (isSlice := false) (cap := s.size) hv hb (Nat.le_refl _)
          refine Owed.pure hv hs (val := .string (s.extract l h)) ?_ ⟨[.string (s.extract l h)], ?_, by simp [ofCells, Ty.isAgg]⟩
          · have hr' : (Instr.sliceBounds false s.size s.size (lo.map a.eval) (hi.map a.eval) none).run P w = .ok (l, h, s.size) w := hr
            simp [execOp, hop, Instr.sliceAt, Instr.slice, run_underlying hd, ex, hr']
          · have e2 : (s.extract l h).data.toList = (s.data.toList.take h).drop l := by
              simp [List.drop_take]
            rw [← e2]
            exact .s _
    | sl e =>
      simp only [DescOk] at hd
      simp only [hT] at he
      cases hx : opd st (.sl e) x with
      | none => simp [hx] at he
      | some vx =>
        obtain ⟨cs, hcs, ex⟩ := opd_sound hv hx
        have run : ∀ b len cap l h, a.eval x = .slice b len cap → bounds st len lo hi = some (l, h) → len ≤ cap → ∀ u, cx.T e = some u →
            (execOp a.eval o).run P w = .ok (.value (.slice (if cap = l then b else b.map (·.add (l * u.size))) (h - l) (cap - l))) w := by
          intro b len cap l h ex hb hc u hTe
          obtain ⟨hr, h1, h2⟩ := bounds_run (P := P) (isSlice := true) (cap := cap) hv hb hc
          simp [execOp, hop, Instr.sliceAt, Instr.slice, run_underlying hd, ex, hr, (G.ty _ _ hTe).run_sizeOf]
        cases hcs with
        | snil =>
          simp only [hx] at he
          cases hb : bounds st 0 lo hi with
          | none => simp [hb] at he
          | some lh =>
            obtain ⟨l, h⟩ := lh
            have he2 : ty = .sl e ∧ v = .snil := by
              cases hTe : cx.T e with
              | none => simp [hb, hTe] at he
              | some u => simp only [hb, hTe, Option.some.injEq, Prod.mk.injEq] at he; exact ⟨he.1.symm, he.2.symm⟩
            have hTe : cx.T e ≠ none := by
              intro h; simp [hb, h] at he
            obtain ⟨rfl, rfl⟩ := he2
            obtain ⟨hr, h1, h2⟩ := bounds_run (P := P) (isSlice := true) (cap := 0) hv hb (Nat.le_refl _)
            obtain ⟨i, hi1, _⟩ := (G.ty t _ hT).info
            have hl : l = 0 := by omega
            have hh : h = 0 := by omega
            subst hl hh
            cases hTe' : cx.T e with
            | none => exact absurd hTe' hTe
            | some u =>
              have ex' : a.eval x = .slice none 0 0 := by simpa [ofCells, Ty.isAgg] using ex
              exact Owed.pure hv hs (run none 0 0 0 0 ex' hb (Nat.le_refl _) u hTe') ⟨_, .snil e, by simp [ofCells, Ty.isAgg]⟩
        | @sl _ b off len cap n0 ow ty cs fl vs h1 h2 h3 h4 h5 h6 h7 h8 h9 =>
          simp only [hx] at he
          cases hb : bounds st vs.length lo hi with
          | none => simp [hb] at he
          | some lh =>
            obtain ⟨l, h⟩ := lh
            simp only [hb, Option.some.injEq, Prod.mk.injEq] at he
            obtain ⟨rfl, rfl⟩ := he
            rw [h7] at hb
            obtain ⟨_, c1, c2⟩ := bounds_run (P := P) (isSlice := true) (cap := cap) hv hb h5
            have ex' : a.eval x = .slice (some ⟨b, off, none⟩) len cap := by simpa [ofCells, Ty.isAgg] using ex
            have hcut := vrs_cut h8 c1 c2
            have hlen : ((vs.take h).drop l).length = h - l := by simp; omega
            have hm : l * ty.size + (h - l) * ty.size ≤ len * ty.size := by
              rw [← Nat.add_mul]; exact Nat.mul_le_mul_right _ (by omega)
            refine Owed.pure hv hs (run _ _ _ _ _ ex' hb h5 ty h1) ?_
            by_cases hcl : cap = l
            · have hz : h - l = 0 := by omega
              rw [hz] at hcut hlen
              refine ⟨[.slice (some ⟨b, off, none⟩) 0 (cap - l)], .sl h1 h2 h3 (by omega) (by omega) (cs := []) trivial hlen ?_ (by simp), ?_⟩
              · simpa using hcut
              · simp [ofCells, Ty.isAgg, hcl, hz]
            · refine ⟨_, .sl h1 h2 h3 (off := off + l * ty.size) (cap := cap - l) (by omega) (by omega) (has_take h6) hlen hcut (by simp), ?_⟩
              simp [ofCells, Ty.isAgg, hcl, addr_add]
        | @rw _ ob b off aoff len cap ty h1 h2 h3 h4 h5 h6 =>
          simp only [hx] at he
          cases hb : bounds st len lo hi with
          | none => simp [hb] at he
          | some lh =>
            obtain ⟨l, h⟩ := lh
            simp only [hb, Option.some.injEq, Prod.mk.injEq] at he
            obtain ⟨rfl, rfl⟩ := he
            obtain ⟨_, c1, c2⟩ := bounds_run (P := P) (isSlice := true) (cap := cap) hv hb h5
            have ex' : a.eval x = .slice (some ⟨b, aoff, none⟩) len cap := by simpa [ofCells, Ty.isAgg] using ex
            refine Owed.pure hv hs (run _ _ _ _ _ ex' hb h5 ty h1) ?_
            by_cases hcl : cap = l
            · refine ⟨_, .rw h1 h2 h3 h4 (aoff := aoff) (off := off + l) (len := h - l) (cap := cap - l) (by omega) (by omega), ?_⟩
              simp [ofCells, Ty.isAgg, hcl]
            · refine ⟨_, .rw h1 h2 h3 h4 (aoff := aoff + l * ty.size) (off := off + l) (len := h - l) (cap := cap - l) (by omega) (fun _ => by rw [h6 (by omega), Nat.add_mul]), ?_⟩
              simp [ofCells, Ty.isAgg, hcl, addr_add]
    | _ => simp [hT] at he

theorem slice3_owed (G : Good P cx) {t : Nat} {x mx : Operand} {lo hi : Option Operand} {ty : Ty} {v : V} (hop : o.op = .slice t x lo hi (some mx)) (hv : Inv cx.T g w st a) (he : slice3Ev cx st t x lo hi mx = some (ty, v))
    (hs : st.set o.dst (.one ty v false) = some st') : Owed P cx g w st' a o := by
  unfold slice3Ev at he
  cases hT : cx.T t with
  | none => simp [hT] at he
  | some u =>
    have hd := (G.ty t _ hT).desc
    cases u with
    | sl e =>
      simp only [DescOk] at hd
      simp only [hT] at he
      cases hTe : cx.T e with
      | none => simp [hTe] at he
      | some ue =>
        cases hm : opi st mx with
        | none => simp [hTe, hm] at he
        | some km =>
          obtain ⟨k, m⟩ := km
          have em := opi_sound hv hm
          simp only [hTe, hm] at he
          obtain ⟨hy, rfl⟩ : ∃ hy, hi = some hy := by
            cases hi with
            | none => simp at he
            | some y => exact ⟨y, rfl⟩
          simp only at he
          cases hx : opd st (.sl e) x with
          | none => simp [hx] at he
          | some vx =>
            obtain ⟨cs, hcs, ex⟩ := opd_sound hv hx
            -- the bounds
            have b1 : ∀ (y : Operand) (k : IntKind) (n : Int) (m : Nat) (code : BoundsCode), a.eval y = .int k n → 0 ≤ n → n ≤ m → (Instr.sliceBound (a.eval y) m code).run P w = .ok n.toNat w := by
              intro y k n m code ey h0 h1
              simp [Instr.sliceBound, ey, asIntOf, h0, h1]
            have run : ∀ b len cap l h, a.eval x = .slice b len cap → bounds st len lo (some hy) = some (l, h) → (h : Int) ≤ m → m ≤ (len : Int) → len ≤ cap →
                (execOp a.eval o).run P w = .ok (.value (.slice (if m.toNat = l then b else b.map (·.add (l * ue.size))) (h - l) (m.toNat - l))) w ∧ l ≤ h ∧ h ≤ len := by
              intro b len cap l h ex hb hhm hml hc
              have hmax := b1 mx k m cap .slice3Acap em (by omega) (by omega)
              -- high and low, against the bound
              unfold bounds at hb
              cases hoh : opi st hy with
              | none => simp [hoh] at hb
              | some kh =>
                obtain ⟨k2, hn⟩ := kh
                have eh := opi_sound hv hoh
                cases lo with
                | none =>
                  simp only [hoh, Option.map_some] at hb
                  split at hb
                  · rename_i hc2
                    simp only [Option.some.injEq, Prod.mk.injEq] at hb
                    obtain ⟨rfl, rfl⟩ := hb
                    have h2 := b1 hy k2 hn m.toNat .slice3B eh (by omega) (by omega)
                    refine ⟨?_, by omega, by omega⟩
                    simp [execOp, hop, Instr.sliceAt, Instr.slice, run_underlying hd, ex, Instr.sliceBounds, hmax, h2, (G.ty _ _ hTe).run_sizeOf]
                  · simp at hb
                | some ly =>
                  cases hol : opi st ly with
                  | none => simp [hoh, hol] at hb
                  | some kl =>
                    obtain ⟨k3, ln⟩ := kl
                    have el := opi_sound hv hol
                    simp only [hoh, hol, Option.map_some] at hb
                    split at hb
                    · rename_i hc2
                      simp only [Option.some.injEq, Prod.mk.injEq] at hb
                      obtain ⟨rfl, rfl⟩ := hb
                      have h2 := b1 hy k2 hn m.toNat .slice3B eh (by omega) (by omega)
                      have h3 := b1 ly k3 ln hn.toNat .slice3C el (by omega) (by omega)
                      refine ⟨?_, by omega, by omega⟩
                      simp [execOp, hop, Instr.sliceAt, Instr.slice, run_underlying hd, ex, Instr.sliceBounds, hmax, h2, h3, (G.ty _ _ hTe).run_sizeOf]
                    · simp at hb
            cases hcs with
            | snil =>
              simp only [hx] at he
              · cases hb : bounds st 0 lo (some hy) with
                | none => simp [hb] at he
                | some lh =>
                  obtain ⟨l, h⟩ := lh
                  simp only [hb] at he
                  split at he
                  · rename_i hm0
                    simp only [Option.some.injEq, Prod.mk.injEq] at he
                    obtain ⟨rfl, rfl⟩ := he
                    subst hm0
                    have ex' : a.eval x = .slice none 0 0 := by simpa [ofCells, Ty.isAgg] using ex
                    have hle : (h : Int) ≤ 0 := by
                      unfold bounds at hb
                      split at hb
                      · split at hb
                        · rename_i hc2
                          simp only [Option.some.injEq, Prod.mk.injEq] at hb
                          omega
                        · simp at hb
                      · simp at hb
                    obtain ⟨r1, r2, r3⟩ := run none 0 0 l h ex' hb (by omega) (by omega) (Nat.le_refl _)
                    have hl : l = 0 := by omega
                    have hh : h = 0 := by omega
                    subst hl hh
                    exact Owed.pure hv hs (val := .slice none 0 0) (by rw [r1]; simp) ⟨_, .snil e, by simp [ofCells, Ty.isAgg]⟩
                  · simp at he
            | @sl _ b off len cap n0 ow ty cs fl vs h1 h2 h3 h4 h5 h6 h7 h8 h9 =>
              rw [hTe] at h1; injection h1 with h1; subst h1
              simp only [hx] at he
              · cases hb : bounds st vs.length lo (some hy) with
                | none => simp [hb] at he
                | some lh =>
                  obtain ⟨l, h⟩ := lh
                  simp only [hb] at he
                  split at he
                  · rename_i hmm
                    simp only [Option.some.injEq, Prod.mk.injEq] at he
                    obtain ⟨rfl, rfl⟩ := he
                    rw [h7] at hb hmm
                    have ex' : a.eval x = .slice (some ⟨b, off, none⟩) len cap := by simpa [ofCells, Ty.isAgg] using ex
                    obtain ⟨r1, c1, c2⟩ := run _ _ _ _ _ ex' hb hmm.1 hmm.2 h5
                    have hcut := vrs_cut h8 c1 c2
                    have hlen : ((vs.take h).drop l).length = h - l := by simp; omega
                    have hm : l * ue.size + (h - l) * ue.size ≤ len * ue.size := by
                      rw [← Nat.add_mul]; exact Nat.mul_le_mul_right _ (by omega)
                    refine Owed.pure hv hs r1 ?_
                    by_cases hcl : m.toNat = l
                    · have hz : h - l = 0 := by omega
                      rw [hz] at hcut hlen
                      refine ⟨[.slice (some ⟨b, off, none⟩) 0 (m.toNat - l)], .sl hTe h2 h3 (by omega) (by omega) (cs := []) trivial hlen ?_ (by intro _; omega), ?_⟩
                      · simpa using hcut
                      · simp [ofCells, Ty.isAgg, hcl, hz]
                    · refine ⟨_, .sl hTe h2 h3 (off := off + l * ue.size) (cap := m.toNat - l) (by omega) (by omega) (has_take h6) hlen hcut (by intro hf; have := of_decide_eq_true hf; omega), ?_⟩
                      simp [ofCells, Ty.isAgg, hcl, addr_add]
                  · simp at he
            | rw => simp [hx] at he
    | _ => simp [hT] at he
end
end Go.Vm
