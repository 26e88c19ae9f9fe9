/- From the evaluator's answer to a row's last step. -/
import Derived.Test.YtjbehmedbefbpaaGreatVmGood
import Derived.ChangeSame
import Derived.WideShapes
set_option linter.unusedVariables false
set_option linter.unusedSimpArgs false
namespace Go.Vm
open Go Go.WideShapes Go.ChangeShapes

/-- nothing that was is otherwise -/
structure Kept (W W' : World) : Prop where
  os : W'.os = W.os
  output : W'.output = W.output
  heap : ∀ b, b < W.heap.size → W'.heap[b]? = W.heap[b]?

theorem Kept.but {W W' : World} (h : Kept W W') (may : MemPlace → Prop) : W.keptBut W' may := by
  refine ⟨h.os, h.output, fun i hi => ?_⟩
  rw [h.heap i hi]
  cases W.heap[i]? with
  | none => rfl
  | some b => cases b <;> first | exact ⟨rfl, rfl, rfl, fun _ _ => rfl⟩ | exact .inr ⟨rfl, rfl⟩ | rfl

theorem Kept.frozen {W W' : World} (h : Kept W W') {a : Addr} (ha : a.block < W.heap.size) : W'.frozen? a = W.frozen? a := by
  simp [World.frozen?, h.heap _ ha]

def allOther : Gh := { rho := fun _ => none, kind := fun _ => .other }

/-- a call that answers true, of values without a road to memory -/
theorem calls_true {P : Program} {cx : Cx} {f : Nat} {vs : List V} {own : Bool} {os' : List Ob} (h : CallOK P cx f vs [] (.one .bool (.b true) own) os') {vals : List Value} {w : World}
    (ha : ∀ ts, tys cx.T (((cx.F f).map (·.fn.params.toList)).getD []) = some ts → ArgsR cx.T allOther w ts vs vals) :
    Calls P f vals.toArray w fun e w' => e = .returned (.bool true) ∧ Kept w w' := by
  obtain ⟨i, ts, c, hF, hb, hts, H⟩ := h
  have ha' := ha ts (by rw [hF]; exact hts)
  refine (H allOther w vals ⟨fun o x hx => by simp at hx, fun _ _ => rfl⟩ ha' (fun b n t => by simp [allOther])).mono ?_
  rintro e w' ⟨g', v, rfl, ⟨hv, -⟩, -, hs⟩
  obtain ⟨b, hb, rfl⟩ := valR_bool hv
  injection hb with hb
  subst hb
  exact ⟨rfl, hs.os, hs.output, fun b hb => (hs.other b hb rfl).2⟩

section
variable {H : Type} {enc : TypeId × Value → H} {P : Program}

theorem post_of_kept {f : Func} {s : ChangeSpec} {apart fresh handsOn again : Bool} {W W' : World} {args : Array Value} {v : Value} {ds gs : List (DataW H)} {before pa pv : List MemPlace}
    (hW : DataW.Whole enc P f.params.toList s.vars apart W args.toList ds gs before)
    (hres : ∀ (b : Nat) (sp : Nat → Bool) (hd : Bool), DataW.TrodAll enc P W' b sp hd f.resultTypes.toList (v.resultList f.resultTypes.size) (s.fn H (ds ++ gs)).results [])
    (hargs : ∀ sp : Nat → Bool, (∀ p ∈ before, sp p.block = true) → DataW.TrodAll enc P W' 0 sp true f.params.toList args.toList (s.fn H (ds ++ gs)).args pa)
    (hvars : ∀ sp : Nat → Bool, (∀ p ∈ before, sp p.block = true) → DataW.TrodVars enc P W' sp s.vars (s.fn H (ds ++ gs)).vars pv)
    (hps : before = pa ++ pv) (hb : Kept W W')
    (hok : ∀ (j : Nat) (t : TypeId) (r : Value), f.resultTypes[j]? = some t → (v.resultList f.resultTypes.size)[j]? = some r → Value.okWide P W' .any 0 t r) :
    s.post enc P f apart fresh handsOn again W args v W' := by
  have hlt : ∀ p ∈ before, p.block < W.heap.size := fun p hp => hW.lt p hp
  have hold : ∀ p ∈ before, (fun b => decide (b < W.heap.size)) p.block = true := fun p hp => by simpa using hlt p hp
  refine ⟨ds, gs, before, [], pa, pv, hW, hres _ _ _, hargs _ hold, hvars _ hold, World.keptBut_mono (fun p hp => ⟨hp, ?_⟩) (hb.but (· ∈ before)), fun _ => ?_⟩
  · rw [hps, List.mem_append] at hp
    exact Or.inr hp
  · obtain ⟨_, _, _, _, _, hz, hn⟩ := hW
    refine ⟨hok, _, _, ([] ++ pa) ++ pv, ⟨[] ++ pa, pv, trodAll_append (hargs _ (fun _ _ => rfl)) (hres _ _ _), hvars _ (fun _ _ => rfl), rfl, ?_, ?_⟩, ?_⟩
    · intro b off hp
      have hin : MemPlace.cell b off ∈ before := by rw [hps]; simpa using hp
      rw [hb.frozen (hlt _ hin)]
      exact hz b off hin
    · intro ha
      have := hn ha
      rw [hps] at this
      simpa using this
    · intro p hp _
      rw [hps]
      simpa using hp
end
end Go.Vm
