/- The tables of this seat fit its program. Printed by gen.py. -/
import Derived.Test.YtjbehmedbefbpaaGreatVmTab
import Derived.Test.YtjbehmedbefbpaaGreatVmGood
import Derived.Test.YtjbehmedbefbpaaGreatVmExt
import Derived.Test.YtjbehmedbefbpaaGreatVmFacts
import Derived.KernelRfl
set_option linter.unusedVariables false
set_option linter.unusedSimpArgs false
namespace Go.Vm
open Go Go.Proofs

theorem tys_all : tyTree.all (tyB Tryz.prog tyTree.get (fun t => (byTree.get t).getD 0)) = true := by kernel_rfl
theorem eqs_all : eqTree.all (fun t _ => eqB Tryz.prog tyTree.get (fun t => (eqTree.get t).isSome) t) = true := by kernel_rfl
theorem names_all : fnTree.all (fun _ i => !(i.fn.name == "runtime.NumGoroutine")) = true := by kernel_rfl
set_option maxRecDepth 100000 in
theorem fns_all : fnTree.All (fun f i => Tryz.prog.funcs[f]? = some i.fn) :=
  ⟨Tryz.func91, ⟨Tryz.func45, ⟨Tryz.func22, ⟨Tryz.func11, ⟨Tryz.func5, ⟨Tryz.func2, ⟨Tryz.func1, ⟨Tryz.func0, trivial, trivial⟩, trivial⟩, ⟨Tryz.func4, ⟨Tryz.func3, trivial, trivial⟩, trivial⟩⟩, ⟨Tryz.func8, ⟨Tryz.func7, ⟨Tryz.func6, trivial, trivial⟩, trivial⟩, ⟨Tryz.func10, ⟨Tryz.func9, trivial, trivial⟩, trivial⟩⟩⟩, ⟨Tryz.func17, ⟨Tryz.func14, ⟨Tryz.func13, ⟨Tryz.func12, trivial, trivial⟩, trivial⟩, ⟨Tryz.func16, ⟨Tryz.func15, trivial, trivial⟩, trivial⟩⟩, ⟨Tryz.func20, ⟨Tryz.func19, ⟨Tryz.func18, trivial, trivial⟩, trivial⟩, ⟨Tryz.func21, trivial, trivial⟩⟩⟩⟩, ⟨Tryz.func34, ⟨Tryz.func28, ⟨Tryz.func25, ⟨Tryz.func24, ⟨Tryz.func23, trivial, trivial⟩, trivial⟩, ⟨Tryz.func27, ⟨Tryz.func26, trivial, trivial⟩, trivial⟩⟩, ⟨Tryz.func31, ⟨Tryz.func30, ⟨Tryz.func29, trivial, trivial⟩, trivial⟩, ⟨Tryz.func33, ⟨Tryz.func32, trivial, trivial⟩, trivial⟩⟩⟩, ⟨Tryz.func40, ⟨Tryz.func37, ⟨Tryz.func36, ⟨Tryz.func35, trivial, trivial⟩, trivial⟩, ⟨Tryz.func39, ⟨Tryz.func38, trivial, trivial⟩, trivial⟩⟩, ⟨Tryz.func43, ⟨Tryz.func42, ⟨Tryz.func41, trivial, trivial⟩, trivial⟩, ⟨Tryz.func44, trivial, trivial⟩⟩⟩⟩⟩, ⟨Tryz.func68, ⟨Tryz.func57, ⟨Tryz.func51, ⟨Tryz.func48, ⟨Tryz.func47, ⟨Tryz.func46, trivial, trivial⟩, trivial⟩, ⟨Tryz.func50, ⟨Tryz.func49, trivial, trivial⟩, trivial⟩⟩, ⟨Tryz.func54, ⟨Tryz.func53, ⟨Tryz.func52, trivial, trivial⟩, trivial⟩, ⟨Tryz.func56, ⟨Tryz.func55, trivial, trivial⟩, trivial⟩⟩⟩, ⟨Tryz.func63, ⟨Tryz.func60, ⟨Tryz.func59, ⟨Tryz.func58, trivial, trivial⟩, trivial⟩, ⟨Tryz.func62, ⟨Tryz.func61, trivial, trivial⟩, trivial⟩⟩, ⟨Tryz.func66, ⟨Tryz.func65, ⟨Tryz.func64, trivial, trivial⟩, trivial⟩, ⟨Tryz.func67, trivial, trivial⟩⟩⟩⟩, ⟨Tryz.func80, ⟨Tryz.func74, ⟨Tryz.func71, ⟨Tryz.func70, ⟨Tryz.func69, trivial, trivial⟩, trivial⟩, ⟨Tryz.func73, ⟨Tryz.func72, trivial, trivial⟩, trivial⟩⟩, ⟨Tryz.func77, ⟨Tryz.func76, ⟨Tryz.func75, trivial, trivial⟩, trivial⟩, ⟨Tryz.func79, ⟨Tryz.func78, trivial, trivial⟩, trivial⟩⟩⟩, ⟨Tryz.func86, ⟨Tryz.func83, ⟨Tryz.func82, ⟨Tryz.func81, trivial, trivial⟩, trivial⟩, ⟨Tryz.func85, ⟨Tryz.func84, trivial, trivial⟩, trivial⟩⟩, ⟨Tryz.func89, ⟨Tryz.func88, ⟨Tryz.func87, trivial, trivial⟩, trivial⟩, ⟨Tryz.func90, trivial, trivial⟩⟩⟩⟩⟩⟩, ⟨Tryz.func137, ⟨Tryz.func114, ⟨Tryz.func103, ⟨Tryz.func97, ⟨Tryz.func94, ⟨Tryz.func93, ⟨Tryz.func92, trivial, trivial⟩, trivial⟩, ⟨Tryz.func96, ⟨Tryz.func95, trivial, trivial⟩, trivial⟩⟩, ⟨Tryz.func100, ⟨Tryz.func99, ⟨Tryz.func98, trivial, trivial⟩, trivial⟩, ⟨Tryz.func102, ⟨Tryz.func101, trivial, trivial⟩, trivial⟩⟩⟩, ⟨Tryz.func109, ⟨Tryz.func106, ⟨Tryz.func105, ⟨Tryz.func104, trivial, trivial⟩, trivial⟩, ⟨Tryz.func108, ⟨Tryz.func107, trivial, trivial⟩, trivial⟩⟩, ⟨Tryz.func112, ⟨Tryz.func111, ⟨Tryz.func110, trivial, trivial⟩, trivial⟩, ⟨Tryz.func113, trivial, trivial⟩⟩⟩⟩, ⟨Tryz.func126, ⟨Tryz.func120, ⟨Tryz.func117, ⟨Tryz.func116, ⟨Tryz.func115, trivial, trivial⟩, trivial⟩, ⟨Tryz.func119, ⟨Tryz.func118, trivial, trivial⟩, trivial⟩⟩, ⟨Tryz.func123, ⟨Tryz.func122, ⟨Tryz.func121, trivial, trivial⟩, trivial⟩, ⟨Tryz.func125, ⟨Tryz.func124, trivial, trivial⟩, trivial⟩⟩⟩, ⟨Tryz.func132, ⟨Tryz.func129, ⟨Tryz.func128, ⟨Tryz.func127, trivial, trivial⟩, trivial⟩, ⟨Tryz.func131, ⟨Tryz.func130, trivial, trivial⟩, trivial⟩⟩, ⟨Tryz.func135, ⟨Tryz.func134, ⟨Tryz.func133, trivial, trivial⟩, trivial⟩, ⟨Tryz.func136, trivial, trivial⟩⟩⟩⟩⟩, ⟨Tryz.func160, ⟨Tryz.func149, ⟨Tryz.func143, ⟨Tryz.func140, ⟨Tryz.func139, ⟨Tryz.func138, trivial, trivial⟩, trivial⟩, ⟨Tryz.func142, ⟨Tryz.func141, trivial, trivial⟩, trivial⟩⟩, ⟨Tryz.func146, ⟨Tryz.func145, ⟨Tryz.func144, trivial, trivial⟩, trivial⟩, ⟨Tryz.func148, ⟨Tryz.func147, trivial, trivial⟩, trivial⟩⟩⟩, ⟨Tryz.func155, ⟨Tryz.func152, ⟨Tryz.func151, ⟨Tryz.func150, trivial, trivial⟩, trivial⟩, ⟨Tryz.func154, ⟨Tryz.func153, trivial, trivial⟩, trivial⟩⟩, ⟨Tryz.func158, ⟨Tryz.func157, ⟨Tryz.func156, trivial, trivial⟩, trivial⟩, ⟨Tryz.func159, trivial, trivial⟩⟩⟩⟩, ⟨Tryz.func172, ⟨Tryz.func166, ⟨Tryz.func163, ⟨Tryz.func162, ⟨Tryz.func161, trivial, trivial⟩, trivial⟩, ⟨Tryz.func165, ⟨Tryz.func164, trivial, trivial⟩, trivial⟩⟩, ⟨Tryz.func169, ⟨Tryz.func168, ⟨Tryz.func167, trivial, trivial⟩, trivial⟩, ⟨Tryz.func171, ⟨Tryz.func170, trivial, trivial⟩, trivial⟩⟩⟩, ⟨Tryz.func178, ⟨Tryz.func175, ⟨Tryz.func174, ⟨Tryz.func173, trivial, trivial⟩, trivial⟩, ⟨Tryz.func177, ⟨Tryz.func176, trivial, trivial⟩, trivial⟩⟩, ⟨Tryz.func181, ⟨Tryz.func180, ⟨Tryz.func179, trivial, trivial⟩, trivial⟩, ⟨Tryz.func182, trivial, trivial⟩⟩⟩⟩⟩⟩⟩
theorem draws_all : fnTree.all (drawsB cx) = true := by kernel_rfl


set_option maxRecDepth 100000 in
theorem good_of (r : Nat → Int) (s : Nat → List UInt8) (c : Cx) (hT : c.T = ⟨tyTree.get, r, s⟩) (hB : c.B = fun t => (byTree.get t).getD 0) (hE : c.E = fun t => (eqTree.get t).isSome) (hF : c.F = fnTree.get) (F : Facts c) : Good Tryz.prog c where
  facts := F
  ty := fun t u h => by
    rw [hT] at h ⊢
    exact (tyB_ok (Tree.of_all tys_all h)).1
  bytes := fun t u i h hi => by
    rw [hT] at h
    rw [hB]
    exact (tyB_ok (T := ⟨tyTree.get, r, s⟩) (Tree.of_all tys_all h)).2.1 i hi
  bpos := fun t u h => by
    rw [hT] at h
    rw [hB]
    exact (tyB_ok (T := ⟨tyTree.get, r, s⟩) (Tree.of_all tys_all h)).2.2
  fn := fun f i h => by
    rw [hF] at h
    exact ⟨Tree.of_get fns_all h, by simpa using Tree.of_all names_all h⟩
  eq := fun t h => by
    rw [hE] at h ⊢
    rw [hT]
    obtain ⟨u, hu⟩ := Option.isSome_iff_exists.1 h
    exact eqB_ok (T := ⟨tyTree.get, r, s⟩) (Tree.of_all (p := fun t _ => eqB Tryz.prog tyTree.get (fun t => (eqTree.get t).isSome) t) eqs_all hu)
  mixed := by kernel_rfl


theorem draws : Draws cx := by
  intro f i c hF hb
  have := Tree.of_all draws_all hF
  simpa [drawsB, hb] using this

/-- values without unknowns; no contracts -/
theorem good0 : Good Tryz.prog cx := good_of _ _ cx rfl rfl rfl rfl ⟨by simp [cx, cxOf], by simp [cx, cxOf], by simp [cx, cxOf], by simp [cx, cxOf], by simp [cx, cxOf], by simp [cx, cxOf], by simp [cx, cxOf]⟩

theorem ext_of (c : Cx) (G : Good Tryz.prog c) (hF : c.F = fnTree.get) (hY : c.Y = extY) (hT : c.T.T = tyTree.get) : ∀ f i h, c.F f = some i → c.Y f = some h → i.fn.body.isNone = true → ExtOK Tryz.prog c f i h := by
  intro f i h hf hy hb
  rw [hY] at hy
  unfold extY at hy
  split at hy
  · rename_i he
    injection hy with hy
    subst hy
    have he := Nat.eq_of_beq_eq_true he
    subst he
    have hi : fnTree.get 162 = some ⟨Tryz.f162, 0, true, [], []⟩ := by kernel_rfl
    have hf' := hf
    rw [hF, hi] at hf'
    injection hf' with hf'
    subst hf'
    exact extOK_indexByte G hf hb (by kernel_rfl) (by kernel_rfl) ((tys_tr (T := cx.T) (T' := c.T) hT _).trans (by kernel_rfl))
  · simp at hy

theorem good_on (r : Nat → Int) (s : Nat → List UInt8) (t : Tab) (K : Nat → Option (List V → List Ob → Option (Rs × List Ob))) (h : t.Ok ⟨tyTree.get, r, s⟩) : Good Tryz.prog (t.on K (cxOf r s)) :=
  good_of r s _ rfl rfl rfl rfl (Tab.Ok.facts (c := cxOf r s) h K)

theorem draws_on (r : Nat → Int) (s : Nat → List UInt8) (t : Tab) (K : Nat → Option (List V → List Ob → Option (Rs × List Ob))) : Draws (t.on K (cxOf r s)) := Draws.congr (cx := cx) (cx' := t.on K (cxOf r s)) rfl rfl rfl draws

theorem exts_on (r : Nat → Int) (s : Nat → List UInt8) (t : Tab) (K : Nat → Option (List V → List Ob → Option (Rs × List Ob))) (h : t.Ok ⟨tyTree.get, r, s⟩)
    (hK : ∀ f vs os x os', askK (K f) vs os = some (x, os') → CallOK Tryz.prog (t.on K (cxOf r s)) f vs os x os') : Exts Tryz.prog (t.on K (cxOf r s)) :=
  ⟨ext_of _ (good_on r s t K h) rfl rfl rfl, hK⟩

/-- a run with unknowns -/
theorem call_on {r : Nat → Int} {s : Nat → List UInt8} {t : Tab} {K : Nat → Option (List V → List Ob → Option (Rs × List Ob))} (h : t.Ok ⟨tyTree.get, r, s⟩)
    (hK : ∀ f vs os x os', askK (K f) vs os = some (x, os') → CallOK Tryz.prog (t.on K (cxOf r s)) f vs os x os') {n f : Nat} {vs : List V} {os os' : List Ob} {x : Rs} (he : evCallF (t.on K (cxOf r s)) n f vs os = some (x, os')) :
    CallOK Tryz.prog (t.on K (cxOf r s)) f vs os x os' :=
  (ev_sound (good_on r s t K h) (exts_on r s t K h hK) (draws_on r s t K) n).2.2 f vs os x os' (by rw [← evCallF_eq]; exact he)

/-- a piece of a function's text, with unknowns -/
theorem code_on {r : Nat → Int} {s : Nat → List UInt8} {t : Tab} {K : Nat → Option (List V → List Ob → Option (Rs × List Ob))} (h : t.Ok ⟨tyTree.get, r, s⟩)
    (hK : ∀ f vs os x os', askK (K f) vs os = some (x, os') → CallOK Tryz.prog (t.on K (cxOf r s)) f vs os x os') {n keep : Nat} {dyn : List (Nat × List (Nat × Nat))} {c : Code} {st st' : St} {ex : Ex} (hc : codeDraws cx dyn c = true)
    (he : (twoF (t.on K (cxOf r s)) n).code keep dyn c st = some (ex, st')) : CodeOK Tryz.prog cx c (st.lit ⟨tyTree.get, r, s⟩) ex (st'.lit ⟨tyTree.get, r, s⟩) :=
  CodeOK.lit (cx := t.on K (cxOf r s)) (cx' := cx) rfl ((ev_sound (good_on r s t K h) (exts_on r s t K h hK) (draws_on r s t K) n).1 keep dyn c st ex st' (by rw [codeDraws_congr (cx := cx) (cx' := t.on K (cxOf r s)) rfl rfl rfl]; exact hc) (by rw [← (twoF_eq _ n).1]; exact he))

/-- a contract without unknowns, as a row -/
theorem row_of {r : Nat → Int} {s : Nat → List UInt8} {t : Tab} {K : Nat → Option (List V → List Ob → Option (Rs × List Ob))} {f : Nat} {vs : List V} {os os' : List Ob} {x : Rs}
    (h : CallOK Tryz.prog cx f (V.lits ⟨tyTree.get, r, s⟩ vs) (litOs ⟨tyTree.get, r, s⟩ os) (x.lit ⟨tyTree.get, r, s⟩) (litOs ⟨tyTree.get, r, s⟩ os')) : KRow.Ok Tryz.prog (t.on K (cxOf r s)) ⟨f, vs, os, x, os'⟩ :=
  CallOK.ofLit (cx := t.on K (cxOf r s)) (cx' := cx) rfl rfl h

/-- what a run with unknowns says of known ones -/
theorem call_lit {r : Nat → Int} {s : Nat → List UInt8} {t : Tab} {K : Nat → Option (List V → List Ob → Option (Rs × List Ob))} {f : Nat} {vs : List V} {os os' : List Ob} {x : Rs}
    (h : CallOK Tryz.prog (t.on K (cxOf r s)) f vs os x os') : CallOK Tryz.prog cx f (V.lits ⟨tyTree.get, r, s⟩ vs) (litOs ⟨tyTree.get, r, s⟩ os) (x.lit ⟨tyTree.get, r, s⟩) (litOs ⟨tyTree.get, r, s⟩ os') :=
  CallOK.lit (cx := t.on K (cxOf r s)) (cx' := cx) rfl rfl h

end Go.Vm
