/- What the model's small memory programs do where types are resolved. -/
import Derived.Test.YtjbehmedbefbpaaGreatVmBase
set_option linter.unusedVariables false
set_option linter.unusedSimpArgs false
namespace Go.Vm
open Go

def one1 : Value → Bool
  | .agg _ => false
  | .tuple _ => false
  | _ => true

/-- a type's row in the program is as resolved -/
def DescOk (P : Program) (T : TR) (t : Nat) : Ty → Prop
  | .bool => P.underlying t = some .bool
  | .int k => P.underlying t = some (.int k)
  | .str => P.underlying t = some .string
  | .ptr => ∃ e, P.underlying t = some (.pointer e)
  | .sl e => P.underlying t = some (.slice e)
  | .mp k e => P.underlying t = some (.map k e)
  | .fn => ∃ a b c, P.underlying t = some (.func a b c)
  | .ifc => ∃ m, P.underlying t = some (.interface m)
  | .st fs => ∃ flds : Array Field, P.underlying t = some (.struct flds) ∧ flds.size = fs.length ∧
      ∀ i f, flds[i]? = some f → ∃ u, fieldOff fs i = some (f.offset, u) ∧ T f.type = some u
  | .ar n e => ∃ et, P.underlying t = some (.array n et) ∧ T et = some e

structure TyOk (P : Program) (T : TR) (t : Nat) (ty : Ty) : Prop where
  info : ∃ i, P.info? t = some i ∧ i.size = ty.size ∧ i.zero = some (ofCells ty ty.zeroC)
  desc : DescOk P T t ty
  pos : 0 < ty.size

theorem addr_add (b off n : Nat) : (⟨b, off, none⟩ : Addr).add n = ⟨b, off + n, none⟩ := by
  unfold Addr.add; split
  · subst_vars; rfl
  · rfl

section
variable {P : Program} {T : TR} {t : Nat} {ty : Ty} {w : World}

theorem run_underlying {d : TypeDesc} (h : P.underlying t = some d) : (underlying t).run P w = .ok d w := by
  simp [underlying, program, Sem.run, h]

theorem run_typeInfo {i : TypeInfo} (h : P.info? t = some i) : (typeInfo t).run P w = .ok i w := by
  simp [typeInfo, program, Sem.run, h]

theorem TyOk.run_sizeOf (h : TyOk P T t ty) : (sizeOf t).run P w = .ok ty.size w := by
  obtain ⟨i, h1, h2, _⟩ := h.info
  simp [sizeOf, run_typeInfo h1, h2]

theorem TyOk.run_zero (h : TyOk P T t ty) : (zeroValue t).run P w = .ok (ofCells ty ty.zeroC) w := by
  obtain ⟨i, h1, _, h2⟩ := h.info
  simp [zeroValue, run_typeInfo h1, h2]

theorem TyOk.run_isAgg (h : TyOk P T t ty) : (isAgg t).run P w = .ok ty.isAgg w := by
  have hd := h.desc
  cases ty <;> simp only [DescOk] at hd
  case bool | int | str | sl | mp => simp [isAgg, run_underlying hd, Ty.isAgg]
  case ptr => obtain ⟨e, hd⟩ := hd; simp [isAgg, run_underlying hd, Ty.isAgg]
  case fn => obtain ⟨_, _, _, hd⟩ := hd; simp [isAgg, run_underlying hd, Ty.isAgg]
  case ifc => obtain ⟨_, hd⟩ := hd; simp [isAgg, run_underlying hd, Ty.isAgg]
  case st => obtain ⟨_, hd, _⟩ := hd; simp [isAgg, run_underlying hd, Ty.isAgg]
  case ar => obtain ⟨_, hd, _⟩ := hd; simp [isAgg, run_underlying hd, Ty.isAgg]

theorem run_load_of {a : Addr} {v : Value} (h : w.cell? a = some v) : (load a).run P w = .ok v w := by
  simp [load, Sem.run, h]

theorem run_loadCellsFrom {b : Nat} : ∀ {cs : List Value} {off i : Nat} {acc : Array Value}, Has w b (off + i) cs →
    (loadCellsFrom ⟨b, off, none⟩ i cs.length acc).run P w = .ok (acc ++ cs.toArray) w
  | [], off, i, acc, _ => by simp [loadCellsFrom]
  | c :: cs, off, i, acc, ⟨h1, h2⟩ => by
    simp only [List.length_cons, loadCellsFrom, Sem.run_bind, addr_add, run_load_of h1, Result.andThen_ok]
    rw [run_loadCellsFrom (cs := cs) (off := off) (i := i + 1) h2]
    simp

theorem run_loadCells {b off : Nat} {cs : List Value} (h : Has w b off cs) : (loadCells ⟨b, off, none⟩ cs.length).run P w = .ok cs.toArray w := by
  have := run_loadCellsFrom (P := P) (i := 0) (acc := #[]) h
  simpa [loadCells] using this

theorem TyOk.run_loadVar (h : TyOk P T t ty) {b off : Nat} {cs : List Value} (hc : Has w b off cs) (hl : cs.length = ty.size) :
    (loadVar t ⟨b, off, none⟩).run P w = .ok (ofCells ty cs) w := by
  simp only [loadVar, Sem.run_bind, h.run_isAgg, Result.andThen_ok]
  cases ha : ty.isAgg with
  | true => simp [h.run_sizeOf, ← hl, run_loadCells hc, ofCells, ha]
  | false =>
    have hs : ty.size = 1 := by cases ty <;> simp_all [Ty.isAgg, Ty.size]
    match cs, hl.trans hs, hc with
    | [c], _, hc => simp [run_load_of hc.1, ofCells, ha]

def setCells (w : World) (b : Nat) : Nat → List Value → World
  | _, [] => w
  | off, v :: vs => setCells (w.setCell ⟨b, off, none⟩ v) b (off + 1) vs

theorem heap_setCell_other {b b' off : Nat} {v : Value} (h : b' ≠ b) : (w.setCell ⟨b, off, none⟩ v).heap[b']? = w.heap[b']? := by
  simp [World.setCell, Array.getElem?_modify, h.symm]

theorem heap_setCell_same {b off : Nat} {v : Value} {c : Array Value} {e : TypeId} {fr : Nat × Nat} (h : w.heap[b]? = some (.cells c e fr)) :
    (w.setCell ⟨b, off, none⟩ v).heap[b]? = some (.cells (c.setIfInBounds off v) e fr) := by
  simp [World.setCell, Array.getElem?_modify, h]

theorem setCells_facts {b : Nat} : ∀ (vs : List Value) (w : World) (off : Nat), (setCells w b off vs).heap.size = w.heap.size ∧ (setCells w b off vs).os = w.os ∧ (setCells w b off vs).output = w.output ∧
    ∀ b', b' ≠ b → (setCells w b off vs).heap[b']? = w.heap[b']?
  | [], w, off => ⟨rfl, rfl, rfl, fun _ _ => rfl⟩
  | v :: vs, w, off => by
    obtain ⟨h1, h2, h3, h4⟩ := setCells_facts vs (w.setCell ⟨b, off, none⟩ v) (off + 1)
    refine ⟨by rw [setCells, h1]; simp, by rw [setCells, h2]; rfl, by rw [setCells, h3]; rfl, fun b' hb => ?_⟩
    rw [setCells, h4 b' hb, heap_setCell_other hb]

theorem setCells_same {b : Nat} : ∀ (vs : List Value) (w : World) (off : Nat) (c : Array Value) (e : TypeId) (fr : Nat × Nat), w.heap[b]? = some (.cells c e fr) → off + vs.length ≤ c.size →
    ∃ c' : Array Value, (setCells w b off vs).heap[b]? = some (.cells c' e fr) ∧ c'.toList = c.toList.take off ++ vs ++ c.toList.drop (off + vs.length)
  | [], w, off, c, e, fr, h, _ => ⟨c, h, by simp⟩
  | v :: vs, w, off, c, e, fr, h, hl => by
    simp only [List.length_cons] at hl
    obtain ⟨c', h1, h2⟩ := setCells_same vs (w.setCell ⟨b, off, none⟩ v) (off + 1) (c.setIfInBounds off v) e fr (heap_setCell_same h) (by simpa using by omega)
    refine ⟨c', h1, ?_⟩
    rw [h2, Array.toList_setIfInBounds]
    have hlt : off < c.toList.length := by simpa using by omega
    rw [List.set_eq_take_append_cons_drop, if_pos hlt]
    have e1 : (c.toList.take off ++ v :: c.toList.drop (off + 1)).take (off + 1) = c.toList.take off ++ [v] := by
      rw [List.take_append, List.take_take, List.length_take, Nat.min_eq_right (by omega), Nat.min_eq_left (by omega)]
      simp
    have e2 : (c.toList.take off ++ v :: c.toList.drop (off + 1)).drop (off + 1 + vs.length) = c.toList.drop (off + (vs.length + 1)) := by
      rw [List.drop_append, List.length_take, Nat.min_eq_left (by omega), List.drop_eq_nil_of_le (by rw [List.length_take]; omega)]
      rw [show off + 1 + vs.length - off = vs.length + 1 by omega, List.drop_succ_cons, List.drop_drop, List.nil_append]
      congr 1; omega
    rw [e1, e2]
    simp

theorem run_storeCells (P : Program) {b : Nat} : ∀ {vs : List Value} {w : World} {off i : Nat} {c : Array Value} {e : TypeId} {fr : Nat × Nat}, w.heap[b]? = some (.cells c e fr) → off + i + vs.length ≤ c.size →
    (∀ j, j < c.size → w.frozen? ⟨b, j, none⟩ = false) → (∀ v ∈ vs, one1 v = true) → (storeCells ⟨b, off, none⟩ vs i).run P w = .ok () (setCells w b (off + i) vs)
  | [], w, off, i, c, e, fr, _, _, _, _ => by simp [storeCells, setCells]
  | v :: vs, w, off, i, c, e, fr, h, hl, hf, ho => by
    simp only [List.length_cons] at hl
    have hv := ho v (List.mem_cons_self ..)
    have hc : w.cell? ⟨b, off + i, none⟩ = some (c[off + i]'(by omega)) := by
      simp [World.cell?, h, Array.getElem?_eq_getElem (show off + i < c.size by omega)]
    have hs : (store ⟨b, off + i, none⟩ v).run P w = .ok () (w.setCell ⟨b, off + i, none⟩ v) := by
      have hf' := hf (off + i) (by omega)
      cases v <;> first
        | (simp [one1] at hv; done)
        | simp [store, Sem.run, hc, hf']
    simp only [storeCells, Sem.run_bind, addr_add, hs, Result.andThen_ok, setCells]
    have := run_storeCells P (vs := vs) (w := w.setCell ⟨b, off + i, none⟩ v) (off := off) (i := i + 1) (c := c.setIfInBounds (off + i) v) (e := e) (fr := fr)
      (heap_setCell_same h) (by simpa using by omega) (fun j hj => by rw [World.frozen?_setCell]; exact hf j (by simpa using hj)) (fun u hu => ho u (List.mem_cons_of_mem _ hu))
    rw [this]
    rfl

theorem ofCells_cells_agg (h : ty.isAgg = true) (cs : List Value) : (ofCells ty cs).cells = cs.toArray := by
  simp [ofCells, h, Value.cells]
end

section
variable {P : Program} {T : TR} {g : Gh} {w : World}

mutual
theorem VR.oneC : ∀ {ty : Ty} {cs : List Value} {v : V}, VR T g w ty cs v → ∀ c ∈ cs, one1 c = true
  | _, _, _, .b _ => by simp [one1]
  | _, _, _, .i _ _ => by simp [one1]
  | _, _, _, .s _ => by simp [one1]
  | _, _, _, .ix _ _ => by simp [one1]
  | _, _, _, .tx _ _ _ => by simp [one1]
  | _, _, _, .pnil => by simp [one1]
  | _, _, _, .ptr .. => by simp [one1]
  | _, _, _, .cp .. => by simp [one1]
  | _, _, _, .snil _ => by simp [one1]
  | _, _, _, .sl .. => by simp [one1]
  | _, _, _, .rw .. => by simp [one1]
  | _, _, _, .mnil _ _ => by simp [one1]
  | _, _, _, .mp .. => by simp [one1]
  | _, _, _, .fnil => by simp [one1]
  | _, _, _, .fn _ => by simp [one1]
  | _, _, _, .inil => by simp [one1]
  | _, _, _, .ifc _ _ => by simp [one1]
  | _, _, _, .st h => VRs.oneC h
  | _, _, _, .ar h => VRs.oneC h
theorem VRs.oneC : ∀ {ts : List Ty} {cs : List Value} {vs : List V}, VRs T g w ts cs vs → ∀ c ∈ cs, one1 c = true
  | _, _, _, .nil => by simp
  | _, _, _, .cons h hs => by
    intro c hc
    rcases List.mem_append.1 hc with hc | hc
    · exact VR.oneC h c hc
    · exact VRs.oneC hs c hc
end

/-- a value of one cell -/
theorem VR.single {ty : Ty} {cs : List Value} {v : V} (h : VR T g w ty cs v) (ha : ty.isAgg = false) : ∃ c, cs = [c] ∧ one1 c = true := by
  have hl := h.len
  have hs : ty.size = 1 := by cases ty <;> simp_all [Ty.isAgg, Ty.size]
  match cs, hl.trans hs, h with
  | [c], _, h => exact ⟨c, rfl, h.oneC c (by simp)⟩

theorem VR.cells {ty : Ty} {cs : List Value} {v : V} (h : VR T g w ty cs v) : (ofCells ty cs).cells = cs.toArray := by
  cases ha : ty.isAgg with
  | true => simp [ofCells, ha, Value.cells]
  | false =>
    obtain ⟨c, rfl, hc⟩ := h.single ha
    simp only [ofCells, ha, Bool.false_eq_true, if_false, List.headD_cons]
    cases c <;> simp_all [Value.cells, one1]

theorem TyOk.run_storeVar {t : Nat} {ty : Ty} (h : TyOk P T t ty) {b off : Nat} {cs : List Value} {v : V} (hv : VR T g w ty cs v) {c : Array Value} {e : TypeId} {fr : Nat × Nat}
    (hh : w.heap[b]? = some (.cells c e fr)) (hl : off + ty.size ≤ c.size) (hf : ∀ j, j < c.size → w.frozen? ⟨b, j, none⟩ = false) :
    (storeVar t ⟨b, off, none⟩ (ofCells ty cs)).run P w = .ok () (setCells w b off cs) := by
  have hlen := hv.len
  simp only [storeVar, Sem.run_bind, h.run_sizeOf, Result.andThen_ok, hv.cells]
  have := run_storeCells P (off := off) (i := 0) hh (by simpa [hlen] using hl) hf hv.oneC
  simp only [List.size_toArray, hlen, ne_eq, not_true_eq_false, if_false, Sem.run_ite]
  simpa using this
end
end Go.Vm
