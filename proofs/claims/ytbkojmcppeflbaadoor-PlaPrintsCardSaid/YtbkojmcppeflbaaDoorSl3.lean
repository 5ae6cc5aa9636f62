/- The symbolic layer: variables in memory, fields, elements of arrays. -/
import Derived.Test.YtbkojmcppeflbaaDoorSl2
namespace Go.Proofs.YtbkojmcppeflbaaDoor
open Go
set_option linter.unusedVariables false
set_option linter.unusedSimpArgs false
set_option linter.unusedSectionVars false
set_option linter.unnecessarySimpa false
variable {P : Program} {τ : Meta} {N : Nat} {Q : Exit → Act → World → Prop} {m : List (Nat × Value)} {L : List Itm}

/-! ## Lists by place, worked out by instances -/
class GetL (cs : List Value) (o : Nat) (v : outParam Value) : Prop where
  out : cs[o]? = some v
instance GetL.z {c : Value} {cs : List Value} : GetL (c :: cs) 0 c := ⟨rfl⟩
instance GetL.s {c v : Value} {cs : List Value} {o : Nat} [h : GetL cs o v] : GetL (c :: cs) (o + 1) v := ⟨by simpa using h.out⟩
/-- n cells from a place on. -/
class CutL (cs : List Value) (o n : Nat) (vs : outParam (List Value)) : Prop where
  out : vs.length = n ∧ ∀ j v, vs[j]? = some v → cs[o + j]? = some v
instance CutL.n {cs : List Value} : CutL cs 0 0 [] := ⟨rfl, fun j v h => by simp at h⟩
instance CutL.z {c : Value} {cs vs : List Value} {n : Nat} [h : CutL cs 0 n vs] : CutL (c :: cs) 0 (n + 1) (c :: vs) :=
  ⟨by simp [h.out.1], fun j v e => by
    cases j with
    | zero => simpa using e
    | succ j => have := h.out.2 j v (by simpa using e); simpa [Nat.add_comm] using this⟩
instance CutL.s {c : Value} {cs vs : List Value} {o n : Nat} [h : CutL cs o n vs] : CutL (c :: cs) (o + 1) n vs :=
  ⟨h.out.1, fun j v e => by have := h.out.2 j v e; rw [show o + 1 + j = (o + j) + 1 by omega]; simpa using this⟩
class SetL (cs : List Value) (o : Nat) (v : Value) (cs' : outParam (List Value)) : Prop where
  out : cs.set o v = cs'
instance SetL.z {c v : Value} {cs : List Value} : SetL (c :: cs) 0 v (v :: cs) := ⟨rfl⟩
instance SetL.s {c v : Value} {cs cs' : List Value} {o : Nat} [h : SetL cs o v cs'] : SetL (c :: cs) (o + 1) v (c :: cs') := ⟨by simp [h.out]⟩
def setR : List Value → Nat → List Value → List Value
  | cs, _, [] => cs
  | cs, o, v :: vs => setR (cs.set o v) (o + 1) vs
class PutL (cs : List Value) (o : Nat) (vs : List Value) (cs' : outParam (List Value)) : Prop where
  out : setR cs o vs = cs'
instance PutL.n {cs : List Value} {o : Nat} : PutL cs o [] cs := ⟨rfl⟩
instance PutL.c {cs cs' cs'' : List Value} {o : Nat} {v : Value} {vs : List Value} [h : SetL cs o v cs'] [k : PutL cs' (o + 1) vs cs''] : PutL cs o (v :: vs) cs'' :=
  ⟨by simp only [setR]; rw [h.out, k.out]⟩

theorem add_plain (b o n : Nat) : (⟨b, o, none⟩ : Addr).add n = ⟨b, o + n, none⟩ := by
  unfold Addr.add; split <;> simp_all

/-! ## Runs -/
theorem run_loadFrom {w : World} {a : Addr} {n : Nat} {vs : List Value} (hl : vs.length = n) : ∀ (i : Nat) (acc : Array Value),
    (∀ j v, vs[j]? = some v → w.cell? (a.add (i + j)) = some v) → (loadCellsFrom a i n acc).run P w = .ok (acc ++ vs.toArray) w := by
  induction n generalizing vs with
  | zero => intro i acc _; have : vs = [] := List.eq_nil_of_length_eq_zero hl; subst this; simp [loadCellsFrom]
  | succ n ih =>
    intro i acc h
    cases vs with
    | nil => simp at hl
    | cons v vs =>
      have h0 := h 0 v (by simp)
      simp only [Nat.add_zero] at h0
      simp only [loadCellsFrom, Sem.run_bind, run_load, h0, Result.andThen_ok]
      rw [ih (vs := vs) (by simpa using hl) (i + 1) (acc.push v) (fun j u hj => by
        have := h (j + 1) u (by simpa using hj); rw [show i + 1 + j = i + (j + 1) by omega]; exact this)]
      simp
theorem run_loadCells {w : World} {a : Addr} {n : Nat} {vs : List Value} (hl : vs.length = n)
    (h : ∀ j v, vs[j]? = some v → w.cell? (a.add j) = some v) : (loadCells a n).run P w = .ok vs.toArray w := by
  have := run_loadFrom (P := P) hl 0 #[] (w := w) (a := a) (by simpa using h)
  simpa [loadCells] using this
def cellsOf : Value → List Value
  | .agg cs => cs.toList
  | v => [v]
theorem cells_toList (v : Value) : v.cells.toList = cellsOf v := by cases v <;> rfl
/-- Values of one cell each. -/
def ones (vs : List Value) : Bool := vs.all Value.oneCell'
theorem frozen_own {w : World} {b o : Nat} {c : Array Value} {ty : TypeId} (h : w.heap[b]? = some (.cells c ty (0, 0))) : w.frozen? ⟨b, o, none⟩ = false := by
  simp [World.frozen?, h]
theorem St.storeCells {vs : List Value} : ∀ {cs : List Value} {w : World} (b o : Nat) (ty : TypeId) (_ : ones vs = true) (_ : o + vs.length ≤ cs.length) (_ : St τ (Cells b cs ty :: L) w) (i : Nat) (o' : Nat) (_ : o' + i = o),
    ∃ w', (storeCells ⟨b, o', none⟩ vs i).run P w = .ok () w' ∧ St τ (Cells b (setR cs o vs) ty :: L) w' := by
  induction vs with
  | nil => intro cs w b o ty _ _ H i o' _; exact ⟨w, by simp [Go.storeCells], H⟩
  | cons v vs ih =>
    intro cs w b o ty h1 hl H i o' he
    have hv : v.oneCell' = true := by simp [ones] at h1; exact h1.1
    have hvs : ones vs = true := by simp only [ones, List.all_cons, Bool.and_eq_true] at h1 ⊢; exact h1.2
    have hb := H.cell_own (b := b)
    have hlt : o < cs.length := by simp at hl; omega
    have hc : w.cell? ⟨b, o, none⟩ = some (cs[o]) := by rw [hp_cells hb]; simp [hlt]
    simp only [Go.storeCells, Sem.run_bind, run_store P w _ v _ hv, add_plain, he, hc, frozen_own hb, Result.andThen_ok, if_false, Bool.false_eq_true]
    exact ih b (o + 1) ty hvs (by simp at hl ⊢; omega) (H.setCell_head o v) (i + 1) o' (by omega)

theorem heap_storeCells {vs : List Value} : ∀ {cs : List Value} {w : World} (b o : Nat) (ty : TypeId) (_ : ones vs = true) (_ : o + vs.length ≤ cs.length) (_ : w.heap[b]? = some (.cells cs.toArray ty (0, 0))) (i : Nat) (o' : Nat) (_ : o' + i = o),
    ∃ w', (Go.storeCells ⟨b, o', none⟩ vs i).run P w = .ok () w' ∧ w'.heap[b]? = some (.cells (setR cs o vs).toArray ty (0, 0)) ∧ (∀ c, c ≠ b → w'.heap[c]? = w.heap[c]?) ∧ metaOf w' = metaOf w := by
  induction vs with
  | nil => intro cs w b o ty _ _ H i o' _; exact ⟨w, by simp [Go.storeCells], H, fun _ _ => rfl, rfl⟩
  | cons v vs ih =>
    intro cs w b o ty h1 hl hb i o' he
    have hv : v.oneCell' = true := by simp [ones] at h1; exact h1.1
    have hvs : ones vs = true := by simp only [ones, List.all_cons, Bool.and_eq_true] at h1 ⊢; exact h1.2
    have hlt : o < cs.length := by simp at hl; omega
    have hc : w.cell? ⟨b, o, none⟩ = some (cs[o]) := by rw [hp_cells hb]; simp [hlt]
    simp only [Go.storeCells, Sem.run_bind, run_store P w _ v _ hv, add_plain, he, hc, frozen_own hb, Result.andThen_ok, if_false, Bool.false_eq_true]
    obtain ⟨w', e, e1, e2, e3⟩ := ih (cs := cs.set o v) b (o + 1) ty hvs (by simp at hl ⊢; omega) (setCell_heap w b o v cs ty hb) (i + 1) o' (by omega)
    exact ⟨w', e, e1, fun c hc => (e2 c hc).trans (setCell_far w b o c v hc), e3⟩

/-- One cell. -/
class OneC (L : List Itm) (v : Value) : Prop where
  out : ∀ {τ : Meta} {w : World}, St τ L w → v.oneCell' = true
instance {L : List Itm} {k : IntKind} {n : Int} : OneC L (.int k n) := ⟨fun _ => rfl⟩
instance {L : List Itm} {b : Bool} : OneC L (.bool b) := ⟨fun _ => rfl⟩
instance {L : List Itm} {s : ByteArray} : OneC L (.string s) := ⟨fun _ => rfl⟩
instance {L : List Itm} {a : Option Addr} : OneC L (.pointer a) := ⟨fun _ => rfl⟩
instance {L : List Itm} {a : Option Addr} {n c : Nat} : OneC L (.slice a n c) := ⟨fun _ => rfl⟩
instance {L : List Itm} {r : Option Nat} : OneC L (.map r) := ⟨fun _ => rfl⟩
instance {L : List Itm} {f : Fn} {a b : Array Value} : OneC L (.func f a b) := ⟨fun _ => rfl⟩
instance {L : List Itm} : OneC L .nilFunc := ⟨fun _ => rfl⟩
class OnesC (L : List Itm) (vs : List Value) : Prop where
  out : ∀ {τ : Meta} {w : World}, St τ L w → ones vs = true
instance {L : List Itm} : OnesC L [] := ⟨fun _ => rfl⟩
instance {L : List Itm} {v : Value} {vs : List Value} [a : OneC L v] [b : OnesC L vs] : OnesC L (v :: vs) := ⟨fun H => by
  have h1 := a.out H; have h2 := b.out H
  simp only [ones, List.all_cons, h1, Bool.true_and] at h2 ⊢; exact h2⟩
/-- The cells of a value. -/
class CV (L : List Itm) (v : Value) (vs : outParam (List Value)) : Prop where
  out : ∀ {τ : Meta} {w : World}, St τ L w → cellsOf v = vs ∧ ones vs = true
instance (priority := 1000) {L : List Itm} {cs : List Value} [o : OnesC L cs] : CV L (.agg cs.toArray) cs := ⟨fun H => ⟨by simp [cellsOf], o.out H⟩⟩
instance (priority := 100) {L : List Itm} {v : Value} [o : OneC L v] : CV L v [v] := ⟨fun H => by
  have h := o.out H
  exact ⟨(by cases v <;> first | rfl | cases h), by simp [ones, h]⟩⟩

section ops
variable {κ : Act → World → Prop} {d : Nat} {ty : TypeId} {pos : String} {af : Array Edge} {g : Option (Nat × Bool)}
theorem push_st {w : World} (H : St τ L w) (cs : List Value) (t : TypeId) : St τ (Cells w.heap.size cs t :: L) { w with heap := w.heap.push (.cells cs.toArray t (0, 0)) } := H.push cs t
theorem run_newVar {t : TypeId} {v : Value} {cs : List Value} (h : cellsOf v = cs) (w : World) : (newVar t v).run P w = .ok ⟨w.heap.size, 0, none⟩ { w with heap := w.heap.push (.cells cs.toArray t (0, 0)) } := by
  have : v.cells = cs.toArray := by rw [← h, ← cells_toList]
  simp [newVar, newRow, this]
theorem o_box {t : TypeId} {x : Operand} {v : Value} {cs : List Value} (hx : ev m x = some v) [c : CV L v cs] (hd : Nat.blt d N = true)
    (n : ∀ b : Nat, G τ N κ ((d, .pointer (some ⟨b, 0, none⟩)) :: m) (Cells b cs t :: L)) : G τ N (opK P ⟨some d, .box t x, ty, pos, af, g⟩ κ Q) m L :=
  .step_new (v := fun b => .pointer (some ⟨b, 0, none⟩)) (L' := fun b => Cells b cs t :: L) rfl hd (fun a w hK hS => ⟨w.heap.size, _, by
    simp [execOp, hK.eval hx, Instr.box, run_newVar (c.out hS).1], push_st hS cs t⟩) n
theorem o_alloc {t : TypeId} {sz by_ : Nat} {z : Value} {cs : List Value} [Inf P t sz by_ z] (hc : cellsOf z = cs) (hd : Nat.blt d N = true)
    (n : ∀ b : Nat, G τ N κ ((d, .pointer (some ⟨b, 0, none⟩)) :: m) (Cells b cs t :: L)) : G τ N (opK P ⟨some d, .alloc t, ty, pos, af, g⟩ κ Q) m L :=
  .step_new (v := fun b => .pointer (some ⟨b, 0, none⟩)) (L' := fun b => Cells b cs t :: L) rfl hd (fun a w hK hS => ⟨w.heap.size, _, by
    simp [execOp, Instr.alloc, run_zero, run_newVar hc], push_st hS cs t⟩) n
/-! reading -/
/-- v stands at a place, whatever the world. -/
class At1 (L : List Itm) (b o : Nat) (v : outParam Value) : Prop where
  out : ∀ {τ : Meta} {w : World}, St τ L w → w.cell? ⟨b, o, none⟩ = some v
class AtN (L : List Itm) (b o n : Nat) (vs : outParam (List Value)) : Prop where
  out : vs.length = n ∧ ∀ {τ : Meta} {w : World}, St τ L w → ∀ j v, vs[j]? = some v → w.cell? ⟨b, o + j, none⟩ = some v
/-- A frozen place: the run of cells that it lies in, and how far in. -/
class SelK (L : List Itm) (b o : Nat) (cs : outParam (List Value)) (k : outParam Nat) : Prop where
  out : ∃ p, o = p + k ∧ ∀ {F h : PH}, SepL F L h → ∃ c ty fz, F b = some (.cells c ty fz) ∧ ∀ j v, cs[j]? = some v → c[p + j]? = some v
instance (priority := 1000) SelK.h0 {b o : Nat} {cs : List Value} {L : List Itm} : SelK (CellsP b o cs :: L) b o cs 0 := ⟨o, rfl, fun ⟨_, _, i, _⟩ => i.2⟩
instance (priority := 900) SelK.h1 {b o k : Nat} {cs : List Value} {L : List Itm} : SelK (CellsP b o cs :: L) b (o + k) cs k := ⟨o, rfl, fun ⟨_, _, i, _⟩ => i.2⟩
instance (priority := 100) SelK.there {b o k : Nat} {cs : List Value} {y : Itm} {L : List Itm} [s : SelK L b o cs k] : SelK (y :: L) b o cs k :=
  ⟨by obtain ⟨p, e, a⟩ := s.out; exact ⟨p, e, fun ⟨_, _, _, K, _⟩ => a K⟩⟩
theorem SelK.cell {b o k : Nat} {cs : List Value} [s : SelK L b o cs k] {w : World} (H : St τ L w) {j : Nat} {v : Value} (hj : cs[k + j]? = some v) : w.cell? ⟨b, o + j, none⟩ = some v := by
  obtain ⟨p, e, a⟩ := s.out
  obtain ⟨F, h, lF, _, _, K, _⟩ := H
  obtain ⟨c, ty, fz, eb, ac⟩ := a K
  have := ac (k + j) v hj
  rw [hp_cells (lF _ _ eb), e, show p + k + j = p + (k + j) by omega, this]
instance (priority := 1000) At1.own {b o : Nat} {v : Value} {cs : List Value} {t : TypeId} {L' : List Itm} [s : SelC L b cs t L'] [q : GetL cs o v] : At1 L b o v :=
  ⟨fun H => by rw [hp_cells H.cell_own]; simpa using q.out⟩
instance (priority := 500) At1.frz {b o k : Nat} {v : Value} {cs : List Value} [s : SelK L b o cs k] [q : GetL cs k v] : At1 L b o v :=
  ⟨fun H => by have := SelK.cell (b := b) (o := o) (j := 0) H (by simpa using q.out); simpa using this⟩
instance (priority := 1000) AtN.own {b o n : Nat} {vs cs : List Value} {t : TypeId} {L' : List Itm} [s : SelC L b cs t L'] [q : CutL cs o n vs] : AtN L b o n vs :=
  ⟨q.out.1, fun H j v hj => by rw [hp_cells H.cell_own]; simpa using q.out.2 j v hj⟩
instance (priority := 500) AtN.frz {b o k n : Nat} {vs cs : List Value} [s : SelK L b o cs k] [q : CutL cs k n vs] : AtN L b o n vs :=
  ⟨q.out.1, fun H j v hj => SelK.cell H (q.out.2 j v hj)⟩
theorem r_load {t : TypeId} {u : TypeDesc} {x : Operand} {b o : Nat} {v : Value} [Und P t u] (hx : ev m x = some (.pointer (some ⟨b, o, none⟩))) [q : At1 L b o v]
    (hu : TypeDesc.agg u = false) :
    RunV P τ N m L ⟨d, .load t x, ty, pos, af, g⟩ (v) := fun a w hK hS => by simp [execOp, hK.eval hx, Instr.loadAt, Instr.sureAddr, loadVar, run_isAgg, hu, q.out hS]
theorem r_loadN {t : TypeId} {u : TypeDesc} {sz by_ : Nat} {z : Value} {x : Operand} {b o : Nat} {vs : List Value} [Und P t u] [Inf P t sz by_ z] (hx : ev m x = some (.pointer (some ⟨b, o, none⟩))) [q : AtN L b o sz vs]
    (hu : TypeDesc.agg u = true) :
    RunV P τ N m L ⟨d, .load t x, ty, pos, af, g⟩ (.agg vs.toArray) := fun a w hK hS => by
    have := run_loadCells (P := P) (w := w) (a := ⟨b, o, none⟩) q.out.1 (fun j v hj => by rw [add_plain]; exact q.out.2 hS j v hj)
    simp [execOp, hK.eval hx, Instr.loadAt, Instr.sureAddr, loadVar, run_isAgg, hu, run_sizeOf, this]
/-! writing -/
theorem o_store {t : TypeId} {sz by_ : Nat} {z : Value} {x y : Operand} {b o : Nat} {v : Value} {vs cs cs' : List Value} {tb : TypeId} {L' : List Itm} [Inf P t sz by_ z]
    (hx : ev m x = some (.pointer (some ⟨b, o, none⟩))) (hy : ev m y = some v) [cv : CV L v vs] [UpdC L b cs tb cs' L'] [p : PutL cs o vs cs']
    (hl : Nat.beq vs.length sz = true) (ho : Nat.ble (o + vs.length) cs.length = true) (n : G τ N κ m L') : G τ N (opK P ⟨none, .store t x y, ty, pos, af, g⟩ κ Q) m L :=
  .step_skip rfl (fun a w hK hS => by
    obtain ⟨hv, h1⟩ := cv.out hS
    have hvc : v.cells.toList = vs := by rw [cells_toList, hv]
    have hsz : v.cells.size = sz := by rw [← Array.length_toList, hvc]; exact Nat.eq_of_beq_eq_true hl
    obtain ⟨F, h, a1, a2, a3, K, a4⟩ := hS
    obtain ⟨L0, K0, B⟩ := UpdC.out (L := L) (b := b) (cs := cs) (ty := tb) (cs' := cs') (L' := L') K
    obtain ⟨w', e, F', h', b1, b2, b3, K', b4⟩ := St.storeCells (P := P) (cs := cs) b o tb h1 (Nat.le_of_ble_eq_true ho) ⟨F, h, a1, a2, a3, K0, a4⟩ 0 o (by omega)
    rw [p.out] at K'
    refine ⟨w', ?_, F', h', b1, b2, b3, B K', b4⟩
    simp [execOp, hK.eval hx, hK.eval hy, Instr.storeAt, Instr.sureAddr, storeVar, run_sizeOf, hsz, hvc, e]) n
/-! fields, elements of arrays -/
class Off (o k : Nat) (o' : outParam Nat) : Prop where
  out : o + k = o'
instance (priority := 1000) Off.z {o : Nat} : Off o 0 o := ⟨rfl⟩
instance (priority := 500) Off.a {o j k : Nat} : Off (o + j) k (o + (j + k)) := ⟨by omega⟩
instance (priority := 100) Off.f {o k : Nat} : Off o k (o + k) := ⟨rfl⟩
/-- Field number i of a struct type lies so far in. -/
class Fld (P : Program) (t : TypeId) (i : Nat) (off : outParam Nat) : Prop where
  out : ∃ fs f sz by_ z, P.underlying t = some (.struct fs) ∧ fs[i]? = some f ∧ f.offset = off ∧ Inf P f.type sz by_ z ∧ sz ≠ 0
theorem r_field {t : TypeId} {x : Operand} {i k b o o' : Nat} [q : Fld P t i k] (hx : ev m x = some (.pointer (some ⟨b, o, none⟩))) [p : Off o k o'] :
    RunV P τ N m L ⟨d, .fieldAddr t x i, ty, pos, af, g⟩ (.pointer (some ⟨b, o', none⟩)) := fun a w hK hS => by
    obtain ⟨fs, f, sz, by_, z, h1, h2, h3, h4, h5⟩ := q.out
    have u : Und P t (.struct fs) := ⟨h1⟩
    simp [execOp, hK.eval hx, Instr.fieldAt, Instr.sureAddr, run_underlying, h2, fieldPlace, run_sizeOf, h5, h3, add_plain, p.out]
/-- Arrays: so many elements, of so many cells. -/
class Arr (P : Program) (t : TypeId) (len sz : outParam Nat) : Prop where
  out : ∃ e by_ z, P.underlying t = some (.array len e) ∧ Inf P e sz by_ z
theorem r_elem {t : TypeId} {x ix : Operand} {len sz b o o' : Nat} {k : IntKind} {i : Int} [q : Arr P t len sz] (hx : ev m x = some (.pointer (some ⟨b, o, none⟩))) (hi : ev m ix = some (.int k i))
    (h0 : 0 ≤ i) (h1 : i < len) [p : Off o (i.toNat * sz) o'] :
    RunV P τ N m L ⟨d, .indexAddr t x ix, ty, pos, af, g⟩ (.pointer (some ⟨b, o', none⟩)) := fun a w hK hS => by
    obtain ⟨e, by_, z, h2, h3⟩ := q.out
    have u : Und P t (.array len e) := ⟨h2⟩
    simp [execOp, hK.eval hx, hK.eval hi, Instr.indexAt, Instr.sureAddr, asIntOf, run_underlying, run_sizeOf, h0, h1, add_plain, p.out]
end ops
end Go.Proofs.YtbkojmcppeflbaaDoor
