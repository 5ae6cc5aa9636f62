/- The symbolic layer: slices of closures; own slices cut and closed up in place. -/
import Derived.Test.YtbkojmcppeflbaaDoorSl13
namespace Go.Proofs.YtbkojmcppeflbaaDoor
open Go
set_option linter.unusedVariables false
set_option linter.unusedSimpArgs false
set_option linter.unusedSectionVars false
set_option linter.unnecessarySimpa false
variable {P : Program} {τ : Meta} {N : Nat} {Q : Exit → Act → World → Prop} {m : List (Nat × Value)} {L : List Itm} {κ : Act → World → Prop}
section ops
variable {d : Nat} {ty : TypeId} {pos : String} {af : Array Edge} {g : Option (Nat × Bool)}
theorem o_litC (cs : List Value) {t e n sz : Nat} {by_ : Nat} {z : Value} {parts : List (Nat × Operand)} {vs : List (Nat × Value)} [Und P t (.slice e)] [Inf P e sz by_ z]
    (hp : evp m parts = some vs) (hs : Nat.ble (n * sz) 16777216 = true) (hz : Nat.blt 0 (n * sz) = true) {cc : List (Nat × List Value)} [cv : CVP L vs cc] (hf : fillL (fun i => some (i * sz, sz)) ((List.range (n * sz)).map ((cellsOf z).toArray[· % (cellsOf z).toArray.size]!)) cc = some cs) (hd : Nat.blt d N = true)
    (nx : ∀ b : Nat, G τ N κ ((d, .slice (some ⟨b, 0, none⟩) n n) :: m) (Cells b cs e :: L)) : G τ N (opK P ⟨some d, .buildSlice t n parts.toArray, ty, pos, af, g⟩ κ Q) m L := by
  refine G.step_new (v := fun b : Nat => .slice (some ⟨b, 0, none⟩) n n) (L' := fun b => Cells b cs e :: L) rfl hd (fun a w hK hS => ?_) nx
  have hps : (parts.toArray.map fun (i, x) => (i, a.eval x)).toList = vs := by rw [← hK.evps hp]; simp
  have hs' : ¬ n * sz > 2 ^ 24 := Nat.not_lt.2 (Nat.le_trans (Nat.le_of_ble_eq_true hs) (by decide))
  have hz' : ¬ n * sz = 0 := fun e => by have := Nat.le_of_ble_eq_true (show Nat.ble 1 (n * sz) = true from hz); rw [e] at this; cases this
  have hff : Instr.fill (fun i => some (i * sz, sz)) ((Array.range (n * sz)).map (z.cells[· % z.cells.size]!)) vs = some cs.toArray := by
    have e2 : z.cells = (cellsOf z).toArray := by rw [← cells_toList]
    have e3 : ((Array.range (n * sz)).map (z.cells[· % z.cells.size]!)) = ((List.range (n * sz)).map ((cellsOf z).toArray[· % (cellsOf z).toArray.size]!)).toArray := by rw [e2]; apply Array.ext'; simp
    rw [e3, fill_eq, cv.out hS, hf]; rfl
  refine ⟨w.heap.size, { w with heap := w.heap.push (.cells cs.toArray e) }, ?_, push_st hS cs e⟩
  simp only [execOp, Instr.buildSlice, Sem.run_bind, run_underlying, Result.andThen_ok, run_sizeOf, hs', if_false, Sem.run_pure, hz', run_zero, hps, hff, newRow, run_newObj]
theorem r_idxC {x ix : Operand} {b n c o : Nat} {kk : IntKind} {i : Int} {t e : TypeId} {sz by_ : Nat} {z : Value} [Und P t (.slice e)] [Inf P e sz by_ z]
    (hx : ev m x = some (.slice (some ⟨b, 0, none⟩) n c)) (hi : ev m ix = some (.int kk i)) (h0 : 0 ≤ i) (h1 : i < (n : Int)) (ho : i.toNat * sz = o) : RunV P τ N m L ⟨some d, .indexAddr t x ix, ty, pos, af, g⟩ (.pointer (some ⟨b, o, none⟩)) := fun a w hK hS => by
  subst ho
  simp [execOp, hK.eval hx, hK.eval hi, Instr.indexAt, asIntOf, run_underlying, run_sizeOf, h0, h1, add_plain]
theorem r_lenC {x : Operand} {A : Option Addr} {n c : Nat} {i : Int} {t e : TypeId} [Und P t (.slice e)] (hx : ev m x = some (.slice A n c)) (hi : (n : Int) = i) :
    RunV P τ N m L ⟨some d, .call ⟨.builtin .len, [x].toArray, #[t]⟩, ty, pos, af, g⟩ (.int .i64 i) := fun a w hK hS => by
  obtain ⟨cs, e1⟩ := run_builtin (P := P) (b := .len) (ats := #[t]) (d := some d) (ty := ty) (pos := pos) (af := af) (g := g) (args := [x]) (vs := [_]) (by simp [evs, hx]; rfl) hK w
  rw [e1]; simp [builtin, Builtin.len_, run_underlying, goInt, hi]
end ops
/-! ## Interface values, nil or not -/
class IsIfc (P : Program) (t : TypeId) : Prop where
  out : ∃ ms, P.underlying t = some (.interface ms)
def IfcP (v : Value) (b : Bool) : Itm := ⟨true, fun _ h => h = PH.nil ∧ ((b = true ∧ v = .nilIface) ∨ (b = false ∧ ∃ t p, v = .iface t p)), fun _ h => h, fun _ _ _ h => h.1⟩
instance {v : Value} {b : Bool} : Pers (IfcP v b) := ⟨rfl⟩
class IfcIn (L : List Itm) (v : Value) (b : outParam Bool) : Prop where
  out : ∀ {F h : PH}, SepL F L h → (b = true ∧ v = .nilIface) ∨ (b = false ∧ ∃ t p, v = .iface t p)
instance (priority := 1000) IfcIn.here {v : Value} {b : Bool} {L : List Itm} : IfcIn (IfcP v b :: L) v b := ⟨fun ⟨_, _, i, _⟩ => i.2⟩
instance (priority := 100) IfcIn.there {v : Value} {b : Bool} {x : Itm} {L : List Itm} [s : IfcIn L v b] : IfcIn (x :: L) v b := ⟨fun ⟨_, _, _, K, _⟩ => s.out K⟩
section
variable {d : Nat} {ty : TypeId} {pos : String} {af : Array Edge} {g : Option (Nat × Bool)}
theorem eqIfcN {t : TypeId} {ms : Array (String × TypeId)} [h : Und P t (.interface ms)] (d : Nat) (w : World) : (Op.equalIn (d + 1) t .nilIface .nilIface).run P w = .ok true w := by
  simp [Op.equalIn, run_underlying]
theorem eqIfcI {t : TypeId} {ms : Array (String × TypeId)} [h : Und P t (.interface ms)] (d : Nat) (tp : TypeId) (p : Value) (w : World) : (Op.equalIn (d + 1) t (.iface tp p) .nilIface).run P w = .ok false w := by
  simp [Op.equalIn, run_underlying]
theorem r_ifcEq {t t' : TypeId} {x : Operand} {v : Value} {b : Bool} [hu : IsIfc P t] (hx : ev m x = some v) [s : IfcIn L v b] :
    RunV P τ N m L ⟨some d, .binOp .eql t x (.const .nilIface) t', ty, pos, af, g⟩ (.bool b) := fun a w hK hS => by
  obtain ⟨ms, hu⟩ := hu.out
  haveI : Und P t (.interface ms) := ⟨hu⟩
  obtain ⟨F, h, _, _, _, K, _⟩ := hS
  rcases s.out K with ⟨rfl, rfl⟩ | ⟨rfl, tp, p, rfl⟩
  · simp [execOp, hK.eval hx, (show a.eval (.const .nilIface) = .nilIface from rfl), eqGuard, binOp, Op.equal, Op.maxDepth, eqIfcN, eqIfcI]
  · simp [execOp, hK.eval hx, (show a.eval (.const .nilIface) = .nilIface from rfl), eqGuard, binOp, Op.equal, Op.maxDepth, eqIfcN, eqIfcI]
theorem r_ifcNe {t t' : TypeId} {x : Operand} {v : Value} {b : Bool} [hu : IsIfc P t] (hx : ev m x = some v) [s : IfcIn L v b] :
    RunV P τ N m L ⟨some d, .binOp .neq t x (.const .nilIface) t', ty, pos, af, g⟩ (.bool (!b)) := fun a w hK hS => by
  obtain ⟨ms, hu⟩ := hu.out
  haveI : Und P t (.interface ms) := ⟨hu⟩
  obtain ⟨F, h, _, _, _, K, _⟩ := hS
  rcases s.out K with ⟨rfl, rfl⟩ | ⟨rfl, tp, p, rfl⟩
  · simp [execOp, hK.eval hx, (show a.eval (.const .nilIface) = .nilIface from rfl), eqGuard, binOp, Op.equal, Op.maxDepth, eqIfcN, eqIfcI]
  · simp [execOp, hK.eval hx, (show a.eval (.const .nilIface) = .nilIface from rfl), eqGuard, binOp, Op.equal, Op.maxDepth, eqIfcN, eqIfcI]
end
theorem G.fixI (t : Nat) {k : IntKind} {e e' : Int} (he : e = e') (hl : lk m t = some (.int k e)) (n : G τ N κ ((t, .int k e') :: m) L) : G τ N κ m L := by
  intro a w hK hS
  refine n a w ⟨hK.size, hK.defers, ?_⟩ hS
  intro q v e
  simp only [lk] at e
  cases hq : Nat.beq t q with
  | true => rw [hq] at e; simp at e; subst e; rw [← Nat.eq_of_beq_eq_true hq, ← he]; exact hK.slot t _ hl
  | false => rw [hq] at e; exact hK.slot q v e
theorem r_aidxC (r : Value) (sz : Nat) (cs : List Value) {d : Nat} {ty : TypeId} {pos : String} {af : Array Edge} {g : Option (Nat × Bool)} {t e : TypeId} {ue : TypeDesc} {len by_ : Nat} {z : Value} {x ix : Operand} {kk : IntKind} {i : Int}
    [Und P t (.array len e)] [Und P e ue] [Inf P e sz by_ z] (hx : ev m x = some (.agg cs.toArray)) (hi : ev m ix = some (.int kk i)) (h0 : 0 ≤ i) (h1 : i < (len : Int))
    (hu : TypeDesc.agg ue = true) (hr : Value.agg (cs.toArray.extract (i.toNat * sz) (i.toNat * sz + sz)) = r) : RunV P τ N m L ⟨some d, .index t x ix, ty, pos, af, g⟩ r := fun a w hK hS => by
  subst hr
  simp [execOp, hK.eval hx, hK.eval hi, Instr.index, asIntOf, run_underlying, run_sizeOf, h0, h1, part, run_isAgg, hu]
end Go.Proofs.YtbkojmcppeflbaaDoor
