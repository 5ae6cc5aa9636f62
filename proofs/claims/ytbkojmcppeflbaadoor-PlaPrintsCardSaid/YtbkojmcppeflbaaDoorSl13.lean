/- The symbolic layer: ranges over texts, bytes as a text, texts as keys, several operations in any order, loops laid out, scopes. -/
import Derived.Test.YtbkojmcppeflbaaDoorSl12
import Derived.Scope
import Derived.Laws.BytesString
import Derived.Laws.Strings
namespace Go.Proofs.YtbkojmcppeflbaaDoor
open Go
set_option linter.unusedVariables false
set_option linter.unusedSimpArgs false
set_option linter.unusedSectionVars false
set_option linter.unnecessarySimpa false
variable {P : Program} {τ : Meta} {N : Nat} {Q : Exit → Act → World → Prop} {m : List (Nat × Value)} {L : List Itm} {κ : Act → World → Prop}
/-! ## Ranges over texts -/
def SIt (r : Nat) (s : ByteArray) (p : Nat) : Itm := ⟨false, fun _ h => h = PH.one r (.stringIter s p), fun _ h => h, fun e => by cases e⟩
class UpdI (L : List Itm) (r : Nat) (s : outParam ByteArray) (p : outParam Nat) (L1 : outParam (List Itm)) : Prop where
  out : ∀ {F h : PH}, SepL F L h → SepL F (SIt r s p :: L1) h
instance (priority := 1000) UpdI.here {r : Nat} {s : ByteArray} {p : Nat} {L : List Itm} : UpdI (SIt r s p :: L) r s p L := ⟨fun H => H⟩
instance (priority := 100) UpdI.there {r : Nat} {s : ByteArray} {p : Nat} {y : Itm} {L L1 : List Itm} [q : UpdI L r s p L1] : UpdI (y :: L) r s p (y :: L1) :=
  ⟨fun ⟨h1, h2, i, k, d, e⟩ => SepL.swap ⟨h1, h2, i, q.out k, d, e⟩⟩
section ops
variable {d : Nat} {ty : TypeId} {pos : String} {af : Array Edge} {g : Option (Nat × Bool)}
theorem o_rangeS {t : TypeId} {x : Operand} {s : ByteArray} [hu : Und P t .string] (hx : ev m x = some (.string s)) (hd : Nat.blt d N = true)
    (n : ∀ r : Nat, G τ N κ ((d, .pointer (some ⟨r, 0, none⟩)) :: m) (SIt r s 0 :: L)) : G τ N (opK P ⟨some d, .range t x, ty, pos, af, g⟩ κ Q) m L := by
  refine G.step_new (v := fun r : Nat => .pointer (some ⟨r, 0, none⟩)) (L' := fun r => SIt r s 0 :: L) rfl hd (fun a w hK hS => ?_) n
  refine ⟨w.heap.size, w.alloc (.stringIter s 0), by simp [execOp, hK.eval hx, Instr.range, run_underlying], ?_⟩
  refine hS.fresh rfl ?_ ?_
  · intro b hb
    simp only [hp] at *
    have : b < w.heap.size := by
      rcases Nat.lt_or_ge b w.heap.size with h | h
      · exact h
      · simp [Array.getElem?_eq_none h] at hb
    exact heap_alloc_old _ _ this
  · intro F _
    refine ⟨PH.one w.heap.size _, rfl, ?_, ?_⟩
    · intro c x hc
      by_cases e : c = w.heap.size
      · subst e; rw [PH.one_at] at hc; cases hc; simp only [hp]; exact heap_alloc_new w _
      · simp [PH.one, e] at hc
    · intro c hc
      have e : c = w.heap.size := by
        by_cases e : c = w.heap.size
        · exact e
        · simp [PH.one, e] at hc
      subst e; simp [hp]
theorem o_nextE {it : Operand} {r p : Nat} {s : ByteArray} {L1 : List Itm} (hx : ev m it = some (.pointer (some ⟨r, 0, none⟩))) [q : UpdI L r s p L1] (hp' : decide (p < s.size) = false) (hd : Nat.blt d N = true)
    (n : G τ N κ ((d, .tuple #[.bool false]) :: m) L1) : G τ N (opK P ⟨some d, .next it true, ty, pos, af, g⟩ κ Q) m L := by
  intro a w hK hS
  have hlt : ¬ p < s.size := of_decide_eq_false hp'
  have H : St τ (SIt r s p :: L1) w := let ⟨F, h, a, b', c, d, e⟩ := hS; ⟨F, h, a, b', c, q.out d, e⟩
  obtain ⟨F, h, _, lh, rfl⟩ := H.get
  have hr : w.heap[r]? = some (.stringIter s p) := lh _ _ (PH.one_at _ _)
  have e : (Instr.next (.pointer (some ⟨r, 0, none⟩)) true ty).run P w = .ok (.tuple #[.bool false]) w := by
    simp [Instr.next, getObj, Sem.run, hr, hlt]
  have op : (execOp a.eval (⟨some d, .next it true, ty, pos, af, g⟩ : Oper)) = (do pure (.value (← Instr.next (.pointer (some ⟨r, 0, none⟩)) true ty))) := by simp [execOp, hK.eval hx]
  simp only [opK, Oper.wp, op, Sem.run_bind, e, Result.andThen_ok, Sem.run_pure, Oper.upon]
  exact n _ _ (hK.put hd _) H.drop
theorem o_nextT {it : Operand} {r p : Nat} {s : ByteArray} {L1 : List Itm} (hx : ev m it = some (.pointer (some ⟨r, 0, none⟩))) [q : UpdI L r s p L1] (hp' : decide (p < s.size) = true) (hd : Nat.blt d N = true)
    (n : G τ N κ ((d, .tuple #[.bool true, .int .i64 p, .int .i32 (Utf8.decode s p).1]) :: m) (SIt r s (p + (Utf8.decode s p).2) :: L1)) : G τ N (opK P ⟨some d, .next it true, ty, pos, af, g⟩ κ Q) m L := by
  intro a w hK hS
  have hlt : p < s.size := of_decide_eq_true hp'
  have H : St τ (SIt r s p :: L1) w := let ⟨F, h, a, b', c, d, e⟩ := hS; ⟨F, h, a, b', c, q.out d, e⟩
  obtain ⟨F, h, _, lh, rfl⟩ := H.get
  have hr : w.heap[r]? = some (.stringIter s p) := lh _ _ (PH.one_at _ _)
  have e : (Instr.next (.pointer (some ⟨r, 0, none⟩)) true ty).run P w = .ok (.tuple #[.bool true, .int .i64 p, .int .i32 (Utf8.decode s p).1]) { w with heap := w.heap.setIfInBounds r (.stringIter s (p + (Utf8.decode s p).2)) } := by
    simp [Instr.next, getObj, setObj, Sem.run, hr, hlt, goInt]
  have op : (execOp a.eval (⟨some d, .next it true, ty, pos, af, g⟩ : Oper)) = (do pure (.value (← Instr.next (.pointer (some ⟨r, 0, none⟩)) true ty))) := by simp [execOp, hK.eval hx]
  simp only [opK, Oper.wp, op, Sem.run_bind, e, Result.andThen_ok, Sem.run_pure, Oper.upon]
  exact n _ _ (hK.put hd _) (H.setMapX hr (fun F h e => ⟨_, e⟩) fun F => rfl)
/-! ## Bytes as a text -/
def b2s (xs : List Int) : ByteArray := ⟨(xs.map fun n => UInt8.ofNat n.toNat).toArray⟩
theorem push_b2s (ns : List Int) : ∀ (r : ByteArray), ns.foldl (fun r n => r.push (UInt8.ofNat n.toNat)) r = ⟨r.data ++ (ns.map fun n => UInt8.ofNat n.toNat).toArray⟩ := by
  induction ns with
  | nil => intro r; simp
  | cons n ns ih =>
    intro r
    rw [List.foldl_cons, ih]
    apply ByteArray.ext
    simp [ByteArray.push]
theorem r_b2s {t t' e : TypeId} {x : Operand} {v : Value} {xs : List Int} [Und P t (.slice e)] [Und P t' .string] [Und P e (.int .u8)] (hx : ev m x = some v) [s : SlIn L v (kI .u8) xs] :
    RunV P τ N m L ⟨some d, .convert t t' x, ty, pos, af, g⟩ (.string (b2s xs)) := fun a w hK hS => by
  obtain ⟨F, _, r⟩ := hS.read (u := v) (k := kI .u8)
  obtain ⟨A, c, rfl, hc, hr⟩ := id r
  have he : (execOp a.eval (⟨some d, .convert t t' x, ty, pos, af, g⟩ : Oper)) = (do pure (.value (← convert t t' (.slice A xs.length c)))) := by simp [execOp, hK.eval hx]
  rw [he]
  simp only [Sem.run_bind, convert, run_underlying, Result.andThen_ok]
  cases A with
  | none =>
    rcases hr with rfl | ⟨b, o, blk, ty, fz, e1, _⟩
    · simp [Conv.bytesToString, b2s]; rfl
    · cases e1
  | some A =>
    have hl : (loadCells A xs.length).run P w = .ok (xs.map (Value.int .u8)).toArray w := by
      obtain ⟨vs, h1, h2, h3, _⟩ := run_first (P := P) r rfl
      simp only [Builtin.firstCells, kI, Nat.mul_one] at h1 h2 h3
      have : vs = xs.map (Value.int .u8) := by
        apply List.ext_getElem?
        intro i
        cases hx : xs[i]? with
        | none =>
          have : xs.length ≤ i := by
            rcases Nat.lt_or_ge i xs.length with h | h
            · rw [List.getElem?_eq_getElem h] at hx; cases hx
            · exact h
          rw [List.getElem?_eq_none (by omega), List.getElem?_map, hx]; rfl
        | some y =>
          obtain ⟨cs, rfl, h⟩ := h3 i y hx
          have := h 0 _ rfl
          simp only [Nat.add_zero] at this
          rw [this, List.getElem?_map, hx]; rfl
      rw [this] at h1; exact h1
    have := run_bytesToString w A xs.length c xs hl
    simp only [this, Result.andThen_ok, Sem.run_pure]
    rw [push_b2s]; congr 2; apply congrArg; apply ByteArray.ext; simp [b2s]
end ops
/-! ## Texts as keys -/
theorem beqB (a b : ByteArray) : (a == b) = decide (a = b) := by
  cases a with | mk a => cases b with | mk b =>
  rw [Bool.eq_iff_iff]
  show (a == b) = true ↔ _
  simp
theorem keyStr (t : TypeId) [h : Und P t .string] : KeyOk P t (fun x : ByteArray => .string x) where
  eq := fun a b w => by
    have := eqStr (P := P) (t := t) 9999 a b w
    rw [Op.equal, Op.maxDepth, this]; congr 1
    rw [Bool.eq_iff_iff]
    simp only [beq_iff_eq, decide_eq_true_eq]
    constructor
    · intro e
      have e1 : a.data.toList = b.data.toList := by
        rw [← ByteArray.toList_eq, ← ByteArray.toList_eq]; exact e
      exact ByteArray.ext (Array.toList_inj.1 e1)
    · rintro rfl; rfl
  now := ⟨_, h.out, .inl fun a b => by simp [Instr.sameNow, beqB]⟩
  check := fun e k w => checkLeaf rfl e 9999 _ w
  same := fun a => by simp [Instr.sameBits, beqB]
/-! ## Several operations may be next -/
section
variable {ops : List Oper} {Lc : List Itm} {n : Nat} {l : Array Bool}
def oneK (P : Program) (τ : Meta) (ops : Array Oper) (Lc : List Itm) (κ : Act → World → Prop) (n : Nat) (l : Array Bool) (i : Nat) : Act → World → Prop := wpOp P ops (Only κ) i (cK P τ ops Lc κ n (l.setIfInBounds i true))
theorem D.runs (is : List Nat) (hr : Region.ready .any ops.toArray l = is) (hne : is.isEmpty = false) (h : ∀ i ∈ is, G τ N (oneK P τ ops.toArray Lc κ n l i) m L) : G τ N (dK P τ ops.toArray Lc κ (n + 1) l) m L := by
  intro a w hK hS
  refine .inr ⟨(by rw [hr]; intro e; rw [e] at hne; cases hne), fun j hj => ?_⟩
  rw [hr] at hj
  exact h j hj a w hK hS
theorem all_cons {is : List Nat} {i : Nat} {p : Nat → Prop} (h : p i) (t : ∀ j ∈ is, p j) : ∀ j ∈ i :: is, p j := fun j hj => by
  rcases List.mem_cons.1 hj with rfl | hj
  · exact h
  · exact t j hj
theorem all_nil {p : Nat → Prop} : ∀ j ∈ ([] : List Nat), p j := fun j hj => by cases hj
theorem D.one (i : Nat) {d : Option Nat} {op : Op} {ty : TypeId} {pos : String} {af : Array Edge} (hi : ops[i]? = some ⟨d, op, ty, pos, af, none⟩)
    (h : G τ N (opK P ⟨d, op, ty, pos, af, none⟩ (cK P τ ops.toArray Lc κ n (l.setIfInBounds i true)) (Only κ)) m L) : G τ N (oneK P τ ops.toArray Lc κ n l i) m L := by
  intro a w hK hS
  have hi' := (List.getElem?_toArray (xs := ops) (i := i)).trans hi
  simp only [oneK, wpOp, hi', Region.wanted, if_true]
  exact .inl (h a w hK hS)
theorem D.one_t (i : Nat) {d : Option Nat} {op : Op} {ty : TypeId} {pos : String} {af : Array Edge} {j t : Nat} {b want : Bool} (hi : ops[i]? = some ⟨d, op, ty, pos, af, some (j, want)⟩)
    (hj : (ops[j]?).bind (·.dst) = some t) (ht : lk m t = some (.bool b)) (hb : b = want)
    (h : G τ N (opK P ⟨d, op, ty, pos, af, some (j, want)⟩ (cK P τ ops.toArray Lc κ n (l.setIfInBounds i true)) (Only κ)) m L) : G τ N (oneK P τ ops.toArray Lc κ n l i) m L := by
  intro a w hK hS
  have hi' := (List.getElem?_toArray (xs := ops) (i := i)).trans hi
  simp only [oneK, wpOp, hi', Region.wanted, yielded_K hK hj ht, hb, beq_self_eq_true, if_true]
  exact .inl (h a w hK hS)
end
/-! ## A loop laid out round by round -/
def LW (P : Program) (c : Code) (Q : Exit → Act → World → Prop) : Act → World → Prop := fun a w => ∀ b k cs, ∃ e a' w', Q e a' w' ∧ Arrives P (lone (b.at a (.code c :: .inLoop c :: k)) cs w) b k cs e a' w'
theorem Ws.loopS {c : Code} (h : G τ N (LW P c Q) m L) : G τ N ((Code.loop c).wp P Q) m L := by
  intro a w hK hS b k cs
  obtain ⟨e, a', w', hq, harr⟩ := h a w hK hS b k cs
  exact ⟨e, a', w', hq, .of_steps (.one step_loop) harr⟩
theorem LW_of {c : Code} {a : Act} {w : World} (h : c.wp P (Exit.then (LW P c Q) Q) a w) : LW P c Q a w := by
  intro b k cs
  obtain ⟨e, a₁, w₁, hq, harr⟩ := h b (.inLoop c :: k) cs
  cases e with
  | normal =>
    obtain ⟨e₂, a₂, w₂, hq₂, harr₂⟩ := hq b k cs
    exact ⟨e₂, a₂, w₂, hq₂, .of_steps (Steps.trans harr (.one step_inLoop)) harr₂⟩
  | exit id => exact ⟨_, a₁, w₁, hq, .pass (x := .inLoop c) rfl (fun _ _ => .inl (by simp)) harr⟩
  | goto l => exact ⟨_, a₁, w₁, hq, .pass (x := .inLoop c) rfl (fun _ _ => .inl (by simp)) harr⟩
  | ret => exact ⟨_, a₁, w₁, hq, .pass (x := .inLoop c) rfl (fun _ _ => .inl (by simp)) harr⟩
  | panic ch => exact ⟨_, a₁, w₁, hq, .pass (x := .inLoop c) rfl (fun _ _ => .inl (by simp)) harr⟩
  | outgrown => exact ⟨_, a₁, w₁, hq, .pass (x := .inLoop c) rfl (fun _ _ => .inl (by simp)) harr⟩
theorem Ws.round {c : Code} (h : G τ N (c.wp P (Exit.then (LW P c Q) Q)) m L) : G τ N (LW P c Q) m L := fun a w hK hS => LW_of (h a w hK hS)
/-! ## Scopes, labels -/
theorem Ws.scope {c : Code} (h : G τ N (c.wp P (Exit.noGoto Q)) m L) : G τ N ((Code.scope c).wp P Q) m L := fun a w hK hS => wp_scope_straight (h a w hK hS)
theorem Ws.label {l : Nat} (h : G τ N (Q .normal) m L) : G τ N ((Code.label l).wp P Q) m L := fun a w hK hS => wp_label (h a w hK hS)
theorem Qs.scope_n (h : G τ N (Q .normal) m L) : G τ N (Exit.noGoto Q .normal) m L := fun a w hK hS => h a w hK hS
theorem Qs.scope_r (h : G τ N (Q .ret) m L) : G τ N (Exit.noGoto Q .ret) m L := fun a w hK hS => h a w hK hS
theorem Qs.scope_e {i : Nat} (h : G τ N (Q (.exit i)) m L) : G τ N (Exit.noGoto Q (.exit i)) m L := fun a w hK hS => h a w hK hS
end Go.Proofs.YtbkojmcppeflbaaDoor
