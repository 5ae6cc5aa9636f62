/- The symbolic layer: frames as lists of known slots; one lemma for each operation. -/
import Derived.Test.YtbkojmcppeflbaaDoorSl1
import Derived.Laws.Sem
namespace Go.Proofs.YtbkojmcppeflbaaDoor
open Go
set_option linter.unusedVariables false
set_option linter.unusedSimpArgs false
set_option linter.unusedSectionVars false
set_option linter.unnecessarySimpa false

/-! ## Frames -/
def lk : List (Nat × Value) → Nat → Option Value
  | [], _ => none
  | (k, v) :: m, t => bif Nat.beq k t then some v else lk m t
def ev (m : List (Nat × Value)) : Operand → Option Value
  | .tmp t => lk m t
  | .const v => some v
  | .global g => some (.pointer (some ⟨g, 0, none⟩))
  | .func f => some (.func (.func f) #[] #[])
def evs (m : List (Nat × Value)) : List Operand → Option (List Value)
  | [] => some []
  | x :: xs => match ev m x, evs m xs with
    | some v, some vs => some (v :: vs)
    | _, _ => none
structure K (N : Nat) (m : List (Nat × Value)) (a : Act) : Prop where
  size : a.tmps.size = N
  defers : a.defers = []
  slot : ∀ t v, lk m t = some v → a.tmps[t]? = some v
theorem K.eval {N : Nat} {m : List (Nat × Value)} {a : Act} (h : K N m a) {x : Operand} {v : Value} (e : ev m x = some v) : a.eval x = v := by
  cases x with
  | tmp t => have := h.slot t v e; simp [Act.eval, Array.getD_eq_getD_getElem?, this]
  | const c => simpa [ev, Act.eval] using e
  | global g => simpa [ev, Act.eval] using e
  | func f => simpa [ev, Act.eval] using e
theorem K.evals {N : Nat} {m : List (Nat × Value)} {a : Act} (h : K N m a) : ∀ {xs : List Operand} {vs : List Value}, evs m xs = some vs → xs.map a.eval = vs
  | [], vs, e => by simp [evs] at e; simp [e]
  | x :: xs, vs, e => by
    simp only [evs] at e
    split at e
    · rename_i v vs' h1 h2
      cases e
      simp [h.eval h1, h.evals h2]
    · cases e
theorem K.put {N d : Nat} {m : List (Nat × Value)} {a : Act} (h : K N m a) (hd : Nat.blt d N = true) (v : Value) : K N ((d, v) :: m) (a.put (some d) v) := by
  have hd' : d < N := by simpa [Nat.blt_eq] using hd
  refine ⟨by simp [Act.put, h.size], by simp [Act.put, h.defers], ?_⟩
  intro t u hu
  simp only [lk] at hu
  simp only [Act.put]
  by_cases e : d = t
  · subst e
    simp at hu; subst hu
    simp [h.size, hd']
  · have : Nat.beq d t = false := by (rw [← Bool.not_eq_true, Nat.beq_eq]; exact e)
    simp [this] at hu
    rw [Array.getElem?_setIfInBounds_ne e]
    exact h.slot t u hu
theorem K.sub {N : Nat} {m m' : List (Nat × Value)} {a : Act} (h : K N m a) (hs : ∀ t v, lk m' t = some v → lk m t = some v) : K N m' a :=
  ⟨h.size, h.defers, fun t v e => h.slot t v (hs t v e)⟩

/-! ## Code over known slots and items -/
/-- Whatever frame bears these slots, whatever world these items: κ. -/
def G (τ : Meta) (N : Nat) (κ : Act → World → Prop) (m : List (Nat × Value)) (L : List Itm) : Prop := ∀ a w, K N m a → St τ L w → κ a w
/-- One operation, and κ behind it. -/
def opK (P : Program) (o : Oper) (κ : Act → World → Prop) (Q : Exit → Act → World → Prop) : Act → World → Prop := fun a w => o.wp P a w κ Q
/-- What the operation j of a region with these slots yielded. -/
def yieldD (D : List (Option Tmp)) (a : Act) (j : Nat) : Option Bool :=
  match D[j]? with
  | some (some t) => (match a.tmps[t]? with | some (.bool b) => some b | _ => none)
  | _ => none
def wpL (P : Program) (Q : Exit → Act → World → Prop) (D : List (Option Tmp)) : List Oper → Act → World → Prop
  | [], a, w => Q .normal a w
  | o :: r, a, w => match o.guard with
    | none => o.wp P a w (wpL P Q D r) Q
    | some (j, want) => if yieldD D a j = some want then o.wp P a w (wpL P Q D r) Q else wpL P Q D r (a.put o.dst undef) w
theorem yieldD_eq (ops : Array Oper) (a : Act) (j : Nat) : yieldD (ops.toList.map (·.dst)) a j = yielded ops a.tmps j := by
  unfold yieldD yielded
  simp only [List.getElem?_map, Array.getElem?_toList]
  cases ops[j]? with
  | none => rfl
  | some o => simp only [Option.map_some, Option.bind_some]; cases o.dst with
    | none => rfl
    | some t => simp only [Option.bind_some]; cases a.tmps[t]? with
      | none => rfl
      | some v => cases v <;> rfl
theorem wp_keep {P : Program} {o : Oper} {a : Act} {w : World} {κ κ' : Act → World → Prop} {Q : Exit → Act → World → Prop} (key : ∀ a w, κ a w → κ' a w) (h : o.wp P a w κ Q) : o.wp P a w κ' Q := by
  unfold Oper.wp at h ⊢
  revert h
  cases (execOp a.eval o).run P w with
  | halt hh w' => cases hh <;> exact fun h => h
  | ok x w' =>
    cases x <;> simp only [Oper.upon] <;> intro h <;> first
      | exact key _ _ h
      | exact h
      | (refine h.mono ?_; intro e w'' he; cases e <;> first | exact key _ _ he | exact he)
      | exact (Rows.mono h fun v w'' he => key _ _ he)
theorem wpOps_of_wpL {P : Program} {Q : Exit → Act → World → Prop} {ops : Array Oper} :
    ∀ (l : List Oper) (i : Nat) (a : Act) (w : World), ops.toList.drop i = l → wpL P Q (ops.toList.map (·.dst)) l a w → wpOps P ops Q (List.range' i l.length) a w
  | [], i, a, w, _, h => by simpa [wpOps, wpL] using h
  | o :: r, i, a, w, e, h => by
    have hi : ops.toList[i]? = some o := by
      have := congrArg (fun l => l[0]?) e
      simpa using this
    have hi' : ops[i]? = some o := by simpa using hi
    have hr : ops.toList.drop (i + 1) = r := by rw [← List.tail_drop, e]; rfl
    have key : ∀ a w, wpL P Q (ops.toList.map (·.dst)) r a w → wpOps P ops Q (List.range' (i + 1) r.length) a w := fun a w k => wpOps_of_wpL r (i + 1) a w hr k
    simp only [List.length_cons, List.range'_succ, wpOps, hi']
    simp only [wpL] at h
    cases hg : o.guard with
    | none =>
      simp only [hg] at h
      simp only [Region.wanted, hg, if_true]
      exact .inl (wp_keep key h)
    | some jw =>
      obtain ⟨j, want⟩ := jw
      simp only [hg, yieldD_eq] at h
      simp only [Region.wanted, hg, beq_iff_eq]
      split
      · rename_i hw; rw [if_pos hw] at h; exact .inl (wp_keep key h)
      · rename_i hw; rw [if_neg hw] at h; exact key _ _ h

variable {P : Program} {τ : Meta} {N : Nat} {Q : Exit → Act → World → Prop} {m : List (Nat × Value)} {L : List Itm}
theorem G.mono {κ κ' : Act → World → Prop} (h : G τ N κ m L) (k : ∀ a w, κ a w → κ' a w) : G τ N κ' m L := fun a w x y => k _ _ (h a w x y)
theorem Ws.region {id : Nat} {l : List Oper} (h : G τ N (wpL P Q (l.map (·.dst)) l) m L) : G τ N ((Code.region id l.toArray false).wp P Q) m L := by
  intro a w hK hS
  refine wp_region ?_
  have := wpOps_of_wpL (P := P) (Q := Q) (ops := l.toArray) l 0 a w (by simp) (by simpa using h a w hK hS)
  simpa [List.range_eq_range'] using this
theorem Ws.seq {x y : Code} (h : G τ N (x.wp P (Exit.then (y.wp P Q) Q)) m L) : G τ N ((Code.seq x y).wp P Q) m L :=
  fun a w hK hS => wp_seq (h a w hK hS)
theorem Ws.skip (h : G τ N (Q .normal) m L) : G τ N (Code.skip.wp P Q) m L := fun a w hK hS => wp_skip (h a w hK hS)
theorem Ws.exit {id : Nat} (h : G τ N (Q (.exit id)) m L) : G τ N ((Code.exit id).wp P Q) m L := fun a w hK hS => wp_exit (h a w hK hS)
theorem Ws.ret (h : G τ N (Q .ret) m L) : G τ N (Code.ret.wp P Q) m L := fun a w hK hS => wp_ret (h a w hK hS)
theorem Ws.block {id : Nat} {c : Code} (h : G τ N (c.wp P (Exit.inBlock id Q)) m L) : G τ N ((Code.block id c).wp P Q) m L := fun a w hK hS => wp_block (h a w hK hS)
theorem Ws.cond_t {c : Operand} {x y : Code} {b : Bool} (hc : ev m c = some (.bool b)) (hb : b = true) (h : G τ N (x.wp P Q) m L) : G τ N ((Code.cond c x y).wp P Q) m L :=
  fun a w hK hS => wp_cond_true (by rw [hK.eval hc, hb]) (h a w hK hS)
theorem Ws.cond_f {c : Operand} {x y : Code} {b : Bool} (hc : ev m c = some (.bool b)) (hb : b = false) (h : G τ N (y.wp P Q) m L) : G τ N ((Code.cond c x y).wp P Q) m L :=
  fun a w hK hS => wp_cond_false (by rw [hK.eval hc, hb]) (h a w hK hS)
theorem Ls.nil {D : List (Option Tmp)} (h : G τ N (Q .normal) m L) : G τ N (wpL P Q D []) m L := fun a w hK hS => h a w hK hS
theorem Ls.cons {D : List (Option Tmp)} {r : List Oper} {d : Option Tmp} {op : Op} {ty : TypeId} {pos : String} {af : Array Edge} (h : G τ N (opK P ⟨d, op, ty, pos, af, none⟩ (wpL P Q D r) Q) m L) :
    G τ N (wpL P Q D (⟨d, op, ty, pos, af, none⟩ :: r)) m L := fun a w hK hS => h a w hK hS
theorem yield_K {D : List (Option Tmp)} {j t : Nat} {b : Bool} {a : Act} (hK : K N m a) (hj : D[j]? = some (some t)) (ht : lk m t = some (.bool b)) : yieldD D a j = some b := by
  simp [yieldD, hj, hK.slot t _ ht]
theorem Ls.guard_t {D : List (Option Tmp)} {r : List Oper} {d : Option Tmp} {op : Op} {ty : TypeId} {pos : String} {af : Array Edge} {j t : Nat} {b want : Bool} (hj : D[j]? = some (some t)) (ht : lk m t = some (.bool b)) (hb : b = want)
    (h : G τ N (opK P ⟨d, op, ty, pos, af, some (j, want)⟩ (wpL P Q D r) Q) m L) : G τ N (wpL P Q D (⟨d, op, ty, pos, af, some (j, want)⟩ :: r)) m L := fun a w hK hS => by
  simp only [wpL, yield_K hK hj ht, hb, if_true]; exact h a w hK hS
theorem Ls.guard_f {D : List (Option Tmp)} {r : List Oper} {d : Nat} {op : Op} {ty : TypeId} {pos : String} {af : Array Edge} {j t : Nat} {b want : Bool} (hj : D[j]? = some (some t)) (ht : lk m t = some (.bool b)) (hb : b = !want)
    (hd : Nat.blt d N = true) (h : G τ N (wpL P Q D r) ((d, undef) :: m) L) : G τ N (wpL P Q D (⟨some d, op, ty, pos, af, some (j, want)⟩ :: r)) m L := fun a w hK hS => by
  have : ¬ ((!want) = want) := by cases want <;> decide
  simp only [wpL, yield_K hK hj ht, hb, Option.some.injEq, this, if_false]; exact h _ w (hK.put hd _) hS
/-! at the end of a piece: what stands behind it -/
theorem Qs.then_n {y : Act → World → Prop} (h : G τ N y m L) : G τ N (Exit.then y Q .normal) m L := fun a w hK hS => h a w hK hS
theorem Qs.then_e {y : Act → World → Prop} {i : Nat} (h : G τ N (Q (.exit i)) m L) : G τ N (Exit.then y Q (.exit i)) m L := fun a w hK hS => h a w hK hS
theorem Qs.then_r {y : Act → World → Prop} (h : G τ N (Q .ret) m L) : G τ N (Exit.then y Q .ret) m L := fun a w hK hS => h a w hK hS
theorem Qs.block_n {id : Nat} (h : G τ N (Q .normal) m L) : G τ N (Exit.inBlock id Q .normal) m L := fun a w hK hS => h a w hK hS
theorem Qs.block_r {id : Nat} (h : G τ N (Q .ret) m L) : G τ N (Exit.inBlock id Q .ret) m L := fun a w hK hS => h a w hK hS
theorem Qs.block_e {id : Nat} (h : G τ N (Q .normal) m L) : G τ N (Exit.inBlock id Q (.exit id)) m L :=
  fun a w hK hS => by simp only [Exit.inBlock, if_true]; exact h a w hK hS
theorem Qs.block_o {id i : Nat} (hi : Nat.beq i id = false) (h : G τ N (Q (.exit i)) m L) : G τ N (Exit.inBlock id Q (.exit i)) m L :=
  fun a w hK hS => by
    have : i ≠ id := by intro e; rw [← Nat.beq_eq, hi] at e; cases e
    simp only [Exit.inBlock, this, if_false]; exact h a w hK hS

/-! ## Operations -/
/-- The operation yields v, and turns nothing. -/
def RunV (P : Program) (τ : Meta) (N : Nat) (m : List (Nat × Value)) (L : List Itm) (o : Oper) (v : Value) : Prop := ∀ a w, K N m a → St τ L w → (execOp a.eval o).run P w = .ok (.value v) w
theorem G.q {o : Oper} {κ : Act → World → Prop} {d : Nat} {v : Value} (h : RunV P τ N m L o v) (ho : o.dst = some d) (hd : Nat.blt d N = true) (n : G τ N κ ((d, v) :: m) L) : G τ N (opK P o κ Q) m L := by
  intro a w hK hS
  simp only [opK, Oper.wp, h a w hK hS, Oper.upon, ho]
  exact n _ _ (hK.put hd v) hS
/-- A step that brings something new. -/
theorem G.step_new {α : Type} {o : Oper} {κ : Act → World → Prop} {d : Nat} {v : α → Value} {L' : α → List Itm} (ho : o.dst = some d) (hd : Nat.blt d N = true)
    (h : ∀ a w, K N m a → St τ L w → ∃ x w', (execOp a.eval o).run P w = .ok (.value (v x)) w' ∧ St τ (L' x) w')
    (n : ∀ x, G τ N κ ((d, v x) :: m) (L' x)) : G τ N (opK P o κ Q) m L := by
  intro a w hK hS
  obtain ⟨x, w', e, hS'⟩ := h a w hK hS
  simp only [opK, Oper.wp, e, Oper.upon, ho]
  exact n x _ _ (hK.put hd _) hS'
/-- A step without a result. -/
theorem G.step_skip {o : Oper} {κ : Act → World → Prop} {L' : List Itm} (ho : o.dst = none)
    (h : ∀ a w, K N m a → St τ L w → ∃ w', (execOp a.eval o).run P w = .ok .skip w' ∧ St τ L' w')
    (n : G τ N κ m L') : G τ N (opK P o κ Q) m L := by
  intro a w hK hS
  obtain ⟨w', e, hS'⟩ := h a w hK hS
  simp only [opK, Oper.wp, e, Oper.upon, ho]
  exact n _ _ hK hS'

section ops
variable {d : Option Tmp} {ty : TypeId} {pos : String} {af : Array Edge} {g : Option (Nat × Bool)}
theorem r_move {x : Operand} {v : Value} (hx : ev m x = some v) :
    RunV P τ N m L ⟨d, .move x, ty, pos, af, g⟩ (v) := fun a w hK hS => by simp [execOp, pure, hK.eval hx]
theorem r_assign {x : Operand} {v : Value} (hx : ev m x = some v) :
    RunV P τ N m L ⟨d, .assign x, ty, pos, af, g⟩ (v) := fun a w hK hS => by simp [execOp, pure, hK.eval hx]
theorem r_extract {x : Operand} {vs : Array Value} {i : Nat} {v : Value} (hx : ev m x = some (.tuple vs)) (hv : vs.toList[i]? = some v) :
    RunV P τ N m L ⟨d, .extract x i, ty, pos, af, g⟩ (v) := fun a w hK hS => by
    have hv' : vs[i]? = some v := by simpa using hv
    simp [execOp, pure, bind, Sem.bind, hK.eval hx, Instr.extract, hv']
/-- What an operation on two whole numbers of one kind gives. -/
def binV (op : BinOp) (k : IntKind) (a b : Int) : Option Value :=
  match op with
  | .add => some (.int k (k.wrap (a + b)))
  | .sub => some (.int k (k.wrap (a - b)))
  | .mul => some (.int k (k.wrap (a * b)))
  | .and => some (.int k (k.wrap (BitVec.ofInt k.bits a &&& BitVec.ofInt k.bits b).toNat))
  | .or => some (.int k (k.wrap (BitVec.ofInt k.bits a ||| BitVec.ofInt k.bits b).toNat))
  | .xor => some (.int k (k.wrap (BitVec.ofInt k.bits a ^^^ BitVec.ofInt k.bits b).toNat))
  | .andNot => some (.int k (k.wrap (BitVec.ofInt k.bits a &&& ~~~ BitVec.ofInt k.bits b).toNat))
  | .eql => some (.bool (a == b))
  | .neq => some (.bool (a != b))
  | .lss => some (.bool (decide (a < b)))
  | .leq => some (.bool (decide (a ≤ b)))
  | .gtr => some (.bool (decide (a > b)))
  | .geq => some (.bool (decide (a ≥ b)))
  | _ => none
theorem run_bin {op : BinOp} {k : IntKind} {a b : Int} {v : Value} (h : binV op k a b = some v) (t : TypeId) (w : World) :
    (binOp op t (.int k a) (.int k b)).run P w = .ok v w := by
  cases op <;> simp only [binV, Option.some.injEq, reduceCtorEq] at h <;> subst h <;>
    simp [binOp, Op.intArith, Op.intBits, Op.intCmp]
theorem run_guard (op : BinOp) (t : TypeId) (x y : Operand) (k l : IntKind) (a b : Int) (w : World) : (eqGuard op t x y (.int k a) (.int l b)).run P w = .ok () w := by
  cases op <;> simp [eqGuard]
theorem run_guardS (op : BinOp) (t : TypeId) (x y : Operand) (a b : ByteArray) (w : World) : (eqGuard op t x y (.string a) (.string b)).run P w = .ok () w := by
  cases op <;> simp [eqGuard]
theorem run_guardB (op : BinOp) (t : TypeId) (x y : Operand) (a b : Bool) (w : World) : (eqGuard op t x y (.bool a) (.bool b)).run P w = .ok () w := by
  cases op <;> simp [eqGuard]
theorem r_bin {op : BinOp} {t t' : TypeId} {x y : Operand} {k : IntKind} {a b : Int} {v : Value} (hx : ev m x = some (.int k a)) (hy : ev m y = some (.int k b))
    (hv : binV op k a b = some v) :
    RunV P τ N m L ⟨d, .binOp op t x y t', ty, pos, af, g⟩ (v) := fun ac w hK hS => by simp [execOp, hK.eval hx, hK.eval hy, run_guard, run_bin hv]
/-- A shift by a count that is not negative. -/
def shV (op : BinOp) (k : IntKind) (a b : Int) : Option Value :=
  match op with
  | .shl => some (.int k (k.wrap (a * 2 ^ (min b.toNat k.bits))))
  | .shr => some (.int k (a.fdiv (2 ^ (min b.toNat k.bits))))
  | _ => none
theorem r_shift {op : BinOp} {t t' : TypeId} {x y : Operand} {k l : IntKind} {a b : Int} {v : Value} (hx : ev m x = some (.int k a)) (hy : ev m y = some (.int l b))
    (hv : shV op k a b = some v) (hb : 0 ≤ b) :
    RunV P τ N m L ⟨d, .binOp op t x y t', ty, pos, af, g⟩ (v) := fun ac w hK hS => by
    have hb' : ¬ b < 0 := by omega
    cases op <;> simp only [shV, Option.some.injEq, reduceCtorEq] at hv <;> subst hv <;>
    simp [execOp, hK.eval hx, hK.eval hy, run_guard, binOp, Op.shift, hb']
/-- A division by a number that is not nought. -/
def divV (op : BinOp) (k : IntKind) (a b : Int) : Option Value :=
  match op with
  | .quo => some (.int k (k.wrap (a.tdiv b)))
  | .rem => some (.int k (a.tmod b))
  | _ => none
theorem r_div {op : BinOp} {t t' : TypeId} {x y : Operand} {k : IntKind} {a b : Int} {v : Value} (hx : ev m x = some (.int k a)) (hy : ev m y = some (.int k b))
    (hv : divV op k a b = some v) (hb : b ≠ 0) :
    RunV P τ N m L ⟨d, .binOp op t x y t', ty, pos, af, g⟩ (v) := fun ac w hK hS => by
    cases op <;> simp only [divV, Option.some.injEq, reduceCtorEq] at hv <;> subst hv <;>
    simp [execOp, hK.eval hx, hK.eval hy, run_guard, binOp, Op.intDiv, hb]
def iBit (op : BinOp) (k : IntKind) (a b : Int) : Int :=
  match op with
  | .and => k.wrap (BitVec.ofInt k.bits a &&& BitVec.ofInt k.bits b).toNat
  | .or => k.wrap (BitVec.ofInt k.bits a ||| BitVec.ofInt k.bits b).toNat
  | .xor => k.wrap (BitVec.ofInt k.bits a ^^^ BitVec.ofInt k.bits b).toNat
  | .andNot => k.wrap (BitVec.ofInt k.bits a &&& ~~~ BitVec.ofInt k.bits b).toNat
  | _ => 0
def bitV (op : BinOp) (k : IntKind) (a b : Int) : Option Value :=
  match op with
  | .and => some (.int k (iBit .and k a b))
  | .or => some (.int k (iBit .or k a b))
  | .xor => some (.int k (iBit .xor k a b))
  | .andNot => some (.int k (iBit .andNot k a b))
  | _ => none
theorem r_bit {op : BinOp} {t t' : TypeId} {x y : Operand} {k : IntKind} {a b : Int} {v : Value} (hx : ev m x = some (.int k a)) (hy : ev m y = some (.int k b))
    (hv : bitV op k a b = some v) : RunV P τ N m L ⟨d, .binOp op t x y t', ty, pos, af, g⟩ v := by
  refine r_bin hx hy ?_
  rw [← hv]
  cases op <;> first | rfl | (simp [bitV] at hv; done)
def iSh (op : BinOp) (k : IntKind) (a b : Int) : Int :=
  match op with
  | .shl => k.wrap (a * 2 ^ (min b.toNat k.bits))
  | .shr => a.fdiv (2 ^ (min b.toNat k.bits))
  | _ => 0
def shV' (op : BinOp) (k : IntKind) (a b : Int) : Option Value :=
  match op with
  | .shl => some (.int k (iSh .shl k a b))
  | .shr => some (.int k (iSh .shr k a b))
  | _ => none
theorem r_sh {op : BinOp} {t t' : TypeId} {x y : Operand} {k l : IntKind} {a b : Int} {v : Value} (hx : ev m x = some (.int k a)) (hy : ev m y = some (.int l b))
    (hv : shV' op k a b = some v) (hb : 0 ≤ b) : RunV P τ N m L ⟨d, .binOp op t x y t', ty, pos, af, g⟩ v := by
  refine r_shift hx hy ?_ hb
  rw [← hv]
  cases op <;> first | rfl | (simp [shV'] at hv; done)
def iDiv (op : BinOp) (k : IntKind) (a b : Int) : Int :=
  match op with
  | .quo => k.wrap (a.tdiv b)
  | .rem => a.tmod b
  | _ => 0
def dvV (op : BinOp) (k : IntKind) (a b : Int) : Option Value :=
  match op with
  | .quo => some (.int k (iDiv .quo k a b))
  | .rem => some (.int k (iDiv .rem k a b))
  | _ => none
theorem r_dv {op : BinOp} {t t' : TypeId} {x y : Operand} {k : IntKind} {a b : Int} {v : Value} (hx : ev m x = some (.int k a)) (hy : ev m y = some (.int k b))
    (hv : dvV op k a b = some v) (hb : b ≠ 0) : RunV P τ N m L ⟨d, .binOp op t x y t', ty, pos, af, g⟩ v := by
  refine r_div hx hy ?_ hb
  rw [← hv]
  cases op <;> first | rfl | (simp [dvV] at hv; done)
theorem r_not {t : TypeId} {x : Operand} {b : Bool} (hx : ev m x = some (.bool b)) :
    RunV P τ N m L ⟨d, .unOp .not t x, ty, pos, af, g⟩ (.bool (!b)) := fun ac w hK hS => by simp [execOp, hK.eval hx, Op.unary]
theorem r_neg {t : TypeId} {x : Operand} {k : IntKind} {a : Int} (hx : ev m x = some (.int k a)) :
    RunV P τ N m L ⟨d, .unOp .neg t x, ty, pos, af, g⟩ (.int k (k.wrap (0 - a))) := fun ac w hK hS => by simp [execOp, hK.eval hx, Op.unary, Op.intArith]
theorem r_pick {x y z : Operand} {b : Bool} {u v : Value} (hx : ev m x = some (.bool b)) (hy : ev m y = some u) (hz : ev m z = some v) :
    RunV P τ N m L ⟨d, .pick x y z, ty, pos, af, g⟩ (if b then u else v) := fun ac w hK hS => by simp [execOp, hK.eval hx, hK.eval hy, hK.eval hz, asBool]
/-! types -/
class Und (P : Program) (t : TypeId) (u : outParam TypeDesc) : Prop where
  out : P.underlying t = some u
/-- A type's size in cells, its size in bytes, its nought. -/
class Inf (P : Program) (t : TypeId) (sz by_ : outParam Nat) (z : outParam Value) : Prop where
  out : ∃ i, P.info? t = some i ∧ i.size = sz ∧ i.bytes = by_ ∧ i.zero = some z
def TypeDesc.agg : TypeDesc → Bool
  | .struct _ | .array _ _ => true
  | _ => false
theorem run_underlying {t : TypeId} {u : TypeDesc} [h : Und P t u] (w : World) : (underlying t).run P w = .ok u w := by simp [underlying, h.out]
theorem run_sizeOf {t : TypeId} {sz by_ : Nat} {z : Value} [h : Inf P t sz by_ z] (w : World) : (sizeOf t).run P w = .ok sz w := by
  obtain ⟨i, h1, h2, h3, h4⟩ := h.out; simp [sizeOf, typeInfo, h1, h2]
theorem run_zero {t : TypeId} {sz by_ : Nat} {z : Value} [h : Inf P t sz by_ z] (w : World) : (zeroValue t).run P w = .ok z w := by
  obtain ⟨i, h1, h2, h3, h4⟩ := h.out; simp [zeroValue, typeInfo, h1, h4]
theorem run_isAgg {t : TypeId} {u : TypeDesc} [h : Und P t u] (w : World) : (isAgg t).run P w = .ok (TypeDesc.agg u) w := by
  simp only [isAgg, Sem.run_bind, run_underlying, Result.andThen_ok]
  cases u <;> rfl
theorem r_conv {t t' : TypeId} {x : Operand} {k l : IntKind} {a : Int} {u : TypeDesc} [hu : Und P t u] [hu' : Und P t' (.int l)] (hx : ev m x = some (.int k a)) :
    RunV P τ N m L ⟨d, .convert t t' x, ty, pos, af, g⟩ (.int l (l.wrap a)) := fun ac w hK hS => by simp [execOp, hK.eval hx, convert, run_underlying, Conv.intToInt]
theorem K.evalsA {a : Act} (h : K N m a) {xs : List Operand} {vs : List Value} (e : evs m xs = some vs) : xs.toArray.map a.eval = vs.toArray := by
  have := h.evals e
  subst this; simp
theorem r_makeFunc {fn : Fn} {xs ys : List Operand} {us vs : List Value} (hx : evs m xs = some us) (hy : evs m ys = some vs) :
    RunV P τ N m L ⟨d, .makeFunc fn xs.toArray ys.toArray, ty, pos, af, g⟩ (.func fn us.toArray vs.toArray) := fun ac w hK hS => by simp only [execOp, hK.evalsA hx, hK.evalsA hy]; simp [Instr.makeFunc]
theorem r_nilCheck {x : Operand} {ad : Addr} (hx : ev m x = some (.pointer (some ad))) :
    RunV P τ N m L ⟨d, .nilCheck x, ty, pos, af, g⟩ (.pointer (some ad)) := fun ac w hK hS => by simp [execOp, hK.eval hx]
end ops
end Go.Proofs.YtbkojmcppeflbaaDoor
