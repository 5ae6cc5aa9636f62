/- The symbolic layer: pieces that are cut; regions whose order is open. -/
import Derived.Test.YtbkojmcppeflbaaDoorSl4
import Derived.Orders
namespace Go.Proofs.YtbkojmcppeflbaaDoor
open Go
set_option linter.unusedVariables false
set_option linter.unusedSimpArgs false
set_option linter.unusedSectionVars false
set_option linter.unnecessarySimpa false
variable {P : Program} {τ : Meta} {N : Nat} {Q : Exit → Act → World → Prop} {m : List (Nat × Value)} {L : List Itm}

/-! ## A cut -/
def Only (κ : Act → World → Prop) : Exit → Act → World → Prop
  | .normal, a, w => κ a w
  | _, _, _ => False
/-- A frame with these slots, a world with these items. -/
def Mid (τ : Meta) (N : Nat) (m : List (Nat × Value)) (L : List Itm) : Act → World → Prop := fun a w => K N m a ∧ St τ L w
theorem wp_keepQ {o : Oper} {a : Act} {w : World} {κ κ' : Act → World → Prop} {Q Q' : Exit → Act → World → Prop} (key : ∀ a w, κ a w → κ' a w) (kq : ∀ e a w, Q e a w → Q' e a w) (h : o.wp P a w κ Q) : o.wp P a w κ' Q' := by
  unfold Oper.wp at h ⊢
  revert h
  cases (execOp a.eval o).run P w with
  | halt hh w' => cases hh <;> first | exact fun h => h | exact fun h => kq _ _ _ h
  | ok x w' =>
    cases x <;> simp only [Oper.upon] <;> intro h <;> first
      | exact key _ _ h
      | exact h
      | (refine h.mono ?_; intro e w'' he; cases e <;> first | exact key _ _ he | exact kq _ _ _ he | exact (let ⟨a, w, x⟩ := he; ⟨a, w, kq _ _ _ x⟩))
      | exact (Rows.mono h fun v w'' he => key _ _ he)
theorem wpL_mono {D : List (Option Tmp)} {Q Q' : Exit → Act → World → Prop} (kq : ∀ e a w, Q e a w → Q' e a w) : ∀ {l : List Oper} {a : Act} {w : World}, wpL P Q D l a w → wpL P Q' D l a w
  | [], _, _, h => kq _ _ _ h
  | o :: r, _, _, h => by
    simp only [wpL] at h ⊢
    split <;> rename_i hg <;> simp only [hg] at h
    · exact wp_keepQ (fun _ _ => wpL_mono kq) kq h
    · split <;> rename_i hc <;> simp only [hc, if_true, if_false] at h
      · exact wp_keepQ (fun _ _ => wpL_mono kq) kq h
      · exact wpL_mono kq h
theorem only_le {Q : Exit → Act → World → Prop} {κ : Act → World → Prop} (h : ∀ a w, κ a w → Q .normal a w) : ∀ e a w, Only κ e a w → Q e a w
  | .normal, a, w, k => h a w k
  | .exit _, _, _, k => k.elim
  | .goto _, _, _, k => k.elim
  | .ret, _, _, k => k.elim
  | .panic _, _, _, k => k.elim
  | .outgrown, _, _, k => k.elim
theorem Ls.cut {D : List (Option Tmp)} {l : List Oper} (m2 : List (Nat × Value)) (L2 : List Itm) (h : G τ N (wpL P (Only (Mid τ N m2 L2)) D l) m L) (n : G τ N (Q .normal) m2 L2) : G τ N (wpL P Q D l) m L :=
  fun a w hK hS => wpL_mono (only_le fun _ _ k => n _ _ k.1 k.2) (h a w hK hS)
theorem Ws.cut {c : Code} {κ : Act → World → Prop} (m2 : List (Nat × Value)) (L2 : List Itm) (h : G τ N (c.wp P (Exit.then (Mid τ N m2 L2) Q)) m L) (n : G τ N κ m2 L2) : G τ N (c.wp P (Exit.then κ Q)) m L :=
  fun a w hK hS => wp_mono (h a w hK hS) fun e a w k => by cases e <;> first | exact n _ _ k.1 k.2 | exact k
theorem Qs.mid {m2 : List (Nat × Value)} {L2 : List Itm} (hm : Sub m m2) (hL : ∀ w, St τ L w → St τ L2 w) : G τ N (Mid τ N m2 L2) m L := fun a w hK hS => ⟨hK.of_sub hm, hL w hS⟩
/-- A cut at which something new may be known. -/
def MidX {ε : Type} (τ : Meta) (N : Nat) (φ : Prop) (m : ε → List (Nat × Value)) (L : ε → List Itm) : Act → World → Prop := fun a w => ∃ e, φ ∧ K N (m e) a ∧ St τ (L e) w
theorem Ws.cutX {ε : Type} {c : Code} {κ : Act → World → Prop} (φ : Prop) (m2 : ε → List (Nat × Value)) (L2 : ε → List Itm) (h : G τ N (c.wp P (Exit.then (MidX τ N φ m2 L2) Q)) m L) (n : ∀ e, φ → G τ N κ (m2 e) (L2 e)) : G τ N (c.wp P (Exit.then κ Q)) m L :=
  fun a w hK hS => wp_mono (h a w hK hS) fun e a w k => by cases e <;> first | (obtain ⟨x, p, q, r⟩ := k; exact n x p _ _ q r) | exact k
theorem Qs.midX {ε : Type} {φ : Prop} {m2 : ε → List (Nat × Value)} {L2 : ε → List Itm} (e : ε) (p : φ) (hm : Sub m (m2 e)) (hL : ∀ w, St τ L w → St τ (L2 e) w) : G τ N (MidX τ N φ m2 L2) m L := fun a w hK hS => ⟨e, p, hK.of_sub hm, hL w hS⟩
def isR {α β : Type} : α ⊕ β → Bool
  | .inl _ => false
  | .inr _ => true
@[reducible] def getR {α β : Type} (d : β) : α ⊕ β → β
  | .inl _ => d
  | .inr s => s
theorem Qs.only {κ : Act → World → Prop} (h : G τ N κ m L) : G τ N (Only κ .normal) m L := fun a w hK hS => h a w hK hS

theorem Ls.cutX {ε : Type} {D : List (Option Tmp)} {l : List Oper} (φ : Prop) (m2 : ε → List (Nat × Value)) (L2 : ε → List Itm) (h : G τ N (wpL P (Only (MidX τ N φ m2 L2)) D l) m L) (n : ∀ e, φ → G τ N (Q .normal) (m2 e) (L2 e)) : G τ N (wpL P Q D l) m L :=
  fun a w hK hS => wpL_mono (only_le fun _ _ k => by obtain ⟨x, p, q, r⟩ := k; exact n x p _ _ q r) (h a w hK hS)
theorem then_self (Q : Exit → Act → World → Prop) : Exit.then (Q .normal) Q = Q := by funext e; cases e <;> rfl
theorem Ws.thenI {c : Code} (h : G τ N (c.wp P (Exit.then (Q .normal) Q)) m L) : G τ N (c.wp P Q) m L := by rw [then_self] at h; exact h
theorem G.fixB {κ : Act → World → Prop} (t : Nat) {b c : Bool} (hb : b = c) (ht : lk m t = some (.bool b)) (n : G τ N κ ((t, .bool c) :: m) L) : G τ N κ m L := by
  intro a w hK hS
  refine n a w ⟨hK.size, hK.defers, ?_⟩ hS
  intro q v e
  simp only [lk] at e
  cases hq : Nat.beq t q with
  | true => rw [hq] at e; simp at e; subst e; rw [← Nat.eq_of_beq_eq_true hq, ← hb]; exact hK.slot t _ ht
  | false => rw [hq] at e; exact hK.slot q v e

/-! ## Regions that draw their order: what only reads, in a world that is described so, may be taken first -/
section draw
variable (P : Program) (ops : Array Oper) (C : World → Prop) (κ : Act → World → Prop)
/-- Each operation that is not done yet stands behind all that are done. -/
def tailOk (ops : Array Oper) (l : Array Bool) : Bool :=
  (List.range ops.size).all fun j => l.getD j true || (List.range ops.size).all fun i => !(l.getD i false) || match ops[j]? with
    | some oj => oj.after.any fun e => Region.binds .any e && e.on == i
    | none => true
def wpD : Nat → Array Bool → Act → World → Prop
  | 0, l, a, w => wpAny P .any ops (Only κ) 0 l a w
  | n + 1, l, a, w => (tailOk ops l = true ∧ wpAny P .any ops (Only κ) (n + 1) l a w) ∨
      (Region.ready .any ops l ≠ [] ∧ ∀ i ∈ Region.ready .any ops l, wpOp P ops (Only κ) i (fun a' w' => C w' ∧ wpD n (l.setIfInBounds i true) a' w') a w)
end draw
section
variable {ops : Array Oper} {C : World → Prop} {κ : Act → World → Prop}
theorem wpD_sound : ∀ (n : Nat) (l : Array Bool) (a : Act) (w : World), wpD P ops C κ n l a w → wpAny P .any ops (Only κ) n l a w
  | 0, _, _, _, h => h
  | n + 1, l, a, w, h => by
    rcases h with h | h
    · exact h.2
    · exact ⟨fun e => absurd e h.1, fun i hi => wpOp_mono (fun a' w' k => wpD_sound n _ a' w' k.2) (h.2 i hi)⟩
def YieldsC (P : Program) (ops : Array Oper) (C : World → Prop) (o : Oper) (v : Value) (a : Act) : Prop :=
  (Region.wanted o (yielded ops a.tmps) = true ∧ ∀ w, C w → (execOp a.eval o).run P w = .ok (.value v) w) ∨
  (Region.wanted o (yielded ops a.tmps) = false ∧ v = undef)
theorem YieldsC.wpOp {i : Nat} {o : Oper} {v : Value} {a : Act} (hi : ops[i]? = some o) (hy : YieldsC P ops C o v a)
    {K : Act → World → Prop} {Q : Exit → Act → World → Prop} {w : World} (hC : C w) (h : K (a.put o.dst v) w) : wpOp P ops Q i K a w := by
  unfold Go.wpOp
  simp only [hi]
  rcases hy with ⟨hw, hv⟩ | ⟨hw, rfl⟩
  · simp only [hw, if_true, Oper.wp, hv w hC, Oper.upon]; exact .inl h
  · simp only [hw, Bool.false_eq_true, if_false]; exact h
theorem YieldsC.of_same {o : Oper} {v : Value} {a a' : Act} (hy : YieldsC P ops C o v a) (he : execOp a'.eval o = execOp a.eval o)
    (hw : Region.wanted o (yielded ops a'.tmps) = Region.wanted o (yielded ops a.tmps)) : YieldsC P ops C o v a' := by
  unfold YieldsC at *
  rw [he, hw]
  exact hy
theorem wpOp_putC {j : Nat} {oi oj : Oper} {v : Value} (hj : ops[j]? = some oj) (hap : oi.apart ops oj = true)
    (hsi : ∀ cs b, oi.op ≠ .select cs b) (hsj : ∀ cs b, oj.op ≠ .select cs b)
    {K : Act → World → Prop} {a : Act} {w : World}
    (hy : YieldsC P ops C oi v a) (h : wpOp P ops (Only κ) j K (a.put oi.dst v) w) :
    wpOp P ops (Only κ) j (fun a' w' => YieldsC P ops C oi v a' ∧ K (a'.put oi.dst v) w') a w := by
  obtain ⟨h1, h2, h3⟩ := Oper.apart_spec hap
  have keep : ∀ (a : Act), YieldsC P ops C oi v a → ∀ u, YieldsC P ops C oi v (a.put oj.dst u) := fun a hy u =>
    hy.of_same (execOp_put oi hsi a oj.dst u h3) (wanted_put oi a oj.dst u h3)
  have keepD : ∀ d, YieldsC P ops C oi v { a with defers := d :: a.defers } := fun d => hy.of_same rfl rfl
  unfold wpOp at *
  simp only [hj] at *
  rw [wanted_put oj a oi.dst v h1] at h
  split
  · rename_i hw
    simp only [hw, if_true] at h
    rcases h with h | ⟨_, _, _, hlets⟩
    case inr => exact hlets.elim
    refine .inl ?_
    unfold Oper.wp at *
    rw [execOp_put oj hsj a oi.dst v h1] at h
    generalize (execOp a.eval oj).run P w = r at *
    cases r with
    | ok n w' =>
      cases n <;> simp only [Oper.upon] at h ⊢
      case value u => exact ⟨keep a hy u, by rw [← Act.put_comm a v u h2]; exact h⟩
      case skip => exact ⟨keep a hy _, by rw [← Act.put_comm a v undef h2]; exact h⟩
      case defer d =>
        refine ⟨keep _ (keepD d) _, ?_⟩
        rw [← Act.put_comm _ v undef h2, ← Act.put_defers]
        exact h
      case enter f args =>
        refine Calls.mono h fun e w'' he => ?_
        cases e with
        | returned u => exact ⟨keep a hy u, by rw [← Act.put_comm a v u h2]; exact he⟩
        | panicked c => exact he.elim
        | outgrown => exact he
      case row row args => exact Rows.mono h fun u w'' he => ⟨keep a hy u, by rw [← Act.put_comm a v u h2]; exact he⟩
    | halt x w' =>
      cases x <;> simp only [Oper.upon] at h ⊢
      case panic u => exact h.elim
  · rename_i hw
    simp only [hw] at h
    exact ⟨keep a hy _, by rw [← Act.put_comm a v undef h2]; exact h⟩
theorem wpD_first {i : Nat} {oi : Oper} {v : Value} (hi : ops[i]? = some oi) (hsel : ∀ (j : Nat) (o : Oper) cs b, ops[j]? = some o → o.op ≠ .select cs b) :
    ∀ (fuel : Nat) (l : Array Bool) (a : Act) (w : World),
      (∀ j oj, ops[j]? = some oj → j ≠ i → l.getD j true = false → (∀ e ∈ oj.after, Region.binds .any e = true → e.on ≠ i) → oi.apart ops oj = true) →
      i ∈ Region.ready .any ops l → YieldsC P ops C oi v a → C w →
      wpD P ops C κ fuel (l.setIfInBounds i true) (a.put oi.dst v) w → wpD P ops C κ (fuel + 1) l a w := by
  intro fuel
  induction fuel with
  | zero =>
    intro l a w _ hr hy hC H
    refine .inr ⟨fun h => (by rw [h] at hr; cases hr), fun j hj => ?_⟩
    by_cases hji : j = i
    · subst hji; exact hy.wpOp hi hC ⟨hC, H⟩
    · have := ready_mono hj hji
      rw [H.1] at this
      cases this
  | succ fuel ih =>
    intro l a w hfree hr hy hC H
    refine .inr ⟨fun h => (by rw [h] at hr; cases hr), fun j hj => ?_⟩
    by_cases hji : j = i
    · subst hji; exact hy.wpOp hi hC ⟨hC, H⟩
    · obtain ⟨hjun, oj, hoj, hall⟩ := mem_ready.1 hj
      have hnot : ∀ e ∈ oj.after, Region.binds .any e = true → e.on ≠ i := fun e he hb heq => by
        have h1 := hall e he hb
        have h0 := (mem_ready.1 hr).1
        rw [heq] at h1
        rcases Nat.lt_or_ge i l.size with h' | h'
        · simp [h'] at h0 h1; rw [h0] at h1; cases h1
        · simp [Array.getElem?_eq_none h'] at h1
      rcases H with H | H
      · exfalso
        have ht := H.1
        simp only [tailOk, List.all_eq_true, List.mem_range] at ht
        have hjlt := (Array.getElem?_eq_some_iff.1 hoj).1
        have hilt := (Array.getElem?_eq_some_iff.1 hi).1
        have t1 := ht j hjlt
        rw [getD_set_ne true (Ne.symm hji), hjun, Bool.false_or, List.all_eq_true] at t1
        have t2 := t1 i (List.mem_range.2 hilt)
        have hil : (l.setIfInBounds i true).getD i false = true := by
          have h0 := (mem_ready.1 hr).1
          rcases Nat.lt_or_ge i l.size with h' | h'
          · simp [h']
          · simp [Array.getElem?_eq_none h'] at h0
        rw [hil] at t2
        simp only [hoj, Bool.not_true, Bool.false_or, Array.any_eq_true', Bool.and_eq_true, beq_iff_eq] at t2
        obtain ⟨e, he, hb, ho⟩ := t2
        exact hnot e he hb ho
      · have h1 := H.2 j (ready_mono hj hji)
        have h2 := wpOp_putC hoj (hfree j oj hoj hji hjun hnot) (fun cs b => hsel i oi cs b hi) (fun cs b => hsel j oj cs b hoj) hy h1
        have hfree' : ∀ k ok, ops[k]? = some ok → k ≠ i → (l.setIfInBounds j true).getD k true = false →
            (∀ e ∈ ok.after, Region.binds .any e = true → e.on ≠ i) → oi.apart ops ok = true := fun k ok hk hki hun hno => by
          refine hfree k ok hk hki ?_ hno
          by_cases hjk : j = k
          · subst hjk; exact hjun
          · rw [getD_set_ne true hjk] at hun; exact hun
        refine wpOp_mono (fun a' w' h3 => ⟨h3.2.1, ih (l.setIfInBounds j true) a' w' hfree' (ready_mono hr (Ne.symm hji)) h3.1 h3.2.1 ?_⟩) h2
        rw [Array.setIfInBounds_comm _ _ hji]
        exact h3.2.2
end

/-! ## The same, over slots and items -/
class Cov (L Lc : List Itm) : Prop where
  out : ∀ {τ : Meta} {w : World}, St τ L w → St τ Lc w
instance Cov.of {L Lc L1 : List Itm} [s : Sels L Lc L1] : Cov L Lc := ⟨fun ⟨F, _, a, b, c, k, e⟩ => by
  obtain ⟨h1, h2, k1, _, _, rfl⟩ := (s.out k).split
  exact ⟨F, h1, a, PH.le_trans (PH.le_un_left _ _) b, (PH.dj_un'.1 c).1, k1, e⟩⟩
/-- A region under way: l has been done; n at most are to come. -/
def dK (P : Program) (τ : Meta) (ops : Array Oper) (Lc : List Itm) (κ : Act → World → Prop) (n : Nat) (l : Array Bool) : Act → World → Prop := wpD P ops (St τ Lc) κ n l
def aK (P : Program) (ops : Array Oper) (κ : Act → World → Prop) (n : Nat) (l : Array Bool) : Act → World → Prop := wpAny P .any ops (Only κ) n l
def cK (P : Program) (τ : Meta) (ops : Array Oper) (Lc : List Itm) (κ : Act → World → Prop) (n : Nat) (l : Array Bool) : Act → World → Prop := fun a w => St τ Lc w ∧ wpD P ops (St τ Lc) κ n l a w

section
variable {ops : List Oper} {Lc : List Itm} {κ : Act → World → Prop} {n : Nat} {l : Array Bool}
theorem D.start {id : Nat} (Lc : List Itm) (hm : P.follows .mixedOrders = true) (h : G τ N (dK P τ ops.toArray Lc (Q .normal) ops.length (Array.replicate ops.length false)) m L) : G τ N ((Code.region id ops.toArray true).wp P Q) m L := by
  intro a w hK hS
  have h1 : (Code.region id ops.toArray true).wp P (Only (Q .normal)) a w := by
    refine wp_region_any hm ?_
    have := wpD_sound _ _ _ _ (h a { w with drawn := w.drawn + 1 } hK (hS.drew _))
    simpa using this
  exact wp_mono h1 (only_le fun _ _ k => k)
/-- May the operation i be taken now? -/
def takeOk (ops : Array Oper) (l : Array Bool) (i : Nat) : Bool := Region.noSelect ops && Region.free .any ops l i && (Region.ready .any ops l).contains i
theorem D.take_any {i : Nat} {o : Oper} {v : Value} {d : Nat} [c : Cov L Lc] (hi : ops[i]? = some o) (hr : takeOk ops.toArray l i = true) (ho : o.dst = some d) (hd : Nat.blt d N = true)
    (hy : ∀ a, K N m a → YieldsC P ops.toArray (St τ Lc) o v a) (h : G τ N (dK P τ ops.toArray Lc κ n (l.setIfInBounds i true)) ((d, v) :: m) L) : G τ N (dK P τ ops.toArray Lc κ (n + 1) l) m L := by
  intro a w hK hS
  simp only [takeOk, Bool.and_eq_true] at hr
  have hi' : ops.toArray[i]? = some o := by simpa using hi
  have hk := h (a.put o.dst v) w (by rw [ho]; exact hK.put hd v) hS
  exact wpD_first hi' (Region.noSelect_spec hr.1.1) n l a w (Region.free_spec hi' hr.1.2) (by simpa using hr.2) (hy a hK) (c.out hS) hk
theorem D.take (i : Nat) {v : Value} {op : Op} {ty : TypeId} {pos : String} {af : Array Edge} {d : Nat} [c : Cov L Lc] (hi : ops[i]? = some ⟨some d, op, ty, pos, af, none⟩) (hr : takeOk ops.toArray l i = true)
    (hv : RunV P τ N m Lc ⟨some d, op, ty, pos, af, none⟩ v) (hd : Nat.blt d N = true) (h : G τ N (dK P τ ops.toArray Lc κ n (l.setIfInBounds i true)) ((d, v) :: m) L) : G τ N (dK P τ ops.toArray Lc κ (n + 1) l) m L :=
  D.take_any hi hr rfl hd (fun a hK => .inl ⟨by simp [Region.wanted], fun w hC => hv a w hK hC⟩) h
theorem yielded_K {j t : Nat} {b : Bool} {a : Act} (hK : K N m a) (hj : (ops[j]?).bind (·.dst) = some t) (ht : lk m t = some (.bool b)) : yielded ops.toArray a.tmps j = some b := by
  simp [yielded, hj, hK.slot t _ ht]
theorem D.take_t (i : Nat) {v : Value} {op : Op} {ty : TypeId} {pos : String} {af : Array Edge} {d j t : Nat} {b want : Bool} [c : Cov L Lc] (hi : ops[i]? = some ⟨some d, op, ty, pos, af, some (j, want)⟩) (hr : takeOk ops.toArray l i = true)
    (hj : (ops[j]?).bind (·.dst) = some t) (ht : lk m t = some (.bool b)) (hb : b = want)
    (hv : RunV P τ N m Lc ⟨some d, op, ty, pos, af, some (j, want)⟩ v) (hd : Nat.blt d N = true) (h : G τ N (dK P τ ops.toArray Lc κ n (l.setIfInBounds i true)) ((d, v) :: m) L) : G τ N (dK P τ ops.toArray Lc κ (n + 1) l) m L :=
  D.take_any hi hr rfl hd (fun a hK => .inl ⟨by simp [Region.wanted, yielded_K hK hj ht, hb], fun w hC => hv a w hK hC⟩) h
theorem D.take_f (i : Nat) {op : Op} {ty : TypeId} {pos : String} {af : Array Edge} {d j t : Nat} {b want : Bool} [c : Cov L Lc] (hi : ops[i]? = some ⟨some d, op, ty, pos, af, some (j, want)⟩) (hr : takeOk ops.toArray l i = true)
    (hj : (ops[j]?).bind (·.dst) = some t) (ht : lk m t = some (.bool b)) (hb : b = !want)
    (hd : Nat.blt d N = true) (h : G τ N (dK P τ ops.toArray Lc κ n (l.setIfInBounds i true)) ((d, undef) :: m) L) : G τ N (dK P τ ops.toArray Lc κ (n + 1) l) m L :=
  D.take_any hi hr rfl hd (fun a hK => .inr ⟨by simp [Region.wanted, yielded_K hK hj ht, hb], rfl⟩) h
theorem mem_single {i j : Nat} (h : j ∈ [i]) : j = i := by simpa using h
/-- The one operation that can be next. -/
theorem D.run (i : Nat) {d : Option Nat} {op : Op} {ty : TypeId} {pos : String} {af : Array Edge} (hi : ops[i]? = some ⟨d, op, ty, pos, af, none⟩) (hr : Region.ready .any ops.toArray l = [i])
    (h : G τ N (opK P ⟨d, op, ty, pos, af, none⟩ (cK P τ ops.toArray Lc κ n (l.setIfInBounds i true)) (Only κ)) m L) : G τ N (dK P τ ops.toArray Lc κ (n + 1) l) m L := by
  intro a w hK hS
  have hi' := (List.getElem?_toArray (xs := ops) (i := i)).trans hi
  refine .inr ⟨by rw [hr]; simp, fun j hj => ?_⟩
  rw [hr] at hj
  have e := mem_single hj; subst e
  simp only [wpOp, hi', Region.wanted, if_true]
  exact .inl (h a w hK hS)
theorem D.run_t (i : Nat) {d : Option Nat} {op : Op} {ty : TypeId} {pos : String} {af : Array Edge} {j t : Nat} {b want : Bool} (hi : ops[i]? = some ⟨d, op, ty, pos, af, some (j, want)⟩) (hr : Region.ready .any ops.toArray l = [i])
    (hj : (ops[j]?).bind (·.dst) = some t) (ht : lk m t = some (.bool b)) (hb : b = want)
    (h : G τ N (opK P ⟨d, op, ty, pos, af, some (j, want)⟩ (cK P τ ops.toArray Lc κ n (l.setIfInBounds i true)) (Only κ)) m L) : G τ N (dK P τ ops.toArray Lc κ (n + 1) l) m L := by
  intro a w hK hS
  have hi' := (List.getElem?_toArray (xs := ops) (i := i)).trans hi
  refine .inr ⟨by rw [hr]; simp, fun j' hj' => ?_⟩
  rw [hr] at hj'
  have e := mem_single hj'; subst e
  simp only [wpOp, hi', Region.wanted, yielded_K hK hj ht, hb, beq_self_eq_true, if_true]
  exact .inl (h a w hK hS)
theorem D.next [c : Cov L Lc] (h : G τ N (dK P τ ops.toArray Lc κ n l) m L) : G τ N (cK P τ ops.toArray Lc κ n l) m L := fun a w hK hS => ⟨c.out hS, h a w hK hS⟩
theorem wpD_mono {ops : Array Oper} {C C' : World → Prop} {κ : Act → World → Prop} (h : ∀ w, C' w → C w) : ∀ {n : Nat} {l : Array Bool} {a : Act} {w : World}, wpD P ops C' κ n l a w → wpD P ops C κ n l a w
  | 0, _, _, _, H => H
  | n + 1, _, _, _, H => H.imp id fun ⟨e, k⟩ => ⟨e, fun i hi => wpOp_mono (fun a' w' q => ⟨h _ q.1, wpD_mono h q.2⟩) (k i hi)⟩
/-- More is laid under what floats. -/
theorem D.more (Lc' : List Itm) [c : Cov Lc' Lc] (h : G τ N (dK P τ ops.toArray Lc' κ n l) m L) : G τ N (dK P τ ops.toArray Lc κ n l) m L :=
  fun a w hK hS => wpD_mono (fun _ k => c.out k) (h a w hK hS)
/-- From here on each operation stands behind all before it. -/
theorem D.tail (ht : tailOk ops.toArray l = true) (h : G τ N (aK P ops.toArray κ n l) m L) : G τ N (dK P τ ops.toArray Lc κ n l) m L := by
  intro a w hK hS
  cases n with
  | zero => exact h a w hK hS
  | succ n => exact .inl ⟨ht, h a w hK hS⟩
theorem A.run (i : Nat) {d : Option Nat} {op : Op} {ty : TypeId} {pos : String} {af : Array Edge} (hi : ops[i]? = some ⟨d, op, ty, pos, af, none⟩) (hr : Region.ready .any ops.toArray l = [i])
    (h : G τ N (opK P ⟨d, op, ty, pos, af, none⟩ (aK P ops.toArray κ n (l.setIfInBounds i true)) (Only κ)) m L) : G τ N (aK P ops.toArray κ (n + 1) l) m L := by
  intro a w hK hS
  have hi' := (List.getElem?_toArray (xs := ops) (i := i)).trans hi
  refine ⟨fun e => (by rw [hr] at e; cases e), fun j hj => ?_⟩
  rw [hr] at hj
  have e := mem_single hj; subst e
  simp only [wpOp, hi', Region.wanted, if_true]
  exact .inl (h a w hK hS)
theorem A.run_t (i : Nat) {d : Option Nat} {op : Op} {ty : TypeId} {pos : String} {af : Array Edge} {j t : Nat} {b want : Bool} (hi : ops[i]? = some ⟨d, op, ty, pos, af, some (j, want)⟩) (hr : Region.ready .any ops.toArray l = [i])
    (hj : (ops[j]?).bind (·.dst) = some t) (ht : lk m t = some (.bool b)) (hb : b = want)
    (h : G τ N (opK P ⟨d, op, ty, pos, af, some (j, want)⟩ (aK P ops.toArray κ n (l.setIfInBounds i true)) (Only κ)) m L) : G τ N (aK P ops.toArray κ (n + 1) l) m L := by
  intro a w hK hS
  have hi' := (List.getElem?_toArray (xs := ops) (i := i)).trans hi
  refine ⟨fun e => (by rw [hr] at e; cases e), fun j' hj' => ?_⟩
  rw [hr] at hj'
  have e := mem_single hj'; subst e
  simp only [wpOp, hi', Region.wanted, yielded_K hK hj ht, hb, beq_self_eq_true, if_true]
  exact .inl (h a w hK hS)
theorem A.run_f (i : Nat) {d : Nat} {op : Op} {ty : TypeId} {pos : String} {af : Array Edge} {j t : Nat} {b want : Bool} (hi : ops[i]? = some ⟨some d, op, ty, pos, af, some (j, want)⟩) (hr : Region.ready .any ops.toArray l = [i])
    (hj : (ops[j]?).bind (·.dst) = some t) (ht : lk m t = some (.bool b)) (hb : b = !want) (hd : Nat.blt d N = true)
    (h : G τ N (aK P ops.toArray κ n (l.setIfInBounds i true)) ((d, undef) :: m) L) : G τ N (aK P ops.toArray κ (n + 1) l) m L := by
  intro a w hK hS
  have hi' := (List.getElem?_toArray (xs := ops) (i := i)).trans hi
  refine ⟨fun e => (by rw [hr] at e; cases e), fun j' hj' => ?_⟩
  rw [hr] at hj'
  have e := mem_single hj'; subst e
  have hne : ¬ ((!want) = want) := by cases want <;> decide
  simp only [wpOp, hi', Region.wanted, yielded_K hK hj ht, hb]
  rw [if_neg (by simpa using hne)]
  exact h _ w (hK.put hd _) hS
theorem A.done (hr : Region.ready .any ops.toArray l = []) (h : G τ N κ m L) : G τ N (aK P ops.toArray κ n l) m L :=
  fun a w hK hS => wpAny_done hr (h a w hK hS) n
theorem D.done (hr : Region.ready .any ops.toArray l = []) (ht : tailOk ops.toArray l = true) (h : G τ N κ m L) : G τ N (dK P τ ops.toArray Lc κ n l) m L := D.tail ht (A.done hr h)
end
end Go.Proofs.YtbkojmcppeflbaaDoor
