/- The symbolic layer: calls, ways in and out, loops. -/
import Derived.Test.YtbkojmcppeflbaaDoorSl3
namespace Go.Proofs.YtbkojmcppeflbaaDoor
open Go
set_option linter.unusedVariables false
set_option linter.unusedSimpArgs false
set_option linter.unusedSectionVars false
set_option linter.unnecessarySimpa false
variable {P : Program} {τ : Meta} {N : Nat} {Q : Exit → Act → World → Prop} {m : List (Nat × Value)} {L : List Itm}

/-! ## Several items at once -/
class Sels (L : List Itm) (xs : List Itm) (L' : outParam (List Itm)) : Prop where
  out : ∀ {F h : PH}, SepL F L h → SepL F (xs ++ L') h
instance Sels.n {L : List Itm} : Sels L [] L := ⟨fun H => H⟩
instance Sels.c {L L1 L2 : List Itm} {x : Itm} {xs : List Itm} [s : Sel L x L1] [t : Sels L1 xs L2] : Sels L (x :: xs) L2 :=
  ⟨fun H => let ⟨h1, h2, i, k, d, e⟩ := s.out H; ⟨h1, h2, i, t.out k, d, e⟩⟩
theorem St.sels {xs L' : List Itm} {w : World} [s : Sels L xs L'] (H : St τ L w) : St τ (xs ++ L') w :=
  let ⟨F, h, a, b, c, d, e⟩ := H; ⟨F, h, a, b, c, s.out d, e⟩
class App (I L : List Itm) (L' : outParam (List Itm)) : Prop where
  out : I ++ L = L'
instance App.n {L : List Itm} : App [] L L := ⟨rfl⟩
instance App.c {x : Itm} {I L L' : List Itm} [s : App I L L'] : App (x :: I) L (x :: L') := ⟨by rw [List.cons_append, s.out]⟩
class Drop (L L' : List Itm) : Prop where
  out : ∀ {F h : PH}, SepL F L h → ∃ h', PH.le h' h ∧ SepL F L' h'
instance (priority := 1000) Drop.r {L : List Itm} : Drop L L := ⟨fun H => ⟨_, PH.le_refl _, H⟩⟩
instance (priority := 100) Drop.c {x : Itm} {L L' : List Itm} [s : Drop L L'] : Drop (x :: L) L' :=
  ⟨fun ⟨h1, h2, _, k, d, e⟩ => let ⟨h', l, k'⟩ := s.out k; ⟨h', PH.le_trans l (by rw [e]; exact PH.le_un_right d), k'⟩⟩
theorem St.cat {I L' : List Itm} {w : World} [s : App I L L'] (H : St τ (I ++ L) w) : St τ L' w := s.out ▸ H
theorem St.uncat {I L' : List Itm} {w : World} [s : App I L L'] (H : St τ L' w) : St τ (I ++ L) w := s.out.symm ▸ H
theorem SepL.split {F : PH} {L : List Itm} : ∀ {I : List Itm} {h : PH}, SepL F (I ++ L) h → ∃ h1 h2, SepL F I h1 ∧ SepL F L h2 ∧ PH.dj h1 h2 ∧ h = PH.un h1 h2
  | [], h, H => ⟨PH.nil, h, rfl, H, PH.nil_dj _, (PH.nil_un h).symm⟩
  | x :: I, h, ⟨k1, k2, i, k, d, e⟩ => by
    obtain ⟨h1, h2, a, b, c, rfl⟩ := SepL.split k
    have d' := PH.dj_un'.1 d
    exact ⟨PH.un k1 h1, h2, ⟨k1, h1, i, a, d'.1, rfl⟩, b, PH.dj_un.2 ⟨d'.2, c⟩, by rw [PH.un_assoc]; exact e⟩
/-- What is left at the end: the items I, and L as it was. -/
theorem St.fin {L0 I L1 : List Itm} {w : World} [s : Sels L0 I L1] [d : Drop L1 L] (H : St τ L0 w) : St τ (I ++ L) w := by
  obtain ⟨F, h, a, b, c, k, e⟩ := H
  obtain ⟨h1, h2, k1, k2, dd, rfl⟩ := (s.out k).split
  obtain ⟨h', l, k'⟩ := d.out k2
  have c' := PH.dj_un'.1 c
  exact ⟨F, PH.un h1 h', a, PH.un_le (PH.le_trans (PH.le_un_left _ _) b) (PH.le_trans l (PH.le_trans (PH.le_un_right dd) b)),
    PH.dj_un'.2 ⟨c'.1, PH.dj_le c'.2 l⟩, k'.append k1 (PH.dj_le dd l), e⟩

theorem G.go {κ : Act → World → Prop} {a : Act} {w : World} (n : G τ N κ m L) (hK : K N m a) (hS : St τ L w) : κ a w := n a w hK hS
theorem G.goA {κ : Act → World → Prop} {a : Act} {w : World} {I L' : List Itm} [s : App I L L'] (n : G τ N κ m L') (hK : K N m a) (hS : St τ (I ++ L) w) : κ a w := n a w hK hS.cat

/-! ## Calls -/
def atCall (Q : Exit → Act → World → Prop) (a : Act) (n : Value → World → Prop) : Ending → World → Prop
  | .returned v, w => n v w
  | .panicked ch, w => Q (.panic ch) a w
  | .outgrown, _ => LetsOut Q
section
variable {κ : Act → World → Prop} {d : Nat} {ty : TypeId} {pos : String} {af : Array Edge} {g : Option (Nat × Bool)} {ats : Array TypeId}
theorem run_resolve {a : Act} {f : FuncId} {args : List Operand} {vs : List Value} {x : Operand} {cs : List Value} {fst : List Value} (hx : ev m x = some (.func (.func f) fst.toArray cs.toArray)) (hv : evs m args = some vs) (hK : K N m a) (w : World) :
    (do let d ← resolve a.eval ⟨.value x, args.toArray, ats⟩ ty; invoke d.target d.args : Sem Next).run P w = (callFunc f (fst ++ vs ++ cs).toArray).run P w := by
  simp [resolve, Deferred.ofValue, hK.eval hx, hK.evalsA hv, invoke]
theorem o_call_at {f : FuncId} {args : List Operand} {vs : List Value} {x : Operand} {cs fst all : List Value} (hf : ∀ args w, (callFunc f args).run P w = .ok (.enter f args) w)
    (hx : ev m x = some (.func (.func f) fst.toArray cs.toArray)) (hv : evs m args = some vs) (hall : fst ++ vs ++ cs = all)
    (h : ∀ a w, K N m a → St τ L w → Calls P f all.toArray w (atCall Q a fun v w' => κ (a.put (some d) v) w')) :
    G τ N (opK P ⟨some d, .call ⟨.value x, args.toArray, ats⟩, ty, pos, af, g⟩ κ Q) m L := by
  intro a w hK hS
  have e : (execOp a.eval ⟨some d, .call ⟨.value x, args.toArray, ats⟩, ty, pos, af, g⟩).run P w = .ok (.enter f all.toArray) w := by
    have := run_resolve (P := P) (ats := ats) (ty := ty) hx hv hK w
    rw [hf, hall] at this; exact this
  simp only [opK, Oper.wp, e, Oper.upon]
  refine (h a w hK hS).mono ?_
  intro e w' he
  cases e <;> exact he
theorem atRet {a : Act} {n : Value → World → Prop} {v : Value} {w : World} (h : n v w) : atCall Q a n (.returned v) w := h
/-- A call of a function by its name. -/
theorem o_call {f : FuncId} {args : List Operand} {vs : List Value} (hf : ∀ args w, (callFunc f args).run P w = .ok (.enter f args) w)
    (hv : evs m args = some vs)
    (h : ∀ a w, K N m a → St τ L w → Calls P f vs.toArray w (atCall Q a fun v w' => κ (a.put (some d) v) w')) :
    G τ N (opK P ⟨some d, .call ⟨.value (.func f), args.toArray, ats⟩, ty, pos, af, g⟩ κ Q) m L :=
  o_call_at (fst := []) (cs := []) hf rfl hv (by simp) h
/-- A call of a closure, whose answer is not kept. -/
theorem o_call_at0 {f : FuncId} {args : List Operand} {vs : List Value} {x : Operand} {cs fst all : List Value} (hf : ∀ args w, (callFunc f args).run P w = .ok (.enter f args) w)
    (hx : ev m x = some (.func (.func f) fst.toArray cs.toArray)) (hv : evs m args = some vs) (hall : fst ++ vs ++ cs = all)
    (h : ∀ a w, K N m a → St τ L w → Calls P f all.toArray w (atCall Q a fun _ w' => κ a w')) :
    G τ N (opK P ⟨none, .call ⟨.value x, args.toArray, ats⟩, ty, pos, af, g⟩ κ Q) m L := by
  intro a w hK hS
  have e : (execOp a.eval ⟨none, .call ⟨.value x, args.toArray, ats⟩, ty, pos, af, g⟩).run P w = .ok (.enter f all.toArray) w := by
    have := run_resolve (P := P) (ats := ats) (ty := ty) hx hv hK w
    rw [hf, hall] at this; exact this
  simp only [opK, Oper.wp, e, Oper.upon]
  refine (h a w hK hS).mono ?_
  intro e w' he
  cases e <;> exact he
/-- The same, where the answer is not kept. -/
theorem o_call0 {f : FuncId} {args : List Operand} {vs : List Value} (hf : ∀ args w, (callFunc f args).run P w = .ok (.enter f args) w)
    (hv : evs m args = some vs)
    (h : ∀ a w, K N m a → St τ L w → Calls P f vs.toArray w (atCall Q a fun _ w' => κ a w')) :
    G τ N (opK P ⟨none, .call ⟨.value (.func f), args.toArray, ats⟩, ty, pos, af, g⟩ κ Q) m L := by
  intro a w hK hS
  have e : (execOp a.eval ⟨none, .call ⟨.value (.func f), args.toArray, ats⟩, ty, pos, af, g⟩).run P w = .ok (.enter f vs.toArray) w := by
    have := run_resolve (P := P) (ats := ats) (ty := ty) (fst := []) (cs := []) (x := .func f) rfl hv hK w
    rw [hf] at this; simp only [List.nil_append, List.append_nil] at this; exact this
  simp only [opK, Oper.wp, e, Oper.upon]
  refine (h a w hK hS).mono ?_
  intro e w' he
  cases e <;> exact he
end

/-! ## Ways in and out -/
def mk0 : Nat → List Value → List (Nat × Value)
  | _, [] => []
  | i, v :: vs => (i, v) :: mk0 (i + 1) vs
theorem lk_mk0 : ∀ (vs : List Value) (i t : Nat) (v : Value), lk (mk0 i vs) t = some v → ∃ j, t = i + j ∧ vs[j]? = some v
  | [], _, _, _, h => by simp [mk0, lk] at h
  | u :: vs, i, t, v, h => by
    simp only [mk0, lk] at h
    cases e : Nat.beq i t with
    | true => rw [e] at h; simp at h; subst h; exact ⟨0, (Nat.eq_of_beq_eq_true e).symm, rfl⟩
    | false =>
      rw [e] at h
      obtain ⟨j, h1, h2⟩ := lk_mk0 vs (i + 1) t v h
      exact ⟨j + 1, by omega, by simpa using h2⟩
theorem enter {f : FuncId} {fn : Func} {c : Code} {vs : List Value} {w : World} {R : Ending → World → Prop}
    (hf : P.funcs[f]? = some fn) (hb : fn.body = some c) (hN : fn.ntmps = N) (hl : Nat.ble vs.length N = true) (hS : St τ L w)
    (h : G τ N (c.wp P (bodyPost P fn R)) (mk0 0 vs) L) : Calls P f vs.toArray w R := by
  refine calls_of_wp hf hb (h _ _ ?_ hS)
  have hl' : vs.length ≤ N := Nat.le_of_ble_eq_true hl
  refine ⟨by simp [hN]; omega, rfl, ?_⟩
  intro t v e
  obtain ⟨j, h1, h2⟩ := lk_mk0 vs 0 t v e
  have : t = j := by omega
  subst this
  have hlt : t < vs.length := by
    rcases Nat.lt_or_ge t vs.length with h | h
    · exact h
    · rw [List.getElem?_eq_none h] at h2; cases h2
  simp only [Array.getElem?_append, List.size_toArray, hlt, if_true]
  simpa using h2
/-- The results of a call. -/
inductive RetOk (P : Program) (m : List (Nat × Value)) (L : List Itm) : List ResultVar → List Value → Prop
  | nil : RetOk P m L [] []
  | tmp {t : Nat} {v : Value} {rs : List ResultVar} {vs : List Value} (h : lk m t = some v) (n : RetOk P m L rs vs) : RetOk P m L (.tmp t :: rs) (v :: vs)
  | cell {t : Nat} {ty : TypeId} {u : TypeDesc} {b o : Nat} {v : Value} {rs : List ResultVar} {vs : List Value} [Und P ty u] (h : lk m t = some (.pointer (some ⟨b, o, none⟩))) [q : At1 L b o v]
      (hu : TypeDesc.agg u = false) (n : RetOk P m L rs vs) : RetOk P m L (.cell t ty :: rs) (v :: vs)
  | cellN {t : Nat} {ty : TypeId} {u : TypeDesc} {sz by_ : Nat} {z : Value} {b o : Nat} {cs : List Value} {rs : List ResultVar} {vs : List Value} [Und P ty u] [Inf P ty sz by_ z] (h : lk m t = some (.pointer (some ⟨b, o, none⟩))) [q : AtN L b o sz cs]
      (hu : TypeDesc.agg u = true) (n : RetOk P m L rs vs) : RetOk P m L (.cell t ty :: rs) (.agg cs.toArray :: vs)
def resVal (tmps : Array Value) : ResultVar → Sem Value
  | .tmp t => pure (tmps.getD t undef)
  | .cell a t => do loadVar t (← asAddr (tmps.getD a undef))
theorem run_results {rs : List ResultVar} {vs : List Value} (h : RetOk P m L rs vs) {a : Act} {w : World} (hK : K N m a) (hS : St τ L w) :
    (rs.mapM (resVal a.tmps)).run P w = .ok vs w := by
  have slot : ∀ t v, lk m t = some v → a.tmps.getD t undef = v := fun t v h => by simp [Array.getD_eq_getD_getElem?, hK.slot t v h]
  induction h with
  | nil => simp
  | tmp h n ih => simp [resVal, slot _ _ h, ih]
  | cell h hu n ih => rename_i q _; simp [resVal, slot _ _ h, asAddr, loadVar, run_isAgg, hu, At1.out hS, ih]
  | @cellN t ty u sz by_ z b o cs rs vs _ _ h q hu n ih =>
    have := run_loadCells (P := P) (w := w) (a := ⟨b, o, none⟩) q.out.1 (fun j v hj => by rw [add_plain]; exact q.out.2 hS j v hj)
    simp [resVal, slot _ _ h, asAddr, loadVar, run_isAgg, hu, run_sizeOf, this, ih]
def tup : List Value → Value
  | [v] => v
  | vs => .tuple vs.toArray
theorem W_end {e : Exit} (he : e = .ret ∨ e = .normal) {fn : Func} {R : Ending → World → Prop} {rs : List ResultVar} {vs : List Value} {v : Value} (hr : fn.results = rs.toArray) (ok : RetOk P m L rs vs) (hv : tup vs = v)
    (hR : ∀ w, St τ L w → R (.returned v) w) : G τ N (bodyPost P fn R e) m L := by
  intro a w hK hS
  have h1 := run_results ok hK hS
  have h2 : (results fn a.tmps).run P w = .ok v w := by
    have e2 : (rs.toArray.mapM (resVal a.tmps) : Sem (Array Value)).run P w = .ok vs.toArray w := by
      rw [List.mapM_toArray]
      simp [h1]
    unfold results
    rw [hr]
    show (do let vs ← rs.toArray.mapM (resVal a.tmps); pure (if h : vs.size = 1 then vs[0] else .tuple vs) : Sem Value).run P w = _
    simp only [Sem.run_bind, e2, Result.andThen_ok, Sem.run_pure]
    rw [← hv]
    congr 1
    cases vs with
    | nil => rfl
    | cons a vs => cases vs with
      | nil => rfl
      | cons b vs => simp [tup]
  rcases he with rfl | rfl <;> exact ⟨hK.defers, v, h2, hR w hS⟩

/-! ## Loops -/
inductive Sub (m : List (Nat × Value)) : List (Nat × Value) → Prop
  | nil : Sub m []
  | cons {t : Nat} {v : Value} {m' : List (Nat × Value)} (h : lk m t = some v) (n : Sub m m') : Sub m ((t, v) :: m')
theorem K.of_sub {m' : List (Nat × Value)} {a : Act} (s : Sub m m') (h : K N m a) : K N m' a := by
  refine h.sub ?_
  intro t v e
  induction s with
  | nil => simp [lk] at e
  | cons hh n ih =>
    simp only [lk] at e
    rename_i t' v' m''
    cases hb : Nat.beq t' t with
    | true => rw [hb] at e; simp at e; subst e; rw [← Nat.eq_of_beq_eq_true hb]; exact hh
    | false => rw [hb] at e; exact ih e
/-- The head of a loop: a state from which the rounds give x. -/
def Head {σ ε ρ : Type} (τ : Meta) (N : Nat) (l : Nat → σ → Option ρ) (x : ρ) (mh : σ → ε → List (Nat × Value)) (Lh : σ → ε → List Itm) (k : Nat) (a : Act) (w : World) : Prop :=
  ∃ s e, l k s = some x ∧ K N (mh s e) a ∧ St τ (Lh s e) w
/-- A later round. -/
def Again {σ ε ρ : Type} (τ : Meta) (N : Nat) (l : Nat → σ → Option ρ) (x : ρ) (mh : σ → ε → List (Nat × Value)) (Lh : σ → ε → List Itm) (k : Nat) : Act → World → Prop :=
  fun a w => ∃ k', k' < k ∧ Head τ N l x mh Lh k' a w
theorem Ws.loop {σ ε ρ : Type} {c : Code} (l : Nat → σ → Option ρ) (mh : σ → ε → List (Nat × Value)) (Lh : σ → ε → List Itm) {x : ρ} {k : Nat} {s : σ} (e : ε) (h : l k s = some x)
    (hm : Sub m (mh s e)) (hL : ∀ w, St τ L w → St τ (Lh s e) w)
    (round : ∀ k s e, l k s = some x → G τ N (c.wp P (Exit.then (Again τ N l x mh Lh k) Q)) (mh s e) (Lh s e)) : G τ N ((Code.loop c).wp P Q) m L := by
  intro a w hK hS
  classical
  let J : Nat → Act → World → Prop := fun k a w => Head τ N l x mh Lh k a w
  let I : Act → World → Prop := fun a w => ∃ k, J k a w
  have ex : ∀ a w, I a w → ∃ k, J k a w ∧ ∀ j, j < k → ¬ J j a w := fun a w h => by
    obtain ⟨k, hk⟩ := h
    induction k using Nat.strongRecOn with
    | _ k ih =>
      by_cases hj : ∃ j, j < k ∧ J j a w
      · obtain ⟨j, h1, h2⟩ := hj; exact ih j h1 h2
      · exact ⟨k, hk, fun j h1 h2 => hj ⟨j, h1, h2⟩⟩
  let least : Act → World → Nat := fun a w => if h : I a w then Classical.choose (ex a w h) else 0
  refine wp_loop I least ⟨k, s, e, h, hK.of_sub hm, hL w hS⟩ ?_
  intro a w hI
  obtain ⟨s, e, h, hK, hS⟩ := (Classical.choose_spec (ex a w hI)).1
  refine wp_mono (round _ s e h a w hK hS) ?_
  intro ex' a' w' hq
  cases ex' <;> try exact hq
  obtain ⟨k', hk, hh⟩ := hq
  have hI' : I a' w' := ⟨k', hh⟩
  refine ⟨hI', ?_⟩
  have h1 : least a' w' ≤ k' := by
    simp only [least, hI', dite_true]
    rcases Nat.lt_or_ge k' (Classical.choose (ex a' w' hI')) with c | c
    · exact absurd hh ((Classical.choose_spec (ex a' w' hI')).2 _ c)
    · exact c
  have h2 : least a w = Classical.choose (ex a w hI) := by simp only [least, hI, dite_true]
  omega
/-- The end of a round: on to the next one. -/
theorem Qs.again {σ ε ρ : Type} {l : Nat → σ → Option ρ} {mh : σ → ε → List (Nat × Value)} {Lh : σ → ε → List Itm} {x : ρ} {k k' : Nat} {s : σ} (e : ε) (h : l k s = some x) (hk : k < k')
    (hm : Sub m (mh s e)) (hL : ∀ w, St τ L w → St τ (Lh s e) w) : G τ N (Again τ N l x mh Lh k') m L :=
  fun _ w hK hS => ⟨k, hk, s, e, h, hK.of_sub hm, hL w hS⟩
theorem bif_some {α : Type} {b : Bool} {x y : Option α} {r : α} (h : (bif b then x else y) = some r) : (b = true ∧ x = some r) ∨ (b = false ∧ y = some r) := by
  cases b
  · exact .inr ⟨rfl, h⟩
  · exact .inl ⟨rfl, h⟩
theorem bind_some {α β : Type} {x : Option α} {f : α → Option β} {r : β} (h : x.bind f = some r) : ∃ a, x = some a ∧ f a = some r := Option.bind_eq_some_iff.1 h
end Go.Proofs.YtbkojmcppeflbaaDoor
