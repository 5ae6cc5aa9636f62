/- The symbolic layer: parts of slices; appending to a part whose room is its length. -/
import Derived.Test.YtbkojmcppeflbaaDoorSl11
namespace Go.Proofs.YtbkojmcppeflbaaDoor
open Go
set_option linter.unusedVariables false
set_option linter.unusedSimpArgs false
set_option linter.unusedSectionVars false
set_option linter.unnecessarySimpa false
variable {P : Program} {τ : Meta} {N : Nat} {Q : Exit → Act → World → Prop} {m : List (Nat × Value)} {L : List Itm} {κ : Act → World → Prop}
/-- v[l:h], of a slice v whose elements take sz cells. -/
def subV (v : Value) (l h sz : Nat) : Value :=
  match v with
  | .slice A _ c => .slice (if c = l then A else A.map (·.add (l * sz))) (h - l) (c - l)
  | v => v
/-- v[:h:h]. -/
def capV (v : Value) (h : Nat) : Value :=
  match v with
  | .slice A _ _ => .slice A h h
  | v => v
def CapEq (v : Value) : Itm := ⟨true, fun _ h => h = PH.nil ∧ ∃ A n, v = .slice A n n, fun _ h => h, fun _ _ _ h => h.1⟩
instance {v : Value} : Pers (CapEq v) := ⟨rfl⟩
theorem slRep.sub {α : Type} {k : Kd α} {F : PH} {xs : List α} {v : Value} {l h : Nat} (hr : slRep k F xs v) (h1 : l ≤ h) (h2 : h ≤ xs.length) : slRep k F ((xs.take h).drop l) (subV v l h k.sz) := by
  obtain ⟨A, c, rfl, hl, hr⟩ := hr
  have hlen : ((xs.take h).drop l).length = h - l := by simp; omega
  refine ⟨if c = l then A else A.map (·.add (l * k.sz)), c - l, by simp only [subV, hlen], by omega, ?_⟩
  rcases hr with rfl | ⟨b, o, blk, tyb, fz, rfl, hbk, hrows⟩
  · left; simp
  · by_cases hcl : c = l
    · left; have : h = l := by omega
      subst this; simp
    · right
      refine ⟨b, o + l * k.sz, blk, tyb, fz, by simp [hcl, add_plain], hbk, ?_⟩
      intro i y hy
      have hy' : xs[l + i]? = some y := by
        rw [List.getElem?_drop, List.getElem?_take] at hy
        split at hy
        · exact hy
        · cases hy
      obtain ⟨cs, r1, r2⟩ := hrows _ y hy'
      refine ⟨cs, r1, fun j v hj => ?_⟩
      have := r2 j v hj
      rw [← this]; congr 1; rw [Nat.add_mul]; omega
theorem slRep.cap {α : Type} {k : Kd α} {F : PH} {xs : List α} {v : Value} {h : Nat} (hr : slRep k F xs v) (h2 : h ≤ xs.length) : slRep k F (xs.take h) (capV v h) := by
  obtain ⟨A, c, rfl, hl, hr⟩ := hr
  have hlen : (xs.take h).length = h := by simp; omega
  refine ⟨A, h, by simp only [capV, hlen], by omega, ?_⟩
  rcases hr with rfl | ⟨b, o, blk, tyb, fz, rfl, hbk, hrows⟩
  · left; simp
  · right
    refine ⟨b, o, blk, tyb, fz, rfl, hbk, fun i y hy => ?_⟩
    rw [List.getElem?_take] at hy
    split at hy
    · exact hrows _ y hy
    · cases hy
theorem G.sub {α : Type} (k : Kd α) (v : Value) (l h : Nat) {xs : List α} [s : FrzIn L v k xs] (h1 : l ≤ h) (h2 : h ≤ xs.length) (n : ∀ v', subV v l h k.sz = v' → G τ N κ m (Frz k v' ((xs.take h).drop l) :: L)) : G τ N κ m L := by
  intro a w hK hS
  obtain ⟨F, hh, lF, lh, dF, K, hm⟩ := hS
  exact n _ rfl a w hK ⟨F, hh, lF, lh, dF, ⟨PH.nil, hh, ⟨rfl, (s.out K).sub h1 h2⟩, K, PH.nil_dj _, (PH.nil_un _).symm⟩, hm⟩
theorem G.sub3 {α : Type} (k : Kd α) (v : Value) (h : Nat) {xs : List α} [s : FrzIn L v k xs] (h2 : h ≤ xs.length) (n : ∀ v', capV v h = v' → G τ N κ m (Frz k v' (xs.take h) :: CapEq v' :: L)) : G τ N κ m L := by
  intro a w hK hS
  obtain ⟨F, hh, lF, lh, dF, K, hm⟩ := hS
  have h0 := s.out K
  obtain ⟨A, c, e, hl, hr⟩ := id h0
  exact n _ rfl a w hK ⟨F, hh, lF, lh, dF, ⟨PH.nil, hh, ⟨rfl, h0.cap h2⟩, ⟨PH.nil, hh, ⟨rfl, A, h, by rw [e]; rfl⟩, K, PH.nil_dj _, (PH.nil_un _).symm⟩, PH.nil_dj _, (PH.nil_un _).symm⟩, hm⟩
/-- The bounds of a part. -/
def BndL (m : List (Nat × Value)) (lo : Option Operand) (l : Nat) : Prop := match lo with | some q => ∃ kk i, ev m q = some (.int kk i) ∧ 0 ≤ i ∧ i.toNat = l | none => l = 0
def BndH (m : List (Nat × Value)) (hi : Option Operand) (n h : Nat) : Prop := match hi with | some q => ∃ kk i, ev m q = some (.int kk i) ∧ 0 ≤ i ∧ i.toNat = h | none => h = n
theorem BndL.n : BndL m none 0 := rfl
theorem BndL.s {q : Operand} {kk : IntKind} {i : Int} (e : ev m q = some (.int kk i)) (h : 0 ≤ i) : BndL m (some q) i.toNat := ⟨kk, i, e, h, rfl⟩
theorem BndH.n {n : Nat} : BndH m none n n := rfl
theorem BndH.s {q : Operand} {kk : IntKind} {i : Int} {n : Nat} (e : ev m q = some (.int kk i)) (h : 0 ≤ i) : BndH m (some q) n i.toNat := ⟨kk, i, e, h, rfl⟩
section ops
variable {d : Nat} {ty : TypeId} {pos : String} {af : Array Edge} {g : Option (Nat × Bool)}
theorem run_bounds {lo hi : Option Operand} {n c l h : Nat} {a : Act} (hK : K N m a) (hlo : BndL m lo l) (hhi : BndH m hi n h) (h1 : l ≤ h) (h2 : h ≤ n) (hl : n ≤ c) (w : World) :
    (Instr.sliceBounds true n c (lo.map a.eval) (hi.map a.eval) none).run P w = .ok (l, h, c) w := by
  have el : (lo.map a.eval) = none ∧ l = 0 ∨ ∃ kk i, lo.map a.eval = some (.int kk i) ∧ 0 ≤ i ∧ i.toNat = l := by
    cases lo with
    | none => exact .inl ⟨rfl, hlo⟩
    | some q => obtain ⟨kk, i, e1, e2, e3⟩ := hlo; exact .inr ⟨kk, i, by simp [hK.eval e1], e2, e3⟩
  have eh : (hi.map a.eval) = none ∧ h = n ∨ ∃ kk i, hi.map a.eval = some (.int kk i) ∧ 0 ≤ i ∧ i.toNat = h := by
    cases hi with
    | none => exact .inl ⟨rfl, hhi⟩
    | some q => obtain ⟨kk, i, e1, e2, e3⟩ := hhi; exact .inr ⟨kk, i, by simp [hK.eval e1], e2, e3⟩
  rcases el with ⟨e1, rfl⟩ | ⟨kk, i, e1, e2, e3⟩ <;> rcases eh with ⟨f1, rfl⟩ | ⟨kk', i', f1, f2, f3⟩
  · simp [Instr.sliceBounds, e1, f1]
  · have : i' ≤ (c : Int) := by omega
    simp [Instr.sliceBounds, e1, f1, Instr.sliceBound, asIntOf, f2, f3, this]
  · have : i ≤ (h : Int) := by omega
    simp [Instr.sliceBounds, e1, f1, Instr.sliceBound, asIntOf, e2, e3, this]
  · have q1 : i' ≤ (c : Int) := by omega
    have q2 : i ≤ i' := by omega
    have q3 : i ≤ (i'.toNat : Int) := by omega
    simp [Instr.sliceBounds, e1, f1, Instr.sliceBound, asIntOf, f2, f3, e2, e3, q1]
    try omega
theorem r_slice {α : Type} (k : Kd α) {x : Operand} {lo hi : Option Operand} {v v' : Value} {xs : List α} {l h : Nat} {t e : TypeId} {by_ : Nat} {z : Value} [Und P t (.slice e)] [Inf P e k.sz by_ z]
    (hx : ev m x = some v) [s : FrzIn L v k xs] (hlo : BndL m lo l) (hhi : BndH m hi xs.length h) (h1 : l ≤ h) (h2 : h ≤ xs.length) (hv : subV v l h k.sz = v') : RunV P τ N m L ⟨some d, .slice t x lo hi none, ty, pos, af, g⟩ v' := fun a w hK hS => by
  subst hv
  obtain ⟨F, hh, lF, lh, dF, K, hm⟩ := hS
  obtain ⟨A, c, rfl, hl, hr⟩ := s.out K
  simp [execOp, hK.eval hx, Instr.sliceAt, Instr.slice, run_underlying, run_sizeOf, run_bounds (P := P) hK hlo hhi h1 h2 hl w, subV]
theorem r_slice3 {α : Type} (k : Kd α) {x hi mx : Operand} {v v' : Value} {xs : List α} {kk kk' : IntKind} {i : Int} {t e : TypeId} {by_ : Nat} {z : Value} [Und P t (.slice e)] [Inf P e k.sz by_ z]
    (hx : ev m x = some v) [s : FrzIn L v k xs] (hhi : ev m hi = some (.int kk i)) (hmx : ev m mx = some (.int kk' i)) (h0 : 0 ≤ i) (h2 : i.toNat ≤ xs.length) (hv : capV v i.toNat = v') : RunV P τ N m L ⟨some d, .slice t x none (some hi) (some mx), ty, pos, af, g⟩ v' := fun a w hK hS => by
  subst hv
  obtain ⟨F, hh, lF, lh, dF, K, hm⟩ := hS
  obtain ⟨A, c, rfl, hl, hr⟩ := s.out K
  have q1 : i ≤ (c : Int) := by omega
  have q2 : i ≤ (i.toNat : Int) := by omega
  have hb : (Instr.sliceBounds true xs.length c none (some (a.eval hi)) (some (a.eval mx))).run P w = .ok (0, i.toNat, i.toNat) w := by
    simp [Instr.sliceBounds, hK.eval hhi, hK.eval hmx, Instr.sliceBound, asIntOf, h0, q1]
    try omega
  have hz : (A.map fun x => x.add 0) = A := by
    cases A with
    | none => rfl
    | some a => simp [Addr.add]
  have ho : (execOp a.eval (⟨some d, .slice t x none (some hi) (some mx), ty, pos, af, g⟩ : Oper)) = (do pure (.value (← Instr.sliceAt t (.slice A xs.length c) none (some (a.eval hi)) (some (a.eval mx))))) := by simp [execOp, hK.eval hx]
  rw [ho]
  simp [Instr.sliceAt, Instr.slice, run_underlying, run_sizeOf, hb, capV, hz]
/-! append to a part that has no room -/
theorem St.grow_run {α : Type} {k : Kd α} {v u : Value} {xs ys : List α} {e t tx : TypeId} {ux : TypeDesc} {by_ : Nat} {z : Value} {w : World} {ty : TypeId}
    [Und P t (.slice e)] [Inf P e k.sz by_ z] [Und P tx ux] (hux : notInt ux = true) (hz : (cellsOf z).length = k.sz) (hby : 0 < by_ ∧ by_ ≤ 64) (hb : xs.length + ys.length ≤ 1099511627776) (hy : 0 < ys.length)
    (hv : ∃ A n, v = .slice A n n) [r : FrzIn L v k xs] (H : St τ L w) [s : SlIn L u k ys] :
    ∃ v' w', (Builtin.append_ #[t, tx] ty #[v, u]).run P w = .ok v' w' ∧ St τ (Own k v' (xs ++ ys) e :: L) w' := by
  obtain ⟨F, h2, lF, l2, dF, K, hm⟩ := H
  have hread := s.out K lF l2
  obtain ⟨A, cu, rfl, _, _⟩ := id hread
  have hr := r.out K
  obtain ⟨B, c, rfl, hc, hrr⟩ := id hr
  obtain ⟨A', n', e'⟩ := hv
  have hcc : c = xs.length := by cases e'; rfl
  subst hcc
  have hr0 : Read k (hp w) F (.slice B xs.length xs.length) xs := ⟨B, _, rfl, hc, hrr.imp id fun ⟨b, o, blk, tyb, fz, a1, a2, a3⟩ => ⟨b, o, blk, tyb, fz, a1, lF _ _ a2, a3⟩⟩
  let newCap := (Question.appendCap (xs.length + ys.length) xs.length e).cut (w.tape w.drawn (.appendCap (xs.length + ys.length) xs.length e))
  let w1 : World := { w with drawn := w.drawn + 1 }
  obtain ⟨vs, hrun, hvl, hvr, hv1⟩ := run_first (P := P) (w := w1) hread rfl
  obtain ⟨os, orun, ol, orr, _⟩ := run_first (P := P) (w := w1) hr0 rfl
  have hcap : xs.length + ys.length ≤ newCap := by simp only [newCap, Question.cut]; omega
  have hzc : (Builtin.zeroCells z.cells (newCap - (xs.length + ys.length))).size = (newCap - (xs.length + ys.length)) * k.sz := by
    simp only [Builtin.zeroCells, Array.size_map, Array.size_range]
    have hzs : z.cells.size = k.sz := by rw [← hz, ← cells_toList]; simp
    rw [hzs]
  refine ⟨_, _, (run_append_grows (ux := ux) (e := e) hux (by omega) hby hb).trans (by simp only [orun, hrun, Result.andThen_ok, w1]; rfl), ?_⟩
  have lH : ∀ g : PH, PH.le g (hp w) → ∀ o, PH.le g (hp { w1 with heap := w.heap.push o }) := fun g lg o x y hx => by
    have := lg _ _ hx
    simp only [hp] at this ⊢
    have hlt : x < w.heap.size := by
      rcases Nat.lt_or_ge x w.heap.size with h | h
      · exact h
      · simp [Array.getElem?_eq_none h] at this
    rw [Array.getElem?_push, if_neg (by omega)]; exact this
  have dN : ∀ g : PH, PH.le g (hp w) → ∀ o, PH.dj g (PH.one w.heap.size o) := fun g lg o => PH.dj_one.2 (by
    cases hg : g w.heap.size with
    | none => rfl
    | some x => have := lg _ _ hg; simp [hp] at this)
  refine ⟨F, PH.un (PH.one w.heap.size (.cells (os.toArray ++ vs.toArray ++ Builtin.zeroCells z.cells (newCap - (xs.length + ys.length))) e)) h2, lH F lF _, PH.un_le ?_ (lH h2 l2 _), PH.dj_un'.2 ⟨dN F lF _, dF⟩,
    ⟨_, h2, .inr ⟨w.heap.size, newCap, _, by rw [List.length_append], by rw [List.length_append]; exact hcap, ?_, rfl, ?_⟩, K, PH.dj_symm (dN h2 l2 _), rfl⟩, hm⟩
  · intro x o hx
    by_cases hxb : x = w.heap.size
    · subst hxb; rw [PH.one_at] at hx; cases hx; first | (simp [hp]; done) | (simp [hp]; rfl)
    · simp [PH.one, hxb] at hx
  · simp only [Array.size_append, hzc, List.size_toArray, ol, hvl]
    rw [← Nat.add_mul, ← Nat.add_mul]; congr 1; omega
  · have e0 : (os.toArray ++ vs.toArray ++ Builtin.zeroCells z.cells (newCap - (xs.length + ys.length))) = ((os ++ vs) ++ (Builtin.zeroCells z.cells (newCap - (xs.length + ys.length))).toList).toArray := by simp
    rw [e0]
    refine rows_append (vs := vs) (fun i x hx => ?_) hvr (fun j v hj => ?_)
    · obtain ⟨cs, a1, a2⟩ := orr i x hx
      refine ⟨cs, a1, fun j v hj => ?_⟩
      have := a2 j v hj
      have hlt : i * k.sz + j < os.length := by
        rcases Nat.lt_or_ge (i * k.sz + j) os.length with h | h
        · exact h
        · rw [List.getElem?_eq_none h] at this; cases this
      rw [List.append_assoc, List.getElem?_append_left hlt]; exact this
    · have hlt : j < vs.length := by
        rcases Nat.lt_or_ge j vs.length with h | h
        · exact h
        · rw [List.getElem?_eq_none h] at hj; cases hj
      rw [List.getElem?_append_left (by rw [List.length_append, ol]; omega), List.getElem?_append_right (by rw [ol]; omega), ← hj, ol]
      congr 1; omega
class CapIn (L : List Itm) (v : Value) : Prop where
  out : ∀ {F h : PH}, SepL F L h → ∃ A n, v = .slice A n n
instance (priority := 1000) CapIn.here {v : Value} {L : List Itm} : CapIn (CapEq v :: L) v := ⟨fun ⟨_, _, i, _⟩ => i.2⟩
instance (priority := 100) CapIn.there {v : Value} {x : Itm} {L : List Itm} [s : CapIn L v] : CapIn (x :: L) v := ⟨fun ⟨_, _, _, K, _⟩ => s.out K⟩
theorem o_appendC {α : Type} (k : Kd α) {args : List Operand} {v u : Value} {xs ys : List α} {e t tx : TypeId} {ux : TypeDesc} {by_ : Nat} {z : Value}
    (hv : evs m args = some [v, u]) [Und P t (.slice e)] [Inf P e k.sz by_ z] [Und P tx ux] [o : FrzIn L v k xs] [c : CapIn L v] [s : SlIn L u k ys]
    (hux : notInt ux = true) (hz : Nat.beq (cellsOf z).length k.sz = true) (hby : (Nat.blt 0 by_ && Nat.ble by_ 64) = true) (hb : xs.length + ys.length ≤ 1099511627776 ∧ 0 < ys.length) (hd : Nat.blt d N = true)
    (n : ∀ v', G τ N κ ((d, v') :: m) (Own k v' (xs ++ ys) e :: L)) : G τ N (opK P ⟨some d, .call ⟨.builtin .append, args.toArray, #[t, tx]⟩, ty, pos, af, g⟩ κ Q) m L := by
  refine G.step_new (v := fun v' => v') (L' := fun v' => Own k v' (xs ++ ys) e :: L) rfl hd (fun a w hK hS => ?_) n
  obtain ⟨cs, e1⟩ := run_builtin (P := P) (b := .append) (ats := #[t, tx]) (d := some d) (ty := ty) (pos := pos) (af := af) (g := g) hv hK w
  have hby' : 0 < by_ ∧ by_ ≤ 64 := by simpa using hby
  have hc : ∃ A n, v = .slice A n n := let ⟨_, _, _, _, _, K, _⟩ := hS; c.out K
  obtain ⟨v', w', e2, hS'⟩ := St.grow_run (P := P) (t := t) (tx := tx) (ty := ty) hux (Nat.eq_of_beq_eq_true hz) hby' hb.1 hb.2 hc hS (k := k) (e := e) (xs := xs) (u := u)
  exact ⟨v', w', by rw [e1]; simp [builtin, e2], hS'⟩
end ops
/-! a test in a drawn region that was left out -/
section
variable {ops : List Oper} {Lc : List Itm} {n : Nat} {l : Array Bool}
theorem yielded_U {j t : Nat} {a : Act} (hK : K N m a) (hj : (ops[j]?).bind (·.dst) = some t) (ht : lk m t = some undef) : yielded ops.toArray a.tmps j = none := by
  simp [yielded, hj, hK.slot t _ ht, undef]
theorem D.take_u (i : Nat) {op : Op} {ty : TypeId} {pos : String} {af : Array Edge} {d j t : Nat} {want : Bool} [c : Cov L Lc] (hi : ops[i]? = some ⟨some d, op, ty, pos, af, some (j, want)⟩) (hr : takeOk ops.toArray l i = true)
    (hj : (ops[j]?).bind (·.dst) = some t) (ht : lk m t = some undef)
    (hd : Nat.blt d N = true) (h : G τ N (dK P τ ops.toArray Lc κ n (l.setIfInBounds i true)) ((d, undef) :: m) L) : G τ N (dK P τ ops.toArray Lc κ (n + 1) l) m L :=
  D.take_any hi hr rfl hd (fun a hK => .inr ⟨by simp [Region.wanted, yielded_U hK hj ht], rfl⟩) h
theorem A.run_u (i : Nat) {op : Op} {ty : TypeId} {pos : String} {af : Array Edge} {d j t : Nat} {want : Bool} (hi : ops[i]? = some ⟨some d, op, ty, pos, af, some (j, want)⟩) (hr : Region.ready .any ops.toArray l = [i])
    (hj : (ops[j]?).bind (·.dst) = some t) (ht : lk m t = some undef) (hd : Nat.blt d N = true)
    (h : G τ N (aK P ops.toArray κ n (l.setIfInBounds i true)) ((d, undef) :: m) L) : G τ N (aK P ops.toArray κ (n + 1) l) m L := by
  intro a w hK hS
  have hi' := (List.getElem?_toArray (xs := ops) (i := i)).trans hi
  refine ⟨fun e => (by rw [hr] at e; cases e), fun j' hj' => ?_⟩
  rw [hr] at hj'
  have e := mem_single hj'; subst e
  simp only [wpOp, hi', Region.wanted, yielded_U hK hj ht]
  rw [if_neg (by simp)]
  exact h _ w (hK.put hd _) hS
end
theorem r_idxN {d : Nat} {ty : TypeId} {pos : String} {af : Array Edge} {g : Option (Nat × Bool)} (j : Nat) {x ix : Operand} {v : Value} {kk : IntKind} {i : Int} {t e : TypeId} {sz by_ : Nat} {z : Value} {b o : Nat} [Und P t (.slice e)] [Inf P e sz by_ z]
    (hx : ev m x = some v) (hi : ev m ix = some (.int kk i)) (h0 : 0 ≤ i) (hj : i.toNat = j) [s : SelE L v j sz b o] : RunV P τ N m L ⟨some d, .indexAddr t x ix, ty, pos, af, g⟩ (.pointer (some ⟨b, o, none⟩)) := by
  subst hj; exact r_idx (d := d) (ty := ty) (pos := pos) (af := af) (g := g) hx hi h0
theorem r_elemC {d : Nat} {ty : TypeId} {pos : String} {af : Array Edge} {g : Option (Nat × Bool)} {t : TypeId} {x ix : Operand} {len sz b o o' : Nat} {k : IntKind} {i : Int} [Arr P t len sz] (hx : ev m x = some (.pointer (some ⟨b, o, none⟩))) (hi : ev m ix = some (.int k i))
    (h0 : 0 ≤ i) (h1 : i < len) (ho : o + i.toNat * sz = o') : RunV P τ N m L ⟨d, .indexAddr t x ix, ty, pos, af, g⟩ (.pointer (some ⟨b, o', none⟩)) :=
  haveI : Off o (i.toNat * sz) o' := ⟨ho⟩
  r_elem (d := d) (ty := ty) (pos := pos) (af := af) (g := g) hx hi h0 h1
/-! a block of which some cells are known -/
def CellsQ (b : Nat) (qs : List (Option Value)) (ty : TypeId) : Itm :=
  ⟨false, fun _ h => ∃ cs : List Value, (∀ (i : Nat) (v : Value), qs[i]? = some (some v) → cs[i]? = some v) ∧ h = PH.one b (.cells cs.toArray ty (0, 0)), fun _ h => h, fun e => by cases e⟩
class Weak (cs : List Value) (qs : List (Option Value)) : Prop where
  out : ∀ (i : Nat) (v : Value), qs[i]? = some (some v) → cs[i]? = some v
instance Weak.n {cs : List Value} : Weak cs [] := ⟨fun i v h => by simp at h⟩
instance Weak.s {v : Value} {cs : List Value} {qs : List (Option Value)} [w : Weak cs qs] : Weak (v :: cs) (some v :: qs) := ⟨fun i u h => by
  cases i with
  | zero => simpa using h
  | succ i => exact w.out i u (by simpa using h)⟩
instance Weak.o {v : Value} {cs : List Value} {qs : List (Option Value)} [w : Weak cs qs] : Weak (v :: cs) (none :: qs) := ⟨fun i u h => by
  cases i with
  | zero => simp at h
  | succ i => exact w.out i u (by simpa using h)⟩
instance (priority := 1000) Sel.q {L L' : List Itm} {b : Nat} {cs : List Value} {qs : List (Option Value)} {ty : TypeId} [s : SelC L b cs ty L'] [w : Weak cs qs] : Sel L (CellsQ b qs ty) L' :=
  ⟨fun H => let ⟨h1, h2, i, k, d, e⟩ := s.out H; ⟨h1, h2, ⟨cs, w.out, i⟩, k, d, e⟩⟩
class SelQ (L : List Itm) (b : Nat) (qs : outParam (List (Option Value))) : Prop where
  out : ∀ {F h : PH}, SepL F L h → ∃ (cs : List Value) (ty : TypeId), (∀ (i : Nat) (v : Value), qs[i]? = some (some v) → cs[i]? = some v) ∧ h b = some (.cells cs.toArray ty (0, 0))
instance (priority := 1000) SelQ.here {b : Nat} {qs : List (Option Value)} {ty : TypeId} {L : List Itm} : SelQ (CellsQ b qs ty :: L) b qs :=
  ⟨fun ⟨_, _, ⟨cs, a, e1⟩, _, _, e⟩ => ⟨cs, ty, a, by rw [e, e1]; exact PH.le_un_left _ _ _ _ (PH.one_at _ _)⟩⟩
instance (priority := 100) SelQ.there {b : Nat} {qs : List (Option Value)} {x : Itm} {L : List Itm} [s : SelQ L b qs] : SelQ (x :: L) b qs :=
  ⟨fun ⟨_, _, _, K, d, e⟩ => let ⟨cs, ty, a, c⟩ := s.out K; ⟨cs, ty, a, by rw [e]; exact PH.le_un_right d _ _ c⟩⟩
class GetQ (qs : List (Option Value)) (o : Nat) (v : outParam Value) : Prop where
  out : qs[o]? = some (some v)
instance GetQ.z {c : Value} {qs : List (Option Value)} : GetQ (some c :: qs) 0 c := ⟨rfl⟩
instance GetQ.s {c : Option Value} {v : Value} {qs : List (Option Value)} {o : Nat} [h : GetQ qs o v] : GetQ (c :: qs) (o + 1) v := ⟨by simpa using h.out⟩
instance (priority := 300) At1.q {b o : Nat} {v : Value} {qs : List (Option Value)} [s : SelQ L b qs] [q : GetQ qs o v] : At1 L b o v :=
  ⟨fun ⟨F, h, _, lh, _, K, _⟩ => by
    obtain ⟨cs, ty, a, c⟩ := s.out K
    rw [hp_cells (lh _ _ c)]; simpa using a o v q.out⟩
end Go.Proofs.YtbkojmcppeflbaaDoor
