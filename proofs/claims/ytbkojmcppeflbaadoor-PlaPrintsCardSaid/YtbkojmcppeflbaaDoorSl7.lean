/- The symbolic layer: the operations on slices and texts. -/
import Derived.Test.YtbkojmcppeflbaaDoorSl6
namespace Go.Proofs.YtbkojmcppeflbaaDoor
open Go
set_option linter.unusedVariables false
set_option linter.unusedSimpArgs false
set_option linter.unusedSectionVars false
set_option linter.unnecessarySimpa false
variable {P : Program} {τ : Meta} {N : Nat} {Q : Exit → Act → World → Prop} {m : List (Nat × Value)} {L : List Itm} {κ : Act → World → Prop}

theorem run_builtin {a : Act} {b : Builtin} {args : List Operand} {vs : List Value} {ats : Array TypeId} {d : Option Tmp} {ty : TypeId} {pos : String} {af : Array Edge} {g : Option (Nat × Bool)} (hv : evs m args = some vs) (hK : K N m a) (w : World) :
    ∃ cs, (execOp a.eval ⟨d, .call ⟨.builtin b, args.toArray, ats⟩, ty, pos, af, g⟩).run P w = (builtin b ats ty cs vs.toArray).run P w := by
  refine ⟨args.toArray.map fun | .const _ => true | _ => false, ?_⟩
  simp only [execOp, resolve, hK.evalsA hv, invoke, Sem.run_bind, Sem.run_pure, Result.andThen_ok]
  rfl
/-- A frozen slice among the items. -/
class FrzIn {α : Type} (L : List Itm) (u : Value) (k : Kd α) (ys : outParam (List α)) : Prop where
  out : ∀ {F h : PH}, SepL F L h → slRep k F ys u
instance (priority := 1000) FrzIn.here {α : Type} {L : List Itm} {u : Value} {k : Kd α} {ys : List α} : FrzIn (Frz k u ys :: L) u k ys := ⟨fun ⟨_, _, i, _⟩ => i.2⟩
instance (priority := 100) FrzIn.there {α : Type} {L : List Itm} {u : Value} {k : Kd α} {ys : List α} {x : Itm} [s : FrzIn L u k ys] : FrzIn (x :: L) u k ys := ⟨fun ⟨_, _, _, K, _⟩ => s.out K⟩
section ops
variable {d : Nat} {ty : TypeId} {pos : String} {af : Array Edge} {g : Option (Nat × Bool)}
theorem o_append {α : Type} (k : Kd α) {args : List Operand} {v u : Value} {xs ys : List α} {e t tx : TypeId} {ux : TypeDesc} {by_ : Nat} {z : Value} {L1 : List Itm}
    (hv : evs m args = some [v, u]) [Und P t (.slice e)] [Inf P e k.sz by_ z] [Und P tx ux] [o : OwnIn L v k xs e L1] [s : SlIn L1 u k ys]
    (hux : notInt ux = true) (hz : Nat.beq (cellsOf z).length k.sz = true) (hby : (Nat.blt 0 by_ && Nat.ble by_ 64) = true) (hb : xs.length + ys.length ≤ 1099511627776) (hd : Nat.blt d N = true)
    (n : ∀ v', G τ N κ ((d, v') :: m) (Own k v' (xs ++ ys) e :: L1)) : G τ N (opK P ⟨some d, .call ⟨.builtin .append, args.toArray, #[t, tx]⟩, ty, pos, af, g⟩ κ Q) m L := by
  refine G.step_new (v := fun v' => v') (L' := fun v' => Own k v' (xs ++ ys) e :: L1) rfl hd (fun a w hK hS => ?_) n
  obtain ⟨cs, e1⟩ := run_builtin (P := P) (b := .append) (ats := #[t, tx]) (d := some d) (ty := ty) (pos := pos) (af := af) (g := g) hv hK w
  have hby' : 0 < by_ ∧ by_ ≤ 64 := by simpa using hby
  obtain ⟨v', w', e2, hS'⟩ := St.append_run (P := P) (t := t) (tx := tx) (ty := ty) hux (Nat.eq_of_beq_eq_true hz) hby' hb (hS.ownIn (k := k) (v := v) (e := e)) (u := u)
  exact ⟨v', w', by rw [e1]; simp [builtin, e2], hS'⟩
/-! lengths -/
theorem r_len {x : Operand} {v : Value} {n : Nat} {t e : TypeId} [Und P t (.slice e)] (hx : ev m x = some v) [s : SlLen L v n] :
    RunV P τ N m L ⟨some d, .call ⟨.builtin .len, [x].toArray, #[t]⟩, ty, pos, af, g⟩ (.int .i64 n) := fun a w hK hS => by
  obtain ⟨cs, e1⟩ := run_builtin (P := P) (b := .len) (ats := #[t]) (d := some d) (ty := ty) (pos := pos) (af := af) (g := g) (args := [x]) (vs := [v]) (by simp [evs, hx]) hK w
  obtain ⟨A, c, rfl, _⟩ := s.out hS
  rw [e1]; simp [builtin, Builtin.len_, run_underlying, goInt]
theorem r_lenS {x : Operand} {s : ByteArray} {t : TypeId} [Und P t .string] (hx : ev m x = some (.string s)) :
    RunV P τ N m L ⟨some d, .call ⟨.builtin .len, [x].toArray, #[t]⟩, ty, pos, af, g⟩ (.int .i64 s.size) := fun a w hK hS => by
  obtain ⟨cs, e1⟩ := run_builtin (P := P) (b := .len) (ats := #[t]) (d := some d) (ty := ty) (pos := pos) (af := af) (g := g) (args := [x]) (vs := [_]) (by simp [evs, hx]; rfl) hK w
  rw [e1]; simp [builtin, Builtin.len_, run_underlying, goInt]
/-! an element, read -/
theorem add_pers {x : Itm} (hp : x.pers = true) {w : World} (H : St τ L w) (hx : ∀ F h : PH, SepL F L h → ∃ h', x.hold F h') : St τ (x :: L) w :=
  H.add fun F h k => by obtain ⟨h', e⟩ := hx F h k; have := x.emp hp e; subst this; exact e
theorem o_idx {α : Type} (k : Kd α) {x ix : Operand} {v : Value} {xs : List α} {kk : IntKind} {i : Int} {t e : TypeId} {by_ : Nat} {z : Value} [Und P t (.slice e)] [Inf P e k.sz by_ z]
    (hx : ev m x = some v) (hi : ev m ix = some (.int kk i)) [s : FrzIn L v k xs] {y : α} (h0 : 0 ≤ i) (hy : xs[i.toNat]? = some y) (hd : Nat.blt d N = true)
    (n : ∀ b o cs, G τ N κ ((d, .pointer (some ⟨b, o, none⟩)) :: m) (Rp k cs y :: CellsP b o cs :: L)) : G τ N (opK P ⟨some d, .indexAddr t x ix, ty, pos, af, g⟩ κ Q) m L := by
  refine G.step_new (α := Nat × Nat × List Value) (v := fun q => .pointer (some ⟨q.1, q.2.1, none⟩)) (L' := fun q => Rp k q.2.2 y :: CellsP q.1 q.2.1 q.2.2 :: L) rfl hd (fun a w hK hS => ?_) (fun q => n _ _ _)
  obtain ⟨F, h, lF, lh, dF, K, hm⟩ := hS
  obtain ⟨A, c, rfl, hl, hr⟩ := s.out K
  have hlt : i.toNat < xs.length := by
    rcases Nat.lt_or_ge i.toNat xs.length with h | h
    · exact h
    · rw [List.getElem?_eq_none h] at hy; cases hy
  rcases hr with rfl | ⟨b, o, blk, tyb, fz, rfl, hb, hrows⟩
  · simp at hlt
  · obtain ⟨cs, r1, r2⟩ := hrows _ y hy
    have hi1 : i < (xs.length : Int) := by omega
    refine ⟨⟨b, o + i.toNat * k.sz, cs⟩, w, by simp [execOp, hK.eval hx, hK.eval hi, Instr.indexAt, asIntOf, run_underlying, run_sizeOf, h0, hi1, add_plain], ?_⟩
    refine ⟨F, h, lF, lh, dF, ⟨PH.nil, h, ⟨rfl, r1⟩, ⟨PH.nil, h, ⟨rfl, blk, tyb, fz, hb, fun j v hj => r2 j v hj⟩, K, PH.nil_dj _, (PH.nil_un _).symm⟩, PH.nil_dj _, (PH.nil_un _).symm⟩, hm⟩
/-- The element i of the slice v lies there. -/
def ElP (v : Value) (i sz b o : Nat) : Itm :=
  ⟨true, fun _ h => h = PH.nil ∧ ∃ n c p, v = .slice (some ⟨b, p, none⟩) n c ∧ i < n ∧ o = p + i * sz, fun _ h => h, fun _ _ _ h => h.1⟩
instance {v : Value} {i sz b o : Nat} : Pers (ElP v i sz b o) := ⟨rfl⟩
class SelE (L : List Itm) (v : Value) (i sz : Nat) (b o : outParam Nat) : Prop where
  out : ∀ {F h : PH}, SepL F L h → ∃ n c p, v = .slice (some ⟨b, p, none⟩) n c ∧ i < n ∧ o = p + i * sz
instance (priority := 1000) SelE.here {v : Value} {i sz b o : Nat} : SelE (ElP v i sz b o :: L) v i sz b o := ⟨fun ⟨_, _, k, _⟩ => k.2⟩
instance (priority := 100) SelE.there {v : Value} {i sz b o : Nat} {x : Itm} [s : SelE L v i sz b o] : SelE (x :: L) v i sz b o := ⟨fun ⟨_, _, _, K, _⟩ => s.out K⟩
/-- An element of a frozen slice is looked up ahead. -/
theorem G.el {α : Type} (k : Kd α) (sz : Nat) (v : Value) {xs : List α} {i : Nat} {y : α} [s : FrzIn L v k xs] (hsz : k.sz = sz) (hy : xs[i]? = some y)
    (n : ∀ b o cs, G τ N κ m (ElP v i sz b o :: Rp k cs y :: CellsP b o cs :: L)) : G τ N κ m L := by
  subst hsz
  intro a w hK hS
  obtain ⟨F, h, lF, lh, dF, K, hm⟩ := hS
  obtain ⟨A, c, rfl, hl, hr⟩ := s.out K
  have hlt : i < xs.length := by
    rcases Nat.lt_or_ge i xs.length with h | h
    · exact h
    · rw [List.getElem?_eq_none h] at hy; cases hy
  rcases hr with rfl | ⟨b, o, blk, tyb, fz, rfl, hb, hrows⟩
  · simp at hlt
  · obtain ⟨cs, r1, r2⟩ := hrows _ y hy
    refine n b (o + i * k.sz) cs a w hK ⟨F, h, lF, lh, dF, ⟨PH.nil, h, ⟨rfl, _, c, o, rfl, hlt, rfl⟩, ⟨PH.nil, h, ⟨rfl, r1⟩, ⟨PH.nil, h, ⟨rfl, blk, tyb, fz, hb, fun j v hj => r2 j v hj⟩, K, PH.nil_dj _, (PH.nil_un _).symm⟩, PH.nil_dj _, (PH.nil_un _).symm⟩, PH.nil_dj _, (PH.nil_un _).symm⟩, hm⟩
theorem r_idx {x ix : Operand} {v : Value} {kk : IntKind} {i : Int} {t e : TypeId} {sz by_ : Nat} {z : Value} {b o : Nat} [Und P t (.slice e)] [Inf P e sz by_ z]
    (hx : ev m x = some v) (hi : ev m ix = some (.int kk i)) (h0 : 0 ≤ i) [s : SelE L v i.toNat sz b o] : RunV P τ N m L ⟨some d, .indexAddr t x ix, ty, pos, af, g⟩ (.pointer (some ⟨b, o, none⟩)) := fun a w hK hS => by
  obtain ⟨F, h, lF, lh, dF, K, hm⟩ := hS
  obtain ⟨n, c, p, rfl, h1, rfl⟩ := s.out K
  have hi1 : i < (n : Int) := by omega
  simp [execOp, hK.eval hx, hK.eval hi, Instr.indexAt, asIntOf, run_underlying, run_sizeOf, h0, hi1, add_plain]
/-! parts of a slice -/
/-- xs[lo:hi] of a frozen slice; hi may be left out. -/
theorem o_slice {α : Type} (k : Kd α) {x : Operand} {lo hi : Option Operand} {v : Value} {xs : List α} {l h : Nat} {t e : TypeId} {by_ : Nat} {z : Value} [Und P t (.slice e)] [Inf P e k.sz by_ z]
    (hx : ev m x = some v) [s : FrzIn L v k xs] (hlo : match lo with | some q => ∃ kk i, ev m q = some (.int kk i) ∧ 0 ≤ i ∧ i.toNat = l | none => l = 0)
    (hhi : match hi with | some q => ∃ kk i, ev m q = some (.int kk i) ∧ 0 ≤ i ∧ i.toNat = h | none => h = xs.length) (h1 : l ≤ h) (h2 : h ≤ xs.length) (hd : Nat.blt d N = true)
    (n : ∀ v', G τ N κ ((d, v') :: m) (Frz k v' ((xs.take h).drop l) :: L)) : G τ N (opK P ⟨some d, .slice t x lo hi none, ty, pos, af, g⟩ κ Q) m L := by
  refine G.step_new (v := fun v' => v') (L' := fun v' => Frz k v' ((xs.take h).drop l) :: L) rfl hd (fun a w hK hS => ?_) n
  obtain ⟨F, hh, lF, lh, dF, K, hm⟩ := hS
  obtain ⟨A, c, rfl, hl, hr⟩ := s.out K
  have el : (lo.map a.eval) = none ∧ l = 0 ∨ ∃ kk i, lo.map a.eval = some (.int kk i) ∧ 0 ≤ i ∧ i.toNat = l := by
    cases lo with
    | none => exact .inl ⟨rfl, hlo⟩
    | some q => obtain ⟨kk, i, e1, e2, e3⟩ := hlo; exact .inr ⟨kk, i, by simp [hK.eval e1], e2, e3⟩
  have eh : (hi.map a.eval) = none ∧ h = xs.length ∨ ∃ kk i, hi.map a.eval = some (.int kk i) ∧ 0 ≤ i ∧ i.toNat = h := by
    cases hi with
    | none => exact .inl ⟨rfl, hhi⟩
    | some q => obtain ⟨kk, i, e1, e2, e3⟩ := hhi; exact .inr ⟨kk, i, by simp [hK.eval e1], e2, e3⟩
  have hb : (Instr.sliceBounds true xs.length c (lo.map a.eval) (hi.map a.eval) none).run P w = .ok (l, h, c) w := by
    rcases el with ⟨e1, rfl⟩ | ⟨kk, i, e1, e2, e3⟩ <;> rcases eh with ⟨f1, rfl⟩ | ⟨kk', i', f1, f2, f3⟩
    · simp [Instr.sliceBounds, e1, f1]
    · have : i' ≤ (c : Int) := by omega
      simp [Instr.sliceBounds, e1, f1, Instr.sliceBound, asIntOf, f2, f3, this]
    · have : i ≤ (xs.length : Int) := by omega
      simp [Instr.sliceBounds, e1, f1, Instr.sliceBound, asIntOf, e2, e3, this]
    · have q1 : i' ≤ (c : Int) := by omega
      have q2 : i ≤ i' := by omega
      have q3 : i ≤ (i'.toNat : Int) := by omega
      simp [Instr.sliceBounds, e1, f1, Instr.sliceBound, asIntOf, f2, f3, e2, e3, q1]
      try omega
  have hlen : ((xs.take h).drop l).length = h - l := by simp; omega
  refine ⟨.slice (if c = l then A else A.map (·.add (l * k.sz))) (h - l) (c - l), w, ?_, ?_⟩
  · simp [execOp, hK.eval hx, Instr.sliceAt, Instr.slice, run_underlying, run_sizeOf, hb]
  · refine ⟨F, hh, lF, lh, dF, ⟨PH.nil, hh, ⟨rfl, _, c - l, by rw [hlen], by omega, ?_⟩, K, PH.nil_dj _, (PH.nil_un _).symm⟩, hm⟩
    rcases hr with rfl | ⟨b, o, blk, tyb, fz, rfl, hbk, hrows⟩
    · left; simp
    · by_cases hcl : c = l
      · left; have : h = l := by omega
        subst this; simp
      · right
        refine ⟨b, o + l * k.sz, blk, tyb, fz, by simp [hcl, add_plain], hbk, ?_⟩
        intro i y hy
        have hy' : xs[l + i]? = some y := by
          rw [List.getElem?_drop, List.getElem?_take] at hy
          split at hy
          · exact hy
          · cases hy
        obtain ⟨cs, r1, r2⟩ := hrows _ y hy'
        refine ⟨cs, r1, fun j v hj => ?_⟩
        have := r2 j v hj
        rw [← this]; congr 1; rw [Nat.add_mul]; omega
end ops

instance (priority := 50) {L : List Itm} {v : Value} {n : Nat} [s : SlLen L v n] : OneC L v := ⟨fun H => by obtain ⟨A, c, rfl, _⟩ := s.out H; rfl⟩
instance (priority := 50) Sel.nilOwn {α : Type} {L : List Itm} {k : Kd α} {e : TypeId} : Sel L (Own k (.slice none 0 0) [] e) L :=
  ⟨fun H => ⟨PH.nil, _, .inl ⟨rfl, rfl, rfl⟩, H, PH.nil_dj _, (PH.nil_un _).symm⟩⟩
instance (priority := 50) Sel.nilFrz {α : Type} {L : List Itm} {k : Kd α} : Sel L (Frz k (.slice none 0 0) []) L :=
  ⟨fun H => ⟨PH.nil, _, ⟨rfl, none, 0, rfl, Nat.le_refl _, .inl rfl⟩, H, PH.nil_dj _, (PH.nil_un _).symm⟩⟩
/-! ## Items put in another order -/
class To (L0 L : List Itm) : Prop where
  out : ∀ {F h : PH}, SepL F L0 h → ∃ h', PH.le h' h ∧ SepL F L h'
instance (priority := 1000) To.r {L : List Itm} : To L L := ⟨fun H => ⟨_, PH.le_refl _, H⟩⟩
instance (priority := 500) To.c {L0 L1 L : List Itm} {x : Itm} [s : Sel L0 x L1] [t : To L1 L] : To L0 (x :: L) :=
  ⟨fun H => by
    obtain ⟨h1, h2, i, k, d, rfl⟩ := s.out H
    obtain ⟨h', l, k'⟩ := t.out k
    exact ⟨PH.un h1 h', PH.un_le (PH.le_un_left _ _) (PH.le_trans l (PH.le_un_right d)), h1, h', i, k', PH.dj_le d l, rfl⟩⟩
instance (priority := 100) To.d {L0 L : List Itm} {x : Itm} [t : To L0 L] : To (x :: L0) L :=
  ⟨fun ⟨h1, h2, _, k, d, e⟩ => let ⟨h', l, k'⟩ := t.out k; ⟨h', PH.le_trans l (by rw [e]; exact PH.le_un_right d), k'⟩⟩
theorem St.to {L' : List Itm} {w : World} [s : To L L'] (H : St τ L w) : St τ L' w := by
  obtain ⟨F, h, a, b, c, k, e⟩ := H
  obtain ⟨h', l, k'⟩ := s.out k
  exact ⟨F, h', a, PH.le_trans l b, PH.dj_le c l, k', e⟩
/-- A slice of the call's own is frozen. -/
theorem St.frz {α : Type} {k : Kd α} {v : Value} {xs : List α} {e : TypeId} {w : World} (H : St τ (Own k v xs e :: L) w) : St τ (Frz k v xs :: L) w :=
  H.freeze fun F h i F' l l' => ⟨rfl, by
    rcases i with ⟨rfl, rfl, _⟩ | ⟨b, c, blk, e1, e2, _, e4, e5⟩
    · exact ⟨none, 0, rfl, Nat.le_refl _, .inl rfl⟩
    · exact ⟨_, c, e1, e2, .inr ⟨b, 0, blk, e, _, rfl, l' _ _ (by rw [e4]; exact PH.one_at _ _), e5.mono l⟩⟩⟩
theorem G.frz {α : Type} {L1 : List Itm} (k : Kd α) (v : Value) (e : TypeId) {xs : List α} [o : OwnIn L v k xs e L1] (n : G τ N κ m (Frz k v xs :: L1)) : G τ N κ m L :=
  fun a w hK hS => n a w hK (hS.ownIn (k := k) (v := v) (e := e)).frz
theorem G.nilOwn {α : Type} (k : Kd α) (e : TypeId) (n : G τ N κ m (Own k (.slice none 0 0) [] e :: L)) : G τ N κ m L :=
  fun a w hK hS => n a w hK (St.ownIn (L := L) (k := k) (v := .slice none 0 0) (e := e) hS)
theorem G.nilFrz {α : Type} (k : Kd α) (n : G τ N κ m (Frz k (.slice none 0 0) [] :: L)) : G τ N κ m L :=
  fun a w hK hS => n a w hK (hS.add fun _ _ _ => ⟨rfl, none, 0, rfl, Nat.le_refl _, .inl rfl⟩)
/-- The element at a place. -/
def idx {α : Type} (xs : List α) (i : Int) : Option α := bif decide (0 ≤ i) then xs[i.toNat]? else none
theorem idx_some {α : Type} {xs : List α} {i : Int} {y : α} (h : idx xs i = some y) : 0 ≤ i ∧ xs[i.toNat]? = some y := by
  unfold idx at h
  rcases bif_some h with ⟨h1, h2⟩ | ⟨h1, h2⟩
  · exact ⟨of_decide_eq_true h1, h2⟩
  · cases h2
end Go.Proofs.YtbkojmcppeflbaaDoor
