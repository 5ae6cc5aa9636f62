/- The symbolic layer: slices. -/
import Derived.Test.YtbkojmcppeflbaaDoorSl5
namespace Go.Proofs.YtbkojmcppeflbaaDoor
open Go
set_option linter.unusedVariables false
set_option linter.unusedSimpArgs false
set_option linter.unusedSectionVars false
set_option linter.unnecessarySimpa false
variable {P : Program} {τ : Meta} {N : Nat} {Q : Exit → Act → World → Prop} {m : List (Nat × Value)} {L : List Itm}

/-! ## What can be read of a slice -/
/-- In a heap of which F is frozen, the slice u reads as ys. -/
def Read {α : Type} (k : Kd α) (H F : PH) (u : Value) (ys : List α) : Prop :=
  ∃ A c, u = .slice A ys.length c ∧ ys.length ≤ c ∧ (ys = [] ∨ ∃ b o blk ty fz, A = some ⟨b, o, none⟩ ∧ H b = some (.cells blk ty fz) ∧ rows k F blk o ys)
/-- A slice among the items. -/
class SlIn {α : Type} (L : List Itm) (u : Value) (k : Kd α) (ys : outParam (List α)) : Prop where
  out : ∀ {F h H : PH}, SepL F L h → PH.le F H → PH.le h H → Read k H F u ys
instance (priority := 1000) SlIn.frz {α : Type} {L : List Itm} {u : Value} {k : Kd α} {ys : List α} : SlIn (Frz k u ys :: L) u k ys :=
  ⟨fun ⟨_, _, i, _, _, _⟩ lF _ => by
    obtain ⟨_, A, c, e, l, h⟩ := i
    exact ⟨A, c, e, l, h.imp id fun ⟨b, o, blk, ty, fz, a1, a2, a3⟩ => ⟨b, o, blk, ty, fz, a1, lF _ _ a2, a3⟩⟩⟩
instance (priority := 1000) SlIn.own {α : Type} {L : List Itm} {u : Value} {k : Kd α} {ys : List α} {ty : TypeId} : SlIn (Own k u ys ty :: L) u k ys :=
  ⟨fun ⟨h1, h2, i, _, _, e⟩ _ lh => by
    rcases i with ⟨rfl, rfl, _⟩ | ⟨b, c, blk, e1, e2, _, e4, e5⟩
    · exact ⟨none, 0, rfl, Nat.le_refl _, .inl rfl⟩
    · exact ⟨_, c, e1, e2, .inr ⟨b, 0, blk, ty, _, rfl, lh _ _ (by rw [e]; exact PH.le_un_left _ _ _ _ (by rw [e4]; exact PH.one_at _ _)), e5⟩⟩⟩
instance (priority := 100) SlIn.there {α : Type} {L : List Itm} {u : Value} {k : Kd α} {ys : List α} {x : Itm} [s : SlIn L u k ys] : SlIn (x :: L) u k ys :=
  ⟨fun ⟨_, _, _, K, _, e⟩ lF lh => s.out K lF (fun b o hb => lh b o (by rename_i h1 h2 _ d; rw [e]; exact PH.le_un_right d b o hb))⟩
instance (priority := 10) SlIn.nil {α : Type} {L : List Itm} {k : Kd α} : SlIn L (.slice none 0 0) k [] := ⟨fun _ _ _ => ⟨none, 0, rfl, Nat.le_refl _, .inl rfl⟩⟩
theorem St.read {α : Type} {u : Value} {k : Kd α} {ys : List α} {w : World} [s : SlIn L u k ys] (H : St τ L w) : ∃ F : PH, PH.le F (hp w) ∧ Read k (hp w) F u ys :=
  let ⟨F, _, a, b, _, K, _⟩ := H; ⟨F, a, s.out K a b⟩
/-- The length of a slice among the items. -/
class SlLen (L : List Itm) (u : Value) (n : outParam Nat) : Prop where
  out : ∀ {τ : Meta} {w : World}, St τ L w → ∃ A c, u = .slice A n c ∧ n ≤ c
instance (priority := 1000) SlLen.frz {α : Type} {L : List Itm} {u : Value} {k : Kd α} {ys : List α} : SlLen (Frz k u ys :: L) u ys.length :=
  ⟨fun H => by obtain ⟨F, _, r⟩ := H.read (k := k) (u := u); obtain ⟨A, c, e, l, _⟩ := r; exact ⟨A, c, e, l⟩⟩
instance (priority := 1000) SlLen.own {α : Type} {L : List Itm} {u : Value} {k : Kd α} {ys : List α} {ty : TypeId} : SlLen (Own k u ys ty :: L) u ys.length :=
  ⟨fun H => by obtain ⟨F, _, r⟩ := H.read (k := k) (u := u); obtain ⟨A, c, e, l, _⟩ := r; exact ⟨A, c, e, l⟩⟩
instance (priority := 100) SlLen.there {L : List Itm} {u : Value} {n : Nat} {x : Itm} [s : SlLen L u n] : SlLen (x :: L) u n := ⟨fun H => s.out H.drop⟩
instance (priority := 10) SlLen.nil {L : List Itm} : SlLen L (.slice none 0 0) 0 := ⟨fun _ => ⟨none, 0, rfl, Nat.le_refl _⟩⟩
theorem rows_cell {α : Type} {k : Kd α} {F : PH} {blk : Array Value} {o : Nat} {ys : List α} (h : rows k F blk o ys) {j : Nat} (hj : j < ys.length * k.sz) : ∃ v, blk[o + j]? = some v := by
  have hz : 0 < k.sz := by rcases Nat.eq_zero_or_pos k.sz with e | e; · rw [e] at hj; omega
                           · exact e
  have hi : j / k.sz < ys.length := Nat.div_lt_of_lt_mul (by rwa [Nat.mul_comm])
  obtain ⟨cs, a, b⟩ := h (j / k.sz) ys[j / k.sz] (by simp [hi])
  have hr : j % k.sz < cs.length := by rw [k.len a]; exact Nat.mod_lt _ hz
  refine ⟨cs[j % k.sz], ?_⟩
  have := b (j % k.sz) cs[j % k.sz] (by simp [hr])
  have e : j / k.sz * k.sz + j % k.sz = j := by have := Nat.div_add_mod j k.sz; rw [Nat.mul_comm] at this; exact this
  rw [← this, Nat.add_assoc, e]
/-- The cells of a slice's elements. -/
theorem run_first {α : Type} {k : Kd α} {F : PH} {w : World} {u : Value} {ys : List α} {n : Nat} (h : Read k (hp w) F u ys) (hn : n = ys.length) :
    ∃ vs : List Value, (Builtin.firstCells k.sz n u).run P w = .ok vs.toArray w ∧ vs.length = ys.length * k.sz ∧ (∀ i y, ys[i]? = some y → ∃ cs, k.rep F y cs ∧ ∀ j v, cs[j]? = some v → vs[i * k.sz + j]? = some v) ∧
      ones vs = true := by
  subst hn
  obtain ⟨A, c, rfl, l, h⟩ := h
  rcases h with rfl | ⟨b, o, blk, ty, fz, rfl, hb, hr⟩
  · cases A with
    | none => exact ⟨[], by simp [Builtin.firstCells], by simp, fun i y e => by simp at e, rfl⟩
    | some a => exact ⟨[], by simp [Builtin.firstCells, loadCells, loadCellsFrom], by simp, fun i y e => by simp at e, rfl⟩
  · let vs := (List.range (ys.length * k.sz)).map fun j => (blk[o + j]?).getD undef
    have hv : ∀ j v, vs[j]? = some v → blk[o + j]? = some v ∧ j < ys.length * k.sz := by
      intro j v hj
      simp only [vs, List.getElem?_map, Option.map_eq_some_iff] at hj
      obtain ⟨j', h1, h2⟩ := hj
      have hlt : j < ys.length * k.sz := by
        rcases Nat.lt_or_ge j (ys.length * k.sz) with h | h
        · exact h
        · rw [List.getElem?_eq_none (by simpa using h)] at h1; cases h1
      have : j' = j := by simpa [hlt] using h1.symm
      subst this
      obtain ⟨x, hx⟩ := rows_cell hr hlt
      rw [hx] at h2; simp at h2; subst h2; exact ⟨hx, hlt⟩
    have hl : vs.length = ys.length * k.sz := by simp [vs]
    refine ⟨vs, ?_, hl, ?_, ?_⟩
    · have := run_loadCells (P := P) (w := w) (a := ⟨b, o, none⟩) hl (fun j v hj => by rw [add_plain, hp_cells hb]; exact (hv j v hj).1)
      simpa [Builtin.firstCells] using this
    · intro i y hy
      obtain ⟨cs, a, b'⟩ := hr i y hy
      refine ⟨cs, a, fun j v hj => ?_⟩
      have h1 := b' j v hj
      have hi : i < ys.length := by
        rcases Nat.lt_or_ge i ys.length with h | h
        · exact h
        · rw [List.getElem?_eq_none h] at hy; cases hy
      have hjl : j < k.sz := by
        rw [← k.len a]
        rcases Nat.lt_or_ge j cs.length with h | h
        · exact h
        · rw [List.getElem?_eq_none h] at hj; cases hj
      have hlt : i * k.sz + j < ys.length * k.sz := by
        have : (i + 1) * k.sz ≤ ys.length * k.sz := Nat.mul_le_mul_right _ hi
        rw [Nat.add_mul] at this; omega
      simp only [vs, List.getElem?_map, List.getElem?_range hlt, Option.map_some]
      rw [← Nat.add_assoc, h1]; rfl
    · refine List.all_eq_true.2 fun v hv' => ?_
      obtain ⟨j, hj⟩ := List.mem_iff_getElem?.1 hv'
      have hj' := hv j v hj
      have hz : 0 < k.sz := by rcases Nat.eq_zero_or_pos k.sz with e | e; · rw [e] at hj'; omega
                               · exact e
      have hi : j / k.sz < ys.length := Nat.div_lt_of_lt_mul (by rw [Nat.mul_comm]; exact hj'.2)
      obtain ⟨cs, a, b'⟩ := hr (j / k.sz) ys[j / k.sz] (by simp [hi])
      have hrr : j % k.sz < cs.length := by rw [k.len a]; exact Nat.mod_lt _ hz
      have h1 := b' (j % k.sz) cs[j % k.sz] (by simp [hrr])
      have e : j / k.sz * k.sz + j % k.sz = j := by have := Nat.div_add_mod j k.sz; rw [Nat.mul_comm] at this; exact this
      rw [Nat.add_assoc, e, hj'.1] at h1
      cases h1
      exact List.all_eq_true.1 (k.one a) _ (List.getElem_mem hrr)
theorem nextcap_le (need cap : Nat) (h : cap < need) : Builtin.nextslicecap need cap ≤ 2 * need + 192 := by
  have g : ∀ (r c : Nat), c < need → Builtin.growBy need r c ≤ 2 * need + 192 := by
    intro r
    induction r with
    | zero => intro c hc; simp only [Builtin.growBy]; omega
    | succ r ih =>
      intro c hc
      simp only [Builtin.growBy]
      split
      · omega
      · by_cases h' : c + (c + 768) / 4 < need
        · exact ih _ h'
        · cases r with
          | zero => simp only [Builtin.growBy]; omega
          | succ r => simp only [Builtin.growBy]; split <;> omega
  unfold Builtin.nextslicecap
  split
  · omega
  · split
    · omega
    · exact g 4 cap h

/-! ## append -/
/-- A slice of the call's own among the items (nil is everybody's). -/
class OwnIn {α : Type} (L : List Itm) (v : Value) (k : Kd α) (xs : outParam (List α)) (e : TypeId) (L' : outParam (List Itm)) : Prop where
  out : ∀ {F h : PH}, SepL F L h → SepL F (Own k v xs e :: L') h
instance (priority := 1000) OwnIn.here {α : Type} {L : List Itm} {v : Value} {k : Kd α} {xs : List α} {e : TypeId} : OwnIn (Own k v xs e :: L) v k xs e L := ⟨fun H => H⟩
instance (priority := 100) OwnIn.there {α : Type} {L L' : List Itm} {v : Value} {k : Kd α} {xs : List α} {e : TypeId} {y : Itm} [s : OwnIn L v k xs e L'] : OwnIn (y :: L) v k xs e (y :: L') :=
  ⟨fun ⟨h1, h2, i, k, d, e⟩ => SepL.swap ⟨h1, h2, i, s.out k, d, e⟩⟩
instance (priority := 10) OwnIn.nil {α : Type} {L : List Itm} {k : Kd α} {e : TypeId} : OwnIn L (.slice none 0 0) k [] e L :=
  ⟨fun H => ⟨PH.nil, _, .inl ⟨rfl, rfl, rfl⟩, H, PH.nil_dj _, (PH.nil_un _).symm⟩⟩
theorem St.ownIn {α : Type} {L' : List Itm} {v : Value} {k : Kd α} {xs : List α} {e : TypeId} {w : World} [s : OwnIn L v k xs e L'] (H : St τ L w) : St τ (Own k v xs e :: L') w :=
  let ⟨F, h, a, b, c, d, x⟩ := H; ⟨F, h, a, b, c, s.out d, x⟩
/-- The slice by itself. -/
theorem St.own_get {α : Type} {v : Value} {k : Kd α} {xs : List α} {e : TypeId} {w : World} (H : St τ (Own k v xs e :: L) w) :
    (v = .slice none 0 0 ∧ xs = []) ∨ ∃ b c blk, v = .slice (some ⟨b, 0, none⟩) xs.length c ∧ xs.length ≤ c ∧ blk.length = c * k.sz ∧ St τ (Cells b blk e :: L) w ∧
      (∃ F : PH, PH.le F (hp w) ∧ rows k F blk.toArray 0 xs) := by
  obtain ⟨F, h, a, b, c, ⟨h1, h2, i, s, d, rfl⟩, x⟩ := H
  rcases i with ⟨rfl, rfl, rfl⟩ | ⟨bb, cc, blk, e1, e2, e3, rfl, e5⟩
  · exact .inl ⟨rfl, rfl⟩
  · exact .inr ⟨bb, cc, blk.toList, e1, e2, by simpa using e3, ⟨F, _, a, b, c, ⟨_, h2, rfl, s, d, rfl⟩, x⟩, F, a, by simpa using e5⟩
/-- Own memory is told as a slice, with rows under the frozen part as it stands. -/
theorem St.own_put {α : Type} {k : Kd α} {xs : List α} {e : TypeId} {w : World} {b c : Nat} {blk : List Value} (H : St τ (Cells b blk e :: L) w) (hc : xs.length ≤ c) (hb : blk.length = c * k.sz)
    (hr : ∀ F h : PH, SepL F L h → PH.le F (hp w) → rows k F blk.toArray 0 xs) : St τ (Own k (.slice (some ⟨b, 0, none⟩) xs.length c) xs e :: L) w := by
  obtain ⟨F, h, a, b', c', ⟨h1, h2, i, s, d, rfl⟩, x⟩ := H
  have i' : h1 = PH.one b _ := i
  subst i'
  exact ⟨F, _, a, b', c', ⟨_, h2, .inr ⟨b, c, blk.toArray, rfl, hc, by simpa using hb, rfl, hr F h2 s a⟩, s, d, rfl⟩, x⟩
def notInt : TypeDesc → Bool
  | .int _ => false
  | _ => true
theorem setR_get {vs : List Value} : ∀ {cs : List Value} {o : Nat}, o + vs.length ≤ cs.length → (setR cs o vs).length = cs.length ∧ (∀ j, j < o → (setR cs o vs)[j]? = cs[j]?) ∧ (∀ j v, vs[j]? = some v → (setR cs o vs)[o + j]? = some v) := by
  induction vs with
  | nil => intro cs o _; exact ⟨rfl, fun _ _ => rfl, fun j v h => by simp at h⟩
  | cons x vs ih =>
    intro cs o h
    simp only [List.length_cons] at h
    obtain ⟨a, b, c⟩ := ih (cs := cs.set o x) (o := o + 1) (by simp; omega)
    refine ⟨by simp only [setR]; rw [a]; simp, fun j hj => ?_, fun j v hj => ?_⟩
    · simp only [setR]; rw [b j (by omega), List.getElem?_set_ne (by omega)]
    · cases j with
      | zero =>
        simp only [List.getElem?_cons_zero, Option.some.injEq] at hj; subst hj
        show (setR (cs.set o x) (o + 1) vs)[o]? = some x
        rw [b o (by omega), List.getElem?_set_self (by omega)]
      | succ j =>
        simp only [setR]
        have := c j v (by simpa using hj)
        rw [show o + (j + 1) = o + 1 + j by omega]; exact this
theorem rows_append {α : Type} {k : Kd α} {F : PH} {blk : List Value} {xs ys : List α} {vs : List Value}
    (h1 : ∀ i x, xs[i]? = some x → ∃ cs, k.rep F x cs ∧ ∀ j v, cs[j]? = some v → blk[i * k.sz + j]? = some v)
    (h2 : ∀ i y, ys[i]? = some y → ∃ cs, k.rep F y cs ∧ ∀ j v, cs[j]? = some v → vs[i * k.sz + j]? = some v)
    (h3 : ∀ j v, vs[j]? = some v → blk[xs.length * k.sz + j]? = some v) : rows k F blk.toArray 0 (xs ++ ys) := by
  intro i x hx
  simp only [Nat.zero_add, List.getElem?_toArray]
  rcases Nat.lt_or_ge i xs.length with h | h
  · rw [List.getElem?_append_left h] at hx
    exact h1 i x hx
  · rw [List.getElem?_append_right h] at hx
    obtain ⟨cs, a, b⟩ := h2 _ x hx
    refine ⟨cs, a, fun j v hj => ?_⟩
    have := h3 _ v (b j v hj)
    rw [← this]; congr 1
    have e : i = (i - xs.length) + xs.length := by omega
    conv => lhs; rw [e]
    rw [Nat.add_mul]; omega
theorem rows_mono' {α : Type} {k : Kd α} {F F' : PH} {vs : List Value} {ys : List α} (hF : PH.le F F') (h : ∀ i y, ys[i]? = some y → ∃ cs, k.rep F y cs ∧ ∀ j v, cs[j]? = some v → vs[i * k.sz + j]? = some v) :
    ∀ i y, ys[i]? = some y → ∃ cs, k.rep F' y cs ∧ ∀ j v, cs[j]? = some v → vs[i * k.sz + j]? = some v :=
  fun i y hy => let ⟨cs, a, b⟩ := h i y hy; ⟨cs, k.mono hF a, b⟩

theorem run_append_fits {t tx e ty : TypeId} {ux : TypeDesc} {sz by_ : Nat} {z : Value} {w : World} {base A : Option Addr} {n cap k cu : Nat}
    [Und P t (.slice e)] [Inf P e sz by_ z] [Und P tx ux] (hux : notInt ux = true) (h : n + k ≤ cap) :
    (Builtin.append_ #[t, tx] ty #[.slice base n cap, .slice A k cu]).run P w = ((Builtin.firstCells sz k (.slice A k cu)).run P w).andThen fun new w1 =>
      match base with
      | some a => ((storeCells (a.add (n * sz)) new.toList).run P w1).andThen fun _ w2 => .ok (.slice base (n + k) cap) w2
      | none => .ok (.slice base (n + k) cap) w1 := by
  cases ux <;> first
    | (cases hux; done)
    | (simp only [Builtin.append_, List.getElem?_toArray, List.getElem?_cons_zero, List.getElem?_cons_succ, Sem.run_bind, run_underlying, run_sizeOf, Result.andThen_ok, Sem.run_pure, Builtin.lenOf,
        Bool.false_eq_true, if_false, h, if_true, Bool.not_false]
       congr 1
       funext new w1
       cases base <;> simp)
theorem run_append_grows {t tx e ty : TypeId} {ux : TypeDesc} {sz by_ : Nat} {z : Value} {w : World} {base A : Option Addr} {n cap k cu : Nat}
    [Und P t (.slice e)] [Inf P e sz by_ z] [Und P tx ux] (hux : notInt ux = true) (h : cap < n + k) (hby : 0 < by_ ∧ by_ ≤ 64) (hb : n + k ≤ 1099511627776) :
    (Builtin.append_ #[t, tx] ty #[.slice base n cap, .slice A k cu]).run P w =
      let newCap := (Question.appendCap (n + k) cap e).cut (w.tape w.drawn (.appendCap (n + k) cap e))
      let w1 : World := { w with drawn := w.drawn + 1 }
      ((Builtin.firstCells sz n (.slice base n cap)).run P w1).andThen fun old w2 => ((Builtin.firstCells sz k (.slice A k cu)).run P w2).andThen fun new w3 =>
        .ok (.slice (some ⟨w3.heap.size, 0, none⟩) (n + k) newCap) { w3 with heap := w3.heap.push (.cells (old ++ new ++ Builtin.zeroCells z.cells (newCap - (n + k))) e) } := by
  obtain ⟨ie, ie1, ie2, ie3, ie4⟩ := (inferInstance : Inf P e sz by_ z).out
  have hcap : ¬ Builtin.nextslicecap (n + k) cap * ie.bytes > 2 ^ 48 := by
    have := nextcap_le (n + k) cap h
    have h2 : Builtin.nextslicecap (n + k) cap * ie.bytes ≤ (2 * (n + k) + 192) * 64 := Nat.mul_le_mul this (by rw [ie3]; exact hby.2)
    omega
  have hbz : ¬ ie.bytes = 0 := by rw [ie3]; omega
  have hnf : ¬ n + k ≤ cap := by omega
  cases ux <;> first
    | (cases hux; done)
    | (simp only [Builtin.append_, List.getElem?_toArray, List.getElem?_cons_zero, List.getElem?_cons_succ, Sem.run_bind, run_underlying, run_sizeOf, Result.andThen_ok, Sem.run_pure, Builtin.lenOf,
        Bool.false_eq_true, if_false, hnf, Bool.not_false, typeInfo, run_program, ie1, hbz, or_self, and_false, hcap, run_choose, Question.forced, run_askRoom, if_true, zeroValue, ie4, newRow, run_newObj])
theorem St.append_run {α : Type} {k : Kd α} {v u : Value} {xs ys : List α} {e t tx : TypeId} {ux : TypeDesc} {by_ : Nat} {z : Value} {w : World} {ty : TypeId}
    [Und P t (.slice e)] [Inf P e k.sz by_ z] [Und P tx ux] (hux : notInt ux = true) (hz : (cellsOf z).length = k.sz) (hby : 0 < by_ ∧ by_ ≤ 64) (hb : xs.length + ys.length ≤ 1099511627776)
    (H : St τ (Own k v xs e :: L) w) [s : SlIn L u k ys] :
    ∃ v' w', (Builtin.append_ #[t, tx] ty #[v, u]).run P w = .ok v' w' ∧ St τ (Own k v' (xs ++ ys) e :: L) w' := by
  obtain ⟨F, h, lF, lh, dF, ⟨h1, h2, i, K, d, rfl⟩, hm⟩ := H
  have l1 : PH.le h1 (hp w) := PH.le_trans (PH.le_un_left _ _) lh
  have l2 : PH.le h2 (hp w) := PH.le_trans (PH.le_un_right d) lh
  have dF' := PH.dj_un'.1 dF
  have hread := s.out K lF l2
  obtain ⟨A, cu, rfl, _, _⟩ := id hread
  have hown : ∃ B c, v = .slice B xs.length c ∧ xs.length ≤ c ∧ Read k (hp w) F v xs := by
    rcases i with ⟨rfl, rfl, _⟩ | ⟨b, c, blk, e1, e2, e3, rfl, e5⟩
    · exact ⟨none, 0, rfl, Nat.le_refl _, none, 0, rfl, Nat.le_refl _, .inl rfl⟩
    · exact ⟨_, c, e1, e2, _, c, e1, e2, .inr ⟨b, 0, blk, e, _, rfl, l1 _ _ (PH.one_at _ _), e5⟩⟩
  obtain ⟨B, c, rfl, hc, hr0⟩ := hown
  by_cases hfit : xs.length + ys.length ≤ c
  · -- there is room
    obtain ⟨vs, hrun, hvl, hvr, hv1⟩ := run_first (P := P) (w := w) hread rfl
    rcases i with ⟨e1, rfl, rfl⟩ | ⟨b, c', blk, e1, e2, e3, rfl, e5⟩
    · cases e1
      have hy : ys = [] := by cases ys with | nil => rfl | cons _ _ => simp at hfit
      subst hy
      refine ⟨_, _, run_append_fits (ux := ux) (e := e) hux hfit |>.trans (by rw [hrun]; rfl), F, _, lF, lh, dF, ⟨PH.nil, h2, .inl ⟨rfl, rfl, rfl⟩, K, d, rfl⟩, hm⟩
    · cases e1
      have hbk : w.heap[b]? = some (.cells blk.toList.toArray e (0, 0)) := l1 _ _ (PH.one_at _ _)
      have hroom : xs.length * k.sz + vs.length ≤ blk.toList.length := by
        have e3' : blk.toList.length = c * k.sz := by simpa using e3
        rw [hvl, e3', ← Nat.add_mul]; exact Nat.mul_le_mul_right _ hfit
      obtain ⟨w', hw, w1, w2, w3⟩ := heap_storeCells (P := P) (vs := vs) b (xs.length * k.sz) e hv1 hroom hbk 0 (xs.length * k.sz) (by omega)
      obtain ⟨g1, g2, g3⟩ := setR_get (cs := blk.toList) hroom
      have hw' : (Go.storeCells ((⟨b, 0, none⟩ : Addr).add (xs.length * k.sz)) vs).run P w = .ok () w' := by rw [add_plain, Nat.zero_add]; exact hw
      refine ⟨_, w', run_append_fits (ux := ux) (e := e) hux hfit |>.trans (by rw [hrun]; simp only [Result.andThen_ok, hw']; rfl), ?_⟩
      have keep : ∀ g : PH, PH.dj g (PH.one b (.cells blk e)) → PH.le g (hp w) → PH.le g (hp w') := fun g dg lg x o hx => by
        have hne : x ≠ b := fun e => by subst e; rcases dg x with q | q; · rw [hx] at q; cases q
                                        · rw [PH.one_at] at q; cases q
        exact (w2 x hne).trans (lg _ _ hx)
      have dn : ∀ g : PH, PH.dj g (PH.one b (.cells blk e)) → PH.dj g (PH.one b (.cells (setR blk.toList (xs.length * k.sz) vs).toArray e (0, 0))) := fun g dg => PH.dj_one.2 (PH.dj_one.1 dg)
      refine ⟨F, PH.un (PH.one b (.cells (setR blk.toList (xs.length * k.sz) vs).toArray e (0, 0))) h2, keep F dF'.1 lF, PH.un_le ?_ (keep h2 (PH.dj_symm d) l2), PH.dj_un'.2 ⟨dn F dF'.1, dF'.2⟩,
        ⟨_, h2, .inr ⟨b, c, _, by rw [List.length_append], by rw [List.length_append]; exact hfit, ?_, rfl, ?_⟩, K, PH.dj_symm (dn h2 (PH.dj_symm d)), rfl⟩, w3.trans hm⟩
      · intro x o hx
        by_cases hxb : x = b
        · subst hxb; rw [PH.one_at] at hx; cases hx; exact w1
        · simp [PH.one, hxb] at hx
      · simpa [g1] using e3
      · refine rows_append (vs := vs) (fun i x hx => ?_) hvr g3
        obtain ⟨cs, a1, a2⟩ := e5 i x hx
        refine ⟨cs, a1, fun j v hj => ?_⟩
        have := a2 j v hj
        have hi : i < xs.length := by
          rcases Nat.lt_or_ge i xs.length with h | h
          · exact h
          · rw [List.getElem?_eq_none h] at hx; cases hx
        have hjl : j < k.sz := by
          rw [← k.len a1]
          rcases Nat.lt_or_ge j cs.length with h | h
          · exact h
          · rw [List.getElem?_eq_none h] at hj; cases hj
        rw [g2]
        · simpa using this
        · have : (i + 1) * k.sz ≤ xs.length * k.sz := Nat.mul_le_mul_right _ hi
          rw [Nat.add_mul] at this; omega
  · -- it grows
    let newCap := (Question.appendCap (xs.length + ys.length) c e).cut (w.tape w.drawn (.appendCap (xs.length + ys.length) c e))
    let w1 : World := { w with drawn := w.drawn + 1 }
    obtain ⟨vs, hrun, hvl, hvr, hv1⟩ := run_first (P := P) (w := w1) hread rfl
    obtain ⟨os, orun, ol, orr, _⟩ := run_first (P := P) (w := w1) hr0 rfl
    have hcap : xs.length + ys.length ≤ newCap := by simp only [newCap, Question.cut]; omega
    have hzc : (Builtin.zeroCells z.cells (newCap - (xs.length + ys.length))).size = (newCap - (xs.length + ys.length)) * k.sz := by
      simp only [Builtin.zeroCells, Array.size_map, Array.size_range]
      have hzs : z.cells.size = k.sz := by rw [← hz, ← cells_toList]; simp
      rw [hzs]
    refine ⟨_, _, (run_append_grows (ux := ux) (e := e) hux (by omega) hby hb).trans (by simp only [orun, hrun, Result.andThen_ok, w1]; rfl), ?_⟩
    have lH : ∀ g : PH, PH.le g (hp w) → ∀ o, PH.le g (hp { w1 with heap := w.heap.push o }) := fun g lg o x y hx => by
      have := lg _ _ hx
      simp only [hp] at this ⊢
      have hlt : x < w.heap.size := by
        rcases Nat.lt_or_ge x w.heap.size with h | h
        · exact h
        · simp [Array.getElem?_eq_none h] at this
      rw [Array.getElem?_push, if_neg (by omega)]; exact this
    have dN : ∀ g : PH, PH.le g (hp w) → ∀ o, PH.dj g (PH.one w.heap.size o) := fun g lg o => PH.dj_one.2 (by
      cases hg : g w.heap.size with
      | none => rfl
      | some x => have := lg _ _ hg; simp [hp] at this)
    refine ⟨F, PH.un (PH.one w.heap.size (.cells (os.toArray ++ vs.toArray ++ Builtin.zeroCells z.cells (newCap - (xs.length + ys.length))) e)) h2, lH F lF _, PH.un_le ?_ (lH h2 l2 _), PH.dj_un'.2 ⟨dN F lF _, dF'.2⟩,
      ⟨_, h2, .inr ⟨w.heap.size, newCap, _, by rw [List.length_append], by rw [List.length_append]; exact hcap, ?_, rfl, ?_⟩, K, PH.dj_symm (dN h2 l2 _), rfl⟩, hm⟩
    · intro x o hx
      by_cases hxb : x = w.heap.size
      · subst hxb; rw [PH.one_at] at hx; cases hx; first | (simp [hp]; done) | (simp [hp]; rfl)
      · simp [PH.one, hxb] at hx
    · simp only [Array.size_append, hzc, List.size_toArray, ol, hvl]
      rw [← Nat.add_mul, ← Nat.add_mul]; congr 1; omega
    · have e0 : (os.toArray ++ vs.toArray ++ Builtin.zeroCells z.cells (newCap - (xs.length + ys.length))) = ((os ++ vs) ++ (Builtin.zeroCells z.cells (newCap - (xs.length + ys.length))).toList).toArray := by simp
      rw [e0]
      refine rows_append (vs := vs) (fun i x hx => ?_) hvr (fun j v hj => ?_)
      · obtain ⟨cs, a1, a2⟩ := orr i x hx
        refine ⟨cs, a1, fun j v hj => ?_⟩
        have := a2 j v hj
        have hlt : i * k.sz + j < os.length := by
          rcases Nat.lt_or_ge (i * k.sz + j) os.length with h | h
          · exact h
          · rw [List.getElem?_eq_none h] at this; cases this
        rw [List.append_assoc, List.getElem?_append_left hlt]; exact this
      · have hlt : j < vs.length := by
          rcases Nat.lt_or_ge j vs.length with h | h
          · exact h
          · rw [List.getElem?_eq_none h] at hj; cases hj
        rw [List.getElem?_append_left (by rw [List.length_append, ol]; omega), List.getElem?_append_right (by rw [ol]; omega), ← hj, ol]
        congr 1; omega
end Go.Proofs.YtbkojmcppeflbaaDoor
