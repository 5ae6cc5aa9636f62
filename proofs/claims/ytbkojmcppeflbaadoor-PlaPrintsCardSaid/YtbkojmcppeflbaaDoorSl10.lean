/- The symbolic layer: elements of slices that the call owns, read and written; makeSlice; pointers compared with nil. -/
import Derived.Test.YtbkojmcppeflbaaDoorSl9
import Derived.Laws.Pointers
namespace Go.Proofs.YtbkojmcppeflbaaDoor
open Go
set_option linter.unusedVariables false
set_option linter.unusedSimpArgs false
set_option linter.unusedSectionVars false
set_option linter.unnecessarySimpa false
variable {P : Program} {τ : Meta} {N : Nat} {Q : Exit → Act → World → Prop} {m : List (Nat × Value)} {L : List Itm} {κ : Act → World → Prop}
/-- Data whose cells are told by the data alone. -/
class Flat {α : Type} (k : Kd α) (fl : outParam (α → List Value)) : Prop where
  out : ∀ F x cs, k.rep F x cs ↔ cs = fl x
  one : ∀ x, ones (fl x) = true
instance {k : IntKind} : Flat (kI k) (fun n => [.int k n]) := ⟨fun _ _ _ => Iff.rfl, fun _ => rfl⟩
instance : Flat kB (fun b => [.bool b]) := ⟨fun _ _ _ => Iff.rfl, fun _ => rfl⟩
instance : Flat kS (fun s => [.string s]) := ⟨fun _ _ _ => Iff.rfl, fun _ => rfl⟩
instance {α β : Type} {k : Kd α} {l : Kd β} {f : α → List Value} {h : β → List Value} [a : Flat k f] [b : Flat l h] : Flat (kP k l) (fun x => f x.1 ++ h x.2) :=
  ⟨fun F x cs => ⟨fun ⟨c, d, e, p, q⟩ => by rw [e, (a.out _ _ _).1 p, (b.out _ _ _).1 q], fun e => ⟨_, _, e, (a.out _ _ _).2 rfl, (b.out _ _ _).2 rfl⟩⟩,
   fun x => by have h1 := a.one x.1; have h2 := b.one x.2; simp only [ones, List.all_append, Bool.and_eq_true] at *; exact ⟨h1, h2⟩⟩
/-- An own slice lies in this block. -/
def AtB (v : Value) (b : Nat) : Itm :=
  ⟨true, fun _ h => h = PH.nil ∧ ∃ n c, v = .slice (some ⟨b, 0, none⟩) n c, fun _ h => h, fun _ _ _ h => h.1⟩
instance {v : Value} {b : Nat} : Pers (AtB v b) := ⟨rfl⟩
class SelB (L : List Itm) (v : Value) (b : outParam Nat) : Prop where
  out : ∀ {F h : PH}, SepL F L h → ∃ n c, v = .slice (some ⟨b, 0, none⟩) n c
instance (priority := 1000) SelB.here {v : Value} {b : Nat} : SelB (AtB v b :: L) v b := ⟨fun ⟨_, _, k, _⟩ => k.2⟩
instance (priority := 100) SelB.there {v : Value} {b : Nat} {x : Itm} [s : SelB L v b] : SelB (x :: L) v b := ⟨fun ⟨_, _, _, K, _⟩ => s.out K⟩
/-- A slice of the call's own among the items. -/
class SelO {α : Type} (L : List Itm) (v : Value) (k : Kd α) (xs : outParam (List α)) (e : outParam TypeId) (L1 : outParam (List Itm)) : Prop where
  out : ∀ {F h : PH}, SepL F L h → SepL F (Own k v xs e :: L1) h
instance (priority := 1000) SelO.here {α : Type} {v : Value} {k : Kd α} {xs : List α} {e : TypeId} : SelO (Own k v xs e :: L) v k xs e L := ⟨fun H => H⟩
instance (priority := 100) SelO.there {α : Type} {v : Value} {k : Kd α} {xs : List α} {e : TypeId} {x : Itm} {L1 : List Itm} [s : SelO L v k xs e L1] : SelO (x :: L) v k xs e (x :: L1) :=
  ⟨fun ⟨h1, h2, i, k, d, e⟩ => SepL.swap ⟨h1, h2, i, s.out k, d, e⟩⟩
theorem St.selO {α : Type} {v : Value} {k : Kd α} {xs : List α} {e : TypeId} {L1 : List Itm} {w : World} [s : SelO L v k xs e L1] (H : St τ L w) : St τ (Own k v xs e :: L1) w :=
  let ⟨F, h, a, b', c, d, e⟩ := H; ⟨F, h, a, b', c, s.out d, e⟩
/-- The block of an own slice that is not empty. -/
theorem G.at {α : Type} (k : Kd α) (v : Value) {xs : List α} {e : TypeId} {L1 : List Itm} {i : Nat} {y : α} [s : SelO L v k xs e L1] (hy : xs[i]? = some y)
    (n : ∀ b, G τ N κ m (AtB v b :: L)) : G τ N κ m L := by
  intro a w hK hS
  obtain ⟨F, h, lF, lh, dF, K, hm⟩ := hS
  obtain ⟨h1, h2, hi, _, _, _⟩ := s.out K
  rcases hi with ⟨_, rfl, _⟩ | ⟨b, c, blk, e1, _⟩
  · simp at hy
  · exact n b a w hK ⟨F, h, lF, lh, dF, ⟨PH.nil, h, ⟨rfl, xs.length, c, e1⟩, K, PH.nil_dj _, (PH.nil_un _).symm⟩, hm⟩
/-- The cells of an element of an own slice. -/
theorem own_cell {α : Type} {k : Kd α} {fl : α → List Value} [f : Flat k fl] {v : Value} {xs : List α} {e : TypeId} {b : Nat} {L1 : List Itm} [q : SelB L v b] [s : SelO L v k xs e L1] {w : World} (H : St τ L w)
    {i : Nat} {y : α} (hy : xs[i]? = some y) {j : Nat} {u : Value} (hj : (fl y)[j]? = some u) : w.cell? ⟨b, i * k.sz + j, none⟩ = some u := by
  obtain ⟨F, h, lF, lh, dF, K, hm⟩ := H
  obtain ⟨n0, c0, e0⟩ := q.out K
  obtain ⟨h1, h2, hi, _, _, eh⟩ := s.out K
  rcases hi with ⟨_, rfl, _⟩ | ⟨b', c, blk, e1, _, _, e4, e5⟩
  · simp at hy
  · rw [e0] at e1
    simp only [Value.slice.injEq, Option.some.injEq, Addr.mk.injEq] at e1
    obtain ⟨⟨rfl, _⟩, rfl, _⟩ := e1
    obtain ⟨cs, r1, r2⟩ := e5 i y hy
    rw [(f.out _ _ _).1 r1] at r2
    have hb : hp w b = some (.cells blk e (0, 0)) := lh _ _ (by rw [eh]; exact PH.le_un_left _ _ _ _ (by rw [e4]; exact PH.one_at _ _))
    rw [hp_cells hb]
    have := r2 j u hj; rwa [Nat.zero_add] at this
section ops
variable {d : Nat} {ty : TypeId} {pos : String} {af : Array Edge} {g : Option (Nat × Bool)}
theorem r_idxO {α : Type} (k : Kd α) {x ix : Operand} {v : Value} {kk : IntKind} {i : Int} {t e e' : TypeId} {sz by_ : Nat} {z : Value} {b : Nat} {xs : List α} {L1 : List Itm} {y : α} [Und P t (.slice e)] [Inf P e sz by_ z]
    (hx : ev m x = some v) (hi : ev m ix = some (.int kk i)) (h0 : 0 ≤ i) [q : SelB L v b] [s : SelO L v k xs e' L1] (hy : xs[i.toNat]? = some y) : RunV P τ N m L ⟨some d, .indexAddr t x ix, ty, pos, af, g⟩ (.pointer (some ⟨b, i.toNat * sz, none⟩)) := fun a w hK hS => by
  obtain ⟨F, h, lF, lh, dF, K, hm⟩ := hS
  obtain ⟨n, c, e0⟩ := q.out K
  obtain ⟨h1, h2, ho, _, _, _⟩ := s.out K
  have hlt : i.toNat < xs.length := by
    rcases Nat.lt_or_ge i.toNat xs.length with h | h
    · exact h
    · rw [List.getElem?_eq_none h] at hy; cases hy
  have hn : n = xs.length := by
    rcases ho with ⟨_, rfl, _⟩ | ⟨b', c', blk, e1, _⟩
    · simp at hlt
    · rw [e0] at e1; simp only [Value.slice.injEq] at e1; exact e1.2.1
  subst e0; subst hn
  have hi1 : i < (xs.length : Int) := by omega
  simp [execOp, hK.eval hx, hK.eval hi, Instr.indexAt, asIntOf, run_underlying, run_sizeOf, h0, hi1, add_plain]
theorem r_loadO {α : Type} (k : Kd α) (v : Value) (i j : Nat) {fl : α → List Value} [f : Flat k fl] {t : TypeId} {u : TypeDesc} {x : Operand} {b o : Nat} {xs : List α} {e : TypeId} {L1 : List Itm} {y : α} {r : Value} [Und P t u] [q : SelB L v b] [s : SelO L v k xs e L1]
    (hx : ev m x = some (.pointer (some ⟨b, o, none⟩))) (hy : xs[i]? = some y) (ho : o = i * k.sz + j) (hj : (fl y)[j]? = some r) (hu : TypeDesc.agg u = false) :
    RunV P τ N m L ⟨some d, .load t x, ty, pos, af, g⟩ r := fun a w hK hS => by
  subst ho
  simp [execOp, hK.eval hx, Instr.loadAt, Instr.sureAddr, loadVar, run_isAgg, hu, own_cell (k := k) (v := v) hS hy hj]
theorem r_loadON {α : Type} (k : Kd α) (v : Value) (i : Nat) {fl : α → List Value} [f : Flat k fl] {t : TypeId} {u : TypeDesc} {sz by_ : Nat} {z : Value} {x : Operand} {b o : Nat} {xs : List α} {e : TypeId} {L1 : List Itm} {y : α} (vs : List Value) [Und P t u] [Inf P t sz by_ z] [q : SelB L v b] [s : SelO L v k xs e L1]
    (hx : ev m x = some (.pointer (some ⟨b, o, none⟩))) (hy : xs[i]? = some y) (ho : o = i * k.sz) (hj : fl y = vs) (hl : Nat.beq vs.length sz = true) (hu : TypeDesc.agg u = true) :
    RunV P τ N m L ⟨some d, .load t x, ty, pos, af, g⟩ (.agg vs.toArray) := fun a w hK hS => by
  subst ho
  have := run_loadCells (P := P) (w := w) (a := ⟨b, i * k.sz, none⟩) (n := sz) (vs := vs) (Nat.eq_of_beq_eq_true hl) (fun j u hu => by rw [add_plain]; exact own_cell (k := k) (v := v) hS hy (by rw [hj]; exact hu))
  simp [execOp, hK.eval hx, Instr.loadAt, Instr.sureAddr, loadVar, run_isAgg, hu, run_sizeOf, this]
end ops
theorem setR_leng : ∀ (vs : List Value) (cs : List Value) (o : Nat), (setR cs o vs).length = cs.length
  | [], _, _ => rfl
  | v :: vs, cs, o => by simp only [setR]; rw [setR_leng vs]; simp
theorem setR_at : ∀ (vs cs : List Value) (o i : Nat), o + vs.length ≤ cs.length → (setR cs o vs)[i]? = if o ≤ i ∧ i < o + vs.length then vs[i - o]? else cs[i]?
  | [], cs, o, i, _ => by simp [setR]; intro h1 h2; omega
  | v :: vs, cs, o, i, h => by
    simp only [List.length_cons] at h
    simp only [setR]
    rw [setR_at vs (cs.set o v) (o + 1) i (by simp; omega)]
    by_cases e : i = o
    · subst e
      rw [if_neg (by omega), if_pos (by simp only [List.length_cons]; omega), Nat.sub_self, List.getElem?_set_self (by omega)]; rfl
    · simp only [List.length_cons]
      by_cases c : o + 1 ≤ i ∧ i < o + 1 + vs.length
      · rw [if_pos c, if_pos (by omega)]
        obtain ⟨n, hn⟩ : ∃ n, i - o = n + 1 := ⟨i - o - 1, by omega⟩
        rw [hn, show i - (o + 1) = n by omega]; simp
      · rw [if_neg c, if_neg (by omega), List.getElem?_set_ne (by omega)]
/-- Cells of one element of an own slice are written. -/
theorem St.ownSet {α : Type} {k : Kd α} {fl : α → List Value} [f : Flat k fl] {v : Value} {xs : List α} {e : TypeId} {b n : Nat} {w : World} (H : St τ (Own k v xs e :: L) w) {c0 : Nat} (e0 : v = .slice (some ⟨b, 0, none⟩) n c0)
    {i : Nat} {y y' : α} (hy : xs[i]? = some y) {j : Nat} {vs : List Value} (h1 : ones vs = true) (hj : j + vs.length ≤ k.sz) (hs : setR (fl y) j vs = fl y') :
    ∃ w', (Go.storeCells ⟨b, i * k.sz + j, none⟩ vs 0).run P w = .ok () w' ∧ St τ (Own k v (xs.set i y') e :: L) w' := by
  have hlt : i < xs.length := by
    rcases Nat.lt_or_ge i xs.length with h | h
    · exact h
    · rw [List.getElem?_eq_none h] at hy; cases hy
  have hsz : ∀ z, (fl z).length = k.sz := fun z => k.len (F := PH.nil) ((f.out PH.nil z _).2 rfl)
  obtain ⟨F, h, lF, lh, hi⟩ := H.get
  rcases hi with ⟨_, rfl, _⟩ | ⟨b', c, blk, e1, e2, e3, e4, e5⟩
  · simp at hy
  rw [e0] at e1
  simp only [Value.slice.injEq, Option.some.injEq, Addr.mk.injEq] at e1
  obtain ⟨⟨rfl, _⟩, rfl, rfl⟩ := e1
  have hb : hp w b = some (.cells blk e (0, 0)) := lh _ _ (by rw [e4]; exact PH.one_at _ _)
  have hroom : i * k.sz + j + vs.length ≤ blk.size := by
    rw [e3]; calc i * k.sz + j + vs.length ≤ i * k.sz + k.sz := by omega
      _ = (i + 1) * k.sz := by rw [Nat.add_mul, Nat.one_mul]
      _ ≤ c0 * k.sz := Nat.mul_le_mul_right _ (by omega)
  obtain ⟨w', r1, r2, r3, r4⟩ := heap_storeCells (P := P) (vs := vs) (cs := blk.toList) (w := w) b (i * k.sz + j) e h1 (by simpa using hroom) (by simpa [hp] using hb) 0 (i * k.sz + j) rfl
  refine ⟨w', r1, H.update r4 ?_⟩
  intro F1 g hg lg
  rcases hg with ⟨ev0, _, _⟩ | ⟨b1, c1, blk1, f1, f2, f3, f4, f5⟩
  · rw [e0] at ev0; cases ev0
  rw [e0] at f1
  simp only [Value.slice.injEq, Option.some.injEq, Addr.mk.injEq] at f1
  obtain ⟨⟨rfl, _⟩, _, rfl⟩ := f1
  have : blk1 = blk := by
    have := lg b _ (by rw [f4]; exact PH.one_at _ _)
    rw [hb] at this; cases this; rfl
  subst this
  refine ⟨PH.one b (.cells (setR blk1.toList (i * k.sz + j) vs).toArray e (0, 0)), .inr ⟨b, c0, _, by rw [e0]; simp, by simpa using f2, by simp [setR_leng, f3], rfl, ?_⟩, ?_, ?_⟩
  · intro i' x' hx'
    by_cases ei : i' = i
    · subst ei
      rw [List.getElem?_set_self hlt] at hx'; cases hx'
      refine ⟨fl y', (f.out _ _ _).2 rfl, fun p u hp => ?_⟩
      obtain ⟨cs, q1, q2⟩ := f5 i' y hy
      rw [(f.out _ _ _).1 q1] at q2
      rw [← hs, setR_at _ _ _ _ (by rw [hsz]; exact hj)] at hp
      rw [List.getElem?_toArray, setR_at _ _ _ _ (by simpa using hroom), Nat.zero_add]
      by_cases c : j ≤ p ∧ p < j + vs.length
      · rw [if_pos c] at hp; rw [if_pos (by omega), show i' * k.sz + p - (i' * k.sz + j) = p - j by omega]; exact hp
      · rw [if_neg c] at hp; rw [if_neg (by omega)]
        have := q2 p u hp; simpa using this
    · rw [List.getElem?_set_ne (Ne.symm ei)] at hx'
      obtain ⟨cs, q1, q2⟩ := f5 i' x' hx'
      refine ⟨cs, q1, fun p u hp => ?_⟩
      have hpl : p < k.sz := by
        rw [← k.len q1]
        rcases Nat.lt_or_ge p cs.length with h | h
        · exact h
        · rw [List.getElem?_eq_none h] at hp; cases hp
      rw [List.getElem?_toArray, setR_at _ _ _ _ (by simpa using hroom), Nat.zero_add, if_neg ?_]
      · have := q2 p u hp; simpa using this
      · rintro ⟨c1, c2⟩
        rcases Nat.lt_or_gt_of_ne ei with h | h
        · have : (i' + 1) * k.sz ≤ i * k.sz := Nat.mul_le_mul_right _ h
          rw [Nat.add_mul, Nat.one_mul] at this; omega
        · have : (i + 1) * k.sz ≤ i' * k.sz := Nat.mul_le_mul_right _ h
          rw [Nat.add_mul, Nat.one_mul] at this; omega
  · intro c x hc
    by_cases e : c = b
    · subst e; rw [PH.one_at] at hc; cases hc; exact r2
    · simp [PH.one, e] at hc
  · intro c hc _
    have e : c ≠ b := fun e => by subst e; rw [f4, PH.one_at] at hc; cases hc
    exact ⟨r3 c e, by simp [PH.one, e]⟩
section ops
variable {d : Nat} {ty : TypeId} {pos : String} {af : Array Edge} {g : Option (Nat × Bool)}
theorem o_storeO {α : Type} (k : Kd α) (v : Value) (i j : Nat) (y' : α) {fl : α → List Value} [f : Flat k fl] {t : TypeId} {sz by_ : Nat} {z : Value} {x y : Operand} {b o : Nat} {u : Value} (vs : List Value) {xs : List α} {e : TypeId} {L1 : List Itm} {y0 : α}
    [Inf P t sz by_ z] [q : SelB L v b] [s : SelO L v k xs e L1] (hx : ev m x = some (.pointer (some ⟨b, o, none⟩))) (hy : ev m y = some u) (hu : cellsOf u = vs) (h1 : ones vs = true) (hl : Nat.beq vs.length sz = true)
    (hi : xs[i]? = some y0) (ho : o = i * k.sz + j) (hj : Nat.ble (j + vs.length) k.sz = true) (hs : setR (fl y0) j vs = fl y') (c : G τ N κ m (Own k v (xs.set i y') e :: L1)) : G τ N (opK P ⟨none, .store t x y, ty, pos, af, g⟩ κ Q) m L := by
  refine .step_skip rfl (fun a w hK hS => ?_) c
  obtain ⟨n0, c0, e0⟩ := (show ∃ n c, v = .slice (some ⟨b, 0, none⟩) n c from by obtain ⟨F, h, _, _, _, K, _⟩ := hS; exact q.out K)
  have hvc : u.cells.toList = vs := by rw [cells_toList, hu]
  have hsz : u.cells.size = sz := by rw [← Array.length_toList, hvc]; exact Nat.eq_of_beq_eq_true hl
  obtain ⟨w', r, H⟩ := St.ownSet (P := P) (fl := fl) (hS.selO (k := k) (v := v)) e0 hi (j := j) (vs := vs) (y' := y') h1 (Nat.le_of_ble_eq_true hj) hs
  subst ho
  exact ⟨w', by simp [execOp, hK.eval hx, hK.eval hy, Instr.storeAt, Instr.sureAddr, storeVar, run_sizeOf, hsz, hvc, r], H⟩
end ops
section ops
variable {d : Nat} {ty : TypeId} {pos : String} {af : Array Edge} {g : Option (Nat × Bool)}
theorem push_cells {w : World} (H : St τ L w) (blk : Array Value) (e : TypeId) {y : Itm} (hy : ∀ F, y.hold F (PH.one w.heap.size (.cells blk e (0, 0)))) : St τ (y :: L) { w with heap := w.heap.push (.cells blk e (0, 0)) } := by
  refine H.fresh rfl ?_ ?_
  · intro b hb
    simp only [hp] at *
    have : b < w.heap.size := by
      rcases Nat.lt_or_ge b w.heap.size with h | h
      · exact h
      · simp [Array.getElem?_eq_none h] at hb
    rw [Array.getElem?_push, if_neg (by omega)]
  · intro F _
    refine ⟨PH.one w.heap.size _, hy F, ?_, ?_⟩
    · intro c x hc
      by_cases e : c = w.heap.size
      · subst e; rw [PH.one_at] at hc; cases hc; simp [hp]
      · simp [PH.one, e] at hc
    · intro c hc
      have e : c = w.heap.size := by
        by_cases e : c = w.heap.size
        · exact e
        · simp [PH.one, e] at hc
      subst e; simp [hp]
theorem wrap_room {n : Int} (h0 : 0 ≤ n) (h1 : n ≤ 1099511627776) : IntKind.i64.wrap n = n := by
  simp only [IntKind.wrap, IntKind.bits, IntKind.signed]; simp; omega
theorem run_makeSlice {t e : TypeId} {sz by_ : Nat} {z : Value} {kk ll : IntKind} {n : Int} [Und P t (.slice e)] [ie : Inf P e sz by_ z] (hb : by_ ≤ 64) (h0 : 0 ≤ n) (h1 : n ≤ 1099511627776) (w : World) :
    ∃ blk, (Instr.makeSlice t (.int kk n) (.int ll n)).run P w = .ok (.slice (some ⟨w.heap.size, 0, none⟩) n.toNat n.toNat) { w with heap := w.heap.push (.cells blk e (0, 0)) } ∧ blk.size = n.toNat * sz ∧
      ∀ i, i < n.toNat * sz → blk[i]? = some z.cells[i % z.cells.size]! := by
  have hbig : ¬ ((by_ : Int) * n > 2 ^ 48) := by
    have h2 : (by_ : Int) * n ≤ 64 * 1099511627776 := Int.mul_le_mul (by omega) h1 h0 (by omega)
    have h3 : (2 : Int) ^ 48 = 281474976710656 := by decide
    omega
  have hneg : ¬ n < 0 := by omega
  obtain ⟨i, i1, i2, i3, i4⟩ := ie.out
  have hbig' : ¬ (2 ^ 48 < (by_ : Int) * n) := hbig
  have key : ∀ blk : Array Value, ((if n.toNat * sz = 0 then (Pure.pure #[] : Sem (Array Value)) else (do pure (← zeroValue e).cells)).run P w = .ok blk w) → (Instr.makeSlice t (.int kk n) (.int ll n)).run P w = .ok (.slice (some ⟨w.heap.size, 0, none⟩) n.toNat n.toNat) { w with heap := w.heap.push (.cells ((Array.range (n.toNat * sz)).map (blk[· % blk.size]!)) e (0, 0)) } := by
    intro blk hblk
    unfold Instr.makeSlice
    simp only [Sem.run_bind, run_underlying, Result.andThen_ok, asInt, asIntOf, Sem.run_pure, typeInfo, run_program, i1, i3, wrap_room h0 h1, run_sizeOf, run_askRoom, Sem.run_ite, gt_iff_lt, hbig', hneg, Int.lt_irrefl, decide_false, Bool.or_self, if_false, Bool.false_eq_true]
    simp only [Sem.run_bind, Sem.run_pure, Sem.run_ite] at hblk
    split at hblk
    · rename_i hz; cases hblk
      simp [hz, newRow]
    · rename_i hz
      rw [run_zero] at hblk ⊢
      simp only [Result.andThen_ok] at hblk ⊢
      cases hblk
      simp only [hz, if_false, Result.andThen_ok, newRow, Sem.run_bind, run_newObj, Sem.run_pure]
  refine ⟨_, key (if n.toNat * sz = 0 then #[] else z.cells) ?_, by simp, fun j hj => ?_⟩
  · split
    · rfl
    · simp [run_zero]
  · have : ¬ n.toNat * sz = 0 := by omega
    simp [this, hj]
theorem o_makeSlice {α : Type} (k : Kd α) (y0 : α) {fl : α → List Value} [f : Flat k fl] {t e : TypeId} {by_ : Nat} {z : Value} {x y : Operand} {kk ll : IntKind} {n : Int} [Und P t (.slice e)] [Inf P e k.sz by_ z]
    (hx : ev m x = some (.int kk n)) (hy : ev m y = some (.int ll n)) (hz : cellsOf z = fl y0) (hk : Nat.blt 0 k.sz = true) (hby : Nat.ble by_ 64 = true) (h0 : 0 ≤ n) (h1 : n ≤ 1099511627776) (hd : Nat.blt d N = true)
    (c : ∀ v, G τ N κ ((d, v) :: m) (Own k v (List.replicate n.toNat y0) e :: L)) : G τ N (opK P ⟨some d, .makeSlice t x y, ty, pos, af, g⟩ κ Q) m L := by
  have hk0 : 0 < k.sz := by simpa [Nat.blt_eq] using hk
  have hfl : (fl y0).length = k.sz := k.len (F := PH.nil) ((f.out PH.nil y0 _).2 rfl)
  have hzl : z.cells.toList = fl y0 := by rw [cells_toList, hz]
  have hzs : z.cells.size = k.sz := by rw [← Array.length_toList, hzl, hfl]
  refine G.step_new (v := fun v => v) (L' := fun v => Own k v (List.replicate n.toNat y0) e :: L) rfl hd (fun a w hK hS => ?_) c
  obtain ⟨blk, r, hs, hc⟩ := run_makeSlice (P := P) (t := t) (e := e) (kk := kk) (ll := ll) (Nat.le_of_ble_eq_true hby) h0 h1 w
  refine ⟨.slice (some ⟨w.heap.size, 0, none⟩) n.toNat n.toNat, _, by simp only [execOp, hK.eval hx, hK.eval hy, Sem.run_bind, r, Result.andThen_ok, Sem.run_pure], push_cells hS blk e fun F => .inr ⟨w.heap.size, n.toNat, blk, by simp, by simp, hs, rfl, ?_⟩⟩
  intro i x hi
  have hin : i < n.toNat := by
    rcases Nat.lt_or_ge i n.toNat with h | h
    · exact h
    · rw [List.getElem?_eq_none (by simpa using h)] at hi; cases hi
  rw [List.getElem?_replicate, if_pos hin] at hi; cases hi
  refine ⟨fl y0, (f.out _ _ _).2 rfl, fun j u hj => ?_⟩
  have hjl : j < k.sz := by
    rw [← hfl]
    rcases Nat.lt_or_ge j (fl y0).length with h | h
    · exact h
    · rw [List.getElem?_eq_none h] at hj; cases hj
  have hb : i * k.sz + j < n.toNat * k.sz := by
    calc i * k.sz + j < i * k.sz + k.sz := by omega
      _ = (i + 1) * k.sz := by rw [Nat.add_mul, Nat.one_mul]
      _ ≤ n.toNat * k.sz := Nat.mul_le_mul_right _ hin
  rw [Nat.zero_add, hc _ hb, hzs, Nat.mul_add_mod_self_right, Nat.mod_eq_of_lt hjl]
  rw [← hzl] at hj
  rw [Array.getElem?_toList] at hj
  rw [getElem!_def, hj]
end ops
/-! pointers compared with nil -/
section
variable {d : Option Tmp} {ty : TypeId} {pos : String} {af : Array Edge} {g : Option (Nat × Bool)}
theorem pointee_eq {t e : TypeId} [h : Und P t (.pointer e)] : P.underlying t = some (.pointer (P.pointee t)) := by
  have : P.pointee t = e := by simp [Program.pointee, h.out]
  rw [this]; exact h.out
theorem run_guardPtr (op : BinOp) (t : TypeId) (x y : Operand) (a b : Option Addr) (w : World) : (eqGuard op t x y (.pointer a) (.pointer b)).run P w = .ok () w := by
  cases op <;> simp [eqGuard]
theorem r_ptrNil {t t' e : TypeId} {x y : Operand} {a : Option Addr} (b : Bool) [Und P t (.pointer e)] (hx : ev m x = some (.pointer a)) (hy : ev m y = some (.pointer none)) (hb : a.isNone = b) :
    RunV P τ N m L ⟨d, .binOp .eql t x y t', ty, pos, af, g⟩ (.bool b) := fun ac w hK hS => by
  subst hb
  simp only [execOp, hK.eval hx, hK.eval hy, Sem.run_bind, run_guardPtr, Result.andThen_ok, Go.run_eql_pointer_nil w t a (pointee_eq (e := e)), Sem.run_pure]
theorem r_ptrNilN {t t' e : TypeId} {x y : Operand} {a : Option Addr} (b : Bool) [Und P t (.pointer e)] (hx : ev m x = some (.pointer a)) (hy : ev m y = some (.pointer none)) (hb : (!a.isNone) = b) :
    RunV P τ N m L ⟨d, .binOp .neq t x y t', ty, pos, af, g⟩ (.bool b) := fun ac w hK hS => by
  subst hb
  simp only [execOp, hK.eval hx, hK.eval hy, Sem.run_bind, run_guardPtr, Result.andThen_ok, Go.run_neq_pointer_nil w t a (pointee_eq (e := e)), Sem.run_pure]
end
/-- A test that was left out: what hangs on it is left out too. -/
theorem Ls.guard_u {D : List (Option Tmp)} {r : List Oper} {d : Nat} {op : Op} {ty : TypeId} {pos : String} {af : Array Edge} {j t : Nat} {want : Bool} (hj : D[j]? = some (some t)) (ht : lk m t = some undef)
    (hd : Nat.blt d N = true) (h : G τ N (wpL P Q D r) ((d, undef) :: m) L) : G τ N (wpL P Q D (⟨some d, op, ty, pos, af, some (j, want)⟩ :: r)) m L := fun a w hK hS => by
  have e : yieldD D a j = none := by simp [yieldD, hj, hK.slot t _ ht, undef]
  simp only [wpL, e, reduceCtorEq, if_false]; exact h _ w (hK.put hd _) hS
/-! an element of several cells of an array, written at an open place -/
theorem setR_mid : ∀ (Y A X B : List Value), X.length = Y.length → setR (A ++ X ++ B) A.length Y = A ++ Y ++ B
  | [], A, X, B, h => by have : X = [] := List.eq_nil_of_length_eq_zero h; subst this; rfl
  | y :: Y, A, x :: X, B, h => by
    simp only [setR]
    have e : (A ++ x :: X ++ B).set A.length y = (A ++ [y]) ++ X ++ B := by
      rw [List.append_assoc, List.set_append_right _ _ (Nat.le_refl _)]; simp
    rw [e, show A.length + 1 = (A ++ [y]).length by simp, setR_mid Y (A ++ [y]) X B (by simpa using h)]; simp
theorem setR_rows {α : Type} (f : α → List Value) (sz : Nat) (hf : ∀ e, (f e).length = sz) (pre post : List Value) (v : α) : ∀ (es : List α) (i : Nat), i < es.length →
    setR (pre ++ es.flatMap f ++ post) (pre.length + i * sz) (f v) = pre ++ (es.set i v).flatMap f ++ post := by
  intro es
  induction es generalizing pre with
  | nil => intro i h; simp at h
  | cons e es ih =>
    intro i h
    cases i with
    | zero =>
      have := setR_mid (f v) pre (f e) (es.flatMap f ++ post) (by rw [hf, hf])
      simpa [List.append_assoc] using this
    | succ i =>
      have := ih (pre ++ f e) i (by simpa using h)
      rw [show pre.length + (i + 1) * sz = (pre ++ f e).length + i * sz by simp [hf, Nat.add_mul]; omega]
      simpa [List.append_assoc] using this
theorem o_storeAN {α : Type} (f : α → List Value) (sz : Nat) (pre post : List Value) (es : List α) (v : α) {ty : TypeId} {pos : String} {af : Array Edge} {g : Option (Nat × Bool)} {t : TypeId} {by_ : Nat} {z : Value} {x y : Operand} {b : Nat} {i : Int} {u : Value} {cs cs' : List Value} {tb : TypeId} {L' : List Itm} [Inf P t sz by_ z]
    (hx : ev m x = some (.pointer (some ⟨b, pre.length + i.toNat * sz, none⟩))) (hy : ev m y = some u) (hu : cellsOf u = f v) (h1' : ones (f v) = true) (hf : ∀ e, (f e).length = sz) [s : UpdC L b cs tb cs' L'] (hc : cs = pre ++ es.flatMap f ++ post) (h0 : 0 ≤ i) (h1 : i < es.length)
    (hc' : cs' = pre ++ (ups i v 0 es).flatMap f ++ post) (n : G τ N κ m L') : G τ N (opK P ⟨none, .store t x y, ty, pos, af, g⟩ κ Q) m L :=
  .step_skip rfl (fun a w hK hS => by
    have hvc : u.cells.toList = f v := by rw [cells_toList, hu]
    have hsz : u.cells.size = sz := by rw [← Array.length_toList, hvc, hf]
    obtain ⟨F, h, a1, a2, a3, K, a4⟩ := hS
    obtain ⟨L0, K0, B⟩ := s.out K
    have hset : setR cs (pre.length + i.toNat * sz) (f v) = cs' := by
      have e0 := set_ups (es := es) (v := v) (i := i) (j := 0) h0
      simp only [Int.sub_zero] at e0
      rw [hc', hc, ← e0, setR_rows f sz hf pre post v es i.toNat (by omega)]
    have hlen : (es.flatMap f).length = es.length * sz := by
      clear hc h1 hc' hset
      induction es with
      | nil => simp
      | cons e es ih => simp [hf, ih, Nat.add_mul]; omega
    obtain ⟨w', e, F', h', b1, b2, b3, K', b4⟩ := St.storeCells (P := P) (cs := cs) (vs := f v) b (pre.length + i.toNat * sz) tb h1' (by
      rw [hc, hf]; simp only [List.length_append, hlen]
      have : (i.toNat + 1) * sz ≤ es.length * sz := Nat.mul_le_mul_right _ (by omega)
      rw [Nat.add_mul, Nat.one_mul] at this; omega) ⟨F, h, a1, a2, a3, K0, a4⟩ 0 (pre.length + i.toNat * sz) rfl
    rw [hset] at K'
    refine ⟨w', ?_, F', h', b1, b2, b3, B K', b4⟩
    simp only [execOp, hK.eval hx, hK.eval hy, Instr.storeAt, Instr.sureAddr, storeVar, Sem.run_bind, run_sizeOf, Result.andThen_ok, Sem.run_pure, hsz, ne_eq, not_true, if_false, hvc, e]) n
/-! an element of an array that is a value -/
theorem rows_get {α : Type} (f : α → List Value) (sz : Nat) (hf : ∀ e, (f e).length = sz) : ∀ (es : List α) (i : Nat) (y : α), es[i]? = some y → ∀ j, j < sz → (es.flatMap f)[i * sz + j]? = (f y)[j]?
  | [], i, y, h, _, _ => by simp at h
  | e :: es, 0, y, h, j, hj => by
    simp at h; subst h
    simp only [List.flatMap_cons, Nat.zero_mul, Nat.zero_add]
    rw [List.getElem?_append_left (by rw [hf]; exact hj)]
  | e :: es, i + 1, y, h, j, hj => by
    simp only [List.flatMap_cons]
    rw [List.getElem?_append_right (by rw [hf, Nat.add_mul, Nat.one_mul]; omega), hf, show (i + 1) * sz + j - sz = i * sz + j by rw [Nat.add_mul, Nat.one_mul]; omega]
    exact rows_get f sz hf es i y (by simpa using h) j hj
theorem r_aidx {α : Type} (f : α → List Value) (sz : Nat) (es : List α) (r : Value) {d : Nat} {ty : TypeId} {pos : String} {af : Array Edge} {g : Option (Nat × Bool)} {t e : TypeId} {ue : TypeDesc} {len by_ : Nat} {z : Value} {x ix : Operand} {cs : List Value} {kk : IntKind} {i : Int} {y : α}
    [Und P t (.array len e)] [Und P e ue] [Inf P e sz by_ z] (hx : ev m x = some (.agg cs.toArray)) (hi : ev m ix = some (.int kk i)) (hf : ∀ e, (f e).length = sz) (hc : cs = es.flatMap f) (hl : Nat.beq es.length len = true) (h0 : 0 ≤ i) (hy : es[i.toNat]? = some y)
    (hr : (if TypeDesc.agg ue then some (.agg (f y).toArray) else (f y)[0]?) = some r) (hs : TypeDesc.agg ue = true ∨ sz = 1) : RunV P τ N m L ⟨some d, .index t x ix, ty, pos, af, g⟩ r := fun a w hK hS => by
  have hlt : i.toNat < es.length := by
    rcases Nat.lt_or_ge i.toNat es.length with h | h
    · exact h
    · rw [List.getElem?_eq_none h] at hy; cases hy
  have hlen : i < (len : Int) := by have := Nat.eq_of_beq_eq_true hl; omega
  have hg := rows_get f sz hf es i.toNat y hy
  have hp : (part e cs.toArray (i.toNat * sz)).run P w = .ok r w := by
    unfold part
    by_cases ha : TypeDesc.agg ue = true
    · simp only [ha, if_true, Option.some.injEq] at hr
      simp only [Sem.run_bind, run_isAgg, Result.andThen_ok, ha, if_true, run_sizeOf, Sem.run_pure, ← hr]
      congr 2
      apply Array.ext'
      apply List.ext_getElem?
      intro j
      simp only [Array.toList_extract, List.extract_eq_take_drop, List.getElem?_take, List.getElem?_drop]
      by_cases hj : j < sz
      · rw [if_pos (by omega), hc, hg j hj]
      · rw [if_neg (by omega), List.getElem?_eq_none (by rw [hf]; omega)]
    · have h1 := hs.resolve_left ha
      simp only [ha, if_false, Bool.false_eq_true] at hr
      have := hg 0 (by omega)
      rw [← hc, Nat.add_zero, hr] at this
      have e2 : cs.toArray[i.toNat * sz]? = some r := by simpa using this
      simp only [Sem.run_bind, run_isAgg, Result.andThen_ok, ha, if_false, Bool.false_eq_true, e2, Sem.run_pure]
  simp [execOp, hK.eval hx, hK.eval hi, Instr.index, asIntOf, run_underlying, run_sizeOf, h0, hlen, hp]
/-! the smaller, the greater -/
def imin (a b : Int) : Int := if b < a then b else a
def imax (a b : Int) : Int := if b > a then b else a
theorem r_min {d : Nat} {ty : TypeId} {pos : String} {af : Array Edge} {g : Option (Nat × Bool)} {x y : Operand} {k l : IntKind} {a b : Int} {ats : Array TypeId} (hx : ev m x = some (.int k a)) (hy : ev m y = some (.int l b)) :
    RunV P τ N m L ⟨some d, .call ⟨.builtin .min, [x, y].toArray, ats⟩, ty, pos, af, g⟩ (.int k (imin a b)) := fun ac w hK hS => by
  obtain ⟨cs, e1⟩ := run_builtin (P := P) (b := .min) (ats := ats) (d := some d) (ty := ty) (pos := pos) (af := af) (g := g) (args := [x, y]) (vs := [_, _]) (by simp [evs, hx, hy]; exact ⟨rfl, rfl⟩) hK w
  rw [e1]; simp [builtin, Builtin.min_, Builtin.min2, imin]
theorem r_max {d : Nat} {ty : TypeId} {pos : String} {af : Array Edge} {g : Option (Nat × Bool)} {x y : Operand} {k l : IntKind} {a b : Int} {ats : Array TypeId} (hx : ev m x = some (.int k a)) (hy : ev m y = some (.int l b)) :
    RunV P τ N m L ⟨some d, .call ⟨.builtin .max, [x, y].toArray, ats⟩, ty, pos, af, g⟩ (.int k (imax a b)) := fun ac w hK hS => by
  obtain ⟨cs, e1⟩ := run_builtin (P := P) (b := .max) (ats := ats) (d := some d) (ty := ty) (pos := pos) (af := af) (g := g) (args := [x, y]) (vs := [_, _]) (by simp [evs, hx, hy]; exact ⟨rfl, rfl⟩) hK w
  rw [e1]; simp [builtin, Builtin.max_, Builtin.max2, imax]
end Go.Proofs.YtbkojmcppeflbaaDoor
