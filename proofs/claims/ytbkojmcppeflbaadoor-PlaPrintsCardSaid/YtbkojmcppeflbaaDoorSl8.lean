/- The symbolic layer: literals of structs and arrays, made slices, arrays at an open place, equality. -/
import Derived.Test.YtbkojmcppeflbaaDoorSl7
import Derived.Laws.StructEq
namespace Go.Proofs.YtbkojmcppeflbaaDoor
open Go
set_option linter.unusedVariables false
set_option linter.unusedSimpArgs false
set_option linter.unusedSectionVars false
set_option linter.unnecessarySimpa false
variable {P : Program} {τ : Meta} {N : Nat} {Q : Exit → Act → World → Prop} {m : List (Nat × Value)} {L : List Itm} {κ : Act → World → Prop}

/-! ## Literals -/
def evp (m : List (Nat × Value)) : List (Nat × Operand) → Option (List (Nat × Value))
  | [] => some []
  | (i, x) :: xs => match ev m x, evp m xs with
    | some v, some vs => some ((i, v) :: vs)
    | _, _ => none
theorem K.evps {a : Act} (h : K N m a) : ∀ {xs : List (Nat × Operand)} {vs : List (Nat × Value)}, evp m xs = some vs → xs.map (fun p => (p.1, a.eval p.2)) = vs
  | [], vs, e => by simp [evp] at e; simp [e]
  | (i, x) :: xs, vs, e => by
    simp only [evp] at e
    split at e
    · rename_i v vs' h1 h2
      cases e
      simp [h.eval h1, h.evps h2]
    · cases e
/-- Where the fields of a struct type (the elements of an array type) lie: place and size. -/
class Plc (P : Program) (t : TypeId) (pl : outParam (Nat → Option (Nat × Nat))) : Prop where
  out : (∃ fs ps, P.underlying t = some (.struct fs) ∧ (∀ w : World, (fs.mapM fun f => (do pure (f.offset, ← sizeOf f.type) : Sem (Nat × Nat))).run P w = .ok ps w) ∧ pl = fun i => ps[i]?) ∨
    (∃ n e sz by_ z, P.underlying t = some (.array n e) ∧ Inf P e sz by_ z ∧ pl = fun i => some (i * sz, sz))
/-- fill, on lists of cells. -/
def fillL (place : Nat → Option (Nat × Nat)) : List Value → List (Nat × List Value) → Option (List Value)
  | cells, [] => some cells
  | cells, (i, c) :: rest => match place i with
    | none => none
    | some (off, size) => if c.length ≠ size ∨ off + c.length > cells.length then none else fillL place (setR cells off c) rest
theorem foldl_setR : ∀ (c : List Value) (cells : List Value) (off k : Nat), (c.zipIdx k).foldl (fun (cs : Array Value) (p : Value × Nat) => cs.setIfInBounds (off + p.2) p.1) cells.toArray = (setR cells (off + k) c).toArray
  | [], _, _, _ => rfl
  | x :: c, cells, off, k => by
    simp only [List.zipIdx_cons, List.foldl_cons, setR]
    rw [show (cells.toArray.setIfInBounds (off + k) x) = (cells.set (off + k) x).toArray by simp, foldl_setR c _ off (k + 1)]
    rfl
/-- The cells of the parts of a literal. -/
class CVP (L : List Itm) (vs : List (Nat × Value)) (cs : outParam (List (Nat × List Value))) : Prop where
  out : ∀ {τ : Meta} {w : World}, St τ L w → vs.map (fun p => (p.1, cellsOf p.2)) = cs
instance {L : List Itm} : CVP L [] [] := ⟨fun _ => rfl⟩
instance {L : List Itm} {i : Nat} {v : Value} {vs : List (Nat × Value)} {c : List Value} {cs : List (Nat × List Value)} [a : CV L v c] [b : CVP L vs cs] : CVP L ((i, v) :: vs) ((i, c) :: cs) :=
  ⟨fun H => by simp only [List.map_cons, (a.out H).1, b.out H]⟩
theorem fill_eq (place : Nat → Option (Nat × Nat)) : ∀ (vs : List (Nat × Value)) (cells : List Value), Instr.fill place cells.toArray vs = (fillL place cells (vs.map fun p => (p.1, cellsOf p.2))).map List.toArray
  | [], cells => rfl
  | (i, v) :: vs, cells => by
    simp only [Instr.fill, List.map_cons, fillL]
    cases place i with
    | none => rfl
    | some q =>
      obtain ⟨off, size⟩ := q
      have e1 : v.cells.size = (cellsOf v).length := by rw [← cells_toList]; simp
      simp only [e1, List.size_toArray, bne_iff_ne, Bool.or_eq_true, decide_eq_true_eq]
      by_cases hc : (cellsOf v).length ≠ size ∨ off + (cellsOf v).length > cells.length
      · rw [if_pos hc, if_pos (by simpa using hc)]; rfl
      · rw [if_neg hc, if_neg (by simpa using hc), ← fill_eq place vs]
        congr 1
        have e2 : v.cells = (cellsOf v).toArray := by rw [← cells_toList]
        rw [e2, ← Array.foldl_toList]
        have := foldl_setR (cellsOf v) cells off 0
        simpa using this
theorem r_build {d : Option Tmp} {ty : TypeId} {pos : String} {af : Array Edge} {g : Option (Nat × Bool)} {t : TypeId} {parts : List (Nat × Operand)} {vs : List (Nat × Value)} {cc : List (Nat × List Value)} {sz by_ : Nat} {z : Value} {pl : Nat → Option (Nat × Nat)} [Inf P t sz by_ z] [q : Plc P t pl]
    (cs : List Value) (hp : evp m parts = some vs) [cv : CVP L vs cc] (hf : fillL pl (cellsOf z) cc = some cs) : RunV P τ N m L ⟨d, .build t parts.toArray, ty, pos, af, g⟩ (.agg cs.toArray) := fun a w hK hS => by
  have hps : (parts.toArray.map fun (i, x) => (i, a.eval x)).toList = vs := by
    rw [← hK.evps hp]; simp
  have hff : Instr.fill pl z.cells vs = some cs.toArray := by
    have e2 : z.cells = (cellsOf z).toArray := by rw [← cells_toList]
    rw [e2, fill_eq, cv.out hS, hf]; rfl
  rcases q.out with ⟨fs, ps, h1, h2, rfl⟩ | ⟨n, e, sz', by', z', h1, h2, rfl⟩
  · have u : Und P t (.struct fs) := ⟨h1⟩
    simp only [execOp, Instr.build, Sem.run_bind, run_zero, Result.andThen_ok, run_underlying, hps, h2, hff, Sem.run_pure]
  · have u : Und P t (.array n e) := ⟨h1⟩
    simp only [execOp, Instr.build, Sem.run_bind, run_zero, Result.andThen_ok, run_underlying, hps, run_sizeOf, hff, Sem.run_pure]
/-- These cells are the data x. -/
class RepC {α : Type} (L : List Itm) (c : List Value) (k : Kd α) (x : outParam α) : Prop where
  out : ∀ {F h : PH}, SepL F L h → k.rep F x c
instance {L : List Itm} {k : IntKind} {n : Int} : RepC L [.int k n] (kI k) n := ⟨fun _ => rfl⟩
instance {L : List Itm} {b : Bool} : RepC L [.bool b] kB b := ⟨fun _ => rfl⟩
instance {L : List Itm} {s : ByteArray} : RepC L [.string s] kS s := ⟨fun _ => rfl⟩
instance {α : Type} {L : List Itm} {v : Value} {k : Kd α} {xs : List α} [f : FrzIn L v k xs] : RepC L [v] (kL k) xs := ⟨fun H => ⟨v, rfl, f.out H⟩⟩
instance (priority := 10) {α : Type} {L : List Itm} {k : Kd α} : RepC L [.slice none 0 0] (kL k) [] := ⟨fun _ => ⟨_, rfl, none, 0, rfl, Nat.le_refl _, .inl rfl⟩⟩
instance {α β : Type} {L : List Itm} {v : Value} {c : List Value} {k : Kd α} {l : Kd β} {x : α} {y : β} [p : RepC L [v] k x] [q : RepC L c l y] : RepC L (v :: c) (kP k l) (x, y) :=
  ⟨fun H => ⟨[v], c, rfl, p.out H, q.out H⟩⟩
/-- These cells are the rows xs, one behind the other. -/
inductive RowsL {α : Type} (L : List Itm) (k : Kd α) : List α → List Value → Prop
  | nil : RowsL L k [] []
  | cons {x : α} {xs : List α} {c cs cs' : List Value} (h : RepC L c k x) (n : RowsL L k xs cs) (e : c ++ cs = cs') : RowsL L k (x :: xs) cs'
theorem RowsL.rows {α : Type} {k : Kd α} {F h : PH} (H : SepL F L h) {xs : List α} {cs : List Value} (r : RowsL L k xs cs) : cs.length = xs.length * k.sz ∧ ∀ i x, xs[i]? = some x → ∃ c, k.rep F x c ∧ ∀ j v, c[j]? = some v → cs[i * k.sz + j]? = some v := by
  induction r with
  | nil => exact ⟨by simp, fun i x hx => by simp at hx⟩
  | @cons x xs c cs cs' hc n e ih =>
    subst e
    have hl := k.len (hc.out H)
    refine ⟨by rw [List.length_append, hl, ih.1, List.length_cons, Nat.add_mul]; omega, fun i y hy => ?_⟩
    cases i with
    | zero =>
      have e0 : x = y := by simpa using hy
      subst e0
      refine ⟨c, hc.out H, fun j v hj => ?_⟩
      have hlt : j < c.length := by
        rcases Nat.lt_or_ge j c.length with h | h
        · exact h
        · rw [List.getElem?_eq_none h] at hj; cases hj
      rw [Nat.zero_mul, Nat.zero_add, List.getElem?_append_left hlt]; exact hj
    | succ i =>
      obtain ⟨c', a, b⟩ := ih.2 i y (by simpa using hy)
      refine ⟨c', a, fun j v hj => ?_⟩
      rw [List.getElem?_append_right (by rw [hl, Nat.add_mul]; omega), ← b j v hj]
      congr 1
      rw [hl, Nat.add_mul]; omega
section ops
variable {d : Nat} {ty : TypeId} {pos : String} {af : Array Edge} {g : Option (Nat × Bool)}
theorem St.newOwn {α : Type} {k : Kd α} {xs : List α} {cs : List Value} {e : TypeId} {w w' : World} (H : St τ L w) (hw : w'.heap = w.heap.push (.cells cs.toArray e)) (hm : metaOf w' = metaOf w)
    (hr : ∀ F h : PH, SepL F L h → cs.length = xs.length * k.sz ∧ ∀ i x, xs[i]? = some x → ∃ c, k.rep F x c ∧ ∀ j v, c[j]? = some v → cs[i * k.sz + j]? = some v) : St τ (Own k (.slice (some ⟨w.heap.size, 0, none⟩) xs.length xs.length) xs e :: L) w' := by
  obtain ⟨F, h, lF, lh, dF, K, hmm⟩ := H
  have lH : ∀ g : PH, PH.le g (hp w) → PH.le g (hp w') := fun g lg x y hx => by
    have := lg _ _ hx
    simp only [hp, hw] at this ⊢
    have hlt : x < w.heap.size := by
      rcases Nat.lt_or_ge x w.heap.size with h | h
      · exact h
      · simp [Array.getElem?_eq_none h] at this
    rw [Array.getElem?_push, if_neg (by omega)]; exact this
  have dN : ∀ g : PH, PH.le g (hp w) → ∀ o, PH.dj g (PH.one w.heap.size o) := fun g lg o => PH.dj_one.2 (by
    cases hg : g w.heap.size with
    | none => rfl
    | some x => have := lg _ _ hg; simp [hp] at this)
  obtain ⟨r1, r2⟩ := hr F h K
  refine ⟨F, PH.un (PH.one w.heap.size (.cells cs.toArray e)) h, lH F lF, PH.un_le ?_ (lH h lh), PH.dj_un'.2 ⟨dN F lF _, dF⟩,
    ⟨_, h, .inr ⟨w.heap.size, xs.length, _, rfl, Nat.le_refl _, by simpa using r1, rfl, ?_⟩, K, PH.dj_symm (dN h lh _), rfl⟩, hm.trans hmm⟩
  · intro x o hx
    by_cases hxb : x = w.heap.size
    · subst hxb; rw [PH.one_at] at hx; cases hx; simp [hp, hw]
    · simp [PH.one, hxb] at hx
  · intro i x hx
    obtain ⟨c, a, b⟩ := r2 i x hx
    exact ⟨c, a, fun j v hj => by simpa using b j v hj⟩
/-- A literal of a slice. -/
theorem o_lit {α : Type} (k : Kd α) (xs : List α) (cs : List Value) {t e n : TypeId} {by_ : Nat} {z : Value} {parts : List (Nat × Operand)} {vs : List (Nat × Value)} [Und P t (.slice e)] [Inf P e k.sz by_ z]
    (hp : evp m parts = some vs) (hn : Nat.beq xs.length n = true) (hs : Nat.ble (n * k.sz) 16777216 = true) (hz : Nat.blt 0 (n * k.sz) = true) {cc : List (Nat × List Value)} [cv : CVP L vs cc] (hf : fillL (fun i => some (i * k.sz, k.sz)) ((List.range (n * k.sz)).map ((cellsOf z).toArray[· % (cellsOf z).toArray.size]!)) cc = some cs) (hr : RowsL L k xs cs) (hd : Nat.blt d N = true)
    (nx : ∀ v, G τ N κ ((d, v) :: m) (Own k v xs e :: L)) : G τ N (opK P ⟨some d, .buildSlice t n parts.toArray, ty, pos, af, g⟩ κ Q) m L := by
  refine G.step_new (v := fun v => v) (L' := fun v => Own k v xs e :: L) rfl hd (fun a w hK hS => ?_) nx
  have hps : (parts.toArray.map fun (i, x) => (i, a.eval x)).toList = vs := by rw [← hK.evps hp]; simp
  have hn' : xs.length = n := Nat.eq_of_beq_eq_true hn
  have hs' : ¬ n * k.sz > 2 ^ 24 := Nat.not_lt.2 (Nat.le_trans (Nat.le_of_ble_eq_true hs) (by decide))
  have hz' : ¬ n * k.sz = 0 := fun e => by have := Nat.le_of_ble_eq_true (show Nat.ble 1 (n * k.sz) = true from hz); rw [e] at this; cases this
  have hff : Instr.fill (fun i => some (i * k.sz, k.sz)) ((Array.range (n * k.sz)).map (z.cells[· % z.cells.size]!)) vs = some cs.toArray := by
    have e2 : z.cells = (cellsOf z).toArray := by rw [← cells_toList]
    have e3 : ((Array.range (n * k.sz)).map (z.cells[· % z.cells.size]!)) = ((List.range (n * k.sz)).map ((cellsOf z).toArray[· % (cellsOf z).toArray.size]!)).toArray := by rw [e2]; apply Array.ext'; simp
    rw [e3, fill_eq, cv.out hS, hf]; rfl
  refine ⟨.slice (some ⟨w.heap.size, 0, none⟩) n n, { w with heap := w.heap.push (.cells cs.toArray e) }, ?_, ?_⟩
  · simp only [execOp, Instr.buildSlice, Sem.run_bind, run_underlying, Result.andThen_ok, run_sizeOf, hs', if_false, Sem.run_pure, hz', run_zero, hps, hff, newRow, run_newObj]
  · have := hS.newOwn (k := k) (xs := xs) (e := e) (w' := { w with heap := w.heap.push (.cells cs.toArray e) }) rfl rfl (fun F h K => hr.rows K)
    rw [hn'] at this; exact this
theorem o_lit0 {α : Type} (k : Kd α) {t e : TypeId} {by_ : Nat} {z : Value} [Und P t (.slice e)] [Inf P e k.sz by_ z] (hd : Nat.blt d N = true)
    (nx : ∀ v, G τ N κ ((d, v) :: m) (Own k v [] e :: L)) : G τ N (opK P ⟨some d, .buildSlice t 0 #[], ty, pos, af, g⟩ κ Q) m L := by
  refine G.step_new (v := fun v => v) (L' := fun v => Own k v [] e :: L) rfl hd (fun a w hK hS => ?_) nx
  refine ⟨.slice (some ⟨w.heap.size, 0, none⟩) 0 0, { w with heap := w.heap.push (.cells #[] e) }, ?_, ?_⟩
  · simp [execOp, Instr.buildSlice, run_underlying, run_sizeOf, Instr.fill, newRow]
    congr 2; apply Array.ext'; simp
  · exact hS.newOwn (k := k) (xs := []) (cs := []) (e := e) (w' := { w with heap := w.heap.push (.cells #[] e) }) rfl rfl (fun F h K => ⟨by simp, fun i x hx => by simp at hx⟩)
end ops
/-! ## An array at an open place -/
def up {α : Type} (i j : Int) (old new : α) : α := if i = j then new else old
def ups {α : Type} (i : Int) (v : α) : Int → List α → List α
  | _, [] => []
  | j, e :: es => up i j e v :: ups i v (j + 1) es
theorem set_ups {α : Type} {v : α} : ∀ {es : List α} {i j : Int}, j ≤ i → es.set (i - j).toNat v = ups i v j es
  | [], _, _, _ => rfl
  | e :: es, i, j, h => by
    by_cases hij : i = j
    · subst hij
      have tl : ∀ (es : List α) (q : Int), i < q → ups i v q es = es := by
        intro es
        induction es with
        | nil => intro q _; rfl
        | cons e es ih => intro q hq; simp only [ups, up]; rw [if_neg (by omega), ih _ (by omega)]
      simp only [Int.sub_self, Int.toNat_zero, List.set_cons_zero, ups, up, if_true]
      rw [tl es _ (by omega)]
    · obtain ⟨q, hq⟩ : ∃ q : Nat, (i - j).toNat = q + 1 := ⟨(i - j).toNat - 1, by omega⟩
      rw [hq, List.set_cons_succ, ups, up, if_neg hij, ← set_ups (es := es) (i := i) (j := j + 1) (by omega)]
      congr 2; omega

section ops
variable {d : Nat} {ty : TypeId} {pos : String} {af : Array Edge} {g : Option (Nat × Bool)}
/-- An element of an array of the call's own, at an open place; of one cell. -/
theorem r_loadA {α : Type} (f : α → Value) (pre post : List Value) (es : List α) {t : TypeId} {u : TypeDesc} {x : Operand} {b : Nat} {i : Int} {y : α} {cs : List Value} {tb : TypeId} {L' : List Itm} [Und P t u] [q : SelC L b cs tb L']
    (hx : ev m x = some (.pointer (some ⟨b, pre.length + i.toNat * 1, none⟩))) (hc : cs = pre ++ es.map f ++ post) (hy : es[i.toNat]? = some y) (hu : TypeDesc.agg u = false) :
    RunV P τ N m L ⟨some d, .load t x, ty, pos, af, g⟩ (f y) := fun a w hK hS => by
  have hlt : i.toNat < es.length := by
    rcases Nat.lt_or_ge i.toNat es.length with h | h
    · exact h
    · rw [List.getElem?_eq_none h] at hy; cases hy
  have : w.cell? ⟨b, pre.length + i.toNat * 1, none⟩ = some (f y) := by
    rw [hp_cells hS.cell_own, List.getElem?_toArray, hc, Nat.mul_one, List.append_assoc, List.getElem?_append_right (by omega), List.getElem?_append_left (by simp; omega)]
    simp [hy]
  simp only [Nat.mul_one] at this
  simp [execOp, hK.eval hx, Instr.loadAt, Instr.sureAddr, loadVar, run_isAgg, hu, this]
/-- The same, of several cells. -/
theorem r_loadAN {α : Type} (k : α → List Value) (n : Nat) (pre post : List Value) (es : List α) {t : TypeId} {u : TypeDesc} {by_ : Nat} {z : Value} {x : Operand} {b : Nat} {i : Int} {y : α} {cs : List Value} {tb : TypeId} {L' : List Itm} [Und P t u] [Inf P t n by_ z] [q : SelC L b cs tb L']
    (hx : ev m x = some (.pointer (some ⟨b, pre.length + i.toNat * n, none⟩))) (hk : ∀ e, (k e).length = n) (hc : cs = pre ++ es.flatMap k ++ post) (hy : es[i.toNat]? = some y) (hu : TypeDesc.agg u = true) :
    RunV P τ N m L ⟨some d, .load t x, ty, pos, af, g⟩ (.agg (k y).toArray) := fun a w hK hS => by
  have key : ∀ (es : List α) (i : Nat), es[i]? = some y → ∀ j v, (k y)[j]? = some v → (es.flatMap k)[i * n + j]? = some v := by
    intro es
    induction es with
    | nil => intro i h; simp at h
    | cons e es ih =>
      intro i h j v hj
      cases i with
      | zero =>
        have : e = y := by simpa using h
        subst this
        have hl : j < (k e).length := by
          rcases Nat.lt_or_ge j (k e).length with h | h
          · exact h
          · rw [List.getElem?_eq_none h] at hj; cases hj
        rw [List.flatMap_cons, Nat.zero_mul, Nat.zero_add, List.getElem?_append_left hl]; exact hj
      | succ i =>
        rw [List.flatMap_cons, List.getElem?_append_right (by rw [hk, Nat.add_mul]; omega), ← ih i (by simpa using h) j v hj]
        congr 1; rw [hk, Nat.add_mul]; omega
  have hcell : ∀ j v, (k y)[j]? = some v → w.cell? ((⟨b, pre.length + i.toNat * n, none⟩ : Addr).add j) = some v := by
    intro j v hj
    have h1 := key es i.toNat hy j v hj
    have hl : i.toNat * n + j < (es.flatMap k).length := by
      rcases Nat.lt_or_ge (i.toNat * n + j) (es.flatMap k).length with h | h
      · exact h
      · rw [List.getElem?_eq_none h] at h1; cases h1
    rw [add_plain, hp_cells hS.cell_own, List.getElem?_toArray, hc, List.append_assoc, List.getElem?_append_right (by omega), List.getElem?_append_left (by omega), ← h1]
    congr 1; omega
  have := run_loadCells (P := P) (hk y) hcell
  simp [execOp, hK.eval hx, Instr.loadAt, Instr.sureAddr, loadVar, run_isAgg, hu, run_sizeOf, this]
theorem o_storeA {α : Type} (f : α → Value) (pre post : List Value) (es : List α) {t : TypeId} {by_ : Nat} {z : Value} {x y : Operand} {b : Nat} {i : Int} {v : α} {cs cs' : List Value} {tb : TypeId} {L' : List Itm} [Inf P t 1 by_ z]
    (hx : ev m x = some (.pointer (some ⟨b, pre.length + i.toNat * 1, none⟩))) (hy : ev m y = some (f v)) (hf : ∀ e, (f e).oneCell' = true) [s : UpdC L b cs tb cs' L'] (hc : cs = pre ++ es.map f ++ post) (h0 : 0 ≤ i) (h1 : i < es.length)
    (hc' : cs' = pre ++ (ups i v 0 es).map f ++ post) (n : G τ N κ m L') : G τ N (opK P ⟨none, .store t x y, ty, pos, af, g⟩ κ Q) m L :=
  .step_skip rfl (fun a w hK hS => by
    have hv : cellsOf (f v) = [f v] := by have := hf v; cases h : f v <;> first | rfl | (rw [h] at this; cases this)
    have hvc : (f v).cells.toList = [f v] := by rw [cells_toList, hv]
    have hsz : (f v).cells.size = 1 := by rw [← Array.length_toList, hvc]; rfl
    obtain ⟨F, h, a1, a2, a3, K, a4⟩ := hS
    obtain ⟨L0, K0, B⟩ := s.out K
    have hset : setR cs (pre.length + i.toNat * 1) [f v] = cs' := by
      simp only [setR, Nat.mul_one]
      have e0 := set_ups (es := es) (v := v) (i := i) (j := 0) h0
      simp only [Int.sub_zero] at e0
      rw [hc', hc, ← e0, List.append_assoc, List.append_assoc, List.set_append_right _ _ (by omega), show pre.length + i.toNat - pre.length = i.toNat by omega, List.set_append_left _ _ (by simp; omega), List.map_set]
    obtain ⟨w', e, F', h', b1, b2, b3, K', b4⟩ := St.storeCells (P := P) (cs := cs) (vs := [f v]) b (pre.length + i.toNat * 1) tb (by simp [ones, hf v]) (by simp [hc]; omega) ⟨F, h, a1, a2, a3, K0, a4⟩ 0 (pre.length + i.toNat * 1) rfl
    rw [hset] at K'
    refine ⟨w', ?_, F', h', b1, b2, b3, B K', b4⟩
    simp only [execOp, hK.eval hx, hK.eval hy, Instr.storeAt, Instr.sureAddr, storeVar, Sem.run_bind, run_sizeOf, Result.andThen_ok, Sem.run_pure, hsz, ne_eq, not_true, if_false, hvc, e]) n
end ops

/-! ## Equality -/
theorem run_part {P : Program} {t : TypeId} {u : TypeDesc} [h : Und P t u] (hu : TypeDesc.agg u = false) (cs : Array Value) (o : Nat) (v : Value) (hv : cs[o]? = some v) (w : World) : (part t cs o).run P w = .ok v w := by
  simp [part, run_isAgg, hu, hv]
theorem run_partN {P : Program} {t : TypeId} {u : TypeDesc} {sz by_ : Nat} {z : Value} [h : Und P t u] [Inf P t sz by_ z] (hu : TypeDesc.agg u = true) (cs : Array Value) (o : Nat) (w : World) : (part t cs o).run P w = .ok (.agg (cs.extract o (o + sz))) w := by
  simp [part, run_isAgg, hu, run_sizeOf]
theorem eqInt {P : Program} {t : TypeId} {k : IntKind} [h : Und P t (.int k)] (d : Nat) (a b : Int) (w : World) : (Op.equalIn (d + 1) t (.int k a) (.int k b)).run P w = .ok (a == b) w := Go.run_equalIn_int w d t k k a b h.out
theorem eqStr {P : Program} {t : TypeId} [h : Und P t .string] (d : Nat) (a b : ByteArray) (w : World) : (Op.equalIn (d + 1) t (.string a) (.string b)).run P w = .ok (a.toList == b.toList) w := Go.run_equalIn_string w d t a b h.out
theorem eqStruct {P : Program} {t : TypeId} {fs : Array Field} [h : Und P t (.struct fs)] (hp : P.stoodInHeld t = false) (d : Nat) (xs ys : Array Value) (w : World) :
    (Op.equalIn (d + 1) t (.agg xs) (.agg ys)).run P w = (Op.eqFields d xs ys fs.toList).run P w := by
  have e : P.fieldsOf t = fs := by simp [Program.fieldsOf, h.out]
  have := Go.run_equalIn_struct (P := P) w d t xs ys (by rw [e]; exact h.out) hp
  rw [e] at this; exact this
theorem eqBool {P : Program} {t : TypeId} [h : Und P t .bool] (d : Nat) (a b : Bool) (w : World) : (Op.equalIn (d + 1) t (.bool a) (.bool b)).run P w = .ok (a == b) w := by
  simp [Op.equalIn, run_underlying]
theorem r_eqAgg {d : Option Tmp} {ty : TypeId} {pos : String} {af : Array Edge} {g : Option (Nat × Bool)} {t t' : TypeId} {x y : Operand} {xs ys : Array Value} {b : Bool} (hx : ev m x = some (.agg xs)) (hy : ev m y = some (.agg ys))
    (hg : P.eqGuardType P.depth t = false) (he : ∀ w, (Op.equalIn 10000 t (.agg xs) (.agg ys)).run P w = .ok b w) : RunV P τ N m L ⟨d, .binOp .eql t x y t', ty, pos, af, g⟩ (.bool b) := fun a w hK hS => by
  simp only [execOp, hK.eval hx, hK.eval hy, Sem.run_bind, Go.run_eqGuard_agg w .eql t x y xs ys hg, Result.andThen_ok, Go.run_eql_struct w t xs ys, he, Sem.run_pure]
theorem r_neAgg {d : Option Tmp} {ty : TypeId} {pos : String} {af : Array Edge} {g : Option (Nat × Bool)} {t t' : TypeId} {x y : Operand} {xs ys : Array Value} {b : Bool} (hx : ev m x = some (.agg xs)) (hy : ev m y = some (.agg ys))
    (hg : P.eqGuardType P.depth t = false) (he : ∀ w, (Op.equalIn 10000 t (.agg xs) (.agg ys)).run P w = .ok b w) : RunV P τ N m L ⟨d, .binOp .neq t x y t', ty, pos, af, g⟩ (.bool (!b)) := fun a w hK hS => by
  simp only [execOp, hK.eval hx, hK.eval hy, Sem.run_bind, Go.run_eqGuard_agg w .neq t x y xs ys hg, Result.andThen_ok, Go.run_neq_struct w t xs ys, he, Sem.run_pure]
section
variable {d : Option Tmp} {ty : TypeId} {pos : String} {af : Array Edge} {g : Option (Nat × Bool)}
theorem r_cat {t t' : TypeId} {x y : Operand} {a b : ByteArray} (hx : ev m x = some (.string a)) (hy : ev m y = some (.string b)) (hb : a.size + b.size ≤ 1099511627776) :
    RunV P τ N m L ⟨d, .binOp .add t x y t', ty, pos, af, g⟩ (.string (a ++ b)) := fun ac w hK hS => by
  have : ¬ ((a.size + b.size : Nat) : Int) > IntKind.i64.max := by
    have e : IntKind.i64.max = 9223372036854775807 := by decide
    rw [e]; omega
  simp only [execOp, hK.eval hx, hK.eval hy, Sem.run_bind, run_guardS, Result.andThen_ok, binOp, Op.stringOp, this, if_false, Sem.run_pure]
theorem r_eqS {t t' : TypeId} {x y : Operand} {a b : ByteArray} (hx : ev m x = some (.string a)) (hy : ev m y = some (.string b)) :
    RunV P τ N m L ⟨d, .binOp .eql t x y t', ty, pos, af, g⟩ (.bool (a.toList == b.toList)) := fun ac w hK hS => by
  simp [execOp, hK.eval hx, hK.eval hy, run_guardS, binOp, Op.stringOp]
theorem r_eqSn {t t' : TypeId} {x y : Operand} {a b : ByteArray} (hx : ev m x = some (.string a)) (hy : ev m y = some (.string b)) :
    RunV P τ N m L ⟨d, .binOp .neq t x y t', ty, pos, af, g⟩ (.bool (!(a.toList == b.toList))) := fun ac w hK hS => by
  simp [execOp, hK.eval hx, hK.eval hy, run_guardS, binOp, Op.stringOp]
theorem r_eqB {t t' : TypeId} {x y : Operand} {a b : Bool} [Und P t .bool] (hx : ev m x = some (.bool a)) (hy : ev m y = some (.bool b)) :
    RunV P τ N m L ⟨d, .binOp .eql t x y t', ty, pos, af, g⟩ (.bool (a == b)) := fun ac w hK hS => by
  simp [execOp, hK.eval hx, hK.eval hy, run_guardB, binOp, Op.equal, Op.maxDepth, eqBool]
theorem r_eqBn {t t' : TypeId} {x y : Operand} {a b : Bool} [Und P t .bool] (hx : ev m x = some (.bool a)) (hy : ev m y = some (.bool b)) :
    RunV P τ N m L ⟨d, .binOp .neq t x y t', ty, pos, af, g⟩ (.bool (!(a == b))) := fun ac w hK hS => by
  simp [execOp, hK.eval hx, hK.eval hy, run_guardB, binOp, Op.equal, Op.maxDepth, eqBool]
/-- A byte of a text. -/
theorem r_byte {t : TypeId} {x ix : Operand} {s : ByteArray} {k : IntKind} {i : Int} {b : UInt8} [Und P t .string] (hx : ev m x = some (.string s)) (hi : ev m ix = some (.int k i)) (h0 : 0 ≤ i) (hb : s.data.toList[i.toNat]? = some b) :
    RunV P τ N m L ⟨d, .index t x ix, ty, pos, af, g⟩ (.int .u8 b.toNat) := fun ac w hK hS => by
  have e : s[i.toNat]? = some b := by
    have h1 : i.toNat < s.data.toList.length := by
      rcases Nat.lt_or_ge i.toNat s.data.toList.length with h | h
      · exact h
      · rw [List.getElem?_eq_none h] at hb; cases hb
    have h2 : i.toNat < s.size := by simpa using h1
    rw [getElem?_pos s i.toNat h2]
    rw [List.getElem?_eq_getElem h1] at hb
    exact hb
  simp [execOp, hK.eval hx, hK.eval hi, Instr.index, asIntOf, run_underlying, h0, e]
/-- s[lo:hi] of a text. -/
theorem r_cutS {t : TypeId} {x : Operand} {lo hi : Option Operand} {s : ByteArray} {l h : Nat} [Und P t .string]
    (hx : ev m x = some (.string s)) (hlo : match lo with | some q => ∃ kk i, ev m q = some (.int kk i) ∧ 0 ≤ i ∧ i.toNat = l | none => l = 0)
    (hhi : match hi with | some q => ∃ kk i, ev m q = some (.int kk i) ∧ 0 ≤ i ∧ i.toNat = h | none => h = s.size) (h1 : l ≤ h) (h2 : h ≤ s.size) :
    RunV P τ N m L ⟨d, .slice t x lo hi none, ty, pos, af, g⟩ (.string (s.extract l h)) := fun a w hK hS => by
  have el : (lo.map a.eval) = none ∧ l = 0 ∨ ∃ kk i, lo.map a.eval = some (.int kk i) ∧ 0 ≤ i ∧ i.toNat = l := by
    cases lo with
    | none => exact .inl ⟨rfl, hlo⟩
    | some q => obtain ⟨kk, i, e1, e2, e3⟩ := hlo; exact .inr ⟨kk, i, by simp [hK.eval e1], e2, e3⟩
  have eh : (hi.map a.eval) = none ∧ h = s.size ∨ ∃ kk i, hi.map a.eval = some (.int kk i) ∧ 0 ≤ i ∧ i.toNat = h := by
    cases hi with
    | none => exact .inl ⟨rfl, hhi⟩
    | some q => obtain ⟨kk, i, e1, e2, e3⟩ := hhi; exact .inr ⟨kk, i, by simp [hK.eval e1], e2, e3⟩
  have hb : (Instr.sliceBounds false s.size s.size (lo.map a.eval) (hi.map a.eval) none).run P w = .ok (l, h, s.size) w := by
    rcases el with ⟨e1, rfl⟩ | ⟨kk, i, e1, e2, e3⟩ <;> rcases eh with ⟨f1, rfl⟩ | ⟨kk', i', f1, f2, f3⟩
    · simp [Instr.sliceBounds, e1, f1]
    · have : i' ≤ (s.size : Int) := by omega
      simp [Instr.sliceBounds, e1, f1, Instr.sliceBound, asIntOf, f2, f3, this]
    · have : i ≤ (s.size : Int) := by omega
      simp [Instr.sliceBounds, e1, f1, Instr.sliceBound, asIntOf, e2, e3, this]
    · have q1 : i' ≤ (s.size : Int) := by omega
      have q3 : i ≤ (i'.toNat : Int) := by omega
      simp [Instr.sliceBounds, e1, f1, Instr.sliceBound, asIntOf, f2, f3, e2, e3, q1]
      try omega
  simp [execOp, hK.eval hx, Instr.sliceAt, Instr.slice, run_underlying, hb]
end
end Go.Proofs.YtbkojmcppeflbaaDoor
