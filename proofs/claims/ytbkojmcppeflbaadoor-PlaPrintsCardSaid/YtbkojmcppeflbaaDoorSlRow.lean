/- From the readings of arguments to the items of the symbolic layer, and back. -/
import Derived.Test.YtbkojmcppeflbaaDoorSl14
import Derived.Carry
import Derived.Lib.LaidTab
namespace Go.Proofs.YtbkojmcppeflbaaDoor
open Go Go.RowKit
set_option linter.unusedVariables false
set_option linter.unusedSimpArgs false
set_option linter.unusedSectionVars false
set_option linter.unnecessarySimpa false
variable {P : Program}
/-- What reads as a datum of type t lies as k says. -/
def OpenT {α : Type} (P : Program) (t : TypeId) (k : Kd α) (ok : α → Prop) : Prop :=
  P.cellsOf t = k.sz ∧ ∀ {H : Type} (enc : TypeId × Value → H) (w : World) (base : Nat) (spare : Nat → Bool) (held : Bool) (fuel : Nat) (cs : List Value) (d : DataW H) (ps : List MemPlace),
    DataW.trod enc P w base spare held fuel t cs = some (d, ps) → ∃ x, k.rep (hp w) x cs ∧ ok x
theorem OpenT.int {t : TypeId} {k : IntKind} (hu : P.underlying t = some (.int k)) (hc : P.cellsOf t = 1) : OpenT P t (kI k) (fun n => (Lit.int k n).wf = true) :=
  ⟨hc, fun enc w base spare held fuel cs d ps h => by
    cases fuel with
    | zero => cases h
    | succ f =>
      unfold DataW.trod at h
      rw [hu] at h
      rcases cs with _ | ⟨v, _ | ⟨u, r⟩⟩
      · simp at h
      · cases v <;> simp at h
        rename_i k' n
        obtain ⟨⟨rfl, hw⟩, _⟩ := h
        exact ⟨n, rfl, hw⟩
      · simp at h⟩
theorem OpenT.bool {t : TypeId} (hu : P.underlying t = some .bool) (hc : P.cellsOf t = 1) : OpenT P t kB (fun _ => True) :=
  ⟨hc, fun enc w base spare held fuel cs d ps h => by
    cases fuel with
    | zero => cases h
    | succ f =>
      unfold DataW.trod at h
      rw [hu] at h
      rcases cs with _ | ⟨v, _ | ⟨u, r⟩⟩
      · simp at h
      · cases v <;> simp at h
        rename_i b
        exact ⟨b, rfl, trivial⟩
      · simp at h⟩
theorem OpenT.str {t : TypeId} (hu : P.underlying t = some .string) (hc : P.cellsOf t = 1) : OpenT P t kS (fun s => s.size ≤ maxLen) :=
  ⟨hc, fun enc w base spare held fuel cs d ps h => by
    cases fuel with
    | zero => cases h
    | succ f =>
      unfold DataW.trod at h
      rw [hu] at h
      rcases cs with _ | ⟨v, _ | ⟨u, r⟩⟩
      · simp at h
      · cases v <;> simp at h
        rename_i s
        exact ⟨s, rfl, h.1⟩
      · simp at h⟩
theorem list_of {α : Type} {Q : Nat → α → Prop} : ∀ (n : Nat), (∀ i, i < n → ∃ x, Q i x) → ∃ xs : List α, xs.length = n ∧ ∀ i x, xs[i]? = some x → Q i x
  | 0, _ => ⟨[], rfl, fun i x h => by simp at h⟩
  | n + 1, H => by
    obtain ⟨xs, h1, h2⟩ := list_of n (fun i hi => H i (by omega))
    obtain ⟨x, hx⟩ := H n (by omega)
    refine ⟨xs ++ [x], by simp [h1], fun i y hy => ?_⟩
    rcases Nat.lt_trichotomy i n with h | h | h
    · rw [List.getElem?_append_left (by omega)] at hy; exact h2 i y hy
    · subst h
      rw [List.getElem?_append_right (by omega), h1, Nat.sub_self] at hy
      simp at hy; subst hy; exact hx
    · rw [List.getElem?_eq_none (by simp; omega)] at hy; cases hy
theorem mapM_all {β γ : Type} {f : β → Option γ} {l : List β} {r : List γ} (h : l.mapM f = some r) : ∀ (i : Nat) (a : β), l[i]? = some a → ∃ b, f a = some b := fun i a ha => by
  obtain ⟨b, _, hb⟩ := Go.Lib.mapM_at h i a ha
  exact ⟨b, hb⟩
theorem mapM_get {β γ : Type} {f : β → Option γ} {l : List β} {r : List γ} (h : l.mapM f = some r) : r.length = l.length := by
  induction l generalizing r with
  | nil => simp at h; subst h; rfl
  | cons x l ih =>
    simp only [List.mapM_cons, Option.bind_eq_bind, Option.bind_eq_some_iff, Option.pure_def, Option.some.injEq] at h
    obtain ⟨b, _, r', h2, rfl⟩ := h
    simp [ih h2]
theorem cells_at {w : World} {base n : Nat} {a : Addr} {cs : List Value} (h : w.cells? base a n = some cs) : cs.length = n ∧ ∀ (j : Nat) (v : Value), cs[j]? = some v → w.cell? (a.add j) = some v := by
  unfold World.cells? at h
  split at h
  · have hl := mapM_get h
    simp at hl
    refine ⟨hl, fun j v hj => ?_⟩
    have hlt : j < n := by
      rcases Nat.lt_or_ge j cs.length with h | h
      · omega
      · rw [List.getElem?_eq_none h] at hj; cases hj
    obtain ⟨b, hb, hc⟩ := Go.Lib.mapM_at h j j (by simp [hlt])
    rw [hj] at hb; cases hb; exact hc
  · cases h
theorem OpenT.slice {α : Type} {t e : TypeId} {k : Kd α} {ok : α → Prop} (hu : P.underlying t = some (.slice e)) (hc : P.cellsOf t = 1) (he : OpenT P e k ok) (hk : 0 < k.sz) : OpenT P t (kL k) (fun xs => xs.length ≤ maxLen ∧ ∀ x ∈ xs, ok x) :=
  ⟨hc, fun enc w base spare held fuel cs d ps h => by
    cases fuel with
    | zero => cases h
    | succ f =>
      unfold DataW.trod at h
      rw [hu] at h
      rcases cs with _ | ⟨v, _ | ⟨u, r⟩⟩
      · simp at h
      · cases v <;> simp at h
        rename_i A len cap
        cases A with
        | none =>
          cases len with
          | zero =>
            refine ⟨[], ⟨_, rfl, none, cap, rfl, Nat.zero_le _, .inl rfl⟩, Nat.zero_le _, by simp⟩
          | succ len => cases cap <;> simp at h
        | some a =>
          simp only at h
          split at h
          · rename_i hb
            simp only [Option.bind_eq_bind, Option.bind_eq_some_iff, Option.map_eq_some_iff] at h
            obtain ⟨elems, h1, _⟩ := h
            have key : ∀ i, i < len → ∃ x, (∃ cs, w.cells? base (a.add (i * P.cellsOf e)) (P.cellsOf e) = some cs ∧ k.rep (hp w) x cs) ∧ ok x := by
              intro i hi
              obtain ⟨y, hy⟩ := mapM_all h1 i i (by simp [hi])
              simp only [Option.bind_eq_some_iff] at hy
              obtain ⟨cs, c1, c2⟩ := hy
              obtain ⟨d', ps'⟩ := y
              obtain ⟨x, x1, x2⟩ := he.2 enc w base spare held f cs d' ps' c2
              exact ⟨x, ⟨cs, c1, x1⟩, x2⟩
            obtain ⟨xs, hl, hx⟩ := list_of len key
            refine ⟨xs, ⟨_, rfl, some a, cap, by rw [hl], by omega, ?_⟩, by omega, ?_⟩
            · cases len with
              | zero => left; exact List.eq_nil_of_length_eq_zero hl
              | succ len =>
                right
                obtain ⟨⟨cs0, c0, r0⟩, _⟩ := hx 0 xs[0] (by simp [hl])
                have q := cells_at c0
                have hcs0 : 0 < cs0.length := by rw [q.1, he.1]; exact hk
                have hcell := q.2 0 cs0[0] (by simp [hcs0])
                rw [Nat.zero_mul] at hcell
                have ha0 : (a.add 0).add 0 = a := by simp [Addr.add]
                rw [ha0] at hcell
                obtain ⟨blk, tb, fz, hblk, hsp⟩ : ∃ blk tb fz, w.heap[a.block]? = some (.cells blk tb fz) ∧ a.spot = none := by
                  unfold World.cell? at hcell
                  split at hcell
                  · rename_i c tb fz hh
                    split at hcell
                    · cases hcell
                    · rename_i hs; exact ⟨c, tb, fz, hh, by simpa using hs⟩
                  · cases hcell
                have hA : a = ⟨a.block, a.off, none⟩ := by cases a; simp at hsp; subst hsp; rfl
                refine ⟨a.block, a.off, blk, tb, fz, by rw [← hA], hblk, fun i x hi => ?_⟩
                obtain ⟨⟨cs, c1, r1⟩, _⟩ := hx i x hi
                have q1 := cells_at c1
                refine ⟨cs, r1, fun j v hj => ?_⟩
                have := q1.2 j v hj
                rw [hA, he.1, add_plain, add_plain] at this
                unfold World.cell? at this
                simp only [hblk] at this
                simpa using this
            · intro x hx'
              obtain ⟨i, hi⟩ := List.mem_iff_getElem?.1 hx'
              exact (hx i x hi).2
          · cases h
      · simp at h⟩
theorem trod_struct {H : Type} {enc : TypeId × Value → H} {w : World} {base : Nat} {spare : Nat → Bool} {held : Bool} {fuel : Nat} {t : TypeId} {fs : Array Field} {cs : List Value} {d : DataW H} {ps : List MemPlace} (hu : P.underlying t = some (.struct fs))
    (h : DataW.trod enc P w base spare held fuel t cs = some (d, ps)) : cs.length = P.cellsOf t ∧ ∀ (i : Nat) (f : Field), fs.toList[i]? = some f → ∃ fuel' d' ps', DataW.trod enc P w base spare held fuel' f.type ((cs.drop f.offset).take (P.cellsOf f.type)) = some (d', ps') := by
  cases fuel with
  | zero => cases h
  | succ n =>
    unfold DataW.trod at h
    rw [hu] at h
    simp only at h
    split at h
    · rename_i hl
      refine ⟨hl, fun i f hf => ?_⟩
      simp only [Option.map_eq_some_iff] at h
      obtain ⟨xs, h1, _⟩ := h
      obtain ⟨⟨d', ps'⟩, hy⟩ := mapM_all h1 i f hf
      exact ⟨n, d', ps', hy⟩
    · cases h
theorem trod_array {H : Type} {enc : TypeId × Value → H} {w : World} {base : Nat} {spare : Nat → Bool} {held : Bool} {fuel : Nat} {t e : TypeId} {len : Nat} {cs : List Value} {d : DataW H} {ps : List MemPlace} (hu : P.underlying t = some (.array len e))
    (h : DataW.trod enc P w base spare held fuel t cs = some (d, ps)) : cs.length = P.cellsOf t ∧ ∀ i, i < len → ∃ fuel' d' ps', DataW.trod enc P w base spare held fuel' e ((cs.drop (i * P.cellsOf e)).take (P.cellsOf e)) = some (d', ps') := by
  cases fuel with
  | zero => cases h
  | succ n =>
    unfold DataW.trod at h
    rw [hu] at h
    simp only at h
    split at h
    · rename_i hl
      refine ⟨hl, fun i hi => ?_⟩
      simp only [Option.map_eq_some_iff] at h
      obtain ⟨xs, h1, _⟩ := h
      obtain ⟨⟨d', ps'⟩, hy⟩ := mapM_all h1 i i (by simp [hi])
      exact ⟨n, d', ps', hy⟩
    · cases h
theorem cut_cells (cs : List Value) (o s : Nat) : cs.drop o = (cs.drop o).take s ++ cs.drop (o + s) := by
  rw [← List.drop_drop]; exact (List.take_append_drop s _).symm
/-! ## A call at the root -/
theorem St.root {W : World} {L : List Itm} (h : SepL (hp W) L PH.nil) : St (metaOf W) L W := ⟨hp W, PH.nil, PH.le_refl _, PH.nil_le _, PH.dj_nil _, h, rfl⟩
theorem SepL.pers {F : PH} {x : Itm} {L : List Itm} (h1 : x.hold F PH.nil) (h2 : SepL F L PH.nil) : SepL F (x :: L) PH.nil := ⟨PH.nil, PH.nil, h1, h2, PH.nil_dj _, (PH.nil_un _).symm⟩
theorem SepL.old {W : World} : SepL (hp W) [Old W] PH.nil := SepL.pers ⟨rfl, fun _ _ => rfl⟩ rfl
theorem root_below {W w' : World} (H : St (metaOf W) ([] ++ [Old W]) w') : Below W.heap.size W w' := by
  have hm : metaOf w' = metaOf W := let ⟨_, _, _, _, _, _, e⟩ := H; e
  obtain ⟨F, h, lF, _, _, e⟩ := H.get
  have key : ∀ b, b < W.heap.size → w'.heap[b]? = W.heap[b]? := fun b hb => by
    have h1 := e b hb
    have h2 : W.heap[b]? = some W.heap[b] := by simp [hb]
    rw [h2] at h1
    have := lF b _ h1
    rw [h2]; exact this
  simp only [metaOf, Meta.mk.injEq] at hm
  refine ⟨hm.2.1, hm.1, hm.2.2, ?_, key⟩
  rcases Nat.eq_zero_or_pos W.heap.size with h0 | h0
  · omega
  · have h1 := key (W.heap.size - 1) (by omega)
    have h2 : W.heap[W.heap.size - 1]? = some (W.heap[W.heap.size - 1]'(by omega)) := by simp
    rw [h2] at h1
    rcases Nat.lt_or_ge (W.heap.size - 1) w'.heap.size with h | h
    · omega
    · rw [Array.getElem?_eq_none h] at h1; cases h1
end Go.Proofs.YtbkojmcppeflbaaDoor
