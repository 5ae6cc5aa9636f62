/- The symbolic layer: ranges over maps in any order; entries that are stored in two steps. -/
import Derived.Test.YtbkojmcppeflbaaDoorSl10
import Derived.Maps.RangeRun
namespace Go.Proofs.YtbkojmcppeflbaaDoor
open Go
set_option linter.unusedVariables false
set_option linter.unusedSimpArgs false
set_option linter.unusedSectionVars false
set_option linter.unnecessarySimpa false
open Go.ChangeMaps (setBlock)
variable {P : Program} {τ : Meta} {N : Nat} {Q : Exit → Act → World → Prop} {m : List (Nat × Value)} {L : List Itm} {κ : Act → World → Prop}
/-! ## Plain: a fold that comes to one answer in all orders -/
def insAll {α : Type} (a : α) : List α → List (List α)
  | [] => [[a]]
  | b :: l => (a :: b :: l) :: (insAll a l).map (b :: ·)
def perms {α : Type} : List α → List (List α)
  | [] => [[]]
  | a :: l => (perms l).flatMap (insAll a)
theorem mem_insAll {α : Type} {a : α} : ∀ {l l' : List α}, l' ∈ insAll a l → l'.Perm (a :: l)
  | [], l', h => by simp [insAll] at h; subst h; exact .refl _
  | b :: l, l', h => by
    simp only [insAll, List.mem_cons, List.mem_map] at h
    rcases h with rfl | ⟨l2, h2, rfl⟩
    · exact .refl _
    · exact ((mem_insAll h2).cons b).trans (.swap a b l)
theorem insAll_mem {α : Type} {a : α} : ∀ {l1 l2 : List α}, l1 ++ a :: l2 ∈ insAll a (l1 ++ l2)
  | [], [] => by simp [insAll]
  | [], _ :: _ => by simp [insAll]
  | b :: l1, l2 => by
    simp only [insAll, List.cons_append, List.mem_cons, List.mem_map]
    exact .inr ⟨_, insAll_mem, rfl⟩
theorem mem_perms {α : Type} : ∀ {l l' : List α}, l' ∈ perms l ↔ l'.Perm l
  | [], l' => by simp [perms]
  | a :: l, l' => by
    simp only [perms, List.mem_flatMap]
    constructor
    · rintro ⟨l2, h2, h3⟩; exact (mem_insAll h3).trans ((mem_perms.1 h2).cons a)
    · intro h
      obtain ⟨l1, l2, rfl⟩ := List.append_of_mem (h.symm.subset (List.mem_cons_self))
      exact ⟨l1 ++ l2, mem_perms.2 (List.Perm.cons_inv (List.perm_middle.symm.trans h)), insAll_mem⟩
/-- What F comes to, if it is one thing in all orders. -/
def anyOrder {α ρ : Type} [DecidableEq ρ] (xs : List α) (F : List α → Option ρ) : Option ρ := if (perms xs).all fun ys => decide (F ys = F xs) then F xs else none
theorem anyOrder_some {α ρ : Type} [DecidableEq ρ] {xs : List α} {F : List α → Option ρ} {r : ρ} (h : anyOrder xs F = some r) {ys : List α} (hy : ys.Perm xs) : F ys = some r := by
  unfold anyOrder at h
  split at h
  · rename_i q
    rw [List.all_eq_true] at q
    have := of_decide_eq_true (q ys (mem_perms.2 hy))
    rw [this, h]
  · cases h
theorem anyOrder_of {α ρ : Type} [DecidableEq ρ] {xs : List α} {F : List α → Option ρ} {r : ρ} (h : ∀ ys, ys.Perm xs → F ys = some r) : anyOrder xs F = some r := by
  unfold anyOrder
  rw [if_pos]
  · exact h _ (.refl _)
  · rw [List.all_eq_true]; intro ys hy
    have := h ys (mem_perms.1 hy)
    simp [this, h xs (.refl _)]
def rangeL {α σ : Type} (body : α → σ → Option σ) : List α → σ → Option σ
  | [], s => some s
  | a :: l, s => (body a s).bind fun s' => rangeL body l s'
/-- All orders of the rest give x. -/
def HR {α σ : Type} (body : α → σ → Option σ) (x : σ) (rem : List α) (s : σ) : Prop := ∀ ys, ys.Perm rem → rangeL body ys s = some x
theorem HR.of {α σ : Type} [DecidableEq σ] {body : α → σ → Option σ} {x : σ} {xs : List α} {s : σ} (h : anyOrder xs (fun ys => rangeL body ys s) = some x) : HR body x xs s := fun _ hy => anyOrder_some h hy
theorem HR.nil {α σ : Type} {body : α → σ → Option σ} {x : σ} {rem : List α} {s : σ} (h : HR body x rem s) (hr : rem = []) : s = x := by
  subst hr; exact Option.some.inj (h [] (.refl _))
theorem HR.cons {α σ : Type} {body : α → σ → Option σ} {x : σ} {rem rem' : List α} {s : σ} {p : α} (h : HR body x rem s) (hp : (p :: rem').Perm rem) : ∃ s', body p s = some s' ∧ HR body x rem' s' := by
  have h0 := h _ hp
  obtain ⟨s', h1, h2⟩ := Option.bind_eq_some_iff.1 h0
  refine ⟨s', h1, fun ys hy => ?_⟩
  have := h (p :: ys) ((hy.cons p).trans hp)
  simp only [rangeL, h1, Option.bind_some] at this
  exact this
/-! ## The loop -/
open Classical in
noncomputable def lR {α σ : Type} (body : α → σ → Option σ) (x : σ) : Nat → List α × Option α × σ → Option σ := fun k q => if k = q.1.length ∧ HR body x q.1 q.2.2 then some x else none
def AgainR {α σ ε : Type} (τ : Meta) (N : Nat) (body : α → σ → Option σ) (x : σ) (mh : σ → ε → List (Nat × Value)) (Lh : List α → Option α → σ → ε → List Itm) (rem : List α) : Act → World → Prop :=
  Again τ N (lR body x) x (fun q e => mh q.2.2 e) (fun q e => Lh q.1 q.2.1 q.2.2 e) rem.length
theorem Ws.rangeM {α σ ε : Type} [DecidableEq σ] {c : Code} (body : α → σ → Option σ) (mh : σ → ε → List (Nat × Value)) (Lh : List α → Option α → σ → ε → List Itm) {x : σ} {xs : List α} {s : σ} (e : ε) (h : anyOrder xs (fun ys => rangeL body ys s) = some x)
    (hm : Sub m (mh s e)) (hL : ∀ w, St τ L w → St τ (Lh xs none s e) w)
    (round : ∀ rem cur s e, HR body x rem s → G τ N (c.wp P (Exit.then (AgainR τ N body x mh Lh rem) Q)) (mh s e) (Lh rem cur s e)) : G τ N ((Code.loop c).wp P Q) m L := by
  refine Ws.loop (lR body x) (fun q e => mh q.2.2 e) (fun q e => Lh q.1 q.2.1 q.2.2 e) (k := xs.length) (s := (xs, none, s)) (x := x) e ?_ hm hL ?_
  · unfold lR; rw [if_pos ⟨rfl, HR.of h⟩]
  · intro k q e hl
    unfold lR at hl
    split at hl
    · rename_i hh
      obtain ⟨rfl, hh⟩ := hh
      exact round q.1 q.2.1 q.2.2 e hh
    · cases hl
theorem Qs.againR {α σ ε : Type} {body : α → σ → Option σ} {x : σ} {mh : σ → ε → List (Nat × Value)} {Lh : List α → Option α → σ → ε → List Itm} {rem rem' : List α} {s : σ} {p : α} (e : ε) (cur : Option α) (hp : (p :: rem').Perm rem) (h : HR body x rem' s)
    (hm : Sub m (mh s e)) (hL : ∀ w, St τ L w → St τ (Lh rem' cur s e) w) : G τ N (AgainR τ N body x mh Lh rem) m L := by
  refine Qs.again (l := lR body x) (k := rem'.length) (s := (rem', cur, s)) e ?_ ?_ hm hL
  · unfold lR; rw [if_pos ⟨rfl, h⟩]
  · have := hp.length_eq; simp at this; omega
/-! ## A map that is ranged over -/
section
variable {α β : Type} [DecidableEq α] [LinKey α]
def MapR (fk : α → Value) (fv : β → Value) (b r : Nat) (xs rem : List (α × β)) (cur : Option (α × β)) : Itm :=
  ⟨false, fun _ h => ∃ (es : Array MapEntry) (clock : Nat) (ys zs : List (α × β)) (seen : Array Nat), b ≠ r ∧ h = PH.un (PH.one b (.map es clock)) (PH.one r (.mapIter (some b) clock seen clock)) ∧
      es.toList.map (fun e => (e.key, e.val)) = ys.map (fun p => (fk p.1, fv p.2)) ∧ ys.Perm xs ∧ Srt xs ∧ (es.toList.map MapEntry.born).Nodup ∧ (∀ e ∈ es.toList, e.born < clock) ∧
      (leftOf es seen).toList.map (fun e => (e.key, e.val)) = zs.map (fun p => (fk p.1, fv p.2)) ∧ zs.Perm rem ∧
      (∀ p, cur = some p → ∃ e ∈ es.toList, ∃ seen0 : Array Nat, seen = seen0.push e.born ∧ e.key = fk p.1 ∧ e.val = fv p.2), fun _ h => h, fun e => by cases e⟩
class UpdR (L : List Itm) (fk : α → Value) (fv : β → Value) (b : outParam Nat) (r : Nat) (xs rem : outParam (List (α × β))) (cur : outParam (Option (α × β))) (L1 : outParam (List Itm)) : Prop where
  out : ∀ {F h : PH}, SepL F L h → SepL F (MapR fk fv b r xs rem cur :: L1) h
instance (priority := 1000) UpdR.here {fk : α → Value} {fv : β → Value} {b r : Nat} {xs rem : List (α × β)} {cur : Option (α × β)} {L : List Itm} : UpdR (MapR fk fv b r xs rem cur :: L) fk fv b r xs rem cur L := ⟨fun H => H⟩
instance (priority := 100) UpdR.there {fk : α → Value} {fv : β → Value} {b r : Nat} {xs rem : List (α × β)} {cur : Option (α × β)} {y : Itm} {L L1 : List Itm} [s : UpdR L fk fv b r xs rem cur L1] : UpdR (y :: L) fk fv b r xs rem cur (y :: L1) :=
  ⟨fun ⟨h1, h2, i, k, d, e⟩ => SepL.swap ⟨h1, h2, i, s.out k, d, e⟩⟩
theorem St.mapR {fk : α → Value} {fv : β → Value} {b r : Nat} {xs rem : List (α × β)} {cur : Option (α × β)} {L1 : List Itm} {w : World} [s : UpdR L fk fv b r xs rem cur L1] (H : St τ L w) : St τ (MapR fk fv b r xs rem cur :: L1) w :=
  let ⟨F, h, a, b', c, d, e⟩ := H; ⟨F, h, a, b', c, s.out d, e⟩
/-- The map itself, of which a range is under way. -/
class UpdRm (L : List Itm) (fk : α → Value) (fv : β → Value) (b : Nat) (r : outParam Nat) (xs rem : outParam (List (α × β))) (cur : outParam (Option (α × β))) (L1 : outParam (List Itm)) : Prop where
  out : ∀ {F h : PH}, SepL F L h → SepL F (MapR fk fv b r xs rem cur :: L1) h
instance (priority := 1000) UpdRm.here {fk : α → Value} {fv : β → Value} {b r : Nat} {xs rem : List (α × β)} {cur : Option (α × β)} {L : List Itm} : UpdRm (MapR fk fv b r xs rem cur :: L) fk fv b r xs rem cur L := ⟨fun H => H⟩
instance (priority := 100) UpdRm.there {fk : α → Value} {fv : β → Value} {b r : Nat} {xs rem : List (α × β)} {cur : Option (α × β)} {y : Itm} {L L1 : List Itm} [s : UpdRm L fk fv b r xs rem cur L1] : UpdRm (y :: L) fk fv b r xs rem cur (y :: L1) :=
  ⟨fun ⟨h1, h2, i, k, d, e⟩ => SepL.swap ⟨h1, h2, i, s.out k, d, e⟩⟩
/-- What can be read of a map. -/
class RdM (L : List Itm) (fk : α → Value) (fv : β → Value) (b : Nat) (xs : outParam (List (α × β))) : Prop where
  out : ∀ {τ : Meta} {w : World}, St τ L w → ∃ (es : Array MapEntry) (clock : Nat) (ys : List (α × β)), w.heap[b]? = some (.map es clock) ∧ es.toList.map (fun e => (e.key, e.val)) = ys.map (fun p => (fk p.1, fv p.2)) ∧ ys.Perm xs ∧ Srt xs
instance (priority := 500) RdM.i {fk : α → Value} {fv : β → Value} {b : Nat} {xs : List (α × β)} {L1 : List Itm} [s : UpdM L fk fv b xs L1] : RdM L fk fv b xs := ⟨fun H => by
  obtain ⟨es, clock, ys, a1, a2, a3, a4, _⟩ := (St.mapI (fk := fk) (fv := fv) (b := b) H).mapAt
  exact ⟨es, clock, ys, a1, a2, a3, a4⟩⟩
theorem un_at_l {f g : PH} {b : Nat} {o : Obj} (h : f b = some o) : PH.un f g b = some o := by simp [PH.un, h]
theorem un_at_r {f g : PH} {b : Nat} {o : Obj} (h : g b = some o) (hf : f b = none) : PH.un f g b = some o := by simp [PH.un, h, hf]
theorem one_ne {b c : Nat} {o : Obj} (h : c ≠ b) : PH.one b o c = none := by simp [PH.one, h]
theorem St.mapRAt {fk : α → Value} {fv : β → Value} {b r : Nat} {xs rem : List (α × β)} {cur : Option (α × β)} {w : World} (H : St τ (MapR fk fv b r xs rem cur :: L) w) :
    ∃ (es : Array MapEntry) (clock : Nat) (ys zs : List (α × β)) (seen : Array Nat), b ≠ r ∧ w.heap[b]? = some (.map es clock) ∧ w.heap[r]? = some (.mapIter (some b) clock seen clock) ∧
      es.toList.map (fun e => (e.key, e.val)) = ys.map (fun p => (fk p.1, fv p.2)) ∧ ys.Perm xs ∧ Srt xs ∧ (es.toList.map MapEntry.born).Nodup ∧ (∀ e ∈ es.toList, e.born < clock) ∧
      (leftOf es seen).toList.map (fun e => (e.key, e.val)) = zs.map (fun p => (fk p.1, fv p.2)) ∧ zs.Perm rem ∧
      (∀ p, cur = some p → ∃ e ∈ es.toList, ∃ seen0 : Array Nat, seen = seen0.push e.born ∧ e.key = fk p.1 ∧ e.val = fv p.2) := by
  obtain ⟨F, h, _, lh, es, clock, ys, zs, seen, hbr, rfl, e⟩ := H.get
  exact ⟨es, clock, ys, zs, seen, hbr, lh _ _ (un_at_l (PH.one_at _ _)), lh _ _ (un_at_r (PH.one_at _ _) (one_ne (Ne.symm hbr))), e⟩
instance (priority := 400) RdM.r {fk : α → Value} {fv : β → Value} {b r : Nat} {xs rem : List (α × β)} {cur : Option (α × β)} {L1 : List Itm} [s : UpdRm L fk fv b r xs rem cur L1] : RdM L fk fv b xs := ⟨fun H => by
  have H1 : St _ (MapR fk fv b r xs rem cur :: L1) _ := let ⟨F, h, a, b', c, d, e⟩ := H; ⟨F, h, a, b', c, s.out d, e⟩
  obtain ⟨es, clock, ys, zs, seen, a0, a1, a1', a2, a3, a4, _⟩ := H1.mapRAt
  exact ⟨es, clock, ys, a1, a2, a3, a4⟩⟩
/-- The range is over: the iterator is let go. -/
theorem St.unR {fk : α → Value} {fv : β → Value} {b r : Nat} {xs rem : List (α × β)} {cur : Option (α × β)} {w : World} (H : St τ (MapR fk fv b r xs rem cur :: L) w) : St τ (MapI fk fv b xs :: L) w := by
  obtain ⟨F, h, lF, lh, dF, ⟨h1, h2, ⟨es, clock, ys, zs, seen, hbr, rfl, a1, a2, a3, a4, a5, _⟩, s, d, rfl⟩, hm⟩ := H
  have le1 : PH.le (PH.one b (.map es clock)) (PH.un (PH.one b (.map es clock)) (PH.one r (.mapIter (some b) clock seen clock))) := PH.le_un_left _ _
  have d1 : PH.dj (PH.one b (.map es clock)) h2 := (PH.dj_un.1 d).1
  have dF' := PH.dj_un'.1 dF
  refine ⟨F, PH.un (PH.one b (.map es clock)) h2, lF, PH.un_le (PH.le_trans le1 (PH.le_trans (PH.le_un_left _ _) lh)) (PH.le_trans (PH.le_un_right d) lh), PH.dj_un'.2 ⟨PH.dj_le dF'.1 le1, dF'.2⟩, ⟨_, h2, ⟨es, clock, ys, rfl, a1, a2, a3, a4, a5⟩, s, d1, rfl⟩, hm⟩
theorem leftOf_empty (es : Array MapEntry) : leftOf es #[] = es := by unfold leftOf; simp
theorem St.toR {fk : α → Value} {fv : β → Value} {b : Nat} {xs : List (α × β)} {w : World} (H : St τ (MapI fk fv b xs :: L) w) :
    ∃ es clock, w.heap[b]? = some (.map es clock) ∧ St τ (MapR fk fv b w.heap.size xs xs none :: L) (w.alloc (.mapIter (some b) clock #[] clock)) := by
  obtain ⟨F, h, lF, lh, dF, ⟨h1, h2, ⟨es, clock, ys, rfl, a1, a2, a3, a4, a5⟩, s, d, rfl⟩, hm⟩ := H
  have hb : w.heap[b]? = some (.map es clock) := lh _ _ (un_at_l (PH.one_at _ _))
  have hlt : b < w.heap.size := by
    rcases Nat.lt_or_ge b w.heap.size with h | h
    · exact h
    · rw [Array.getElem?_eq_none h] at hb; cases hb
  have up : ∀ g : PH, PH.le g (hp w) → PH.le g (hp (w.alloc (.mapIter (some b) clock #[] clock))) ∧ g w.heap.size = none := by
    intro g lg
    have hlt' : ∀ c o, g c = some o → c < w.heap.size := fun c o hc => by
      rcases Nat.lt_or_ge c w.heap.size with h | h
      · exact h
      · have := lg c o hc; simp only [hp] at this; rw [Array.getElem?_eq_none h] at this; cases this
    refine ⟨fun c o hc => ?_, ?_⟩
    · have := lg c o hc
      simp only [hp] at this ⊢
      rw [heap_alloc_old _ _ (hlt' c o hc)]; exact this
    · cases hg : g w.heap.size with
      | none => rfl
      | some o => exact absurd (hlt' _ _ hg) (Nat.lt_irrefl _)
  have uF := up F lF
  have uh := up _ lh
  have l1 : PH.le (PH.one b (.map es clock)) (hp (w.alloc (.mapIter (some b) clock #[] clock))) := PH.le_trans (PH.le_un_left _ _) uh.1
  have l2 : PH.le h2 (hp (w.alloc (.mapIter (some b) clock #[] clock))) := PH.le_trans (PH.le_un_right d) uh.1
  have n2 : h2 w.heap.size = none := (up h2 (PH.le_trans (PH.le_un_right d) lh)).2
  have lr : PH.le (PH.one w.heap.size (.mapIter (some b) clock #[] clock)) (hp (w.alloc (.mapIter (some b) clock #[] clock))) := by
    intro c o hc
    by_cases e : c = w.heap.size
    · subst e; rw [PH.one_at] at hc; cases hc; simp only [hp]; exact heap_alloc_new w _
    · rw [one_ne e] at hc; cases hc
  have dF' := PH.dj_un'.1 dF
  refine ⟨es, clock, hb, F, PH.un (PH.un (PH.one b (.map es clock)) (PH.one w.heap.size (.mapIter (some b) clock #[] clock))) h2, uF.1, PH.un_le (PH.un_le l1 lr) l2,
    PH.dj_un'.2 ⟨PH.dj_un'.2 ⟨dF'.1, PH.dj_one.2 uF.2⟩, dF'.2⟩, ⟨_, h2, ⟨es, clock, ys, ys, #[], by omega, rfl, a1, a2, a3, a4, a5, by rw [leftOf_empty]; exact a1, a2, by rintro p ⟨⟩⟩, s, PH.dj_un.2 ⟨d, PH.dj_symm (PH.dj_one.2 n2)⟩, rfl⟩, hm⟩
/-- One entry is taken of what is left. -/
theorem left_step {es : Array MapEntry} {seen : Array Nat} {e : MapEntry} (hn : (es.toList.map MapEntry.born).Nodup) (he : e ∈ (leftOf es seen).toList) :
    ∃ l1 l2, (leftOf es seen).toList = l1 ++ e :: l2 ∧ (leftOf es (seen.push e.born)).toList = l1 ++ l2 := by
  obtain ⟨l1, l2, h⟩ := List.append_of_mem he
  refine ⟨l1, l2, h, ?_⟩
  have h0 : (leftOf es (seen.push e.born)).toList = (leftOf es seen).toList.filter fun x => x.born != e.born := by
    unfold leftOf
    rw [Array.toList_filter, Array.toList_filter, List.filter_filter]
    congr 1; funext x
    simp only [Array.contains_push, Bool.not_or]
    rw [Bool.and_comm]
    rfl
  have hsub : ((leftOf es seen).toList.map MapEntry.born).Nodup := by
    refine List.Nodup.sublist ?_ hn
    unfold leftOf; rw [Array.toList_filter]
    exact (List.filter_sublist).map _
  rw [h] at hsub
  simp only [List.map_append, List.map_cons] at hsub
  rw [List.nodup_append, List.nodup_cons] at hsub
  obtain ⟨_, ⟨q1, _⟩, q2⟩ := hsub
  rw [h0, h, List.filter_append, List.filter_cons]
  simp only [bne_self_eq_false, Bool.false_eq_true, if_false]
  rw [List.filter_eq_self.2, List.filter_eq_self.2]
  · intro x hx
    simp only [bne_iff_ne, ne_eq]
    intro c; exact q1 (List.mem_map.2 ⟨x, hx, c⟩)
  · intro x hx
    simp only [bne_iff_ne, ne_eq]
    intro c; exact q2 _ (List.mem_map.2 ⟨x, hx, rfl⟩) _ (List.mem_cons_self) c
theorem map_split {γ δ ε : Type} {f : γ → ε} {g : δ → ε} : ∀ {l1 : List γ} {x : γ} {l2 : List γ} {zs : List δ}, (l1 ++ x :: l2).map f = zs.map g → ∃ z1 z z2, zs = z1 ++ z :: z2 ∧ l1.map f = z1.map g ∧ f x = g z ∧ l2.map f = z2.map g
  | [], x, l2, [], h => by simp at h
  | [], x, l2, z :: zs, h => by simp at h; exact ⟨[], z, zs, rfl, rfl, h.1, h.2⟩
  | y :: l1, x, l2, [], h => by simp at h
  | y :: l1, x, l2, z :: zs, h => by
    simp only [List.cons_append, List.map_cons, List.cons.injEq] at h
    obtain ⟨z1, z', z2, rfl, a, b, c⟩ := map_split h.2
    exact ⟨z :: z1, z', z2, rfl, by simp [h.1, a], b, c⟩
section ops
variable {d : Nat} {ty : TypeId} {pos : String} {af : Array Edge} {g : Option (Nat × Bool)}
theorem o_range (fk : α → Value) (fv : β → Value) {t kt vt : TypeId} {x : Operand} {b : Nat} {xs : List (α × β)} {L1 : List Itm} [hu : Und P t (.map kt vt)] (hx : ev m x = some (.map (some b))) [s : UpdM L fk fv b xs L1] (hd : Nat.blt d N = true)
    (n : ∀ r : Nat, G τ N κ ((d, .pointer (some ⟨r, 0, none⟩)) :: m) (MapR fk fv b r xs xs none :: L1)) : G τ N (opK P ⟨some d, .range t x, ty, pos, af, g⟩ κ Q) m L := by
  refine G.step_new (v := fun r : Nat => .pointer (some ⟨r, 0, none⟩)) (L' := fun r => MapR fk fv b r xs xs none :: L1) rfl hd (fun a w hK hS => ?_) n
  obtain ⟨es, clock, hb, H⟩ := (St.mapI (fk := fk) (fv := fv) (b := b) hS).toR
  exact ⟨w.heap.size, _, by simp [execOp, hK.eval hx, run_range_map w t kt vt b es clock hu.out hb], H⟩
theorem o_next (fk : α → Value) (fv : β → Value) {it : Operand} {b r : Nat} {xs rem : List (α × β)} {cur : Option (α × β)} {L1 : List Itm} (hx : ev m it = some (.pointer (some ⟨r, 0, none⟩))) [s : UpdR L fk fv b r xs rem cur L1] (hd : Nat.blt d N = true)
    (n1 : rem = [] → G τ N κ ((d, .tuple #[.bool false]) :: m) (MapI fk fv b xs :: L1))
    (n2 : ∀ p rem', (p :: rem').Perm rem → G τ N κ ((d, .tuple #[.bool true, fk p.1, fv p.2]) :: m) (MapR fk fv b r xs rem' (some p) :: L1)) : G τ N (opK P ⟨some d, .next it false, ty, pos, af, g⟩ κ Q) m L := by
  intro a w hK hS
  have H := St.mapR (fk := fk) (fv := fv) (r := r) hS
  obtain ⟨es, clock, ys, zs, seen, hbr, hb, hr, a1, a2, a3, a4, a5, a6, a7, a8⟩ := H.mapRAt
  have op : (execOp a.eval (⟨some d, .next it false, ty, pos, af, g⟩ : Oper)) = (do pure (.value (← Instr.next (.pointer (some ⟨r, 0, none⟩)) false ty))) := by simp [execOp, hK.eval hx]
  rcases run_next_at (P := P) w ty r b clock clock seen es clock hr hb a5 (Nat.le_refl _) with ⟨h0, e⟩ | ⟨en, hen, w1, hw1, e⟩
  · have : rem = [] := by
      have hl : (leftOf es seen).toList = [] := List.eq_nil_of_length_eq_zero (by simpa using h0)
      rw [hl] at a6
      have : zs = [] := by simpa using a6.symm
      subst this; exact a7.symm.eq_nil
    simp only [opK, Oper.wp, op, Sem.run_bind, e, Result.andThen_ok, Sem.run_pure, Oper.upon]
    exact n1 this _ _ (hK.put hd _) H.unR
  · obtain ⟨l1, l2, hl, hl'⟩ := left_step a4 hen
    rw [hl] at a6
    obtain ⟨z1, z, z2, rfl, b1, b2, b3⟩ := map_split a6
    have b2' : en.key = fk z.1 ∧ en.val = fv z.2 := by simpa using b2
    simp only [opK, Oper.wp, op, Sem.run_bind, e, Result.andThen_ok, Sem.run_pure, Oper.upon]
    rw [b2'.1, b2'.2]
    refine n2 z (z1 ++ z2) (List.perm_middle.symm.trans a7) _ _ (hK.put hd _) ?_
    have hes : en ∈ es.toList := by
      have : en ∈ (leftOf es seen) := by simpa using hen
      unfold leftOf at this
      simpa using (Array.mem_filter.1 this).1
    have H1 : St τ (MapR fk fv b r xs rem cur :: L1) w1 := by
      rcases hw1 with rfl | rfl
      · exact H
      · exact H.world rfl (fun _ _ => rfl)
    have hrl : r < w1.heap.size := by
      have : w1.heap = w.heap := by rcases hw1 with rfl | rfl <;> rfl
      rw [this]
      rcases Nat.lt_or_ge r w.heap.size with h | h
      · exact h
      · rw [Array.getElem?_eq_none h] at hr; cases hr
    have hb1 : w1.heap[b]? = some (.map es clock) := by
      have : w1.heap = w.heap := by rcases hw1 with rfl | rfl <;> rfl
      rw [this]; exact hb
    refine H1.update rfl ?_
    rintro F h ⟨es0, clock0, ys0, zs0, seen0, q0, rfl, _⟩ lh
    have eb : w1.heap[b]? = some (.map es0 clock0) := lh _ _ (un_at_l (PH.one_at _ _))
    rw [hb1] at eb; cases eb
    refine ⟨PH.un (PH.one b (.map es clock)) (PH.one r (.mapIter (some b) clock (seen.push en.born) clock)), ⟨es, clock, ys, z1 ++ z2, seen.push en.born, hbr, rfl, a1, a2, a3, a4, a5, by rw [hl']; simp [b1, b3], .refl _, ?_⟩, ?_, ?_⟩
    · intro p hp; cases hp; exact ⟨en, hes, seen, rfl, b2'.1, b2'.2⟩
    · intro c o hc
      by_cases e1 : c = b
      · subst e1
        rw [un_at_l (PH.one_at _ _)] at hc; cases hc
        simp only [hp, setBlock]
        rw [Array.getElem?_setIfInBounds_ne (Ne.symm hbr)]; exact hb1
      · by_cases e2 : c = r
        · subst e2
          rw [un_at_r (PH.one_at _ _) (one_ne e1)] at hc; cases hc
          simp [hp, setBlock, hrl]
        · simp only [PH.un, one_ne e1, one_ne e2] at hc; cases hc
    · intro c hc hw
      have e1 : c ≠ b := fun e => by subst e; rw [un_at_l (PH.one_at _ _)] at hc; cases hc
      have e2 : c ≠ r := fun e => by subst e; rw [un_at_r (PH.one_at _ _) (one_ne e1)] at hc; cases hc
      refine ⟨by simp [hp, setBlock, Array.getElem?_setIfInBounds_ne (Ne.symm e2)], by simp [PH.un, one_ne e1, one_ne e2]⟩
theorem r_entry (fk : α → Value) (fv : β → Value) {it : Operand} {b r : Nat} {xs rem : List (α × β)} {p : α × β} {L1 : List Itm} (hx : ev m it = some (.pointer (some ⟨r, 0, none⟩))) [s : UpdR L fk fv b r xs rem (some p) L1] :
    RunV P τ N m L ⟨some d, .entry it, ty, pos, af, g⟩ (.tuple #[fk p.1, fv p.2]) := fun a w hK hS => by
  obtain ⟨es, clock, ys, zs, seen, hbr, hb, hr, a1, a2, a3, a4, a5, a6, a7, a8⟩ := (St.mapR (fk := fk) (fv := fv) (r := r) hS).mapRAt
  obtain ⟨e, he, seen0, rfl, h1, h2⟩ := a8 p rfl
  simp [execOp, hK.eval hx, run_entry_at w r b clock seen0 es clock e hr hb he a4, h1, h2]
theorem run_lookA {t kt vt : TypeId} {fk : α → Value} {fv : β → Value} {b : Nat} {xs : List (α × β)} {k : α} {sz by_ : Nat} {zv : β} [Und P t (.map kt vt)] [K : KeyOk P kt fk] [Inf P vt sz by_ (fv zv)] {w : World} {es : Array MapEntry} {clock : Nat} {ys : List (α × β)}
    (hb : w.heap[b]? = some (.map es clock)) (he : es.toList.map (fun e => (e.key, e.val)) = ys.map (fun p => (fk p.1, fv p.2))) (hp1 : ys.Perm xs) (hs1 : Srt xs) (c : Bool) : (Instr.lookup t (.map (some b)) (fk k) c).run P w =
      .ok (if c then .tuple #[fv ((mget k xs).getD zv), .bool (mget k xs).isSome] else fv ((mget k xs).getD zv)) w := by
  have hf := run_findKey (P := P) K k w es.toList (ys.map fun p => (p.1, fv p.2)) (by rw [he]; simp)
  have hg := mfind_get k fv ys 0
  rw [mget_perm hp1 ((hp1.map _).nodup_iff.2 hs1.nodup)] at hg
  cases hm : mfind k (ys.map fun p => (p.1, fv p.2)) 0 with
  | none =>
    rw [hm] at hg hf; simp at hg
    have : mget k xs = none := by cases h : mget k xs with
      | none => rfl
      | some x => rw [h] at hg; cases hg
    simp [Instr.lookup, run_underlying, run_getMap hb, K.check, hf, run_zero, this]
  | some q =>
    rw [hm] at hg hf; simp at hg
    obtain ⟨x, h1, h2⟩ : ∃ x, mget k xs = some x ∧ fv x = q.2 := by cases h : mget k xs with
      | none => rw [h] at hg; cases hg
      | some x => rw [h] at hg; simp at hg; exact ⟨x, rfl, hg.symm⟩
    simp [Instr.lookup, run_underlying, run_getMap hb, K.check, hf, h1, h2]
theorem r_lookR (fk : α → Value) (fv : β → Value) (zv : β) (k : α) (r : Value) {t kt vt : TypeId} {x ix : Operand} {b : Nat} {xs : List (α × β)} {sz by_ : Nat} [Und P t (.map kt vt)] [KeyOk P kt fk] [Inf P vt sz by_ (fv zv)]
    (hx : ev m x = some (.map (some b))) (hi : ev m ix = some (fk k)) [s : RdM L fk fv b xs] (hr : fv ((mget k xs).getD zv) = r) : RunV P τ N m L ⟨some d, .lookup t x ix false, ty, pos, af, g⟩ r := fun a w hK hS => by
  subst hr
  obtain ⟨es, clock, ys, a1, a2, a3, a4⟩ := s.out hS
  simp [execOp, hK.eval hx, hK.eval hi, run_lookA (P := P) (zv := zv) (k := k) a1 a2 a3 a4 false]
theorem r_lookOkR (fk : α → Value) (fv : β → Value) (zv : β) (k : α) (r : Value) {t kt vt : TypeId} {x ix : Operand} {b : Nat} {xs : List (α × β)} {sz by_ : Nat} [Und P t (.map kt vt)] [KeyOk P kt fk] [Inf P vt sz by_ (fv zv)]
    (hx : ev m x = some (.map (some b))) (hi : ev m ix = some (fk k)) [s : RdM L fk fv b xs] (hr : fv ((mget k xs).getD zv) = r) : RunV P τ N m L ⟨some d, .lookup t x ix true, ty, pos, af, g⟩ (.tuple #[r, .bool (mget k xs).isSome]) := fun a w hK hS => by
  subst hr
  obtain ⟨es, clock, ys, a1, a2, a3, a4⟩ := s.out hS
  simp [execOp, hK.eval hx, hK.eval hi, run_lookA (P := P) (zv := zv) (k := k) a1 a2 a3 a4 true]
/-! ## An entry found first, and stored later -/
def MapS (fk : α → Value) (fv : β → Value) (b : Nat) (xs : List (α × β)) (k : α) (st : Nat) : Itm :=
  ⟨false, fun _ h => ∃ (es : Array MapEntry) (clock : Nat) (ys : List (α × β)), h = PH.one b (.map es clock) ∧ es.toList.map (fun e => (e.key, e.val)) = ys.map (fun p => (fk p.1, fv p.2)) ∧ ys.Perm xs ∧ Srt xs ∧
      (es.toList.map MapEntry.born).Nodup ∧ (∀ e ∈ es.toList, e.born < clock) ∧ ∃ (i : Nat) (e : MapEntry) (p : α × β), es[i]? = some e ∧ e.born = st ∧ ys[i]? = some p ∧ p.1 = k, fun _ h => h, fun e => by cases e⟩
class UpdS (L : List Itm) (fk : α → Value) (fv : β → Value) (b : Nat) (xs : outParam (List (α × β))) (k : outParam α) (st : outParam Nat) (L1 : outParam (List Itm)) : Prop where
  out : ∀ {F h : PH}, SepL F L h → SepL F (MapS fk fv b xs k st :: L1) h
instance (priority := 1000) UpdS.here {fk : α → Value} {fv : β → Value} {b : Nat} {xs : List (α × β)} {k : α} {st : Nat} {L : List Itm} : UpdS (MapS fk fv b xs k st :: L) fk fv b xs k st L := ⟨fun H => H⟩
instance (priority := 100) UpdS.there {fk : α → Value} {fv : β → Value} {b : Nat} {xs : List (α × β)} {k : α} {st : Nat} {y : Itm} {L L1 : List Itm} [s : UpdS L fk fv b xs k st L1] : UpdS (y :: L) fk fv b xs k st (y :: L1) :=
  ⟨fun ⟨h1, h2, i, k, d, e⟩ => SepL.swap ⟨h1, h2, i, s.out k, d, e⟩⟩
theorem mapp_set {k : α} {v : β} : ∀ {ys : List (α × β)} {i : Nat} {p : α × β}, (ys.map (·.1)).Nodup → ys[i]? = some p → p.1 = k → mapp k v ys = ys.set i (k, v)
  | [], i, p, _, h, _ => by simp at h
  | (a, b) :: r, 0, p, hn, h, hk => by simp at h; subst h; subst hk; simp [mapp]
  | (a, b) :: r, i + 1, p, hn, h, hk => by
    simp only [List.map_cons, List.nodup_cons] at hn
    have h' : r[i]? = some p := by simpa using h
    have : k ≠ a := fun e => hn.1 (List.mem_map.2 ⟨p, List.mem_of_getElem? h', hk.trans e⟩)
    simp only [mapp, this, if_false, List.set_cons_succ]
    rw [mapp_set hn.2 h' hk]
/-- A map's block is laid anew. -/
theorem St.setMapX {x y : Itm} {b : Nat} {w : World} {o o' : Obj} (H : St τ (x :: L) w) (hb : w.heap[b]? = some o) (hx : ∀ F h, x.hold F h → ∃ o1, h = PH.one b o1) (hy : ∀ F, y.hold F (PH.one b o')) :
    St τ (y :: L) { w with heap := w.heap.setIfInBounds b o' } := by
  have hlt : b < w.heap.size := by
    rcases Nat.lt_or_ge b w.heap.size with h | h
    · exact h
    · rw [Array.getElem?_eq_none h] at hb; cases hb
  refine H.update rfl ?_
  intro F h hxh l
  obtain ⟨o1, rfl⟩ := hx F h hxh
  refine ⟨PH.one b o', hy F, ?_, ?_⟩
  · intro d x hd
    by_cases e : d = b
    · subst e; rw [PH.one_at] at hd; cases hd; simp [hp, hlt]
    · simp [PH.one, e] at hd
  · intro d hd _
    have e : d ≠ b := fun e => by subst e; rw [PH.one_at] at hd; cases hd
    exact ⟨by simp [hp, Array.getElem?_setIfInBounds_ne (Ne.symm e)], by simp [PH.one, e]⟩
theorem mfind_at (k : α) (fv : β → Value) : ∀ (ys : List (α × β)) (i j : Nat) (u : Value), mfind k (ys.map fun p => (p.1, fv p.2)) i = some (j, u) → i ≤ j ∧ ∃ p, ys[j - i]? = some p ∧ p.1 = k ∧ fv p.2 = u
  | [], i, j, u, h => by simp [mfind] at h
  | (a, b) :: r, i, j, u, h => by
    simp only [List.map_cons, mfind] at h
    by_cases c : k = a
    · simp only [c, if_true, Option.some.injEq, Prod.mk.injEq] at h
      obtain ⟨rfl, rfl⟩ := h
      exact ⟨Nat.le_refl _, (a, b), by simp, c.symm, rfl⟩
    · simp only [c, if_false] at h
      obtain ⟨h1, p, h2, h3⟩ := mfind_at k fv r (i + 1) j u h
      refine ⟨by omega, p, ?_, h3⟩
      rw [show j - i = (j - (i + 1)) + 1 by omega]; simpa using h2
theorem run_entryPut {t kt vt : TypeId} {fk : α → Value} {fv : β → Value} {b : Nat} {xs : List (α × β)} {k : α} {sz by_ : Nat} {zv : β} [Und P t (.map kt vt)] [K : KeyOk P kt fk] [Inf P vt sz by_ (fv zv)] {w : World}
    (H : St τ (MapI fk fv b xs :: L) w) : ∃ (st : Nat) (w' : World), (Instr.mapEntry t (.map (some b)) (fk k)).run P w = .ok (.tuple #[fv ((mget k xs).getD zv), .int .i64 st]) w' ∧ St τ (MapS fk fv b (mput k ((mget k xs).getD zv) xs) k st :: L) w' := by
  obtain ⟨es, clock, ys, hb, he, hp1, hs1, hn, hc⟩ := H.mapAt
  have hf := run_findKey (P := P) K k w es.toList (ys.map fun p => (p.1, fv p.2)) (by rw [he]; simp)
  have hnd : (ys.map (·.1)).Nodup := (hp1.map _).nodup_iff.2 hs1.nodup
  have hg := mfind_get k fv ys 0
  rw [mget_perm hp1 hnd] at hg
  have hone : ∀ F h, (MapI fk fv b xs).hold F h → ∃ o1, h = PH.one b o1 := fun F h ⟨es, c, _, e, _⟩ => ⟨_, e⟩
  cases hm : mfind k (ys.map fun p => (p.1, fv p.2)) 0 with
  | none =>
    rw [hm] at hg hf; simp at hg
    have hk : mget k xs = none := by cases h : mget k xs with
      | none => rfl
      | some x => rw [h] at hg; cases hg
    have happ := mfind_none k zv fk fv ys 0 hm
    refine ⟨clock, { w with heap := w.heap.setIfInBounds b (.map (es.push { key := fk k, val := fv zv, born := clock }) (clock + 1)) }, ?_, ?_⟩
    · simp [Instr.mapEntry, run_underlying, run_getMap hb, K.check, hf, run_setMap hb, run_zero, hk, goInt]
    · rw [hk, Option.getD_none]
      refine H.setMapX hb hone fun F => ⟨_, _, mapp k zv ys, rfl, ?_, mapp_perm hp1 hs1, mput_srt hs1, ?_, ?_, es.size, { key := fk k, val := fv zv, born := clock }, (k, zv), ?_, rfl, ?_, rfl⟩
      · rw [happ]; simp [he]
      · simp only [Array.toList_push, List.map_append, List.map_cons, List.map_nil]
        rw [List.nodup_append]
        refine ⟨hn, by simp, ?_⟩
        intro a ha c hc' e
        simp at hc'; subst hc'
        obtain ⟨x, hx, rfl⟩ := List.mem_map.1 ha
        have := hc x hx; omega
      · intro e h
        simp at h
        rcases h with h | rfl
        · have := hc e (by simpa using h); omega
        · simp
      · simp
      · have hl : es.size = ys.length := by have := congrArg List.length he; simpa using this
        rw [happ, hl]; simp
  | some q =>
    rw [hm] at hg hf; simp at hg
    obtain ⟨x, h1, h2⟩ : ∃ x, mget k xs = some x ∧ fv x = q.2 := by cases h : mget k xs with
      | none => rw [h] at hg; cases hg
      | some x => rw [h] at hg; simp at hg; exact ⟨x, rfl, hg.symm⟩
    obtain ⟨_, p, p1, p2, p3⟩ := mfind_at k fv ys 0 q.1 q.2 (by rw [hm])
    simp only [Nat.sub_zero] at p1
    have hgy : mget k ys = some p.2 := (mget_mem hnd).2 (by have := List.mem_of_getElem? p1; rw [← p2]; exact this)
    rw [mget_perm hp1 hnd, h1] at hgy
    have hxp : x = p.2 := Option.some.inj hgy
    obtain ⟨e, e1⟩ : ∃ e, es[q.1]? = some e := by
      have hl : es.size = ys.length := by have := congrArg List.length he; simpa using this
      have : q.1 < ys.length := by
        rcases Nat.lt_or_ge q.1 ys.length with h | h
        · exact h
        · rw [List.getElem?_eq_none h] at p1; cases p1
      exact ⟨es[q.1]'(by omega), by simp [show q.1 < es.size by omega]⟩
    have e2 : e.key = fk p.1 ∧ e.val = fv p.2 := by
      have := congrArg (fun l => l[q.1]?) he
      simpa [p1, e1] using this
    have hset : mapp k x ys = ys := by
      rw [mapp_set hnd p1 p2, hxp, ← p2]
      exact List.ext_getElem? fun i => by
        rw [List.getElem?_set]
        split
        · rename_i c; subst c
          split
          · exact p1.symm
          · rename_i c; rw [List.getElem?_eq_none (by omega)]
        · rfl
    have hmod : (es.modify q.1 fun e => { e with key := fk k }).toList.map (fun e => (e.key, e.val)) = ys.map (fun p => (fk p.1, fv p.2)) := by
      rw [← he]
      apply List.ext_getElem?; intro i
      simp only [List.getElem?_map, Array.getElem?_toList, Array.getElem?_modify]
      by_cases c : q.1 = i
      · subst c; simp [e1, e2.1, p2]
      · simp [c]
    refine ⟨e.born, { w with heap := w.heap.setIfInBounds b (.map (es.modify q.1 fun e => { e with key := fk k }) clock) }, ?_, ?_⟩
    · simp [Instr.mapEntry, run_underlying, run_getMap hb, K.check, hf, e1, e2.1, p2, Instr.keyThatStays, K.same, run_setMap hb, h1, h2, goInt]
    · rw [h1, Option.getD_some]
      have hm2 := mapp_perm (k := k) (v := x) hp1 hs1
      rw [hset] at hm2
      refine H.setMapX hb hone fun F => ⟨_, _, ys, rfl, hmod, hm2, mput_srt hs1, ?_, ?_, q.1, { e with key := fk k }, p, by simp [Array.getElem?_modify, e1], rfl, p1, p2⟩
      · have : ((es.modify q.1 fun e => { e with key := fk k }).toList.map MapEntry.born) = es.toList.map MapEntry.born := by
          apply List.ext_getElem?; intro i
          simp only [List.getElem?_map, Array.getElem?_toList, Array.getElem?_modify]
          by_cases c : q.1 = i
          · subst c; simp [e1]
          · simp [c]
        rw [this]; exact hn
      · intro x hx
        have : x ∈ es.modify q.1 (fun e => { e with key := fk k }) := Array.mem_toList_iff.1 hx
        obtain ⟨i, hi, rfl⟩ := Array.mem_iff_getElem.1 this
        simp only [Array.getElem_modify]
        have hi' : i < es.size := by simpa using hi
        have := hc es[i] (by simp)
        split
        · exact this
        · exact this
theorem o_mapEntry (fk : α → Value) (fv : β → Value) (zv : β) (k : α) {t kt vt : TypeId} {x ix : Operand} {b : Nat} {xs : List (α × β)} {sz by_ : Nat} {L1 : List Itm} [Und P t (.map kt vt)] [KeyOk P kt fk] [Inf P vt sz by_ (fv zv)]
    (hx : ev m x = some (.map (some b))) (hi : ev m ix = some (fk k)) [s : UpdM L fk fv b xs L1] (hd : Nat.blt d N = true) (n : ∀ st : Nat, G τ N κ ((d, .tuple #[fv ((mget k xs).getD zv), .int .i64 st]) :: m) (MapS fk fv b (mput k ((mget k xs).getD zv) xs) k st :: L1)) :
    G τ N (opK P ⟨some d, .mapEntry t x ix, ty, pos, af, g⟩ κ Q) m L := by
  refine G.step_new (v := fun st : Nat => .tuple #[fv ((mget k xs).getD zv), .int .i64 st]) (L' := fun st => MapS fk fv b (mput k ((mget k xs).getD zv) xs) k st :: L1) rfl hd (fun a w hK hS => ?_) n
  obtain ⟨st, w', e, H⟩ := run_entryPut (P := P) (t := t) (k := k) (zv := zv) (St.mapI (fk := fk) (fv := fv) (b := b) hS)
  exact ⟨st, w', by simp [execOp, hK.eval hx, hK.eval hi, e], H⟩
theorem find_idx {st : Nat} : ∀ {es : List MapEntry} {i : Nat} {e : MapEntry}, (es.map MapEntry.born).Nodup → es[i]? = some e → e.born = st → es.findIdx? (fun e => ((e.born : Int) == (st : Int))) = some i
  | [], i, e, _, h, _ => by simp at h
  | a :: r, 0, e, hn, h, hk => by
    have h2 : a = e := by simpa using h
    subst h2; rw [List.findIdx?_cons]; simp [hk]
  | a :: r, i + 1, e, hn, h, hk => by
    simp only [List.map_cons, List.nodup_cons] at hn
    have h' : r[i]? = some e := by simpa using h
    have : ¬ a.born = st := fun c => hn.1 (List.mem_map.2 ⟨e, List.mem_of_getElem? h', hk.trans c.symm⟩)
    rw [List.findIdx?_cons, find_idx hn.2 h' hk]
    have : ((a.born : Int) == (st : Int)) = false := beq_false_of_ne (by omega)
    simp [this]
theorem o_entryStore (fk : α → Value) (fv : β → Value) (v : β) {t : TypeId} {x ix y : Operand} {b : Nat} {xs : List (α × β)} {k : α} {st : Nat} {L1 : List Itm} (hx : ev m x = some (.map (some b))) (hi : ev m ix = some (.int .i64 st)) (hy : ev m y = some (fv v)) [s : UpdS L fk fv b xs k st L1]
    (n : G τ N κ m (MapI fk fv b (mput k v xs) :: L1)) : G τ N (opK P ⟨none, .entryStore t x ix y, ty, pos, af, g⟩ κ Q) m L := by
  refine .step_skip rfl (fun a w hK hS => ?_) n
  have H : St τ (MapS fk fv b xs k st :: L1) w := let ⟨F, h, a, b', c, d, e⟩ := hS; ⟨F, h, a, b', c, s.out d, e⟩
  obtain ⟨F, h, _, lh, es, clock, ys, rfl, he, hp1, hs1, hn, hc, i, e, p, e1, e2, e3, e4⟩ := H.get
  have hb : w.heap[b]? = some (.map es clock) := lh _ _ (PH.one_at _ _)
  have hfi : es.findIdx? (fun e => ((e.born : Int) == (st : Int))) = some i := by
    have q := find_idx (es := es.toList) hn (by simpa using e1) e2
    rw [← List.findIdx?_toArray] at q; exact q
  have hnd : (ys.map (·.1)).Nodup := (hp1.map _).nodup_iff.2 hs1.nodup
  have hk : e.key = fk k := by
    have := congrArg (fun l => l[i]?) he
    have q : e.key = fk p.1 ∧ e.val = fv p.2 := by simpa [e3, e1] using this
    rw [q.1, e4]
  refine ⟨{ w with heap := w.heap.setIfInBounds b (.map (es.modify i fun e => { e with val := fv v }) clock) }, by simp [execOp, hK.eval hx, hK.eval hi, hK.eval hy, Instr.entryStore, run_getMap hb, asInt, asIntOf, hfi, run_setMap hb], ?_⟩
  refine H.setMapX hb (fun F h ⟨es, c, _, e, _⟩ => ⟨_, e⟩) fun F => ⟨_, _, mapp k v ys, rfl, ?_, mapp_perm hp1 hs1, mput_srt hs1, ?_, ?_⟩
  · rw [mapp_set hnd e3 e4]
    apply List.ext_getElem?; intro j
    have hj := congrArg (fun l => l[j]?) he
    simp only [List.getElem?_map, Array.getElem?_toList] at hj
    simp only [List.getElem?_map, Array.getElem?_toList, Array.getElem?_modify, List.getElem?_set]
    have hil : i < ys.length := by
      rcases Nat.lt_or_ge i ys.length with h | h
      · exact h
      · rw [List.getElem?_eq_none h] at e3; cases e3
    by_cases c : i = j
    · subst c; simp [e1, hk, hil]
    · simp [c, hj]
  · have : ((es.modify i fun e => { e with val := fv v }).toList.map MapEntry.born) = es.toList.map MapEntry.born := by
      apply List.ext_getElem?; intro j
      simp only [List.getElem?_map, Array.getElem?_toList, Array.getElem?_modify]
      by_cases c : i = j
      · subst c; simp [e1]
      · simp [c]
    rw [this]; exact hn
  · intro x hx
    have : x ∈ es.modify i (fun e => { e with val := fv v }) := Array.mem_toList_iff.1 hx
    obtain ⟨j, hj, rfl⟩ := Array.mem_iff_getElem.1 this
    simp only [Array.getElem_modify]
    have hj' : j < es.size := by simpa using hj
    have := hc es[j] (by simp)
    split
    · exact this
    · exact this
end ops
end
end Go.Proofs.YtbkojmcppeflbaaDoor
