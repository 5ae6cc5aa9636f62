/- The symbolic layer: maps that one call owns. -/
import Derived.Test.YtbkojmcppeflbaaDoorSl8
namespace Go.Proofs.YtbkojmcppeflbaaDoor
open Go
set_option linter.unusedVariables false
set_option linter.unusedSimpArgs false
set_option linter.unusedSectionVars false
set_option linter.unnecessarySimpa false
variable {P : Program} {τ : Meta} {N : Nat} {Q : Exit → Act → World → Prop} {m : List (Nat × Value)} {L : List Itm} {κ : Act → World → Prop}
/-! ## Plain maps -/
def mget {α β : Type} [DecidableEq α] (k : α) : List (α × β) → Option β
  | [] => none
  | (a, b) :: r => if k = a then some b else mget k r
/-- Keys in a row. -/
class LinKey (α : Type) where
  lt : α → α → Bool
  irr : ∀ a, lt a a = false
  tr : ∀ a b c, lt a b = true → lt b c = true → lt a c = true
  tri : ∀ a b, lt a b = false → lt b a = false → a = b
instance : LinKey Int := ⟨fun a b => decide (a < b), fun a => by simp, fun a b c => by simp; omega, fun a b => by simp; omega⟩
instance : LinKey Bool := ⟨fun a b => !a && b, fun a => by cases a <;> rfl, fun a b c => by cases a <;> cases b <;> cases c <;> simp, fun a b => by cases a <;> cases b <;> simp⟩
instance {α β : Type} [DecidableEq α] [k : LinKey α] [l : LinKey β] : LinKey (α × β) :=
  ⟨fun a b => k.lt a.1 b.1 || (decide (a.1 = b.1) && l.lt a.2 b.2), fun a => by simp [k.irr, l.irr],
   fun a b c => by
    simp only [Bool.or_eq_true, Bool.and_eq_true, decide_eq_true_eq]
    rintro (h | ⟨h, h'⟩) (g | ⟨g, g'⟩)
    · exact .inl (k.tr _ _ _ h g)
    · exact .inl (g ▸ h)
    · exact .inl (h ▸ g)
    · exact .inr ⟨h.trans g, l.tr _ _ _ h' g'⟩,
   fun a b => by
    simp only [Bool.or_eq_false_iff, Bool.and_eq_false_iff, decide_eq_false_iff_not]
    rintro ⟨h1, h2⟩ ⟨g1, g2⟩
    have e := k.tri _ _ h1 g1
    exact Prod.ext e (l.tri _ _ (h2.resolve_left (fun n => n e)) (g2.resolve_left (fun n => n e.symm)))⟩
instance : LinKey ByteArray := ⟨fun a b => decide (a.data.toList < b.data.toList), fun a => by simp [List.lt_irrefl],
  fun a b c => by simp only [decide_eq_true_eq]; exact List.lt_trans,
  fun a b => by
    simp only [decide_eq_false_iff_not]
    intro h g
    have := List.le_antisymm (List.not_lt.1 g) (List.not_lt.1 h)
    exact ByteArray.ext (Array.toList_inj.1 this)⟩
def mput {α β : Type} [DecidableEq α] [LinKey α] (k : α) (v : β) : List (α × β) → List (α × β)
  | [] => [(k, v)]
  | (a, b) :: r => if k = a then (k, v) :: r else if LinKey.lt k a then (k, v) :: (a, b) :: r else (a, b) :: mput k v r
/-- The way that the machine's map goes: in place, or behind all. -/
def mapp {α β : Type} [DecidableEq α] (k : α) (v : β) : List (α × β) → List (α × β)
  | [] => [(k, v)]
  | (a, b) :: r => if k = a then (k, v) :: r else (a, b) :: mapp k v r
section
variable {α β : Type} [DecidableEq α]
theorem mget_mem {k : α} {v : β} : ∀ {xs : List (α × β)}, (xs.map (·.1)).Nodup → (mget k xs = some v ↔ (k, v) ∈ xs)
  | [], _ => by simp [mget]
  | (a, b) :: r, h => by
    simp only [List.map_cons, List.nodup_cons] at h
    simp only [mget, List.mem_cons, Prod.mk.injEq]
    by_cases c : k = a
    · subst c
      simp only [if_true, Option.some.injEq, true_and]
      constructor
      · rintro rfl; exact .inl rfl
      · rintro (e | e)
        · exact e.symm
        · exact absurd (List.mem_map.2 ⟨_, e, rfl⟩) h.1
    · simp only [c, if_false, false_and, false_or]; exact mget_mem h.2
theorem mget_perm {k : α} {xs ys : List (α × β)} (p : xs.Perm ys) (h : (xs.map (·.1)).Nodup) : mget k xs = mget k ys := by
  have h' : (ys.map (·.1)).Nodup := (p.map _).nodup_iff.1 h
  cases e : mget k xs with
  | none =>
    cases e' : mget k ys with
    | none => rfl
    | some v => rw [mget_mem h'] at e'; rw [(mget_mem h).2 (p.mem_iff.2 e')] at e; cases e
  | some v => rw [mget_mem h] at e; exact ((mget_mem h').2 (p.mem_iff.1 e)).symm
theorem mapp_keys (k : α) (v : β) : ∀ (xs : List (α × β)), (mapp k v xs).map (·.1) = if k ∈ xs.map (·.1) then xs.map (·.1) else xs.map (·.1) ++ [k]
  | [] => by simp [mapp]
  | (a, b) :: r => by
    simp only [mapp]
    by_cases c : k = a
    · subst c; simp
    · simp only [c, if_false, List.map_cons, mapp_keys k v r, List.mem_cons, false_or]
      split <;> simp
theorem mapp_nodup {k : α} {v : β} {xs : List (α × β)} (h : (xs.map (·.1)).Nodup) : ((mapp k v xs).map (·.1)).Nodup := by
  rw [mapp_keys]
  split
  · exact h
  · rename_i n
    rw [List.nodup_append]
    exact ⟨h, by simp, fun a ha b hb e => by simp at hb; subst hb; subst e; exact n ha⟩
theorem mapp_mem {k : α} {v : β} : ∀ {xs : List (α × β)}, (xs.map (·.1)).Nodup → ∀ p, p ∈ mapp k v xs ↔ p = (k, v) ∨ (p ∈ xs ∧ p.1 ≠ k)
  | [], _, p => by simp [mapp]
  | (a, b) :: r, h, p => by
    simp only [List.map_cons, List.nodup_cons] at h
    simp only [mapp]
    by_cases c : k = a
    · subst c
      simp only [if_true, List.mem_cons]
      constructor
      · rintro (e | e)
        · exact .inl e
        · exact .inr ⟨.inr e, fun n => h.1 (List.mem_map.2 ⟨p, e, n⟩)⟩
      · rintro (e | ⟨e | e, n⟩)
        · exact .inl e
        · subst e; exact absurd rfl n
        · exact .inr e
    · simp only [c, if_false, List.mem_cons, mapp_mem h.2 p]
      constructor
      · rintro (e | e | ⟨e, n⟩)
        · exact .inr ⟨.inl e, fun n => c (by rw [← n, e])⟩
        · exact .inl e
        · exact .inr ⟨.inr e, n⟩
      · rintro (e | ⟨e | e, n⟩)
        · exact .inr (.inl e)
        · exact .inl e
        · exact .inr (.inr ⟨e, n⟩)
variable [LinKey α]
def Srt (xs : List (α × β)) : Prop := xs.Pairwise fun a b => LinKey.lt a.1 b.1 = true
theorem Srt.nodup {xs : List (α × β)} (h : Srt xs) : (xs.map (·.1)).Nodup := by
  rw [List.nodup_iff_pairwise_ne, List.pairwise_map]
  exact List.Pairwise.imp (fun {a b} l e => by rw [e, LinKey.irr] at l; cases l) h
theorem mput_mem {k : α} {v : β} : ∀ {xs : List (α × β)}, Srt xs → ∀ p, p ∈ mput k v xs ↔ p = (k, v) ∨ (p ∈ xs ∧ p.1 ≠ k)
  | [], _, p => by simp [mput]
  | (a, b) :: r, h, p => by
    have hn := h.nodup
    simp only [List.map_cons, List.nodup_cons] at hn
    have h' := List.pairwise_cons.1 h
    simp only [mput]
    by_cases c : k = a
    · subst c
      simp only [if_true, List.mem_cons]
      constructor
      · rintro (e | e)
        · exact .inl e
        · exact .inr ⟨.inr e, fun n => hn.1 (List.mem_map.2 ⟨p, e, n⟩)⟩
      · rintro (e | ⟨e | e, n⟩)
        · exact .inl e
        · subst e; exact absurd rfl n
        · exact .inr e
    · by_cases l : LinKey.lt k a = true
      · simp only [c, l, if_true, if_false, List.mem_cons]
        constructor
        · rintro (e | e | e)
          · exact .inl e
          · exact .inr ⟨.inl e, fun n => c (by rw [← n, e])⟩
          · refine .inr ⟨.inr e, fun n => ?_⟩
            have := LinKey.tr _ _ _ l (h'.1 p e)
            rw [n, LinKey.irr] at this; cases this
        · rintro (e | ⟨e | e, n⟩)
          · exact .inl e
          · exact .inr (.inl e)
          · exact .inr (.inr e)
      · simp only [c, l, if_false, List.mem_cons, mput_mem h'.2 p, Bool.false_eq_true]
        constructor
        · rintro (e | e | ⟨e, n⟩)
          · exact .inr ⟨.inl e, fun n => c (by rw [← n, e])⟩
          · exact .inl e
          · exact .inr ⟨.inr e, n⟩
        · rintro (e | ⟨e | e, n⟩)
          · exact .inr (.inl e)
          · exact .inl e
          · exact .inr (.inr ⟨e, n⟩)
theorem mput_srt {k : α} {v : β} : ∀ {xs : List (α × β)}, Srt xs → Srt (mput k v xs)
  | [], _ => by simp [mput, Srt]
  | (a, b) :: r, h => by
    have h' := List.pairwise_cons.1 h
    simp only [mput]
    by_cases c : k = a
    · subst c; simp only [if_true]; exact List.pairwise_cons.2 ⟨h'.1, h'.2⟩
    · by_cases l : LinKey.lt k a = true
      · simp only [c, l, if_true, if_false]
        refine List.pairwise_cons.2 ⟨?_, h⟩
        intro p hp
        rcases List.mem_cons.1 hp with e | e
        · subst e; exact l
        · exact LinKey.tr _ _ _ l (h'.1 p e)
      · simp only [c, l, if_false, Bool.false_eq_true]
        refine List.pairwise_cons.2 ⟨?_, mput_srt h'.2⟩
        intro p hp
        rcases (mput_mem h'.2 p).1 hp with e | ⟨e, _⟩
        · subst e
          cases hl : LinKey.lt a k with
          | true => rfl
          | false => exact absurd (LinKey.tri _ _ (by simpa using l) hl) c
        · exact h'.1 p e
theorem nodup_of_keys {xs : List (α × β)} (h : (xs.map (·.1)).Nodup) : xs.Nodup := by
  rw [List.nodup_iff_pairwise_ne] at h ⊢
  rw [List.pairwise_map] at h
  exact List.Pairwise.imp (fun {a b} n e => n (by rw [e])) h
theorem mapp_perm {k : α} {v : β} {xs ys : List (α × β)} (p : xs.Perm ys) (h : Srt ys) : (mapp k v xs).Perm (mput k v ys) := by
  have hx : (xs.map (·.1)).Nodup := (p.map _).nodup_iff.2 h.nodup
  refine (List.perm_ext_iff_of_nodup (nodup_of_keys (mapp_nodup hx)) (nodup_of_keys (mput_srt h).nodup)).2 fun q => ?_
  rw [mapp_mem hx, mput_mem h, p.mem_iff]
end
/-- How keys of a type are told apart. -/
class KeyOk {α : Type} [DecidableEq α] (P : Program) (t : TypeId) (fk : α → Value) : Prop where
  eq : ∀ a b w, (Op.equal t (fk a) (fk b)).run P w = .ok (decide (a = b)) w
  now : ∃ u, P.underlying t = some u ∧ ((∀ a b, Instr.sameNow u (fk a) (fk b) = some (decide (a = b))) ∨ (∀ a b, Instr.sameNow u (fk a) (fk b) = none))
  check : ∀ e k w, (Instr.checkKey e 10000 t (fk k)).run P w = .ok () w
  same : ∀ a, Instr.sameBits 10000 (fk a) (fk a) = true
set_option linter.unusedSectionVars false
section
variable {α β : Type} [DecidableEq α]
def mfind (k : α) : List (α × Value) → Nat → Option (Nat × Value)
  | [], _ => none
  | (a, v) :: r, i => if k = a then some (i, v) else mfind k r (i + 1)
theorem run_asking {t : TypeId} {fk : α → Value} (K : KeyOk P t fk) (k : α) (w : World) : ∀ (es : List MapEntry) (xs : List (α × Value)) (i : Nat), es.map (fun e => (e.key, e.val)) = xs.map (fun p => (fk p.1, p.2)) →
    (Instr.findAsking t (fk k) es i).run P w = .ok (mfind k xs i) w
  | [], [], i, _ => by simp [Instr.findAsking, mfind]
  | [], _ :: _, i, h => by simp at h
  | _ :: _, [], i, h => by simp at h
  | e :: es, (a, v) :: xs, i, h => by
    simp only [List.map_cons, List.cons.injEq, Prod.mk.injEq] at h
    obtain ⟨⟨h1, h2⟩, h3⟩ := h
    simp only [Instr.findAsking, Sem.run_bind, h1, K.eq, Result.andThen_ok, Sem.run_ite, decide_eq_true_eq, mfind]
    by_cases c : k = a
    · simp [c, h2]
    · simp only [c, if_false]; exact run_asking K k w es xs (i + 1) h3
theorem findNow_eq {u : TypeDesc} {fk : α → Value} (H : ∀ a b, Instr.sameNow u (fk a) (fk b) = some (decide (a = b))) (k : α) : ∀ (es : List MapEntry) (xs : List (α × Value)) (i : Nat), es.map (fun e => (e.key, e.val)) = xs.map (fun p => (fk p.1, p.2)) →
    Instr.findNow u (fk k) es i = some (mfind k xs i)
  | [], [], i, _ => by simp [Instr.findNow, mfind]
  | [], _ :: _, i, h => by simp at h
  | _ :: _, [], i, h => by simp at h
  | e :: es, (a, v) :: xs, i, h => by
    simp only [List.map_cons, List.cons.injEq, Prod.mk.injEq] at h
    obtain ⟨⟨h1, h2⟩, h3⟩ := h
    simp only [Instr.findNow, h1, H, mfind]
    by_cases c : k = a
    · simp [c, h2]
    · simp only [c, decide_false, if_false]; exact findNow_eq H k es xs (i + 1) h3
theorem findNow_none {u : TypeDesc} {fk : α → Value} (H : ∀ a b, Instr.sameNow u (fk a) (fk b) = none) (k : α) : ∀ (es : List MapEntry) (xs : List (α × Value)) (i : Nat), es.map (fun e => (e.key, e.val)) = xs.map (fun p => (fk p.1, p.2)) →
    Instr.findNow u (fk k) es i = none ∨ es = []
  | [], _, i, _ => .inr rfl
  | _ :: _, [], i, h => by simp at h
  | e :: es, (a, v) :: xs, i, h => by
    simp only [List.map_cons, List.cons.injEq, Prod.mk.injEq] at h
    left; simp only [Instr.findNow, h.1.1, H]
theorem run_findKey {t : TypeId} {fk : α → Value} (K : KeyOk P t fk) (k : α) (w : World) (es : List MapEntry) (xs : List (α × Value)) (h : es.map (fun e => (e.key, e.val)) = xs.map (fun p => (fk p.1, p.2))) :
    (Instr.findKey t (fk k) es).run P w = .ok (mfind k xs 0) w := by
  obtain ⟨u, hu, H⟩ := K.now
  haveI : Und P t u := ⟨hu⟩
  unfold Instr.findKey
  simp only [Sem.run_bind, run_underlying, Result.andThen_ok]
  rcases H with H | H
  · rw [findNow_eq H k es xs 0 h]; rfl
  · rcases findNow_none H k es xs 0 h with e | rfl
    · rw [e]; exact run_asking K k w es xs 0 h
    · have : xs = [] := by simpa using h
      subst this; simp [Instr.findNow, mfind]
theorem mfind_get (k : α) (fv : β → Value) : ∀ (xs : List (α × β)) (i : Nat), (mfind k (xs.map fun p => (p.1, fv p.2)) i).map (·.2) = (mget k xs).map fv
  | [], _ => rfl
  | (a, b) :: r, i => by
    simp only [List.map_cons, mfind, mget]
    by_cases c : k = a
    · simp [c]
    · simp only [c, if_false]; exact mfind_get k fv r (i + 1)
/-- Where a key is put. -/
theorem mfind_put (k : α) (v : β) (fk : α → Value) (fv : β → Value) : ∀ (es : List MapEntry) (xs : List (α × β)) (i j : Nat) (u : Value), es.map (fun e => (e.key, e.val)) = xs.map (fun p => (fk p.1, fv p.2)) →
    mfind k (xs.map fun p => (p.1, fv p.2)) i = some (j, u) → i ≤ j ∧ (∃ e, es[j - i]? = some e ∧ e.key = fk k) ∧
      (es.modify (j - i) fun e => { e with key := fk k, val := fv v }).map (fun e => (e.key, e.val)) = (mapp k v xs).map (fun p => (fk p.1, fv p.2))
  | [], [], i, j, u, _, h => by simp [mfind] at h
  | [], _ :: _, i, j, u, h, _ => by simp at h
  | _ :: _, [], i, j, u, h, _ => by simp at h
  | e :: es, (a, b) :: xs, i, j, u, h, hf => by
    simp only [List.map_cons, List.cons.injEq, Prod.mk.injEq] at h
    simp only [List.map_cons, mfind] at hf
    by_cases c : k = a
    · simp only [c, if_true, Option.some.injEq, Prod.mk.injEq] at hf
      obtain ⟨rfl, _⟩ := hf
      subst c
      exact ⟨Nat.le_refl _, ⟨e, by simp, h.1.1⟩, by simp [mapp, h.2]⟩
    · simp only [c, if_false] at hf
      obtain ⟨h1, ⟨e', h2, h2'⟩, h3⟩ := mfind_put k v fk fv es xs (i + 1) j u h.2 hf
      obtain ⟨n, hn⟩ : ∃ n, j - i = n + 1 := ⟨j - i - 1, by omega⟩
      have hn' : j - (i + 1) = n := by omega
      rw [hn'] at h2 h3
      exact ⟨by omega, ⟨e', by rw [hn]; simpa using h2, h2'⟩, by rw [hn]; simp [mapp, c, h.1.1, h.1.2, h3]⟩
theorem mfind_none (k : α) (v : β) (fk : α → Value) (fv : β → Value) : ∀ (xs : List (α × β)) (i : Nat), mfind k (xs.map fun p => (p.1, fv p.2)) i = none →
    (mapp k v xs) = xs ++ [(k, v)]
  | [], i, _ => rfl
  | (a, b) :: xs, i, hf => by
    simp only [List.map_cons, mfind] at hf
    by_cases c : k = a
    · simp [c] at hf
    · simp only [c, if_false] at hf
      simp [mapp, c, mfind_none k v fk fv xs (i + 1) hf]
end
/-- A map that the call owns. -/
def MapI {α β : Type} [DecidableEq α] [LinKey α] (fk : α → Value) (fv : β → Value) (b : Nat) (xs : List (α × β)) : Itm :=
  ⟨false, fun _ h => ∃ (es : Array MapEntry) (clock : Nat) (ys : List (α × β)), h = PH.one b (.map es clock) ∧ es.toList.map (fun e => (e.key, e.val)) = ys.map (fun p => (fk p.1, fv p.2)) ∧ ys.Perm xs ∧ Srt xs ∧
      (es.toList.map MapEntry.born).Nodup ∧ ∀ e ∈ es.toList, e.born < clock, fun _ h => h, fun e => by cases e⟩
class UpdM {α β : Type} [DecidableEq α] [LinKey α] (L : List Itm) (fk : α → Value) (fv : β → Value) (b : Nat) (xs : outParam (List (α × β))) (L1 : outParam (List Itm)) : Prop where
  out : ∀ {F h : PH}, SepL F L h → SepL F (MapI fk fv b xs :: L1) h
instance (priority := 1000) UpdM.here {α β : Type} [DecidableEq α] [LinKey α] {fk : α → Value} {fv : β → Value} {b : Nat} {xs : List (α × β)} {L : List Itm} : UpdM (MapI fk fv b xs :: L) fk fv b xs L := ⟨fun H => H⟩
instance (priority := 100) UpdM.there {α β : Type} [DecidableEq α] [LinKey α] {fk : α → Value} {fv : β → Value} {b : Nat} {xs : List (α × β)} {y : Itm} {L L1 : List Itm} [s : UpdM L fk fv b xs L1] : UpdM (y :: L) fk fv b xs (y :: L1) :=
  ⟨fun ⟨h1, h2, i, k, d, e⟩ => SepL.swap ⟨h1, h2, i, s.out k, d, e⟩⟩
theorem St.mapI {α β : Type} [DecidableEq α] [LinKey α] {fk : α → Value} {fv : β → Value} {b : Nat} {xs : List (α × β)} {L1 : List Itm} {w : World} [s : UpdM L fk fv b xs L1] (H : St τ L w) : St τ (MapI fk fv b xs :: L1) w :=
  let ⟨F, h, a, b', c, d, e⟩ := H; ⟨F, h, a, b', c, s.out d, e⟩
theorem St.mapAt {α β : Type} [DecidableEq α] [LinKey α] {fk : α → Value} {fv : β → Value} {b : Nat} {xs : List (α × β)} {w : World} (H : St τ (MapI fk fv b xs :: L) w) :
    ∃ (es : Array MapEntry) (clock : Nat) (ys : List (α × β)), w.heap[b]? = some (.map es clock) ∧ es.toList.map (fun e => (e.key, e.val)) = ys.map (fun p => (fk p.1, fv p.2)) ∧ ys.Perm xs ∧ Srt xs ∧ (es.toList.map MapEntry.born).Nodup ∧ ∀ e ∈ es.toList, e.born < clock := by
  obtain ⟨F, h, _, lh, es, clock, ys, rfl, e⟩ := H.get
  exact ⟨es, clock, ys, lh _ _ (PH.one_at _ _), e⟩
theorem run_getMap {w : World} {b : Nat} {es : Array MapEntry} {c : Nat} (h : w.heap[b]? = some (.map es c)) : (getObj b).run P w = .ok (.map es c) w := by simp only [getObj, Sem.run, h]
theorem run_setMap {w : World} {b : Nat} {es : Array MapEntry} {c : Nat} (h : w.heap[b]? = some (.map es c)) (o : Obj) : (setObj b o).run P w = .ok () { w with heap := w.heap.setIfInBounds b o } := by
  simp only [setObj, Sem.run, h]
theorem St.setMap {α β : Type} [DecidableEq α] [LinKey α] {fk : α → Value} {fv : β → Value} {b : Nat} {xs ys : List (α × β)} {w : World} (H : St τ (MapI fk fv b xs :: L) w) {es : Array MapEntry} {c : Nat} {zs : List (α × β)}
    (h1 : es.toList.map (fun e => (e.key, e.val)) = zs.map (fun p => (fk p.1, fv p.2))) (hp1 : zs.Perm ys) (hs1 : Srt ys) (h2 : (es.toList.map MapEntry.born).Nodup) (h3 : ∀ e ∈ es.toList, e.born < c) :
    St τ (MapI fk fv b ys :: L) { w with heap := w.heap.setIfInBounds b (.map es c) } := by
  obtain ⟨es0, c0, _, hb, _⟩ := H.mapAt
  have hlt : b < w.heap.size := by
    rcases Nat.lt_or_ge b w.heap.size with h | h
    · exact h
    · rw [Array.getElem?_eq_none h] at hb; cases hb
  refine H.update rfl ?_
  rintro F h ⟨es1, c1, _, rfl, _⟩ l
  refine ⟨PH.one b _, ⟨es, c, zs, rfl, h1, hp1, hs1, h2, h3⟩, ?_, ?_⟩
  · intro d x hd
    by_cases e : d = b
    · subst e; rw [PH.one_at] at hd; cases hd; simp [hp, hlt]
    · simp [PH.one, e] at hd
  · intro d hd _
    have e : d ≠ b := fun e => by subst e; rw [PH.one_at] at hd; cases hd
    exact ⟨by simp [hp, Array.getElem?_setIfInBounds_ne (Ne.symm e)], by simp [PH.one, e]⟩
section ops
variable {d : Nat} {ty : TypeId} {pos : String} {af : Array Edge} {g : Option (Nat × Bool)} {α β : Type} [DecidableEq α] [LinKey α]
theorem o_makeMap (fk : α → Value) (fv : β → Value) {t : TypeId} (hd : Nat.blt d N = true) (n : ∀ b : Nat, G τ N κ ((d, .map (some b)) :: m) (MapI fk fv b ([] : List (α × β)) :: L)) :
    G τ N (opK P ⟨some d, .makeMap t none, ty, pos, af, g⟩ κ Q) m L := by
  refine G.step_new (v := fun b : Nat => .map (some b)) (L' := fun b => MapI fk fv b [] :: L) rfl hd (fun a w hK hS => ⟨w.heap.size, { w with heap := w.heap.push (.map #[] 0) }, by
    simp [execOp, Instr.makeMap], ?_⟩) n
  refine hS.fresh rfl ?_ ?_
  · intro b hb
    simp only [hp] at *
    have : b < w.heap.size := by
      rcases Nat.lt_or_ge b w.heap.size with h | h
      · exact h
      · simp [Array.getElem?_eq_none h] at hb
    rw [Array.getElem?_push, if_neg (by omega)]
  · intro F _
    refine ⟨PH.one w.heap.size _, ⟨#[], 0, [], rfl, by simp, List.Perm.refl _, by simp [Srt], by simp, by simp⟩, ?_, ?_⟩
    · intro c x hc
      by_cases e : c = w.heap.size
      · subst e; rw [PH.one_at] at hc; cases hc; simp [hp]
      · simp [PH.one, e] at hc
    · intro c hc
      have e : c = w.heap.size := by
        by_cases e : c = w.heap.size
        · exact e
        · simp [PH.one, e] at hc
      subst e; simp [hp]
theorem run_look {t kt vt : TypeId} {fk : α → Value} {fv : β → Value} {b : Nat} {xs : List (α × β)} {k : α} {sz by_ : Nat} {zv : β} [Und P t (.map kt vt)] [K : KeyOk P kt fk] [Inf P vt sz by_ (fv zv)] {w : World}
    (H : St τ (MapI fk fv b xs :: L) w) (c : Bool) : (Instr.lookup t (.map (some b)) (fk k) c).run P w =
      .ok (if c then .tuple #[fv ((mget k xs).getD zv), .bool (mget k xs).isSome] else fv ((mget k xs).getD zv)) w := by
  obtain ⟨es, clock, ys, hb, he, hp1, hs1, _, _⟩ := H.mapAt
  have hf := run_findKey (P := P) K k w es.toList (ys.map fun p => (p.1, fv p.2)) (by rw [he]; simp)
  have hg := mfind_get k fv ys 0
  rw [mget_perm hp1 ((hp1.map _).nodup_iff.2 hs1.nodup)] at hg
  cases hm : mfind k (ys.map fun p => (p.1, fv p.2)) 0 with
  | none =>
    rw [hm] at hg hf; simp at hg
    have : mget k xs = none := by cases h : mget k xs with
      | none => rfl
      | some x => rw [h] at hg; cases hg
    simp [Instr.lookup, run_underlying, run_getMap hb, K.check, hf, run_zero, this]
  | some q =>
    rw [hm] at hg hf; simp at hg
    obtain ⟨x, h1, h2⟩ : ∃ x, mget k xs = some x ∧ fv x = q.2 := by cases h : mget k xs with
      | none => rw [h] at hg; cases hg
      | some x => rw [h] at hg; simp at hg; exact ⟨x, rfl, hg.symm⟩
    simp [Instr.lookup, run_underlying, run_getMap hb, K.check, hf, h1, h2]
theorem r_look (fk : α → Value) (fv : β → Value) (zv : β) (k : α) (r : Value) {t kt vt : TypeId} {x ix : Operand} {b : Nat} {xs : List (α × β)} {sz by_ : Nat} {L1 : List Itm} [Und P t (.map kt vt)] [KeyOk P kt fk] [Inf P vt sz by_ (fv zv)]
    (hx : ev m x = some (.map (some b))) (hi : ev m ix = some (fk k)) [s : UpdM L fk fv b xs L1] (hr : fv ((mget k xs).getD zv) = r) : RunV P τ N m L ⟨some d, .lookup t x ix false, ty, pos, af, g⟩ r := fun a w hK hS => by
  subst hr
  simp [execOp, hK.eval hx, hK.eval hi, run_look (P := P) (zv := zv) (k := k) (St.mapI (fk := fk) (fv := fv) (b := b) hS) false]
theorem r_lookOk (fk : α → Value) (fv : β → Value) (zv : β) (k : α) (r : Value) {t kt vt : TypeId} {x ix : Operand} {b : Nat} {xs : List (α × β)} {sz by_ : Nat} {L1 : List Itm} [Und P t (.map kt vt)] [KeyOk P kt fk] [Inf P vt sz by_ (fv zv)]
    (hx : ev m x = some (.map (some b))) (hi : ev m ix = some (fk k)) [s : UpdM L fk fv b xs L1] (hr : fv ((mget k xs).getD zv) = r) : RunV P τ N m L ⟨some d, .lookup t x ix true, ty, pos, af, g⟩ (.tuple #[r, .bool (mget k xs).isSome]) := fun a w hK hS => by
  subst hr
  simp [execOp, hK.eval hx, hK.eval hi, run_look (P := P) (zv := zv) (k := k) (St.mapI (fk := fk) (fv := fv) (b := b) hS) true]
theorem r_lenM (fk : α → Value) (fv : β → Value) {x : Operand} {b : Nat} {xs : List (α × β)} {t kt vt : TypeId} {L1 : List Itm} [Und P t (.map kt vt)] (hx : ev m x = some (.map (some b))) [s : UpdM L fk fv b xs L1] :
    RunV P τ N m L ⟨some d, .call ⟨.builtin .len, [x].toArray, #[t]⟩, ty, pos, af, g⟩ (.int .i64 xs.length) := fun a w hK hS => by
  obtain ⟨cs, e1⟩ := run_builtin (P := P) (b := .len) (ats := #[t]) (d := some d) (ty := ty) (pos := pos) (af := af) (g := g) (args := [x]) (vs := [_]) (by simp [evs, hx]; rfl) hK w
  obtain ⟨es, clock, ys, hb, he, hp1, _⟩ := (St.mapI (fk := fk) (fv := fv) (b := b) hS).mapAt
  have : es.size = xs.length := by have := congrArg List.length he; rw [← hp1.length_eq]; simpa using this
  rw [e1]; simp [builtin, Builtin.len_, run_underlying, run_getMap hb, goInt, this]
theorem run_mapPut {t kt vt : TypeId} {fk : α → Value} {fv : β → Value} {b : Nat} {xs : List (α × β)} {k : α} {v : β} [Und P t (.map kt vt)] [K : KeyOk P kt fk] {w : World}
    (H : St τ (MapI fk fv b xs :: L) w) : ∃ w', (Instr.mapUpdate t (.map (some b)) (fk k) (fv v)).run P w = .ok () w' ∧ St τ (MapI fk fv b (mput k v xs) :: L) w' := by
  obtain ⟨es, clock, ys, hb, he, hp1, hs1, hn, hc⟩ := H.mapAt
  have hf := run_findKey (P := P) K k w es.toList (ys.map fun p => (p.1, fv p.2)) (by rw [he]; simp)
  cases hm : mfind k (ys.map fun p => (p.1, fv p.2)) 0 with
  | none =>
    rw [hm] at hf
    refine ⟨_, by simp [Instr.mapUpdate, run_underlying, run_getMap hb, K.check, hf, run_setMap hb]; rfl, H.setMap (zs := mapp k v ys) ?_ (mapp_perm hp1 hs1) (mput_srt hs1) ?_ ?_⟩
    · rw [mfind_none k v fk fv ys 0 hm]; simp [he]
    · simp only [Array.toList_push, List.map_append, List.map_cons, List.map_nil]
      rw [List.nodup_append]
      refine ⟨hn, by simp, ?_⟩
      intro a ha c hc' e
      simp at hc'; subst hc'
      obtain ⟨x, hx, rfl⟩ := List.mem_map.1 ha
      have := hc x hx; omega
    · intro e h
      simp at h
      rcases h with h | rfl
      · have := hc e (by simpa using h); omega
      · simp
  | some q =>
    rw [hm] at hf
    obtain ⟨h1, ⟨e, h2, h2'⟩, h3⟩ := mfind_put k v fk fv es.toList ys 0 q.1 q.2 he (by rw [hm])
    simp only [Nat.sub_zero] at h2 h3
    have h2a : es[q.1]? = some e := by simpa using h2
    refine ⟨_, by simp [Instr.mapUpdate, run_underlying, run_getMap hb, K.check, hf, h2a, h2', Instr.keyThatStays, K.same, run_setMap hb]; rfl, H.setMap (zs := mapp k v ys) ?_ (mapp_perm hp1 hs1) (mput_srt hs1) ?_ ?_⟩
    · simpa using h3
    · have : ((es.modify q.1 fun e => { e with key := fk k, val := fv v }).toList.map MapEntry.born) = es.toList.map MapEntry.born := by
        apply List.ext_getElem?; intro i
        simp only [List.getElem?_map, Array.getElem?_toList, Array.getElem?_modify]
        by_cases c : q.1 = i
        · subst c; simp [h2a]
        · simp [c]
      rw [this]; exact hn
    · intro x hx
      have : x ∈ es.modify q.1 (fun e => { e with key := fk k, val := fv v }) := Array.mem_toList_iff.1 hx
      obtain ⟨i, hi, rfl⟩ := Array.mem_iff_getElem.1 this
      simp only [Array.getElem_modify]
      have hi' : i < es.size := by simpa using hi
      have := hc es[i] (by simp)
      split
      · exact this
      · exact this
theorem o_mapPut (fk : α → Value) (fv : β → Value) (k : α) (v : β) {t kt vt : TypeId} {x ix y : Operand} {b : Nat} {xs : List (α × β)} {L1 : List Itm} [Und P t (.map kt vt)] [KeyOk P kt fk]
    (hx : ev m x = some (.map (some b))) (hi : ev m ix = some (fk k)) (hy : ev m y = some (fv v)) [s : UpdM L fk fv b xs L1] (n : G τ N κ m (MapI fk fv b (mput k v xs) :: L1)) :
    G τ N (opK P ⟨none, .mapUpdate t x ix y, ty, pos, af, g⟩ κ Q) m L := by
  refine .step_skip rfl (fun a w hK hS => ?_) n
  obtain ⟨w', e, H⟩ := run_mapPut (P := P) (t := t) (k := k) (v := v) (St.mapI (fk := fk) (fv := fv) (b := b) hS)
  exact ⟨w', by simp [execOp, hK.eval hx, hK.eval hi, hK.eval hy, e], H⟩
end ops
/-! keys -/
theorem sameInt (n : Nat) (k : IntKind) (a : Int) : Instr.sameBits n (.int k a) (.int k a) = true := by cases n <;> simp [Instr.sameBits]
theorem sameBool (n : Nat) (a : Bool) : Instr.sameBits n (.bool a) (.bool a) = true := by cases n <;> simp [Instr.sameBits]
theorem sameAgg (n : Nat) (vs : List Value) (h : ∀ v ∈ vs, Instr.sameBits n v v = true) : Instr.sameBits (n + 1) (.agg vs.toArray) (.agg vs.toArray) = true := by
  simp only [Instr.sameBits, BEq.rfl, Bool.true_and, List.all_eq_true]
  intro p hp
  have : p.1 = p.2 ∧ p.1 ∈ vs := by
    clear h
    induction vs with
    | nil => simp at hp
    | cons v vs ih =>
      simp only [List.zip_cons_cons, List.mem_cons] at hp
      rcases hp with rfl | hp
      · simp
      · have := ih (by simpa using hp); exact ⟨this.1, List.mem_cons_of_mem _ this.2⟩
  obtain ⟨a, b⟩ := p
  obtain ⟨h1, h2⟩ := this
  simp only at h1 h2 ⊢
  rw [← h1]; exact h a h2
theorem checkLeaf {P : Program} {t : TypeId} {u : TypeDesc} [h : Und P t u] (hu : (match u with | .interface _ | .array _ _ | .struct _ => false | _ => true) = true) (e : Bool) (n : Nat) (v : Value) (w : World) : (Instr.checkKey e (n + 1) t v).run P w = .ok () w := by
  unfold Instr.checkKey
  simp only [Sem.run_bind, run_underlying, Result.andThen_ok]
  cases u <;> first | rfl | (simp at hu; done)
theorem keyInt (t : TypeId) (k : IntKind) [h : Und P t (.int k)] : KeyOk P t (fun x : Int => .int k x) where
  eq := fun a b w => by
    have := eqInt (P := P) (t := t) (k := k) 9999 a b w
    rw [Op.equal, Op.maxDepth, this]; congr 1
  now := ⟨_, h.out, .inl fun a b => by simp [Instr.sameNow]; rfl⟩
  check := fun e k w => checkLeaf rfl e 9999 _ w
  same := fun a => sameInt _ _ _
end Go.Proofs.YtbkojmcppeflbaaDoor
