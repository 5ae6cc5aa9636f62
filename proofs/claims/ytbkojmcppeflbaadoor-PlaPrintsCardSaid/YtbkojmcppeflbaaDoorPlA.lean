import Derived.Test.YtbkojmcppeflbaaDoorWkD
namespace Go.Proofs.YtbkojmcppeflbaaDoor
open Go
set_option linter.unusedVariables false
set_option linter.unusedSimpArgs false
set_option linter.unusedSectionVars false
set_option linter.unnecessarySimpa false
set_option maxRecDepth 100000
set_option linter.unusedVariables false
set_option linter.unusedSimpArgs false
/-! Plain law, first part: indices, loops that look for something. -/
theorem wrapN {i : Nat} (h : i < 9223372036854775807) : IntKind.wrap .i64 ((i : Int) + 1) = ((i + 1 : Nat) : Int) := by rw [IntKind.wrap_i64]; omega
theorem idxN {α : Type} (xs : List α) (i : Nat) : idx xs (i : Int) = xs[i]? := by simp [idx]
theorem cond_eq_ite {α : Type} (b : Bool) (x y : α) : (bif b then x else y) = if b = true then x else y := by cases b <;> rfl
def scan {α ρ : Type} (g : α → Option ρ) : List α → ρ ⊕ Unit
  | [] => .inr ()
  | x :: xs => match g x with
    | some r => .inl r
    | none => scan g xs
theorem scan_of {α ρ : Type} {L : Nat → Int → Option (ρ ⊕ Unit)} {xs : List α} {g : α → Option ρ}
    (hs : ∀ j (i : Nat) x, xs[i]? = some x → L (j + 1) i = match g x with
      | some r => some (.inl r)
      | none => L j ((i + 1 : Nat) : Int))
    (he : ∀ j, L (j + 1) xs.length = some (.inr ())) : ∀ (d i j : Nat), i + d = xs.length → d < j → L j i = some (scan g (xs.drop i))
  | 0, i, j + 1, h, _ => by
    have : i = xs.length := by omega
    subst this
    rw [he, List.drop_length, scan]
  | d + 1, i, j + 1, h, hj => by
    have hi : i < xs.length := by omega
    rw [hs j i xs[i] (List.getElem?_eq_getElem hi), List.drop_eq_getElem_cons hi, scan]
    cases g xs[i] with
    | some r => rfl
    | none => exact scan_of hs he d (i + 1) j (by omega) (by omega)
theorem scan_start {α ρ : Type} {L : Nat → Int → Option (ρ ⊕ Unit)} {xs : List α} {g : α → Option ρ} {K : Nat} (hK : xs.length < K)
    (hs : ∀ j (i : Nat) x, xs[i]? = some x → L (j + 1) i = match g x with
      | some r => some (.inl r)
      | none => L j ((i + 1 : Nat) : Int))
    (he : ∀ j, L (j + 1) xs.length = some (.inr ())) : L K 0 = some (scan g xs) := by
  have := scan_of hs he xs.length 0 K (by omega) hK
  simpa using this
theorem scan_none {α ρ : Type} {g : α → Option ρ} : ∀ {xs : List α}, scan g xs = .inr () → ∀ x ∈ xs, g x = none
  | [], _, _, h => by cases h
  | y :: ys, h, x, hx => by
    rw [scan] at h
    cases hy : g y with
    | some r => rw [hy] at h; cases h
    | none =>
      rw [hy] at h
      cases hx with
      | head => exact hy
      | tail _ hx => exact scan_none h x hx
theorem scan_all {α ρ : Type} {g : α → Option ρ} : ∀ {xs : List α}, (∀ x ∈ xs, g x = none) → scan g xs = .inr ()
  | [], _ => rfl
  | y :: ys, h => by
    rw [scan, h y (List.mem_cons_self ..)]
    exact scan_all fun x hx => h x (List.mem_cons_of_mem _ hx)
abbrev Rw := Int × Int × List Int
/-! ### Great -/
theorem great_l1 {K : Nat} {a3 : List Rw} (hl : a3.length ≤ 9223372036854775807) (hK : a3.length < K) :
    law03_Great.l1 K a3 K 0 = some (scan (fun y => if 20 < y.2.2.length then some true else none) a3) := by
  refine scan_start hK (fun j i x hx => ?_) (fun j => ?_)
  · have hi : i < a3.length := (List.getElem?_eq_some_iff.1 hx).1
    rw [law03_Great.l1, idxN, hx, wrapN (by omega)]
    have : decide ((i : Int) < (a3.length : Int)) = true := by simp; omega
    rw [this]
    by_cases h : 20 < x.2.2.length
    · have e : decide (((x.2.2.length : Int) : Int) > 20) = true := decide_eq_true (by omega)
      simp only [cond_true, Option.bind_some, e, if_pos h]
    · have e : decide (((x.2.2.length : Int) : Int) > 20) = false := decide_eq_false (by omega)
      simp only [cond_true, cond_false, Option.bind_some, e, if_neg h]
  · simp [law03_Great.l1]
theorem great_ok {K : Nat} {a0 a1 a2 : Int} {a3 : List Rw} (hl : a3.length ≤ 9223372036854775807) (hK : a3.length < K) :
    ∃ b, law03_Great.f K a0 a1 a2 a3 = some b ∧ (b = false → a3.length ≤ 100 ∧ ∀ y ∈ a3, y.2.2.length ≤ 20) := by
  unfold law03_Great.f
  rw [great_l1 hl hK]
  cases hs : scan (fun y : Rw => if 20 < y.2.2.length then some true else none) a3 with
  | inl r =>
    refine ⟨r, rfl, fun hr => ?_⟩
    exfalso
    have : ∀ xs : List Rw, scan (fun y : Rw => if 20 < y.2.2.length then some true else none) xs = .inl r → r = true := by
      intro xs
      induction xs with
      | nil => intro h; cases h
      | cons y ys ih =>
        intro h
        rw [scan] at h
        by_cases c : 20 < y.2.2.length
        · simp [c] at h; subst h; rfl
        · simp [c] at h; exact ih h
    have := this _ hs
    subst hr; cases this
  | inr u =>
    refine ⟨_, rfl, fun hr => ⟨?_, fun y hy => ?_⟩⟩
    · have := of_decide_eq_false hr; omega
    · have := scan_none hs y hy
      by_cases c : 20 < y.2.2.length
      · simp [c] at this
      · omega
end Go.Proofs.YtbkojmcppeflbaaDoor
