import Derived.Test.YtbkojmcppeflbaaDoorPlB
namespace Go.Proofs.YtbkojmcppeflbaaDoor
open Go
set_option linter.unusedVariables false
set_option linter.unusedSimpArgs false
set_option linter.unusedSectionVars false
set_option linter.unnecessarySimpa false
set_option maxRecDepth 100000
set_option linter.unusedVariables false
set_option linter.unusedSimpArgs false
/-! Plain law, third part: Right and Same of covers. -/
def okRow (y : Rw) : Prop := ∃ m v : Nat, m < 256 ∧ v < 256 ∧ y.1 = m ∧ y.2.1 = v
def inOut (v : Int) : Bool := decide (0 ≤ v ∧ v < 3)
def goodRow (a1 a2 : Int) (y : Rw) : Bool := right y.1.toNat y.2.1.toNat a1.toNat && decide ((y.2.2.length : Int) = a2) && y.2.2.all inOut
def good (a0 a1 a2 : Int) (a3 : List Rw) : Bool := decide (0 ≤ a0 ∧ a0 ≤ 3 ∧ 0 ≤ a1 ∧ a1 ≤ 8 ∧ 1 ≤ a2 ∧ a2 ≤ 4 ∧ a3.length ≤ 64) && a3.all (goodRow a1 a2)
theorem scan_bool {α : Type} (p : α → Bool) : ∀ xs : List α, scan (fun x => bif p x then none else some false) xs = bif xs.all p then .inr () else .inl false
  | [] => rfl
  | x :: xs => by
    rw [scan, List.all_cons]
    cases p x
    · rfl
    · exact scan_bool p xs
theorem scan_zip {α : Type} [DecidableEq α] : ∀ (xs ys : List α), xs.length = ys.length → scan (fun p : α × α => if p.1 = p.2 then none else some false) (xs.zip ys) = if xs = ys then .inr () else .inl false
  | [], [], _ => rfl
  | x :: xs, y :: ys, h => by
    rw [List.zip_cons_cons, scan]
    by_cases c : x = y
    · simp only [c, if_true]
      rw [scan_zip xs ys (by simpa using h)]
      by_cases d : xs = ys
      · simp [d]
      · rw [if_neg d, if_neg (by simp [d])]
    · simp only [if_neg c]
      rw [if_neg (by simp [c])]
theorem ltN {i n : Nat} (h : i < n) : decide ((i : Int) < (n : Int)) = true := decide_eq_true (by omega)
theorem geN {n : Nat} : decide ((n : Int) < (n : Int)) = false := decide_eq_false (by omega)
theorem all_congr' {α : Type} {p q : α → Bool} : ∀ {xs : List α}, (∀ x ∈ xs, p x = q x) → xs.all p = xs.all q
  | [], _ => rfl
  | x :: xs, h => by rw [List.all_cons, List.all_cons, h x (List.mem_cons_self ..), all_congr' fun y hy => h y (List.mem_cons_of_mem _ hy)]
theorem plr_l2 {K : Nat} {y : Rw} (hl : y.2.2.length < 100) (hK : 100 < K) : pla_Right.l2 K y K 0 = some (bif y.2.2.all inOut then .inr () else .inl false) := by
  rw [← scan_bool]
  refine scan_start (by omega) (fun j i x hx => ?_) (fun j => ?_)
  · have hi := (List.getElem?_eq_some_iff.1 hx).1
    rw [pla_Right.l2, ltN hi, cond_true, idxN, hx, Option.bind_some, wrapN (by omega)]
    unfold inOut
    by_cases c : 0 ≤ x ∧ x < 3
    · have e0 : decide (x < 0) = false := decide_eq_false (by omega)
      have e1 : decide (x ≥ 3) = false := decide_eq_false (by omega)
      have e2 : True := trivial
      simp [e0, e1, e2, c]
    · by_cases d : x < 0
      · simp [decide_eq_true d, c]
      · have e0 : decide (x < 0) = false := decide_eq_false d
        have e1 : decide (x ≥ 3) = true := decide_eq_true (by omega)
        simp [e0, e1, c]
  · rw [pla_Right.l2, geN]; rfl
theorem plr_l1 {K : Nat} {a1 a2 : Int} {a3 : List Rw} (hn : a1.toNat = a1) (hK : 200 < K) (hl : a3.length ≤ 100) (hr : ∀ y ∈ a3, okRow y ∧ y.2.2.length ≤ 20) :
    pla_Right.l1 K a3 a1 a2 K 0 = some (bif a3.all (goodRow a1 a2) then .inr () else .inl false) := by
  rw [← scan_bool]
  refine scan_start (by omega) (fun j i x hx => ?_) (fun j => ?_)
  · have hi := (List.getElem?_eq_some_iff.1 hx).1
    obtain ⟨⟨m, v, hm, hv, e1, e2⟩, hlen⟩ := hr x (List.mem_of_getElem? hx)
    rw [pla_Right.l1, ltN hi, cond_true, idxN, hx, Option.bind_some, wrapN (by omega), plr_l2 (by omega) (by omega), e1, e2, cube_right hm hn, Option.bind_some]
    unfold goodRow
    rw [e1, e2, Int.toNat_natCast, Int.toNat_natCast]
    cases right m v a1.toNat
    · simp
    · by_cases d : (x.2.2.length : Int) = a2
      · have : ((x.2.2.length : Int) != a2) = false := by simp [d]
        simp only [this, d]
        cases x.2.2.all inOut <;> simp
      · have : ((x.2.2.length : Int) != a2) = true := by simp [d]
        simp [this, d]
  · rw [pla_Right.l1, geN]; rfl
theorem plr_ok {K : Nat} {a0 a1 a2 : Int} {a3 : List Rw} (hK : 200 < K) (hl : a3.length ≤ 100) (hr : ∀ y ∈ a3, okRow y ∧ y.2.2.length ≤ 20) :
    pla_Right.f K a0 a1 a2 a3 = some (good a0 a1 a2 a3) := by
  unfold pla_Right.f good
  by_cases g : 0 ≤ a0 ∧ a0 ≤ 3 ∧ 0 ≤ a1 ∧ a1 ≤ 8 ∧ 1 ≤ a2 ∧ a2 ≤ 4 ∧ a3.length ≤ 64
  · have e1 : decide (a0 < 0) = false := decide_eq_false (by omega)
    have e2 : decide (a0 > 3) = false := decide_eq_false (by omega)
    have e3 : decide (a1 < 0) = false := decide_eq_false (by omega)
    have e4 : decide (a1 > 8) = false := decide_eq_false (by omega)
    have e5 : decide (a2 < 1) = false := decide_eq_false (by omega)
    have e6 : decide (a2 > 4) = false := decide_eq_false (by omega)
    have e7 : decide (((a3.length : Int) : Int) > 64) = false := decide_eq_false (by omega)
    simp only [e1, e2, e3, e4, e5, e6, e7, cond_false, Option.bind_some, decide_eq_true g, Bool.true_and]
    rw [plr_l1 (by omega) hK hl hr]
    cases a3.all (goodRow a1 a2) <;> rfl
  · rw [decide_eq_false g, Bool.false_and]
    by_cases g1 : a0 < 0
    · simp [decide_eq_true g1]
    by_cases g2 : a0 > 3
    · simp [g1, g2]
    by_cases g3 : a1 < 0
    · simp [g1, g2, g3]
    by_cases g4 : a1 > 8
    · simp [g1, g2, g3, g4]
    by_cases g5 : a2 < 1
    · simp [g1, g2, g3, g4, g5]
    by_cases g6 : a2 > 4
    · simp [g1, g2, g3, g4, g5, g6]
    by_cases g7 : ((a3.length : Int) : Int) > 64
    · simp [g1, g2, g3, g4, g5, g6, g7]
    exact absurd ⟨by omega, by omega, by omega, by omega, by omega, by omega, by omega⟩ g
theorem rfr_l2 {K : Nat} {y : Rw} (hl : y.2.2.length < 100) (hK : 100 < K) : ref03_Right.l2 K y K 0 = some (bif y.2.2.all inOut then .inr () else .inl false) := by
  rw [← scan_bool]
  refine scan_start (by omega) (fun j i x hx => ?_) (fun j => ?_)
  · have hi := (List.getElem?_eq_some_iff.1 hx).1
    rw [ref03_Right.l2, ltN hi, cond_true, idxN, hx, Option.bind_some, wrapN (by omega)]
    unfold inOut
    by_cases c : 0 ≤ x ∧ x < 3
    · rcases (show x = 0 ∨ x = 1 ∨ x = 2 by omega) with rfl | rfl | rfl <;> simp
    · have e0 : (x != 0) = true := by simp; omega
      have e1 : (x != 1) = true := by simp; omega
      have e2 : (x != 2) = true := by simp; omega
      simp [e0, e1, e2, c]
  · rw [ref03_Right.l2, geN]; rfl
theorem rfr_l1 {K : Nat} {a1 a2 : Int} {a3 : List Rw} (hn : a1.toNat = a1) (hK : 200 < K) (hl : a3.length ≤ 100) (hr : ∀ y ∈ a3, okRow y ∧ y.2.2.length ≤ 20) :
    ref03_Right.l1 K a3 a1 a2 K 0 = some (bif a3.all (goodRow a1 a2) then .inr () else .inl false) := by
  rw [← scan_bool]
  refine scan_start (by omega) (fun j i x hx => ?_) (fun j => ?_)
  · have hi := (List.getElem?_eq_some_iff.1 hx).1
    obtain ⟨⟨m, v, hm, hv, e1, e2⟩, hlen⟩ := hr x (List.mem_of_getElem? hx)
    rw [ref03_Right.l1, ltN hi, cond_true, idxN, hx, Option.bind_some, wrapN (by omega), rfr_l2 (by omega) (by omega), e1, e2, ref_right (by omega) hm hv hn, Option.bind_some]
    unfold goodRow
    rw [e1, e2, Int.toNat_natCast, Int.toNat_natCast]
    cases right m v a1.toNat
    · simp
    · by_cases d : (x.2.2.length : Int) = a2
      · have : ((x.2.2.length : Int) != a2) = false := by simp [d]
        simp only [this, d]
        cases x.2.2.all inOut <;> simp
      · have : ((x.2.2.length : Int) != a2) = true := by simp [d]
        simp [this, d]
  · rw [ref03_Right.l1, geN]; rfl
theorem rfr_ok {K : Nat} {a0 a1 a2 : Int} {a3 : List Rw} (hK : 200 < K) (hl : a3.length ≤ 100) (hr : ∀ y ∈ a3, okRow y ∧ y.2.2.length ≤ 20) :
    ref03_Right.f K a0 a1 a2 a3 = some (good a0 a1 a2 a3) := by
  unfold ref03_Right.f good
  by_cases g : 0 ≤ a0 ∧ a0 ≤ 3 ∧ 0 ≤ a1 ∧ a1 ≤ 8 ∧ 1 ≤ a2 ∧ a2 ≤ 4 ∧ a3.length ≤ 64
  · have e1 : decide (a0 < 0) = false := decide_eq_false (by omega)
    have e2 : decide (a0 > 3) = false := decide_eq_false (by omega)
    have e3 : decide (a1 < 0) = false := decide_eq_false (by omega)
    have e4 : decide (a1 > 8) = false := decide_eq_false (by omega)
    have e5 : decide (a2 < 1) = false := decide_eq_false (by omega)
    have e6 : decide (a2 > 4) = false := decide_eq_false (by omega)
    have e7 : decide (((a3.length : Int) : Int) > 64) = false := decide_eq_false (by omega)
    simp only [e1, e2, e3, e4, e5, e6, e7, cond_false, Option.bind_some, decide_eq_true g, Bool.true_and]
    rw [rfr_l1 (by omega) hK hl hr]
    cases a3.all (goodRow a1 a2) <;> rfl
  · rw [decide_eq_false g, Bool.false_and]
    by_cases g1 : a0 < 0
    · simp [decide_eq_true g1]
    by_cases g2 : a0 > 3
    · simp [g1, g2]
    by_cases g3 : a1 < 0
    · simp [g1, g2, g3]
    by_cases g4 : a1 > 8
    · simp [g1, g2, g3, g4]
    by_cases g5 : a2 < 1
    · simp [g1, g2, g3, g4, g5]
    by_cases g6 : a2 > 4
    · simp [g1, g2, g3, g4, g5, g6]
    by_cases g7 : ((a3.length : Int) : Int) > 64
    · simp [g1, g2, g3, g4, g5, g6, g7]
    exact absurd ⟨by omega, by omega, by omega, by omega, by omega, by omega, by omega⟩ g
/-! ### Same -/
theorem zip_at {α : Type} {xs ys : List α} {i : Nat} {p : α × α} (h : (xs.zip ys)[i]? = some p) : xs[i]? = some p.1 ∧ ys[i]? = some p.2 := by
  rw [List.getElem?_zip_eq_some] at h; exact h
theorem pls_l2 {K : Nat} {y z : Rw} (hl : y.2.2.length < K) (hk : K < 1099511627776) (e : y.2.2.length = z.2.2.length) :
    pla_Same_1.l2 K y z K 0 = some (if y.2.2 = z.2.2 then .inr () else .inl false) := by
  rw [← scan_zip _ _ e]
  refine scan_start (by simp; omega) (fun j i x hx => ?_) (fun j => ?_)
  · obtain ⟨h1, h2⟩ := zip_at hx
    have hi := (List.getElem?_eq_some_iff.1 h1).1
    rw [pla_Same_1.l2, ltN hi, cond_true, idxN, idxN, h1, h2, Option.bind_some, Option.bind_some, wrapN (by omega)]
    by_cases c : x.1 = x.2
    · simp [c]
    · have : (x.1 != x.2) = true := by simp [c]
      simp [this, c]
  · rw [List.length_zip, ← e, Nat.min_self, pla_Same_1.l2, geN]; rfl
theorem pls_l1 {K : Nat} {xs ys : List Rw} (hl : xs.length < K) (hk : K < 1099511627776) (e : xs.length = ys.length) (hr : ∀ y ∈ xs, y.2.2.length < K) :
    pla_Same_1.l1 K xs ys K 0 = some (if xs = ys then .inr () else .inl false) := by
  rw [← scan_zip _ _ e]
  refine scan_start (by simp; omega) (fun j i x hx => ?_) (fun j => ?_)
  · obtain ⟨h1, h2⟩ := zip_at hx
    have hi := (List.getElem?_eq_some_iff.1 h1).1
    have hy := hr _ (List.mem_of_getElem? h1)
    rw [pla_Same_1.l1, ltN hi, cond_true, idxN, idxN, h1, h2, Option.bind_some, Option.bind_some, wrapN (by omega)]
    obtain ⟨⟨p, q, os⟩, ⟨p', q', os'⟩⟩ := x
    by_cases c : (p == p' && (q == q')) = true
    · by_cases d : os.length = os'.length
      · have hd : (((os.length : Int) : Int) != (os'.length : Int)) = false := by simp; omega
        simp only [c, hd, Bool.not_true, cond_false, Option.bind_some]
        rw [pls_l2 (y := (p, q, os)) (z := (p', q', os')) hy hk d]
        simp only [Bool.and_eq_true, beq_iff_eq] at c
        obtain ⟨rfl, rfl⟩ := c
        by_cases f : os = os'
        · simp [f]
        · simp [f]
      · have hd : (((os.length : Int) : Int) != (os'.length : Int)) = true := by simp; omega
        simp only [c, hd, Bool.not_true, cond_false, Option.bind_some, cond_true]
        rw [if_neg (by intro h; simp only [Prod.mk.injEq] at h; exact d (by rw [h.2.2]))]
    · rw [Bool.not_eq_true] at c
      simp only [c, Bool.not_false, cond_true, Option.bind_some]
      rw [if_neg (by intro h; simp only [Prod.mk.injEq] at h; simp [h.1, h.2.1] at c)]
  · rw [List.length_zip, ← e, Nat.min_self, pla_Same_1.l1, geN]; rfl
def same (a0 a1 a2 : Int) (a3 : List Rw) (a4 a5 a6 : Int) (a7 : List Rw) : Bool := decide ((a0, a1, a2, a3) = (a4, a5, a6, a7))
theorem pls_ok {K : Nat} {a0 a1 a2 : Int} {a3 : List Rw} {a4 a5 a6 : Int} {a7 : List Rw} (hl : a3.length < K) (hk : K < 1099511627776) (hr : ∀ y ∈ a3, y.2.2.length < K) :
    pla_Same_1.f K a0 a1 a2 a3 a4 a5 a6 a7 = some (same a0 a1 a2 a3 a4 a5 a6 a7) := by
  unfold pla_Same_1.f same
  by_cases c0 : a0 = a4
  · by_cases c1 : a1 = a5
    · by_cases c2 : a2 = a6
      · by_cases c3 : a3.length = a7.length
        · have h3 : (((a3.length : Int) : Int) != (a7.length : Int)) = false := by simp; omega
          subst c0 c1 c2
          simp only [bne_self_eq_false, cond_false, Option.bind_some, h3]
          rw [pls_l1 hl hk c3 hr]
          by_cases c : a3 = a7
          · simp [c]
          · simp [c]
        · have h3 : (((a3.length : Int) : Int) != (a7.length : Int)) = true := by simp; omega
          have : ¬ a3 = a7 := fun h => c3 (by rw [h])
          simp [c0, c1, c2, h3, this]
      · have : (a2 != a6) = true := by rw [bne_iff_ne]; exact c2
        simp [c0, c1, c2, this]
    · have : (a1 != a5) = true := by rw [bne_iff_ne]; exact c1
      simp [c0, c1, this]
  · have : (a0 != a4) = true := by rw [bne_iff_ne]; exact c0
    simp [c0, this]
theorem rfs_l2 {K : Nat} {y z : Rw} (hl : y.2.2.length < K) (hk : K < 1099511627776) (e : y.2.2.length = z.2.2.length) :
    ref03_Same.l2 K (y.1, y.2.1, y.2.2, z.1, z.2.1, z.2.2) K 0 = some (if y.2.2 = z.2.2 then .inr () else .inl false) := by
  rw [← scan_zip _ _ e]
  refine scan_start (by simp; omega) (fun j i x hx => ?_) (fun j => ?_)
  · obtain ⟨h1, h2⟩ := zip_at hx
    have hi := (List.getElem?_eq_some_iff.1 h1).1
    rw [ref03_Same.l2, ltN hi, cond_true, idxN, idxN, h1, h2, Option.bind_some, Option.bind_some, wrapN (by omega)]
    by_cases c : x.1 = x.2
    · simp [c]
    · have : (x.1 != x.2) = true := by simp [c]
      simp [this, c]
  · rw [List.length_zip, ← e, Nat.min_self, ref03_Same.l2, geN]; rfl
theorem rfs_l1 {K : Nat} {xs ys : List Rw} (hl : xs.length < K) (hk : K < 1099511627776) (e : xs.length = ys.length) (hr : ∀ y ∈ xs, y.2.2.length < K) :
    ref03_Same.l1 K xs ys K 0 = some (if xs = ys then .inr () else .inl false) := by
  rw [← scan_zip _ _ e]
  refine scan_start (by simp; omega) (fun j i x hx => ?_) (fun j => ?_)
  · obtain ⟨h1, h2⟩ := zip_at hx
    have hi := (List.getElem?_eq_some_iff.1 h1).1
    have hy := hr _ (List.mem_of_getElem? h1)
    rw [ref03_Same.l1, ltN hi, cond_true, idxN, idxN, h1, h2, Option.bind_some, Option.bind_some, Option.bind_some, wrapN (by omega)]
    obtain ⟨⟨p, q, os⟩, ⟨p', q', os'⟩⟩ := x
    by_cases c : (p == p' && (q == q')) = true
    · by_cases d : os.length = os'.length
      · have hd : (((os.length : Int) : Int) != (os'.length : Int)) = false := by simp; omega
        simp only [c, hd, Bool.not_true, cond_false, Option.bind_some]
        rw [rfs_l2 (y := (p, q, os)) (z := (p', q', os')) hy hk d]
        simp only [Bool.and_eq_true, beq_iff_eq] at c
        obtain ⟨rfl, rfl⟩ := c
        by_cases f : os = os'
        · simp [f]
        · simp [f]
      · have hd : (((os.length : Int) : Int) != (os'.length : Int)) = true := by simp; omega
        simp only [c, hd, Bool.not_true, cond_false, Option.bind_some, cond_true]
        rw [if_neg (by intro h; simp only [Prod.mk.injEq] at h; exact d (by rw [h.2.2]))]
    · rw [Bool.not_eq_true] at c
      simp only [c, Bool.not_false, cond_true, Option.bind_some]
      rw [if_neg (by intro h; simp only [Prod.mk.injEq] at h; simp [h.1, h.2.1] at c)]
  · rw [List.length_zip, ← e, Nat.min_self, ref03_Same.l1, geN]; rfl
theorem rfs_ok {K : Nat} {a0 a1 a2 : Int} {a3 : List Rw} {a4 a5 a6 : Int} {a7 : List Rw} (hl : a3.length < K) (hk : K < 1099511627776) (hr : ∀ y ∈ a3, y.2.2.length < K) :
    ref03_Same.f K a0 a1 a2 a3 a4 a5 a6 a7 = some (same a0 a1 a2 a3 a4 a5 a6 a7) := by
  unfold ref03_Same.f same
  by_cases c0 : a0 = a4
  · by_cases c1 : a1 = a5
    · by_cases c2 : a2 = a6
      · by_cases c3 : a3.length = a7.length
        · have h3 : (((a3.length : Int) : Int) != (a7.length : Int)) = false := by simp; omega
          subst c0 c1 c2
          simp only [bne_self_eq_false, cond_false, Option.bind_some, h3]
          rw [rfs_l1 hl hk c3 hr]
          by_cases c : a3 = a7
          · simp [c]
          · simp [c]
        · have h3 : (((a3.length : Int) : Int) != (a7.length : Int)) = true := by simp; omega
          have : ¬ a3 = a7 := fun h => c3 (by rw [h])
          simp [c0, c1, c2, h3, this]
      · have : (a2 != a6) = true := by rw [bne_iff_ne]; exact c2
        simp [c0, c1, c2, this]
    · have : (a1 != a5) = true := by rw [bne_iff_ne]; exact c1
      simp [c0, c1, this]
  · have : (a0 != a4) = true := by rw [bne_iff_ne]; exact c0
    simp [c0, this]
end Go.Proofs.YtbkojmcppeflbaaDoor
