import Derived.Test.YtbkojmcppeflbaaDoorPlA
namespace Go.Proofs.YtbkojmcppeflbaaDoor
open Go
set_option linter.unusedVariables false
set_option linter.unusedSimpArgs false
set_option linter.unusedSectionVars false
set_option linter.unnecessarySimpa false
set_option maxRecDepth 100000
set_option linter.unusedVariables false
set_option linter.unusedSimpArgs false
/-! Plain law, second part: cubes. -/
def lit (m v : Nat) : Int := if m % 2 = 0 then 2 else ((v % 2 : Nat) : Int)
theorem lit_range (m v : Nat) : 0 ≤ lit m v ∧ lit m v ≤ 2 := by unfold lit; split <;> omega
def lits (m v : Nat) : List Int := [lit m v, lit (m / 2) (v / 2), lit (m / 4) (v / 4), lit (m / 8) (v / 8), lit (m / 16) (v / 16), lit (m / 32) (v / 32), lit (m / 64) (v / 64), lit (m / 128) (v / 128)]
theorem u8_quo {n : Nat} (h : n < 256) : iDiv .quo .u8 (n : Int) 2 = ((n / 2 : Nat) : Int) := by
  simp only [iDiv]; rw [IntKind.wrap_u8, Int.tdiv_eq_ediv_of_nonneg (by omega)]; omega
theorem u8_rem {n : Nat} : iDiv .rem .u8 (n : Int) 2 = ((n % 2 : Nat) : Int) := by
  simp only [iDiv]; rw [Int.tmod_eq_emod_of_nonneg (by omega)]; omega
theorem lit_step {K j i m v : Nat} {xs : List Int} (hi : i < 8) (hx : xs.length ≤ 100) (hm : m < 256) (hv : v < 256) :
    ref02_Literals.l1 K (j + 1) (xs, (m : Int), (v : Int), (i : Int)) = ref02_Literals.l1 K j (xs ++ [lit m v], ((m / 2 : Nat) : Int), ((v / 2 : Nat) : Int), ((i + 1 : Nat) : Int)) := by
  have e : decide ((i : Int) < 8) = true := decide_eq_true (by omega)
  have e2 : ∀ y : Int, decide (xs.length + [y].length ≤ 1099511627776) = true := fun y => decide_eq_true (by simp; omega)
  rw [ref02_Literals.l1]
  simp only [e, cond_true, e2, u8_rem, u8_quo hm, u8_quo hv, wrapN (show i < 9223372036854775807 by omega)]
  unfold lit
  by_cases c : m % 2 = 0
  · have : (((m % 2 : Nat) : Int) == 0) = true := by simp; omega
    have e3 : decide (xs.length + [2].length ≤ 1099511627776) = true := decide_eq_true (by simp; omega)
    simp only [this, cond_true, Option.bind_some, if_pos c, e3]
  · have : (((m % 2 : Nat) : Int) == 0) = false := by simp; omega
    simp only [this, cond_false, Option.bind_some, if_neg c]
    rw [show IntKind.wrap .i64 (((v % 2 : Nat) : Int)) = ((v % 2 : Nat) : Int) by rw [IntKind.wrap_i64]; omega]
theorem lits_ok {K m v : Nat} (hK : 20 < K) (hm : m < 256) (hv : v < 256) : ref02_Literals.f K (m : Int) (v : Int) = some (lits m v) := by
  unfold ref02_Literals.f
  obtain ⟨k, rfl⟩ : ∃ k, K = k + 9 := ⟨K - 9, by omega⟩
  have h0 := lit_step (K := k + 9) (j := k + 8) (i := 0) (xs := []) (by omega) (by simp) hm hv
  have h1 := lit_step (K := k + 9) (j := k + 7) (i := 1) (xs := [lit m v]) (m := m / 2) (v := v / 2) (by omega) (by simp) (by omega) (by omega)
  have h2 := lit_step (K := k + 9) (j := k + 6) (i := 2) (xs := [lit m v, lit (m / 2) (v / 2)]) (m := m / 2 / 2) (v := v / 2 / 2) (by omega) (by simp) (by omega) (by omega)
  have h3 := lit_step (K := k + 9) (j := k + 5) (i := 3) (xs := [lit m v, lit (m / 2) (v / 2), lit (m / 2 / 2) (v / 2 / 2)]) (m := m / 2 / 2 / 2) (v := v / 2 / 2 / 2) (by omega) (by simp) (by omega) (by omega)
  have h4 := lit_step (K := k + 9) (j := k + 4) (i := 4) (xs := [lit m v, lit (m / 2) (v / 2), lit (m / 2 / 2) (v / 2 / 2), lit (m / 2 / 2 / 2) (v / 2 / 2 / 2)]) (m := m / 2 / 2 / 2 / 2) (v := v / 2 / 2 / 2 / 2) (by omega) (by simp) (by omega) (by omega)
  have h5 := lit_step (K := k + 9) (j := k + 3) (i := 5) (xs := [lit m v, lit (m / 2) (v / 2), lit (m / 2 / 2) (v / 2 / 2), lit (m / 2 / 2 / 2) (v / 2 / 2 / 2), lit (m / 2 / 2 / 2 / 2) (v / 2 / 2 / 2 / 2)]) (m := m / 2 / 2 / 2 / 2 / 2) (v := v / 2 / 2 / 2 / 2 / 2) (by omega) (by simp) (by omega) (by omega)
  have h6 := lit_step (K := k + 9) (j := k + 2) (i := 6) (xs := [lit m v, lit (m / 2) (v / 2), lit (m / 2 / 2) (v / 2 / 2), lit (m / 2 / 2 / 2) (v / 2 / 2 / 2), lit (m / 2 / 2 / 2 / 2) (v / 2 / 2 / 2 / 2), lit (m / 2 / 2 / 2 / 2 / 2) (v / 2 / 2 / 2 / 2 / 2)]) (m := m / 2 / 2 / 2 / 2 / 2 / 2) (v := v / 2 / 2 / 2 / 2 / 2 / 2) (by omega) (by simp) (by omega) (by omega)
  have h7 := lit_step (K := k + 9) (j := k + 1) (i := 7) (xs := [lit m v, lit (m / 2) (v / 2), lit (m / 2 / 2) (v / 2 / 2), lit (m / 2 / 2 / 2) (v / 2 / 2 / 2), lit (m / 2 / 2 / 2 / 2) (v / 2 / 2 / 2 / 2), lit (m / 2 / 2 / 2 / 2 / 2) (v / 2 / 2 / 2 / 2 / 2), lit (m / 2 / 2 / 2 / 2 / 2 / 2) (v / 2 / 2 / 2 / 2 / 2 / 2)]) (m := m / 2 / 2 / 2 / 2 / 2 / 2 / 2) (v := v / 2 / 2 / 2 / 2 / 2 / 2 / 2) (by omega) (by simp) (by omega) (by omega)
  simp only [List.nil_append, List.cons_append] at h0 h1 h2 h3 h4 h5 h6 h7
  rw [show ((0 : Int)) = ((0 : Nat) : Int) from rfl, h0, h1, h2, h3, h4, h5, h6, h7]
  simp only [Nat.div_div_eq_div_mul, Nat.reduceMul]
  rfl
theorem cube_step {K j i p a b : Nat} {xs : List Int} {y : Int} (hi : xs[i]? = some y) (hy : 0 ≤ y ∧ y ≤ 2) (hil : i < 100) (ha : a + p < 256) (hb : b + p < 256) :
    ref02_Cube.l1 K xs (j + 1) ((p : Int), (i : Int), (a : Int), (b : Int)) = ref02_Cube.l1 K xs j (IntKind.wrap .u8 ((p : Int) * 2), ((i + 1 : Nat) : Int), ((a + (if y < 2 then p else 0) : Nat) : Int), ((b + (if y = 1 then p else 0) : Nat) : Int)) := by
  have hl : i < xs.length := (List.getElem?_eq_some_iff.1 hi).1
  have e : decide ((i : Int) < (xs.length : Int)) = true := decide_eq_true (by omega)
  rw [ref02_Cube.l1]
  simp only [e, cond_true, idxN, hi, Option.bind_some, wrapN (show i < 9223372036854775807 by omega)]
  have : y = 0 ∨ y = 1 ∨ y = 2 := by omega
  rcases this with rfl | rfl | rfl
  · have e1 : IntKind.wrap .u8 ((a : Int) + (p : Int)) = ((a + p : Nat) : Int) := by rw [IntKind.wrap_u8]; omega
    have e2 : IntKind.wrap .u8 ((b : Int) + IntKind.wrap .u8 ((p : Int) * IntKind.wrap .u8 0)) = ((b : Nat) : Int) := by simp only [IntKind.wrap_u8]; omega
    simp [e1, e2]
  · have e1 : IntKind.wrap .u8 ((a : Int) + (p : Int)) = ((a + p : Nat) : Int) := by rw [IntKind.wrap_u8]; omega
    have e2 : IntKind.wrap .u8 ((b : Int) + IntKind.wrap .u8 ((p : Int) * IntKind.wrap .u8 1)) = ((b + p : Nat) : Int) := by simp only [IntKind.wrap_u8]; omega
    simp [e1, e2]
  · simp
theorem lit_lt (m v : Nat) : (if lit m v < 2 then (1 : Nat) else 0) = m % 2 := by
  unfold lit
  by_cases c : m % 2 = 0
  · simp [c]
  · rw [if_neg c, if_pos (by omega)]; omega
theorem lit_one (m v : Nat) : (if lit m v = 1 then (1 : Nat) else 0) = if m % 2 = 0 then 0 else v % 2 := by
  unfold lit
  by_cases c : m % 2 = 0
  · simp [c]
  · rw [if_neg c, if_neg c]
    by_cases d : v % 2 = 0
    · simp [d]
    · have : v % 2 = 1 := by omega
      simp [this]
theorem ite_mul (c : Prop) [Decidable c] (p : Nat) : (if c then p else 0) = p * (if c then 1 else 0) := by split <;> omega
def vlit (m v : Nat) : Nat := if m % 2 = 0 then 0 else v % 2
theorem vlit_le (m v : Nat) : vlit m v ≤ v % 2 := by unfold vlit; split <;> omega
theorem vlit_le1 (m v : Nat) : vlit m v ≤ 1 := by unfold vlit; split <;> omega
def vpart (m v : Nat) : Nat := vlit m v + 2 * vlit (m / 2) (v / 2) + 4 * vlit (m / 4) (v / 4) + 8 * vlit (m / 8) (v / 8) + 16 * vlit (m / 16) (v / 16) + 32 * vlit (m / 32) (v / 32) + 64 * vlit (m / 64) (v / 64) + 128 * vlit (m / 128) (v / 128)
theorem bits8 {v : Nat} (h : v < 256) : v = v % 2 + 2 * (v / 2 % 2) + 4 * (v / 4 % 2) + 8 * (v / 8 % 2) + 16 * (v / 16 % 2) + 32 * (v / 32 % 2) + 64 * (v / 64 % 2) + 128 * (v / 128 % 2) := by
  have h7 : v / 128 % 2 = v / 128 := by omega
  have h6 : v / 64 = v / 64 % 2 + 2 * (v / 128) := by omega
  have h5 : v / 32 = v / 32 % 2 + 2 * (v / 64) := by omega
  have h4 : v / 16 = v / 16 % 2 + 2 * (v / 32) := by omega
  have h3 : v / 8 = v / 8 % 2 + 2 * (v / 16) := by omega
  have h2 : v / 4 = v / 4 % 2 + 2 * (v / 8) := by omega
  have h1 : v / 2 = v / 2 % 2 + 2 * (v / 4) := by omega
  have h0 : v = v % 2 + 2 * (v / 2) := by omega
  generalize v / 2 % 2 = b1 at *; generalize v / 4 % 2 = b2 at *; generalize v / 8 % 2 = b3 at *; generalize v / 16 % 2 = b4 at *; generalize v / 32 % 2 = b5 at *; generalize v / 64 % 2 = b6 at *; generalize v / 128 % 2 = b7 at *; generalize v % 2 = b0 at *
  generalize v / 2 = c1 at *; generalize v / 4 = c2 at *; generalize v / 8 = c3 at *; generalize v / 16 = c4 at *; generalize v / 32 = c5 at *; generalize v / 64 = c6 at *; generalize v / 128 = c7 at *
  subst h7; subst h6; subst h5; subst h4; subst h3; subst h2; subst h1
  rw [h0]; omega
theorem cube_ok {K m v : Nat} (hK : 20 < K) (hm : m < 256) (hv : v < 256) : ref02_Cube.f K (lits m v) = some ((m : Int), (vpart m v : Int)) := by
  unfold ref02_Cube.f
  obtain ⟨k, rfl⟩ : ∃ k, K = k + 9 := ⟨K - 9, by omega⟩
  have st : ∀ (j i p a b : Nat), (hi : (lits m v)[i]? = some (lit (m / p) (v / p))) → i < 8 → a + p < 256 → b + p < 256 → p < 256 →
      ref02_Cube.l1 (k + 9) (lits m v) (j + 1) ((p : Int), (i : Int), (a : Int), (b : Int)) = ref02_Cube.l1 (k + 9) (lits m v) j (((p * 2 % 256 : Nat) : Int), ((i + 1 : Nat) : Int), ((a + p * (m / p % 2) : Nat) : Int), ((b + p * vlit (m / p) (v / p) : Nat) : Int)) := by
    intro j i p a b hi hil ha hb hp
    rw [cube_step hi (lit_range _ _) (by omega) ha hb, ite_mul (lit (m / p) (v / p) < 2), ite_mul (lit (m / p) (v / p) = 1), lit_lt, lit_one, IntKind.wrap_u8]
    rfl
  have l0 := vlit_le1 m v
  have l1 := vlit_le1 (m / 2) (v / 2)
  have l2 := vlit_le1 (m / 4) (v / 4)
  have l3 := vlit_le1 (m / 8) (v / 8)
  have l4 := vlit_le1 (m / 16) (v / 16)
  have l5 := vlit_le1 (m / 32) (v / 32)
  have l6 := vlit_le1 (m / 64) (v / 64)
  have l7 := vlit_le1 (m / 128) (v / 128)
  have h0 := st (k + 8) 0 1 0 0 (by simp [lits]) (by omega) (by omega) (by omega) (by omega)
  have h1 := st (k + 7) 1 2 (0 + 1 * (m / 1 % 2)) (0 + 1 * vlit (m / 1) (v / 1)) (by simp [lits]) (by omega) (by omega) (by simp only [Nat.div_one]; omega) (by omega)
  have h2 := st (k + 6) 2 4 (0 + 1 * (m / 1 % 2) + 2 * (m / 2 % 2)) (0 + 1 * vlit (m / 1) (v / 1) + 2 * vlit (m / 2) (v / 2)) (by simp [lits]) (by omega) (by omega) (by simp only [Nat.div_one]; omega) (by omega)
  have h3 := st (k + 5) 3 8 (0 + 1 * (m / 1 % 2) + 2 * (m / 2 % 2) + 4 * (m / 4 % 2)) (0 + 1 * vlit (m / 1) (v / 1) + 2 * vlit (m / 2) (v / 2) + 4 * vlit (m / 4) (v / 4)) (by simp [lits]) (by omega) (by omega) (by simp only [Nat.div_one]; omega) (by omega)
  have h4 := st (k + 4) 4 16 (0 + 1 * (m / 1 % 2) + 2 * (m / 2 % 2) + 4 * (m / 4 % 2) + 8 * (m / 8 % 2)) (0 + 1 * vlit (m / 1) (v / 1) + 2 * vlit (m / 2) (v / 2) + 4 * vlit (m / 4) (v / 4) + 8 * vlit (m / 8) (v / 8)) (by simp [lits]) (by omega) (by omega) (by simp only [Nat.div_one]; omega) (by omega)
  have h5 := st (k + 3) 5 32 (0 + 1 * (m / 1 % 2) + 2 * (m / 2 % 2) + 4 * (m / 4 % 2) + 8 * (m / 8 % 2) + 16 * (m / 16 % 2)) (0 + 1 * vlit (m / 1) (v / 1) + 2 * vlit (m / 2) (v / 2) + 4 * vlit (m / 4) (v / 4) + 8 * vlit (m / 8) (v / 8) + 16 * vlit (m / 16) (v / 16)) (by simp [lits]) (by omega) (by omega) (by simp only [Nat.div_one]; omega) (by omega)
  have h6 := st (k + 2) 6 64 (0 + 1 * (m / 1 % 2) + 2 * (m / 2 % 2) + 4 * (m / 4 % 2) + 8 * (m / 8 % 2) + 16 * (m / 16 % 2) + 32 * (m / 32 % 2)) (0 + 1 * vlit (m / 1) (v / 1) + 2 * vlit (m / 2) (v / 2) + 4 * vlit (m / 4) (v / 4) + 8 * vlit (m / 8) (v / 8) + 16 * vlit (m / 16) (v / 16) + 32 * vlit (m / 32) (v / 32)) (by simp [lits]) (by omega) (by omega) (by simp only [Nat.div_one]; omega) (by omega)
  have h7 := st (k + 1) 7 128 (0 + 1 * (m / 1 % 2) + 2 * (m / 2 % 2) + 4 * (m / 4 % 2) + 8 * (m / 8 % 2) + 16 * (m / 16 % 2) + 32 * (m / 32 % 2) + 64 * (m / 64 % 2)) (0 + 1 * vlit (m / 1) (v / 1) + 2 * vlit (m / 2) (v / 2) + 4 * vlit (m / 4) (v / 4) + 8 * vlit (m / 8) (v / 8) + 16 * vlit (m / 16) (v / 16) + 32 * vlit (m / 32) (v / 32) + 64 * vlit (m / 64) (v / 64)) (by simp [lits]) (by omega) (by omega) (by simp only [Nat.div_one]; omega) (by omega)
  rw [show ((1 : Int), (0 : Int), (0 : Int), (0 : Int)) = (((1 : Nat) : Int), ((0 : Nat) : Int), ((0 : Nat) : Int), ((0 : Nat) : Int)) from rfl, h0, h1, h2, h3, h4, h5, h6, h7]
  have e : decide (((7 + 1 : Nat) : Int) < ((lits m v).length : Int)) = false := decide_eq_false (by simp [lits])
  rw [ref02_Cube.l1]
  simp only [e, cond_false, Option.bind_some, Nat.div_one]
  have a : 0 + 1 * (m % 2) + 2 * (m / 2 % 2) + 4 * (m / 4 % 2) + 8 * (m / 8 % 2) + 16 * (m / 16 % 2) + 32 * (m / 32 % 2) + 64 * (m / 64 % 2) + 128 * (m / 128 % 2) = m := by rw [Nat.zero_add, Nat.one_mul]; exact (bits8 hm).symm
  rw [a]
  simp only [vpart, Nat.zero_add, Nat.one_mul]
theorem sums8 {a0 a1 a2 a3 a4 a5 a6 a7 b0 b1 b2 b3 b4 b5 b6 b7 : Nat} (l0 : a0 ≤ b0) (l1 : a1 ≤ b1) (l2 : a2 ≤ b2) (l3 : a3 ≤ b3) (l4 : a4 ≤ b4) (l5 : a5 ≤ b5) (l6 : a6 ≤ b6) (l7 : a7 ≤ b7)
    (h : a0 + 2 * a1 + 4 * a2 + 8 * a3 + 16 * a4 + 32 * a5 + 64 * a6 + 128 * a7 = b0 + 2 * b1 + 4 * b2 + 8 * b3 + 16 * b4 + 32 * b5 + 64 * b6 + 128 * b7) :
    a0 = b0 ∧ a1 = b1 ∧ a2 = b2 ∧ a3 = b3 ∧ a4 = b4 ∧ a5 = b5 ∧ a6 = b6 ∧ a7 = b7 := ⟨by omega, by omega, by omega, by omega, by omega, by omega, by omega, by omega⟩
/-- The parts of v that stand where m has a literal. -/
theorem vpart_eq {m v : Nat} (hm : m < 256) (hv : v < 256) : vpart m v = v ↔ ∀ i, i < 8 → m / 2 ^ i % 2 = 0 → v / 2 ^ i % 2 = 0 := by
  have l0 := vlit_le m v
  have l1 := vlit_le (m / 2) (v / 2)
  have l2 := vlit_le (m / 4) (v / 4)
  have l3 := vlit_le (m / 8) (v / 8)
  have l4 := vlit_le (m / 16) (v / 16)
  have l5 := vlit_le (m / 32) (v / 32)
  have l6 := vlit_le (m / 64) (v / 64)
  have l7 := vlit_le (m / 128) (v / 128)
  have key : ∀ a b : Nat, vlit a b = b % 2 ↔ (a % 2 = 0 → b % 2 = 0) := by
    intro a b; unfold vlit
    by_cases c : a % 2 = 0
    · rw [if_pos c]; exact ⟨fun h _ => h.symm, fun h => (h c).symm⟩
    · rw [if_neg c]; exact ⟨fun _ h => absurd h c, fun _ => rfl⟩
  constructor
  · intro h i hi hmi
    unfold vpart at h
    have f := sums8 l0 l1 l2 l3 l4 l5 l6 l7 (h.trans (bits8 hv))
    obtain ⟨f0, f1, f2, f3, f4, f5, f6, f7⟩ := f
    have : i = 0 ∨ i = 1 ∨ i = 2 ∨ i = 3 ∨ i = 4 ∨ i = 5 ∨ i = 6 ∨ i = 7 := by omega
    rcases this with rfl | rfl | rfl | rfl | rfl | rfl | rfl | rfl
    · simpa using (key _ _).1 f0 (by simpa using hmi)
    · exact (key _ _).1 f1 hmi
    · exact (key _ _).1 f2 hmi
    · exact (key _ _).1 f3 hmi
    · exact (key _ _).1 f4 hmi
    · exact (key _ _).1 f5 hmi
    · exact (key _ _).1 f6 hmi
    · exact (key _ _).1 f7 hmi
  · intro h
    have f0 := (key m v).2 (by simpa using h 0 (by omega))
    have f1 := (key _ _).2 (h 1 (by omega))
    have f2 := (key _ _).2 (h 2 (by omega))
    have f3 := (key _ _).2 (h 3 (by omega))
    have f4 := (key _ _).2 (h 4 (by omega))
    have f5 := (key _ _).2 (h 5 (by omega))
    have f6 := (key _ _).2 (h 6 (by omega))
    have f7 := (key _ _).2 (h 7 (by omega))
    simp only [Nat.reducePow] at f0 f1 f2 f3 f4 f5 f6 f7
    unfold vpart
    rw [f0, f1, f2, f3, f4, f5, f6, f7]
    exact (bits8 hv).symm
theorem andnot_eq {m v : Nat} (hm : m < 256) (hv : v < 256) : iBit .andNot .u8 (v : Int) (m : Int) = 0 ↔ ∀ i, i < 8 → m / 2 ^ i % 2 = 0 → v / 2 ^ i % 2 = 0 := by
  have e : iBit .andNot .u8 (v : Int) (m : Int) = (((BitVec.ofNat 8 v &&& ~~~ BitVec.ofNat 8 m).toNat : Nat) : Int) := by
    show IntKind.wrap .u8 (((BitVec.ofInt 8 (v : Int) &&& ~~~ BitVec.ofInt 8 (m : Int)).toNat : Nat) : Int) = _
    rw [BitVec.ofInt_natCast, BitVec.ofInt_natCast, IntKind.wrap_u8]
    have := (BitVec.ofNat 8 v &&& ~~~ BitVec.ofNat 8 m).isLt
    omega
  rw [e]
  have gb : ∀ i, i < 8 → (BitVec.ofNat 8 v &&& ~~~ BitVec.ofNat 8 m).getLsbD i = (decide (v / 2 ^ i % 2 = 1) && !decide (m / 2 ^ i % 2 = 1)) := by
    intro i hi
    rw [BitVec.getLsbD_and, BitVec.getLsbD_not, BitVec.getLsbD_ofNat, BitVec.getLsbD_ofNat, Nat.testBit_eq_decide_div_mod_eq, Nat.testBit_eq_decide_div_mod_eq]
    simp only [hi, decide_true, Bool.true_and]
  constructor
  · intro h i hi hmi
    have hz : BitVec.ofNat 8 v &&& ~~~ BitVec.ofNat 8 m = 0#8 := BitVec.eq_of_toNat_eq (by simpa using h)
    have := gb i hi
    rw [hz, BitVec.getLsbD_zero, hmi] at this
    simp only [Nat.zero_ne_one, decide_false, Bool.not_false, Bool.and_true] at this
    have := of_decide_eq_false this.symm
    omega
  · intro h
    have hz : BitVec.ofNat 8 v &&& ~~~ BitVec.ofNat 8 m = 0#8 := by
      apply BitVec.eq_of_getLsbD_eq
      intro i hi
      rw [gb i hi, BitVec.getLsbD_zero]
      by_cases c : m / 2 ^ i % 2 = 0
      · rw [h i hi c]; rfl
      · rw [show m / 2 ^ i % 2 = 1 by omega]; simp
    rw [hz]; rfl
/-- Right, both ways. -/
def right (m v n : Nat) : Bool := decide (n ≤ 8 ∧ m < 2 ^ n ∧ iBit .andNot .u8 (v : Int) (m : Int) = 0)
theorem cube_right {K m v : Nat} {n : Int} (hm : m < 256) (hn : n.toNat = n) : cube_Right.f K (m : Int) (v : Int) n = some (right m v n.toNat) := by
  generalize hk : n.toNat = k at hn; subst hn
  unfold cube_Right.f right
  by_cases h8 : k ≤ 8
  · have e0 : decide ((k : Int) ≥ 0) = true := decide_eq_true (by omega)
    have e1 : decide ((k : Int) ≤ 8) = true := decide_eq_true (by omega)
    have e2 : IntKind.wrap .i64 (m : Int) = m := by rw [IntKind.wrap_i64]; omega
    have e3 : iSh .shl .i64 1 (k : Int) = ((2 ^ k : Nat) : Int) := by
      have : k = 0 ∨ k = 1 ∨ k = 2 ∨ k = 3 ∨ k = 4 ∨ k = 5 ∨ k = 6 ∨ k = 7 ∨ k = 8 := by omega
      rcases this with rfl | rfl | rfl | rfl | rfl | rfl | rfl | rfl | rfl <;> rfl
    have e4 : decide (0 ≤ (k : Int)) = true := decide_eq_true (by omega)
    simp only [e0, e1, e2, e3, e4, cond_true, Option.bind_some]
    by_cases c : m < 2 ^ k
    · have : decide ((m : Int) < ((2 ^ k : Nat) : Int)) = true := decide_eq_true (by omega)
      simp only [this, cond_true, Option.bind_some, Option.some.injEq]
      by_cases d : iBit .andNot .u8 (v : Int) (m : Int) = 0
      · simp [d, c, h8]
      · simp [d]
    · have : decide ((m : Int) < ((2 ^ k : Nat) : Int)) = false := decide_eq_false (by omega)
      simp only [this, cond_false, Option.bind_some, Option.some.injEq]
      simp [c]
  · have e0 : decide ((k : Int) ≥ 0) = true := decide_eq_true (by omega)
    have e1 : decide ((k : Int) ≤ 8) = false := decide_eq_false (by omega)
    simp only [e0, e1, cond_true, cond_false, Option.bind_some, Option.some.injEq]
    simp [h8]
theorem lits_at {m v i : Nat} (hi : i < 8) : (lits m v)[i]? = some (lit (m / 2 ^ i) (v / 2 ^ i)) := by
  have : i = 0 ∨ i = 1 ∨ i = 2 ∨ i = 3 ∨ i = 4 ∨ i = 5 ∨ i = 6 ∨ i = 7 := by omega
  rcases this with rfl | rfl | rfl | rfl | rfl | rfl | rfl | rfl <;> simp [lits]
theorem lit_two {m v : Nat} : lit m v = 2 ↔ m % 2 = 0 := by
  unfold lit
  by_cases c : m % 2 = 0
  · simp [c]
  · rw [if_neg c]; exact ⟨fun h => by omega, fun h => absurd h c⟩
theorem ref_loop {K m v : Nat} (hm : m < 256) : ∀ (d i j : Nat), i + d = 8 → d < j → ref02_Right.l1 K (lits m v) j (i : Int) = some (if m < 2 ^ i then .inr () else .inl false)
  | 0, i, j + 1, h, _ => by
    have : i = 8 := by omega
    subst this
    rw [ref02_Right.l1, if_pos (by omega)]; rfl
  | d + 1, i, j + 1, h, hj => by
    have e : decide ((i : Int) < 8) = true := decide_eq_true (by omega)
    rw [ref02_Right.l1, e, cond_true, idxN, lits_at (by omega), Option.bind_some, wrapN (by omega)]
    have hp : 0 < 2 ^ i := Nat.pow_pos (by omega)
    by_cases c : m / 2 ^ i % 2 = 0
    · have : (lit (m / 2 ^ i) (v / 2 ^ i) != 2) = false := by simp [lit_two.2 c]
      rw [this, cond_false, ref_loop hm d (i + 1) j (by omega) (by omega)]
      congr 1
      by_cases q : m < 2 ^ i
      · rw [if_pos q, if_pos (by rw [Nat.pow_succ]; omega)]
      · rw [if_neg q, if_neg]
        intro r
        rw [Nat.pow_succ] at r
        have h1 : m / 2 ^ i < 2 := Nat.div_lt_of_lt_mul r
        have h0 : m / 2 ^ i = 0 := (show ∀ x : Nat, x < 2 → x % 2 = 0 → x = 0 by omega) _ h1 c
        exact q ((Nat.div_eq_zero_iff_lt hp).1 h0)
    · have : (lit (m / 2 ^ i) (v / 2 ^ i) != 2) = true := by
        rw [bne_iff_ne]; exact fun r => c (lit_two.1 r)
      rw [this, cond_true, if_neg]
      intro r
      exact c (by rw [Nat.div_eq_of_lt r])
theorem ref_right {K m v : Nat} {n : Int} (hK : 20 < K) (hm : m < 256) (hv : v < 256) (hn : n.toNat = n) : ref02_Right.f K (m : Int) (v : Int) n = some (right m v n.toNat) := by
  generalize hk : n.toNat = k at hn; subst hn
  unfold ref02_Right.f right
  have e0 : decide ((k : Int) < 0) = false := decide_eq_false (by omega)
  rw [e0]
  by_cases h8 : k ≤ 8
  · have e1 : decide ((k : Int) > 8) = false := decide_eq_false (by omega)
    simp only [e1, cond_false, Option.bind_some, lits_ok hK hm hv]
    rw [ref_loop hm (8 - k) k K (by omega) (by omega)]
    by_cases c : m < 2 ^ k
    · rw [if_pos c]
      simp only [Option.bind_some, cube_ok hK hm hv, Option.some.injEq]
      by_cases d : iBit .andNot .u8 (v : Int) (m : Int) = 0
      · have := (vpart_eq hm hv).2 ((andnot_eq hm hv).1 d)
        simp [this, d, c, h8]
      · have : ¬ vpart m v = v := fun r => d ((andnot_eq hm hv).2 ((vpart_eq hm hv).1 r))
        have : ((vpart m v : Int) == (v : Int)) = false := by simp; omega
        rw [this]; simp [d]
    · rw [if_neg c]
      simp [c]
  · have e1 : decide ((k : Int) > 8) = true := decide_eq_true (by omega)
    simp only [e1, cond_true, cond_false, Option.bind_some, Option.some.injEq]
    simp [h8]
end Go.Proofs.YtbkojmcppeflbaaDoor
