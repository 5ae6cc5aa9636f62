import Derived.Test.YtbkojmcppeflbaaDoorPlD
import Derived.Test.YtbkojmcppeflbaaDoorPlKnows
import Derived.Test.YtbkojmcppeflbaaDoorRwPlaPrints
namespace Go.Proofs.YtbkojmcppeflbaaDoor
open Go
set_option linter.unusedVariables false
set_option linter.unusedSimpArgs false
set_option linter.unusedSectionVars false
set_option linter.unnecessarySimpa false
set_option maxRecDepth 100000
set_option linter.unusedVariables false
set_option linter.unusedSimpArgs false
theorem okRow_of {y : Rw} (h : ok45 y) : okRow y := by
  obtain ⟨⟨h1, h2⟩, _⟩ := h
  have k : ∀ n : Int, (Lit.int .u8 n).wf = true → 0 ≤ n ∧ n ≤ 255 := by
    intro n hn
    unfold Lit.wf at hn
    simp only [Bool.and_eq_true, decide_eq_true_eq] at hn
    have e1 : IntKind.u8.min = 0 := rfl
    have e2 : IntKind.u8.max = 255 := rfl
    rw [e1, e2] at hn; exact hn
  have a := k _ h1
  have b := k _ h2
  exact ⟨y.1.toNat, y.2.1.toNat, by simp only [] at a; omega, by simp only [] at b; omega, by simp only [] at a; omega, by simp only [] at b; omega⟩
theorem plaPrints_pure : PlaPrints.Pure := by
  intro a0 a1 a2 a3 a4 a5 a6 a7 h1 h2
  have l3 : a3.length ≤ 9223372036854775807 := h1.2.2.2.1
  have l7 : a7.length ≤ 9223372036854775807 := h2.2.2.2.1
  refine ⟨(a3.length + a7.length + 1) + 200, ?_⟩
  have hk := knows_ok (a3.length + a7.length + 1)
  generalize hK : (a3.length + a7.length + 1) + 200 = K at hk
  obtain ⟨b, g1, f1⟩ := great_ok (a0 := a0) (a1 := a1) (a2 := a2) l3 (K := K) (by omega)
  obtain ⟨c, g2, f2⟩ := great_ok (a0 := a4) (a1 := a5) (a2 := a6) l7 (K := K) (by omega)
  unfold law03_PlaPrints.f
  rw [g1, Option.bind_some]
  cases b with
  | true => simp only [cond_true, Option.bind_some, hk]
  | false =>
    obtain ⟨hl3, hr3⟩ := f1 rfl
    rw [cond_false, g2, Option.bind_some]
    cases c with
    | true => simp only [cond_true, Option.bind_some, hk]
    | false =>
      obtain ⟨hl7, hr7⟩ := f2 rfl
      have hr : ∀ y ∈ a3, okRow y ∧ y.2.2.length ≤ 20 := fun y hy => ⟨okRow_of (h1.2.2.2.2 y hy), hr3 y hy⟩
      have hk2 : 200 < K := by omega
      simp only [Option.bind_some, cond_false]
      have R1 := plr_ok (a0 := a0) (a1 := a1) (a2 := a2) hk2 hl3 hr
      have R2 := rfr_ok (a0 := a0) (a1 := a1) (a2 := a2) hk2 hl3 hr
      have S1 := pls_ok (K := K) (a0 := a0) (a1 := a1) (a2 := a2) (a3 := a3) (a4 := a4) (a5 := a5) (a6 := a6) (a7 := a7) (by omega) (by omega) fun y hy => by have := hr3 y hy; omega
      have S2 := rfs_ok (K := K) (a0 := a0) (a1 := a1) (a2 := a2) (a3 := a3) (a4 := a4) (a5 := a5) (a6 := a6) (a7 := a7) (by omega) (by omega) fun y hy => by have := hr3 y hy; omega
      cases hg : good a0 a1 a2 a3 with
      | true =>
        obtain ⟨P1, P2⟩ := print_ok hk2 hl3 hr hg
        simp only [P1, P2, R1, R2, S1, S2, hg, hk, Option.bind_some, beq_self_eq_true, Bool.not_true, cond_false, cond_true]
      | false =>
        have P1 : pla_Print.f K a0 a1 a2 a3 = some (⟨#[]⟩, 1) := by
          unfold pla_Print.f
          rw [R1, hg]; rfl
        simp only [P1, R1, R2, S1, S2, hg, hk, Option.bind_some, beq_self_eq_true, Bool.not_true, Bool.not_false, cond_false, cond_true]
theorem plaPrints : Rows.PlaPrintsCardSaid := PlaPrints.card plaPrints_pure
end Go.Proofs.YtbkojmcppeflbaaDoor
