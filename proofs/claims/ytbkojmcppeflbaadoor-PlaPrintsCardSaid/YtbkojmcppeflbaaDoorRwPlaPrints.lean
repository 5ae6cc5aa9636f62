/- The row of PlaPrints out of its contract and its pure statement. -/
import Derived.Test.YtbkojmcppeflbaaDoorWkD
import Derived.Test.YtbkojmcppeflbaaDoorSlGlo
import Derived.Test.YtbkojmcppeflbaaDoorRows
import Derived.Test.YtbkojmcppeflbaaDoorTie
import Derived.Test.YtbkojmcppeflbaaDoorCards
import Derived.Lay
import Derived.MakeChecks
import Derived.SevenTiedAt
import Derived.WalkKit
import Derived.ProofKit
import Derived.OpenShut
import Derived.ShutString
import Derived.ChangeOld
import Derived.Below
import Derived.SizedLaws
namespace Go.Proofs.YtbkojmcppeflbaaDoor
open Go Go.ChangeShapes Go.WideShapes Go.ChangeAt Go.RowKit
set_option linter.unusedVariables false
set_option linter.unusedSimpArgs false
set_option linter.unusedSectionVars false
set_option linter.unnecessarySimpa false
open Go.ChangeMaps (open_string shut_string)
def ok3 : Int → Prop := fun n => (Lit.int .i64 n).wf = true
theorem op3 : OpenT Tryd.prog 3 (kI .i64) ok3 := OpenT.int Tryd.underlying3 (by kernel_rfl)
theorem cz3 : Tryd.prog.cellsOf 3 = 1 := op3.1
def ok5 : Int → Prop := fun n => (Lit.int .u8 n).wf = true
theorem op5 : OpenT Tryd.prog 5 (kI .u8) ok5 := OpenT.int Tryd.underlying5 (by kernel_rfl)
theorem cz5 : Tryd.prog.cellsOf 5 = 1 := op5.1
def ok42 : (Int × Int) → Prop := fun x => ok5 x.1 ∧ ok5 x.2
theorem op42 : OpenT Tryd.prog 42 (kP (kI .u8) (kI .u8)) ok42 := ⟨by kernel_rfl, fun enc w base spare held fuel cs d ps h => by
  obtain ⟨hl, hf⟩ := trod_struct Tryd.underlying42 h
  rw [show Tryd.prog.cellsOf 42 = 2 by kernel_rfl] at hl
  obtain ⟨_, _, _, h0⟩ := hf 0 _ rfl
  obtain ⟨y0, r0, k0⟩ := op5.2 _ _ _ _ _ _ _ _ _ h0
  have g0 : (kI .u8).rep (hp w) y0 ((cs.drop 0).take 1) := by
    have a := r0
    dsimp only at a; rw [cz5] at a; exact a
  obtain ⟨_, _, _, h1⟩ := hf 1 _ rfl
  obtain ⟨y1, r1, k1⟩ := op5.2 _ _ _ _ _ _ _ _ _ h1
  have g1 : (kI .u8).rep (hp w) y1 ((cs.drop 1).take 1) := by
    have a := r1
    dsimp only at a; rw [cz5] at a; exact a
  have e : cs = (cs.drop 0).take 1 ++ ((cs.drop 1).take 1) := (List.drop_zero (l := cs)).symm.trans ((cut_cells cs 0 1).trans (congrArg (((cs.drop 0).take 1) ++ ·) (List.take_of_length_le (l := cs.drop 1) (i := 1) (by simp; omega)).symm))
  try simp only [List.append_assoc] at e
  refine ⟨(y0, y1), ?_, ⟨k0, k1⟩⟩
  rw [e]; exact ⟨_, _, rfl, g0, g1⟩⟩
theorem cz42 : Tryd.prog.cellsOf 42 = 2 := op42.1
def ok43 : List Int → Prop := fun xs => xs.length ≤ maxLen ∧ ∀ x ∈ xs, ok3 x
theorem op43 : OpenT Tryd.prog 43 (kL (kI .i64)) ok43 := OpenT.slice Tryd.underlying43 (by kernel_rfl) op3 (by decide)
theorem cz43 : Tryd.prog.cellsOf 43 = 1 := op43.1
def ok45 : (Int × Int × (List Int)) → Prop := fun x => ok42 (x.1, x.2.1) ∧ ok43 x.2.2
theorem op45 : OpenT Tryd.prog 45 (kP (kI .u8) (kP (kI .u8) (kL (kI .i64)))) ok45 := ⟨by kernel_rfl, fun enc w base spare held fuel cs d ps h => by
  obtain ⟨hl, hf⟩ := trod_struct Tryd.underlying45 h
  rw [show Tryd.prog.cellsOf 45 = 3 by kernel_rfl] at hl
  obtain ⟨_, _, _, h0⟩ := hf 0 _ rfl
  obtain ⟨y0, r0, k0⟩ := op42.2 _ _ _ _ _ _ _ _ _ h0
  have g0 : (kP (kI .u8) (kI .u8)).rep (hp w) y0 ((cs.drop 0).take 2) := by
    have a := r0
    dsimp only at a; rw [cz42] at a; exact a
  obtain ⟨c0_0, f0_0, q0_0, p0_0, s0_0⟩ := g0
  obtain ⟨_, _, _, h1⟩ := hf 1 _ rfl
  obtain ⟨y1, r1, k1⟩ := op43.2 _ _ _ _ _ _ _ _ _ h1
  have g1 : (kL (kI .i64)).rep (hp w) y1 ((cs.drop 2).take 1) := by
    have a := r1
    dsimp only at a; rw [cz43] at a; exact a
  have e : cs = (cs.drop 0).take 2 ++ ((cs.drop 2).take 1) := (List.drop_zero (l := cs)).symm.trans ((cut_cells cs 0 2).trans (congrArg (((cs.drop 0).take 2) ++ ·) (List.take_of_length_le (l := cs.drop 2) (i := 1) (by simp; omega)).symm))
  rw [q0_0] at e
  try simp only [List.append_assoc] at e
  refine ⟨(y0.1, y0.2, y1), ?_, ⟨k0, k1⟩⟩
  rw [e]; exact ⟨_, _, rfl, p0_0, ⟨_, _, rfl, s0_0, g1⟩⟩⟩
theorem cz45 : Tryd.prog.cellsOf 45 = 3 := op45.1
def ok22 : List (Int × Int × (List Int)) → Prop := fun xs => xs.length ≤ maxLen ∧ ∀ x ∈ xs, ok45 x
theorem op22 : OpenT Tryd.prog 22 (kL (kP (kI .u8) (kP (kI .u8) (kL (kI .i64))))) ok22 := OpenT.slice Tryd.underlying22 (by kernel_rfl) op45 (by decide)
theorem cz22 : Tryd.prog.cellsOf 22 = 1 := op22.1
def ok24 : (Int × Int × Int × (List (Int × Int × (List Int)))) → Prop := fun x => ok3 x.1 ∧ ok3 x.2.1 ∧ ok3 x.2.2.1 ∧ ok22 x.2.2.2
theorem op24 : OpenT Tryd.prog 24 (kP (kI .i64) (kP (kI .i64) (kP (kI .i64) (kL (kP (kI .u8) (kP (kI .u8) (kL (kI .i64)))))))) ok24 := ⟨by kernel_rfl, fun enc w base spare held fuel cs d ps h => by
  obtain ⟨hl, hf⟩ := trod_struct Tryd.underlying24 h
  rw [show Tryd.prog.cellsOf 24 = 4 by kernel_rfl] at hl
  obtain ⟨_, _, _, h0⟩ := hf 0 _ rfl
  obtain ⟨y0, r0, k0⟩ := op3.2 _ _ _ _ _ _ _ _ _ h0
  have g0 : (kI .i64).rep (hp w) y0 ((cs.drop 0).take 1) := by
    have a := r0
    dsimp only at a; rw [cz3] at a; exact a
  obtain ⟨_, _, _, h1⟩ := hf 1 _ rfl
  obtain ⟨y1, r1, k1⟩ := op3.2 _ _ _ _ _ _ _ _ _ h1
  have g1 : (kI .i64).rep (hp w) y1 ((cs.drop 1).take 1) := by
    have a := r1
    dsimp only at a; rw [cz3] at a; exact a
  obtain ⟨_, _, _, h2⟩ := hf 2 _ rfl
  obtain ⟨y2, r2, k2⟩ := op3.2 _ _ _ _ _ _ _ _ _ h2
  have g2 : (kI .i64).rep (hp w) y2 ((cs.drop 2).take 1) := by
    have a := r2
    dsimp only at a; rw [cz3] at a; exact a
  obtain ⟨_, _, _, h3⟩ := hf 3 _ rfl
  obtain ⟨y3, r3, k3⟩ := op22.2 _ _ _ _ _ _ _ _ _ h3
  have g3 : (kL (kP (kI .u8) (kP (kI .u8) (kL (kI .i64))))).rep (hp w) y3 ((cs.drop 3).take 1) := by
    have a := r3
    dsimp only at a; rw [cz22] at a; exact a
  have e : cs = (cs.drop 0).take 1 ++ ((cs.drop 1).take 1 ++ ((cs.drop 2).take 1 ++ ((cs.drop 3).take 1))) := (List.drop_zero (l := cs)).symm.trans ((cut_cells cs 0 1).trans (congrArg (((cs.drop 0).take 1) ++ ·) ((cut_cells cs 1 1).trans (congrArg (((cs.drop 1).take 1) ++ ·) ((cut_cells cs 2 1).trans (congrArg (((cs.drop 2).take 1) ++ ·) (List.take_of_length_le (l := cs.drop 3) (i := 1) (by simp; omega)).symm))))))
  try simp only [List.append_assoc] at e
  refine ⟨(y0, y1, y2, y3), ?_, ⟨k0, k1, k2, k3⟩⟩
  rw [e]; exact ⟨_, _, rfl, g0, ⟨_, _, rfl, g1, ⟨_, _, rfl, g2, g3⟩⟩⟩⟩
theorem cz24 : Tryd.prog.cellsOf 24 = 4 := op24.1
set_option linter.unusedVariables false
set_option linter.unusedSimpArgs false
def PlaPrints.Pure : Prop := ∀ (a0 : Int) (a1 : Int) (a2 : Int) (a3 : List (Int × Int × (List Int))) (a4 : Int) (a5 : Int) (a6 : Int) (a7 : List (Int × Int × (List Int))), ok24 (a0, a1, a2, a3) → ok24 (a4, a5, a6, a7) → ∃ K, law03_PlaPrints.f K a0 a1 a2 a3 a4 a5 a6 a7 = some true
theorem PlaPrints.walk (P : PlaPrints.Pure) {W : World} (hG : ∀ w, PH.le (hp W) (hp w) → GloW w) {V0 : Value} {V1 : Value} {a0 : Int} {a1 : Int} {a2 : Int} {a3 : List (Int × Int × (List Int))} {a4 : Int} {a5 : Int} {a6 : Int} {a7 : List (Int × Int × (List Int))} (k0 : ok24 (a0, a1, a2, a3)) (k1 : ok24 (a4, a5, a6, a7)) (sV0 : slRep (kP (kI .u8) (kP (kI .u8) (kL (kI .i64)))) (hp W) a3 V0) (sV1 : slRep (kP (kI .u8) (kP (kI .u8) (kL (kI .i64)))) (hp W) a7 V1) : Calls Tryd.prog 3 #[.agg #[.int .i64 a0, .int .i64 a1, .int .i64 a2, V0], .agg #[.int .i64 a4, .int .i64 a5, .int .i64 a6, V1]] W fun e w' => e = .returned (.bool true) ∧ Below W.heap.size W w' := by
  obtain ⟨K, h⟩ := P a0 a1 a2 a3 a4 a5 a6 a7 k0 k1
  exact law03_PlaPrints.ok h (L := [Old W]) (τ := metaOf W) (R := fun e w' => e = .returned (.bool true) ∧ Below W.heap.size W w') (St.root (SepL.pers ⟨rfl, sV0⟩ (SepL.pers ⟨rfl, sV1⟩ (SepL.pers ⟨rfl, hG⟩ SepL.old)))) fun w' H => ⟨rfl, root_below H⟩
theorem own : ownKnob Tryd.prog.godebug = none := by kernel_rfl
theorem laidOut : laidOutB Tryd.prog = true := by kernel_rfl
set_option maxRecDepth 100000
theorem glo_start {W : World} (hL : laidMet Tryd.prog Rows.plaPrintsRow.laid W) (hs : W.ShapedOpen Tryd.prog) : GloW W :=
  ⟨cell_of_shapedOpen_int (zero := #[.int .i64 0]) (t := 3) hs (of_decide_eq_true (by kernel_rfl)) (by kernel_rfl) rfl (by kernel_rfl) (by kernel_rfl) Tryd.underlying3,
   glo_of (n := "strconv.ErrSyntax") (t := 100) (by kernel_rfl) (by kernel_rfl) Tryd.underlying100 (Lib.laidMet.reads hL (.tail _ (.tail _ (.tail _ (.tail _ (.tail _ (.head _))))))),
   glo_of (n := "strconv.ErrRange") (t := 100) (by kernel_rfl) (by kernel_rfl) Tryd.underlying100 (Lib.laidMet.reads hL (.tail _ (.tail _ (.tail _ (.tail _ (.head _)))))),
   Lib.tabIs_of_head (g := 0) (t := 121) (e := 49) (n := 20) (by kernel_rfl) (by kernel_rfl) Tryd.underlying121 Tryd.underlying49 (by kernel_rfl) (by kernel_rfl) (laidMet.tail (laidMet.tail hL))⟩
theorem PlaPrints.lifted (P : PlaPrints.Pure) (os : Os) (started : os.Started) (H : Type) (enc : TypeId × Value → H) :
    ReturnsInHanded {} Tryd.checked os 3 .any (fun w args => (Rows.plaPrintsSpec.pre enc Tryd.prog Tryd.f3 [] false w args ∧ laidMetH Tryd.prog Rows.plaPrintsRow.laid w) ∧ sizedMet enc Tryd.prog Tryd.f3 (OpenSpec.ofChange Rows.plaPrintsSpec) false w args) (Rows.plaPrintsSpec.post enc Tryd.prog Tryd.f3 false true false false) := by
  refine wrap_and_shaped (C := Tryd.checked) (X := fun w _ => laidMetH Tryd.prog Rows.plaPrintsRow.laid w) (fun _ _ _ hh h => h.of_heap hh) own started (by kernel_rfl) Tryd.func3
    (ChangeSpec.witness_shaped (enc := enc) (C := Tryd.checked) (os := os) (X := fun w _ => laidMetH Tryd.prog Rows.plaPrintsRow.laid w) false (World.laidAll Tryd.prog os Rows.plaPrintsRow.laid) #[.agg #[.int .i64 0, .int .i64 0, .int .i64 0, .slice none 0 0], .agg #[.int .i64 0, .int .i64 0, .int .i64 0, .slice none 0 0]] 8 (World.laidAll_os _ _ _)
      (World.shaped_of_ZipB (by kernel_rfl) (by kernel_rfl)) (by kernel_rfl) (by kernel_rfl) (by kernel_rfl)
      (by rw [MakeChecks.laidMetH_plain _ _ _ (by kernel_rfl)]; exact laidMet_laidAll _ (by kernel_rfl) (by kernel_rfl))) ?_
  intro W base args ds gs before hval0 hW hL hsh
  rw [MakeChecks.laidMetH_plain _ _ _ (by kernel_rfl)] at hL
  have hgl := glo_start hL hsh
  have hval : ∀ (j : Nat) t v, Tryd.f3.params[j]? = some t → args[j]? = some v → Value.okWide Tryd.prog W .any base t v := hval0
  have hW' := hW
  obtain ⟨p, q, hA0, hV, rfl, hfz, hnd⟩ := hW
  have hA : DataW.TrodAll enc Tryd.prog W 0 (fun _ => true) true Tryd.f3.params.toList args.toList ds p := hA0
  rw [Tryd.params3] at hA hval
  obtain ⟨v0, vs0, d0, ds0, p0, q0, hargs, rfl, rfl, h0, r0⟩ := trodAll_cons hA
  obtain ⟨v1, vs1, d1, ds1, p1, q1, rfl, rfl, rfl, h1, r1⟩ := trodAll_cons r0
  obtain ⟨rfl, rfl, rfl⟩ := trodAll_nil r1
  obtain rfl : args = #[v0, v1] := by cases args; simp_all
  obtain ⟨rfl, rfl⟩ := trodVars_none hV
  have lt0 : ∀ x ∈ p0, x.block < W.heap.size := by obtain ⟨m, hm⟩ := h0; exact DataW.trod_lt m _ _ _ hm
  obtain ⟨x0, rep0, k0⟩ : ∃ x, (kP (kI .i64) (kP (kI .i64) (kP (kI .i64) (kL (kP (kI .u8) (kP (kI .u8) (kL (kI .i64)))))))).rep (hp W) x v0.cells.toList ∧ ok24 x := by obtain ⟨fuel, hf⟩ := h0; exact op24.2 _ _ _ _ _ _ _ _ _ hf
  obtain ⟨cs0, rfl, _⟩ := okWide_struct Tryd.underlying24 (hval 0 24 v0 rfl rfl)
  obtain ⟨c0_0, e0_0, q0_0, l0_0, n0_0⟩ := rep0
  have ew0_0 : c0_0 = [.int .i64 x0.1] := l0_0
  obtain ⟨c0_1, e0_1, q0_1, l0_1, n0_1⟩ := n0_0
  have ew0_1 : c0_1 = [.int .i64 x0.2.1] := l0_1
  obtain ⟨c0_2, e0_2, q0_2, l0_2, n0_2⟩ := n0_1
  have ew0_2 : c0_2 = [.int .i64 x0.2.2.1] := l0_2
  obtain ⟨w0_3, ew0_3, s0_3⟩ := n0_2
  have ec0 : cs0.toList = [.int .i64 x0.1, .int .i64 x0.2.1, .int .i64 x0.2.2.1, w0_3] := by
    have z : cs0.toList = _ := q0_0
    rw [z]; simp only [ew0_0, q0_1, ew0_1, q0_2, ew0_2, ew0_3, List.cons_append, List.nil_append]
  obtain rfl : cs0 = #[.int .i64 x0.1, .int .i64 x0.2.1, .int .i64 x0.2.2.1, w0_3] := Array.toList_inj.1 ec0
  have lt1 : ∀ x ∈ p1, x.block < W.heap.size := by obtain ⟨m, hm⟩ := h1; exact DataW.trod_lt m _ _ _ hm
  obtain ⟨x1, rep1, k1⟩ : ∃ x, (kP (kI .i64) (kP (kI .i64) (kP (kI .i64) (kL (kP (kI .u8) (kP (kI .u8) (kL (kI .i64)))))))).rep (hp W) x v1.cells.toList ∧ ok24 x := by obtain ⟨fuel, hf⟩ := h1; exact op24.2 _ _ _ _ _ _ _ _ _ hf
  obtain ⟨cs1, rfl, _⟩ := okWide_struct Tryd.underlying24 (hval 1 24 v1 rfl rfl)
  obtain ⟨c1_0, e1_0, q1_0, l1_0, n1_0⟩ := rep1
  have ew1_0 : c1_0 = [.int .i64 x1.1] := l1_0
  obtain ⟨c1_1, e1_1, q1_1, l1_1, n1_1⟩ := n1_0
  have ew1_1 : c1_1 = [.int .i64 x1.2.1] := l1_1
  obtain ⟨c1_2, e1_2, q1_2, l1_2, n1_2⟩ := n1_1
  have ew1_2 : c1_2 = [.int .i64 x1.2.2.1] := l1_2
  obtain ⟨w1_3, ew1_3, s1_3⟩ := n1_2
  have ec1 : cs1.toList = [.int .i64 x1.1, .int .i64 x1.2.1, .int .i64 x1.2.2.1, w1_3] := by
    have z : cs1.toList = _ := q1_0
    rw [z]; simp only [ew1_0, q1_1, ew1_1, q1_2, ew1_2, ew1_3, List.cons_append, List.nil_append]
  obtain rfl : cs1 = #[.int .i64 x1.1, .int .i64 x1.2.1, .int .i64 x1.2.2.1, w1_3] := Array.toList_inj.1 ec1
  refine (PlaPrints.walk P (GloW.up hgl) k0 k1 s0_3 s1_3).mono fun e W' ⟨he, bel⟩ => ?_
  subst he
  exact ⟨_, rfl, _, _, _, [], _, [], hW', trodAll_mk1 (shut_bool Tryd.underlying4 _), (trodAll_cons_mk (Below.trod laidOut (by kernel_rfl) (of_decide_eq_true (by kernel_rfl)) h0 bel lt0) (trodAll_cons_mk (Below.trod laidOut (by kernel_rfl) (of_decide_eq_true (by kernel_rfl)) h1 bel lt1) trodAll_mk0)), rfl, bel.frame _, fun h => by cases h⟩
theorem PlaPrints.over (P : PlaPrints.Pure) : Rows.plaPrintsRow.holds Tryd.pinned (OpenSpec.ofChange Rows.plaPrintsSpec) :=
  OpenClaim.holds_of_wide 3 Tryd.f3 rfl rfl rfl rfl rfl rfl rfl ⟨rfl, rfl, rfl, rfl, rfl⟩ rfl rfl rfl rfl rfl (by kernel_rfl) Tryd.func3 (by kernel_rfl)
    (of_decide_eq_true (by kernel_rfl)) (by unfold Func.isWrapper; first | (rw [if_pos (by decide +kernel)]; kernel_rfl) | (rw [if_neg (by decide +kernel)]; exact ⟨rfl, rfl⟩))
    (fun os started H enc _ => PlaPrints.lifted P os started H enc)
theorem PlaPrints.card (P : PlaPrints.Pure) : Rows.PlaPrintsCardSaid :=
  Claim7.holds_tied_plain_at .later [] [.data, .data, .data, .data, .sentinel, .sentinel, .pinned] true (true, "6bf0231e66fd678854dd0e9eca5e8b38bf49a1daed0ab5005693165148d214b9") true (PlaPrints.over P) (fun _ h => by cases h) (by kernel_rfl) (fun _ h => by cases h) plaPrints_row_tie rfl ⟨rfl, rfl⟩ (by kernel_rfl) rfl
    (fun f fn hf hfn => by
      obtain rfl : f = 3 := Option.some.inj ((show Tryd.prog.funcNamed "drawknife/drawknifelaw03.PlaPrints" = some 3 by kernel_rfl).symm.trans hf) |>.symm
      obtain rfl : fn = Tryd.f3 := (Option.some.inj (Tryd.func3.symm.trans hfn)).symm
      exact ⟨by kernel_rfl, fun j t ht => by
        rw [Tryd.params3] at ht
        have hm : t ∈ [24, 24] := by simpa using Array.mem_of_getElem? ht
        have hall : ([24, 24].all fun u => !Tryd.prog.wantsStandIn u) = true := by kernel_rfl
        exact (show Tryd.prog.wantsStandIn t = false by simpa using List.all_eq_true.1 hall t hm)⟩)
    (by kernel_rfl)
end Go.Proofs.YtbkojmcppeflbaaDoor
