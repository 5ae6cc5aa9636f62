import Derived.Test.YtbkojmcppeflbaaDoorWkDp0
namespace Go.Proofs.YtbkojmcppeflbaaDoor
open Go
set_option linter.unusedVariables false
set_option linter.unusedSimpArgs false
set_option linter.unusedSectionVars false
set_option linter.unnecessarySimpa false
set_option maxRecDepth 100000
set_option linter.unusedVariables false
def ref02_Right.f (K : Nat) (a0 : Int) (a1 : Int) (a2 : Int) : Option Bool :=
  (((bif decide ((a2 : Int) < 0) then some true else some (decide ((a2 : Int) > 8)))).bind fun x2 => (bif x2 then some false else ((ref02_Literals.f K a0 a1).bind fun x5 => ((ref02_Right.l1 K x5 K a2 : Option ((Bool) ⊕ (Unit))).bind fun y => match y with | .inl r => some r | .inr x8 => ((ref02_Cube.f K x5).bind fun x17 => some ((x17.1 : Int) == a0 && ((x17.2 : Int) == a1)))))))

theorem ref02_Right.ok {K : Nat} {a0 : Int} {a1 : Int} {a2 : Int} {r : Bool} (h : ref02_Right.f K a0 a1 a2 = some r) {τ : Meta} {L : List Itm} {w : World} {R : Ending → World → Prop} (hS : St τ ([] ++ L) w)
    (hR : ∀ w', St τ ([] ++ L) w' → R (.returned (.bool r)) w') : Calls Tryd.prog 20 #[.agg #[.int .u8 a0, .int .u8 a1], .int .i64 a2] w R := by
  refine enter (vs := [_, _]) Tryd.func20 rfl Tryd.ntmps20 rfl hS.cat ?_
  unfold ref02_Right.f at h
  refine Ws.seq ?_
  refine Ws.region ?_
  refine Ls.cons (o_box (cs := [.int .u8 a0, .int .u8 a1]) rfl rfl fun b1 => ?_)
  refine Ls.cons (G.q (r_assign rfl) rfl rfl ?_)
  refine Ls.nil ?_
  refine Qs.then_n ?_
  refine Ws.seq ?_
  refine Ws.seq ?_
  refine Ws.region ?_
  refine Ls.cons (G.q (r_move rfl) rfl rfl ?_)
  refine Ls.cons (G.q (r_bin rfl rfl rfl) rfl rfl ?_)
  refine Ls.cons (G.q (r_move rfl) rfl rfl ?_)
  obtain ⟨x2, hx3, h4⟩ := bind_some h
  refine Ls.cutX (ε := Unit) True (fun e => [(1, .int .i64 a2), (2, .pointer (some ⟨b1, 0, none⟩)), (12, .bool x2)]) (fun e => Cells b1 [.int .u8 a0, .int .u8 a1] 42 :: L) ?_ ?_
  ·
    rcases bif_some hx3 with ⟨hb, hx3⟩ | ⟨hb, hx3⟩
    · refine G.fixB 9 hb rfl ?_
      refine Ls.guard_f rfl rfl rfl rfl ?_
      refine Ls.guard_f rfl rfl rfl rfl ?_
      refine Ls.cons (G.q (r_pick rfl rfl rfl) rfl rfl ?_)
      refine Ls.nil ?_
      refine Qs.only ?_
      obtain rfl := Option.some.inj hx3
      exact Qs.midX () trivial (.cons rfl (.cons rfl (.cons rfl (.nil)))) (fun _ H => H.to)
    · refine G.fixB 9 hb rfl ?_
      refine Ls.guard_t rfl rfl rfl (G.q (r_move rfl) rfl rfl ?_)
      refine Ls.guard_t rfl rfl rfl (G.q (r_bin rfl rfl rfl) rfl rfl ?_)
      refine Ls.cons (G.q (r_pick rfl rfl rfl) rfl rfl ?_)
      refine Ls.nil ?_
      refine Qs.only ?_
      obtain rfl := Option.some.inj hx3
      exact Qs.midX () trivial (.cons rfl (.cons rfl (.cons rfl (.nil)))) (fun _ H => H.to)
  ·
    rintro ⟨⟩ _
    refine Qs.then_n ?_
    rcases bif_some h4 with ⟨hb, h4⟩ | ⟨hb, h4⟩
    · refine Ws.cond_t rfl hb ?_
      refine Ws.seq ?_
      refine Ws.region ?_
      refine Ls.cons (G.q (r_assign rfl) rfl rfl ?_)
      refine Ls.nil ?_
      refine Qs.then_n ?_
      refine Ws.ret ?_
      refine Qs.then_r ?_
      obtain rfl := Option.some.inj h4
      exact W_end (.inl rfl) Tryd.results20 (.tmp rfl .nil) rfl fun w hS => hR w hS.fin
    · refine Ws.cond_f rfl hb ?_
      refine Ws.skip ?_
      refine Qs.then_n ?_
      refine Ws.seq ?_
      refine Ws.region ?_
      refine Ls.cons (G.q (r_loadN rfl rfl) rfl rfl ?_)
      obtain ⟨x5, hx6, h4⟩ := bind_some h4
      refine Ls.cons (o_call Tryd.call41 rfl fun a_ w_ hK_ hS_ => ref02_Literals.ok hx6 hS_.sels fun u7 w1_ hS1_ => atRet (G.goA ?_ (hK_.put rfl _) hS1_))
      clear hS1_ w1_ hS_ hK_ w_ a_
      refine Ls.cons (G.q (r_assign rfl) rfl rfl ?_)
      refine Ls.nil ?_
      refine Qs.then_n ?_
      refine Ws.seq ?_
      refine Ws.seq ?_
      refine Ws.region ?_
      refine Ls.cons (G.q (r_move rfl) rfl rfl ?_)
      refine Ls.cons (G.q (r_assign rfl) rfl rfl ?_)
      refine Ls.nil ?_
      refine Qs.then_n ?_
      obtain ⟨x8, hx9, h10⟩ := bind_some h4
      refine Ws.cutX (ε := Unit) (isR x8 = true) (fun e => [(2, .pointer (some ⟨b1, 0, none⟩)), (5, u7)]) (fun e => Cells b1 [.int .u8 a0, .int .u8 a1] 42 :: Own (kI .i64) u7 x5 3 :: L) ?_ ?_
      ·
        refine Ws.block ?_
        refine Ws.loop (ε := Unit) (ref02_Right.l1 K x5) (fun s e => [(2, .pointer (some ⟨b1, 0, none⟩)), (5, u7), (6, .int .i64 s)]) (fun s e => Cells b1 [.int .u8 a0, .int .u8 a1] 42 :: Own (kI .i64) u7 x5 3 :: L) () hx9 (.cons rfl (.cons rfl (.cons rfl (.nil)))) (fun _ H => H.to) ?_
        rintro j12 s11 ⟨⟩ h13
        cases j12 with
        | zero => cases (show none = some _ from h13)
        | succ j12 =>
          rw [ref02_Right.l1] at h13
          refine Ws.seq ?_
          refine Ws.seq ?_
          refine Ws.region ?_
          refine Ls.cons (G.q (r_move rfl) rfl rfl ?_)
          refine Ls.cons (G.q (r_bin rfl rfl rfl) rfl rfl ?_)
          refine Ls.nil ?_
          refine Qs.then_n ?_
          rcases bif_some h13 with ⟨hb, h13⟩ | ⟨hb, h13⟩
          · refine Ws.cond_t rfl hb ?_
            refine Ws.skip ?_
            refine Qs.then_n ?_
            refine Ws.seq ?_
            refine Ws.block ?_
            refine Ws.seq ?_
            refine Ws.region ?_
            refine Ls.cons (G.q (r_move rfl) rfl rfl ?_)
            refine Ls.cons (G.q (r_move rfl) rfl rfl ?_)
            obtain ⟨y14, hy15, h13⟩ := bind_some h13
            have hy15 := idx_some hy15
            refine G.at (kI .i64) u7 hy15.2 ?_
            intro b16
            refine Ls.cons (G.q (r_idxO (kI .i64) rfl rfl hy15.1 hy15.2) rfl rfl ?_)
            refine Ls.cons (G.q (r_loadO (kI .i64) u7 s11.toNat 0 rfl hy15.2 rfl rfl rfl) rfl rfl ?_)
            refine Ls.cons (G.q (r_bin rfl rfl rfl) rfl rfl ?_)
            refine Ls.nil ?_
            refine Qs.then_n ?_
            rcases bif_some h13 with ⟨hb, h13⟩ | ⟨hb, h13⟩
            · refine Ws.cond_t rfl hb ?_
              refine Ws.seq ?_
              refine Ws.region ?_
              refine Ls.cons (G.q (r_assign rfl) rfl rfl ?_)
              refine Ls.nil ?_
              refine Qs.then_n ?_
              refine Ws.ret ?_
              refine Qs.block_r ?_
              refine Qs.then_r ?_
              refine Qs.then_r ?_
              refine Qs.block_r ?_
              refine Qs.then_r ?_
              obtain rfl := Option.some.inj h13
              obtain rfl := Option.some.inj h10
              exact W_end (.inl rfl) Tryd.results20 (.tmp rfl .nil) rfl fun w hS => hR w hS.fin
            · refine Ws.cond_f rfl hb ?_
              refine Ws.skip ?_
              refine Qs.block_n ?_
              refine Qs.then_n ?_
              refine Ws.region ?_
              refine Ls.cons (G.q (r_move rfl) rfl rfl ?_)
              refine Ls.cons (G.q (r_bin rfl rfl rfl) rfl rfl ?_)
              refine Ls.cons (G.q (r_assign rfl) rfl rfl ?_)
              refine Ls.nil ?_
              refine Qs.then_n ?_
              exact Qs.again () h13 (Nat.lt_succ_self _) (.cons rfl (.cons rfl (.cons rfl (.nil)))) (fun _ H => H.to)
          · refine Ws.cond_f rfl hb ?_
            refine Ws.exit ?_
            refine Qs.then_e ?_
            refine Qs.then_e ?_
            refine Qs.block_e ?_
            refine Qs.then_n ?_
            obtain rfl := Option.some.inj h13
            exact Qs.midX () rfl (.cons rfl (.cons rfl (.nil))) (fun _ H => H.to)
      ·
        rintro ⟨⟩ hφ
        cases x8 with
        | inl _ => cases hφ
        | inr x8 =>
          refine Ws.seq ?_
          refine D.start [Cells b1 [.int .u8 a0, .int .u8 a1] 42] rfl ?_
          refine D.take 0 rfl (by kernel_rfl) (r_move rfl) rfl ?_
          refine D.take 2 rfl (by kernel_rfl) (r_loadN rfl rfl) rfl ?_
          refine G.frz (kI .i64) u7 3 ?_
          obtain ⟨x17, hx18, h10⟩ := bind_some h10
          refine D.run 1 rfl (by kernel_rfl) (o_call Tryd.call42 rfl fun a_ w_ hK_ hS_ => ref02_Cube.ok (V0 := u7) hx18 hS_.sels fun w1_ hS1_ => atRet (G.goA ?_ (hK_.put rfl _) hS1_))
          clear hS1_ w1_ hS_ hK_ w_ a_
          refine D.next ?_
          refine D.take 3 rfl (by kernel_rfl) (r_eqAgg rfl rfl Tryd.eqGuardType42 (fun w => eqv42 9998 _ _ _ _ w)) rfl ?_
          refine D.tail (by kernel_rfl) ?_
          refine A.run 4 rfl (by kernel_rfl) (G.q (r_assign rfl) rfl rfl ?_)
          refine A.done (by kernel_rfl) ?_
          refine Qs.then_n ?_
          refine Ws.ret ?_
          obtain rfl := Option.some.inj h10
          exact W_end (.inl rfl) Tryd.results20 (.tmp rfl .nil) rfl fun w hS => hR w hS.fin

def ref03_Right.l2 (K : Nat) (y26 : Int × Int × (List Int)) : Nat → Int → Option (Bool ⊕ Unit)
  | 0, _ => none
  | j42 + 1, s41 =>
    (bif decide ((s41 : Int) < (y26.2.2.length : Int)) then ((idx y26.2.2 s41).bind fun y44 => (((bif (y44 : Int) != 0 then (((bif (y44 : Int) != 1 then some ((y44 : Int) != 2) else some false)).bind fun x52 => some x52) else some false)).bind fun x49 => (bif x49 then some (.inl false) else ref03_Right.l2 K y26 j42 (IntKind.wrap .i64 (s41 + 1))))) else some (.inr ()))

def ref03_Right.l1 (K : Nat) (a3 : List (Int × Int × (List Int))) (a1 : Int) (a2 : Int) : Nat → Int → Option (Bool ⊕ Unit)
  | 0, _ => none
  | j24 + 1, s23 =>
    (bif decide ((s23 : Int) < (a3.length : Int)) then ((idx a3 s23).bind fun y26 => ((ref02_Right.f K y26.1 y26.2.1 a1).bind fun x33 => (((bif !x33 then some true else some (((y26.2.2.length : Int) : Int) != a2))).bind fun x35 => (bif x35 then some (.inl false) else ((ref03_Right.l2 K y26 K 0 : Option ((Bool) ⊕ (Unit))).bind fun y => match y with | .inl r => some (.inl r) | .inr x38 => ref03_Right.l1 K a3 a1 a2 j24 (IntKind.wrap .i64 (s23 + 1))))))) else some (.inr ()))

def ref03_Right.f (K : Nat) (a0 : Int) (a1 : Int) (a2 : Int) (a3 : List (Int × Int × (List Int))) : Option Bool :=
  (((bif decide ((a0 : Int) < 0) then some true else (((bif decide ((a0 : Int) > 3) then some true else (((bif decide ((a1 : Int) < 0) then some true else (((bif decide ((a1 : Int) > 8) then some true else (((bif decide ((a2 : Int) < 1) then some true else (((bif decide ((a2 : Int) > 4) then some true else some (decide (((a3.length : Int) : Int) > 64)))).bind fun x17 => some x17))).bind fun x14 => some x14))).bind fun x11 => some x11))).bind fun x8 => some x8))).bind fun x5 => some x5))).bind fun x2 => (bif x2 then some false else ((ref03_Right.l1 K a3 a1 a2 K 0 : Option ((Bool) ⊕ (Unit))).bind fun y => match y with | .inl r => some r | .inr x20 => some true)))

theorem ref03_Right.ok {K : Nat} {a0 : Int} {a1 : Int} {a2 : Int} {a3 : List (Int × Int × (List Int))} {V0 : Value} {r : Bool} (h : ref03_Right.f K a0 a1 a2 a3 = some r) {τ : Meta} {L : List Itm} {w : World} {R : Ending → World → Prop} (hS : St τ ([Frz (kP (kI .u8) (kP (kI .u8) (kL (kI .i64)))) V0 a3] ++ L) w)
    (hR : ∀ w', St τ ([] ++ L) w' → R (.returned (.bool r)) w') : Calls Tryd.prog 10 #[.agg #[.int .i64 a0, .int .i64 a1, .int .i64 a2, V0]] w R := by
  refine enter (vs := [_]) Tryd.func10 rfl Tryd.ntmps10 rfl hS.cat ?_
  unfold ref03_Right.f at h
  refine Ws.seq ?_
  refine Ws.region ?_
  refine Ls.cons (o_box (cs := [.int .i64 a0, .int .i64 a1, .int .i64 a2, V0]) rfl rfl fun b1 => ?_)
  refine Ls.cons (G.q (r_assign rfl) rfl rfl ?_)
  refine Ls.nil ?_
  refine Qs.then_n ?_
  refine Ws.seq ?_
  refine Ws.seq ?_
  refine Ws.region ?_
  refine Ls.cons (G.q (r_field rfl) rfl rfl ?_)
  refine Ls.cons (G.q (r_load rfl rfl) rfl rfl ?_)
  refine Ls.cons (G.q (r_bin rfl rfl rfl) rfl rfl ?_)
  refine Ls.cons (G.q (r_move rfl) rfl rfl ?_)
  obtain ⟨x2, hx3, h4⟩ := bind_some h
  refine Ls.cutX (ε := Unit) True (fun e => [(1, .pointer (some ⟨b1, 0, none⟩)), (39, .bool x2)]) (fun e => Cells b1 [.int .i64 a0, .int .i64 a1, .int .i64 a2, V0] 24 :: Frz (kP (kI .u8) (kP (kI .u8) (kL (kI .i64)))) V0 a3 :: L) ?_ ?_
  ·
    rcases bif_some hx3 with ⟨hb, hx3⟩ | ⟨hb, hx3⟩
    · refine G.fixB 9 hb rfl ?_
      refine Ls.guard_f rfl rfl rfl rfl ?_
      refine Ls.guard_f rfl rfl rfl rfl ?_
      refine Ls.guard_f rfl rfl rfl rfl ?_
      refine Ls.cons (G.q (r_pick rfl rfl rfl) rfl rfl ?_)
      refine Ls.cons (G.q (r_move rfl) rfl rfl ?_)
      refine Ls.guard_f rfl rfl rfl rfl ?_
      refine Ls.guard_f rfl rfl rfl rfl ?_
      refine Ls.guard_f rfl rfl rfl rfl ?_
      refine Ls.cons (G.q (r_pick rfl rfl rfl) rfl rfl ?_)
      refine Ls.cons (G.q (r_move rfl) rfl rfl ?_)
      refine Ls.guard_f rfl rfl rfl rfl ?_
      refine Ls.guard_f rfl rfl rfl rfl ?_
      refine Ls.guard_f rfl rfl rfl rfl ?_
      refine Ls.cons (G.q (r_pick rfl rfl rfl) rfl rfl ?_)
      refine Ls.cons (G.q (r_move rfl) rfl rfl ?_)
      refine Ls.guard_f rfl rfl rfl rfl ?_
      refine Ls.guard_f rfl rfl rfl rfl ?_
      refine Ls.guard_f rfl rfl rfl rfl ?_
      refine Ls.cons (G.q (r_pick rfl rfl rfl) rfl rfl ?_)
      refine Ls.cons (G.q (r_move rfl) rfl rfl ?_)
      refine Ls.guard_f rfl rfl rfl rfl ?_
      refine Ls.guard_f rfl rfl rfl rfl ?_
      refine Ls.guard_f rfl rfl rfl rfl ?_
      refine Ls.cons (G.q (r_pick rfl rfl rfl) rfl rfl ?_)
      refine Ls.cons (G.q (r_move rfl) rfl rfl ?_)
      refine Ls.guard_f rfl rfl rfl rfl ?_
      refine Ls.guard_f rfl rfl rfl rfl ?_
      refine Ls.guard_f rfl rfl rfl rfl ?_
      refine Ls.guard_f rfl rfl rfl rfl ?_
      refine Ls.cons (G.q (r_pick rfl rfl rfl) rfl rfl ?_)
      refine Ls.nil ?_
      refine Qs.only ?_
      obtain rfl := Option.some.inj hx3
      exact Qs.midX () trivial (.cons rfl (.cons rfl (.nil))) (fun _ H => H.to)
    · refine G.fixB 9 hb rfl ?_
      refine Ls.guard_t rfl rfl rfl (G.q (r_field rfl) rfl rfl ?_)
      refine Ls.guard_t rfl rfl rfl (G.q (r_load rfl rfl) rfl rfl ?_)
      refine Ls.guard_t rfl rfl rfl (G.q (r_bin rfl rfl rfl) rfl rfl ?_)
      refine Ls.cons (G.q (r_pick rfl rfl rfl) rfl rfl ?_)
      refine Ls.cons (G.q (r_move rfl) rfl rfl ?_)
      obtain ⟨x5, hx6, h7⟩ := bind_some hx3
      refine Ls.cutX (ε := Unit) True (fun e => [(1, .pointer (some ⟨b1, 0, none⟩)), (39, .bool x5)]) (fun e => Cells b1 [.int .i64 a0, .int .i64 a1, .int .i64 a2, V0] 24 :: Frz (kP (kI .u8) (kP (kI .u8) (kL (kI .i64)))) V0 a3 :: L) ?_ ?_
      ·
        rcases bif_some hx6 with ⟨hb, hx6⟩ | ⟨hb, hx6⟩
        · refine G.fixB 14 hb rfl ?_
          refine Ls.guard_f rfl rfl rfl rfl ?_
          refine Ls.guard_f rfl rfl rfl rfl ?_
          refine Ls.guard_f rfl rfl rfl rfl ?_
          refine Ls.cons (G.q (r_pick rfl rfl rfl) rfl rfl ?_)
          refine Ls.cons (G.q (r_move rfl) rfl rfl ?_)
          refine Ls.guard_f rfl rfl rfl rfl ?_
          refine Ls.guard_f rfl rfl rfl rfl ?_
          refine Ls.guard_f rfl rfl rfl rfl ?_
          refine Ls.cons (G.q (r_pick rfl rfl rfl) rfl rfl ?_)
          refine Ls.cons (G.q (r_move rfl) rfl rfl ?_)
          refine Ls.guard_f rfl rfl rfl rfl ?_
          refine Ls.guard_f rfl rfl rfl rfl ?_
          refine Ls.guard_f rfl rfl rfl rfl ?_
          refine Ls.cons (G.q (r_pick rfl rfl rfl) rfl rfl ?_)
          refine Ls.cons (G.q (r_move rfl) rfl rfl ?_)
          refine Ls.guard_f rfl rfl rfl rfl ?_
          refine Ls.guard_f rfl rfl rfl rfl ?_
          refine Ls.guard_f rfl rfl rfl rfl ?_
          refine Ls.cons (G.q (r_pick rfl rfl rfl) rfl rfl ?_)
          refine Ls.cons (G.q (r_move rfl) rfl rfl ?_)
          refine Ls.guard_f rfl rfl rfl rfl ?_
          refine Ls.guard_f rfl rfl rfl rfl ?_
          refine Ls.guard_f rfl rfl rfl rfl ?_
          refine Ls.guard_f rfl rfl rfl rfl ?_
          refine Ls.cons (G.q (r_pick rfl rfl rfl) rfl rfl ?_)
          refine Ls.nil ?_
          refine Qs.only ?_
          obtain rfl := Option.some.inj hx6
          exact Qs.midX () trivial (.cons rfl (.cons rfl (.nil))) (fun _ H => H.to)
        · refine G.fixB 14 hb rfl ?_
          refine Ls.guard_t rfl rfl rfl (G.q (r_field rfl) rfl rfl ?_)
          refine Ls.guard_t rfl rfl rfl (G.q (r_load rfl rfl) rfl rfl ?_)
          refine Ls.guard_t rfl rfl rfl (G.q (r_bin rfl rfl rfl) rfl rfl ?_)
          refine Ls.cons (G.q (r_pick rfl rfl rfl) rfl rfl ?_)
          refine Ls.cons (G.q (r_move rfl) rfl rfl ?_)
          obtain ⟨x8, hx9, h10⟩ := bind_some hx6
          refine Ls.cutX (ε := Unit) True (fun e => [(1, .pointer (some ⟨b1, 0, none⟩)), (39, .bool x8)]) (fun e => Cells b1 [.int .i64 a0, .int .i64 a1, .int .i64 a2, V0] 24 :: Frz (kP (kI .u8) (kP (kI .u8) (kL (kI .i64)))) V0 a3 :: L) ?_ ?_
          ·
            rcases bif_some hx9 with ⟨hb, hx9⟩ | ⟨hb, hx9⟩
            · refine G.fixB 19 hb rfl ?_
              refine Ls.guard_f rfl rfl rfl rfl ?_
              refine Ls.guard_f rfl rfl rfl rfl ?_
              refine Ls.guard_f rfl rfl rfl rfl ?_
              refine Ls.cons (G.q (r_pick rfl rfl rfl) rfl rfl ?_)
              refine Ls.cons (G.q (r_move rfl) rfl rfl ?_)
              refine Ls.guard_f rfl rfl rfl rfl ?_
              refine Ls.guard_f rfl rfl rfl rfl ?_
              refine Ls.guard_f rfl rfl rfl rfl ?_
              refine Ls.cons (G.q (r_pick rfl rfl rfl) rfl rfl ?_)
              refine Ls.cons (G.q (r_move rfl) rfl rfl ?_)
              refine Ls.guard_f rfl rfl rfl rfl ?_
              refine Ls.guard_f rfl rfl rfl rfl ?_
              refine Ls.guard_f rfl rfl rfl rfl ?_
              refine Ls.cons (G.q (r_pick rfl rfl rfl) rfl rfl ?_)
              refine Ls.cons (G.q (r_move rfl) rfl rfl ?_)
              refine Ls.guard_f rfl rfl rfl rfl ?_
              refine Ls.guard_f rfl rfl rfl rfl ?_
              refine Ls.guard_f rfl rfl rfl rfl ?_
              refine Ls.guard_f rfl rfl rfl rfl ?_
              refine Ls.cons (G.q (r_pick rfl rfl rfl) rfl rfl ?_)
              refine Ls.nil ?_
              refine Qs.only ?_
              obtain rfl := Option.some.inj hx9
              exact Qs.midX () trivial (.cons rfl (.cons rfl (.nil))) (fun _ H => H.to)
            · refine G.fixB 19 hb rfl ?_
              refine Ls.guard_t rfl rfl rfl (G.q (r_field rfl) rfl rfl ?_)
              refine Ls.guard_t rfl rfl rfl (G.q (r_load rfl rfl) rfl rfl ?_)
              refine Ls.guard_t rfl rfl rfl (G.q (r_bin rfl rfl rfl) rfl rfl ?_)
              refine Ls.cons (G.q (r_pick rfl rfl rfl) rfl rfl ?_)
              refine Ls.cons (G.q (r_move rfl) rfl rfl ?_)
              obtain ⟨x11, hx12, h13⟩ := bind_some hx9
              refine Ls.cutX (ε := Unit) True (fun e => [(1, .pointer (some ⟨b1, 0, none⟩)), (39, .bool x11)]) (fun e => Cells b1 [.int .i64 a0, .int .i64 a1, .int .i64 a2, V0] 24 :: Frz (kP (kI .u8) (kP (kI .u8) (kL (kI .i64)))) V0 a3 :: L) ?_ ?_
              ·
                rcases bif_some hx12 with ⟨hb, hx12⟩ | ⟨hb, hx12⟩
                · refine G.fixB 24 hb rfl ?_
                  refine Ls.guard_f rfl rfl rfl rfl ?_
                  refine Ls.guard_f rfl rfl rfl rfl ?_
                  refine Ls.guard_f rfl rfl rfl rfl ?_
                  refine Ls.cons (G.q (r_pick rfl rfl rfl) rfl rfl ?_)
                  refine Ls.cons (G.q (r_move rfl) rfl rfl ?_)
                  refine Ls.guard_f rfl rfl rfl rfl ?_
                  refine Ls.guard_f rfl rfl rfl rfl ?_
                  refine Ls.guard_f rfl rfl rfl rfl ?_
                  refine Ls.cons (G.q (r_pick rfl rfl rfl) rfl rfl ?_)
                  refine Ls.cons (G.q (r_move rfl) rfl rfl ?_)
                  refine Ls.guard_f rfl rfl rfl rfl ?_
                  refine Ls.guard_f rfl rfl rfl rfl ?_
                  refine Ls.guard_f rfl rfl rfl rfl ?_
                  refine Ls.guard_f rfl rfl rfl rfl ?_
                  refine Ls.cons (G.q (r_pick rfl rfl rfl) rfl rfl ?_)
                  refine Ls.nil ?_
                  refine Qs.only ?_
                  obtain rfl := Option.some.inj hx12
                  exact Qs.midX () trivial (.cons rfl (.cons rfl (.nil))) (fun _ H => H.to)
                · refine G.fixB 24 hb rfl ?_
                  refine Ls.guard_t rfl rfl rfl (G.q (r_field rfl) rfl rfl ?_)
                  refine Ls.guard_t rfl rfl rfl (G.q (r_load rfl rfl) rfl rfl ?_)
                  refine Ls.guard_t rfl rfl rfl (G.q (r_bin rfl rfl rfl) rfl rfl ?_)
                  refine Ls.cons (G.q (r_pick rfl rfl rfl) rfl rfl ?_)
                  refine Ls.cons (G.q (r_move rfl) rfl rfl ?_)
                  obtain ⟨x14, hx15, h16⟩ := bind_some hx12
                  refine Ls.cutX (ε := Unit) True (fun e => [(1, .pointer (some ⟨b1, 0, none⟩)), (39, .bool x14)]) (fun e => Cells b1 [.int .i64 a0, .int .i64 a1, .int .i64 a2, V0] 24 :: Frz (kP (kI .u8) (kP (kI .u8) (kL (kI .i64)))) V0 a3 :: L) ?_ ?_
                  ·
                    rcases bif_some hx15 with ⟨hb, hx15⟩ | ⟨hb, hx15⟩
                    · refine G.fixB 29 hb rfl ?_
                      refine Ls.guard_f rfl rfl rfl rfl ?_
                      refine Ls.guard_f rfl rfl rfl rfl ?_
                      refine Ls.guard_f rfl rfl rfl rfl ?_
                      refine Ls.cons (G.q (r_pick rfl rfl rfl) rfl rfl ?_)
                      refine Ls.cons (G.q (r_move rfl) rfl rfl ?_)
                      refine Ls.guard_f rfl rfl rfl rfl ?_
                      refine Ls.guard_f rfl rfl rfl rfl ?_
                      refine Ls.guard_f rfl rfl rfl rfl ?_
                      refine Ls.guard_f rfl rfl rfl rfl ?_
                      refine Ls.cons (G.q (r_pick rfl rfl rfl) rfl rfl ?_)
                      refine Ls.nil ?_
                      refine Qs.only ?_
                      obtain rfl := Option.some.inj hx15
                      exact Qs.midX () trivial (.cons rfl (.cons rfl (.nil))) (fun _ H => H.to)
                    · refine G.fixB 29 hb rfl ?_
                      refine Ls.guard_t rfl rfl rfl (G.q (r_field rfl) rfl rfl ?_)
                      refine Ls.guard_t rfl rfl rfl (G.q (r_load rfl rfl) rfl rfl ?_)
                      refine Ls.guard_t rfl rfl rfl (G.q (r_bin rfl rfl rfl) rfl rfl ?_)
                      refine Ls.cons (G.q (r_pick rfl rfl rfl) rfl rfl ?_)
                      refine Ls.cons (G.q (r_move rfl) rfl rfl ?_)
                      obtain ⟨x17, hx18, h19⟩ := bind_some hx15
                      refine Ls.cutX (ε := Unit) True (fun e => [(1, .pointer (some ⟨b1, 0, none⟩)), (39, .bool x17)]) (fun e => Cells b1 [.int .i64 a0, .int .i64 a1, .int .i64 a2, V0] 24 :: Frz (kP (kI .u8) (kP (kI .u8) (kL (kI .i64)))) V0 a3 :: L) ?_ ?_
                      ·
                        rcases bif_some hx18 with ⟨hb, hx18⟩ | ⟨hb, hx18⟩
                        · refine G.fixB 34 hb rfl ?_
                          refine Ls.guard_f rfl rfl rfl rfl ?_
                          refine Ls.guard_f rfl rfl rfl rfl ?_
                          refine Ls.guard_f rfl rfl rfl rfl ?_
                          refine Ls.guard_f rfl rfl rfl rfl ?_
                          refine Ls.cons (G.q (r_pick rfl rfl rfl) rfl rfl ?_)
                          refine Ls.nil ?_
                          refine Qs.only ?_
                          obtain rfl := Option.some.inj hx18
                          exact Qs.midX () trivial (.cons rfl (.cons rfl (.nil))) (fun _ H => H.to)
                        · refine G.fixB 34 hb rfl ?_
                          refine Ls.guard_t rfl rfl rfl (G.q (r_field rfl) rfl rfl ?_)
                          refine Ls.guard_t rfl rfl rfl (G.q (r_load rfl rfl) rfl rfl ?_)
                          refine Ls.guard_t rfl rfl rfl (G.q (r_len rfl) rfl rfl ?_)
                          refine Ls.guard_t rfl rfl rfl (G.q (r_bin rfl rfl rfl) rfl rfl ?_)
                          refine Ls.cons (G.q (r_pick rfl rfl rfl) rfl rfl ?_)
                          refine Ls.nil ?_
                          refine Qs.only ?_
                          obtain rfl := Option.some.inj hx18
                          exact Qs.midX () trivial (.cons rfl (.cons rfl (.nil))) (fun _ H => H.to)
                      ·
                        rintro ⟨⟩ _
                        refine Qs.only ?_
                        obtain rfl := Option.some.inj h19
                        exact Qs.midX () trivial (.cons rfl (.cons rfl (.nil))) (fun _ H => H.to)
                  ·
                    rintro ⟨⟩ _
                    refine Qs.only ?_
                    obtain rfl := Option.some.inj h16
                    exact Qs.midX () trivial (.cons rfl (.cons rfl (.nil))) (fun _ H => H.to)
              ·
                rintro ⟨⟩ _
                refine Qs.only ?_
                obtain rfl := Option.some.inj h13
                exact Qs.midX () trivial (.cons rfl (.cons rfl (.nil))) (fun _ H => H.to)
          ·
            rintro ⟨⟩ _
            refine Qs.only ?_
            obtain rfl := Option.some.inj h10
            exact Qs.midX () trivial (.cons rfl (.cons rfl (.nil))) (fun _ H => H.to)
      ·
        rintro ⟨⟩ _
        refine Qs.only ?_
        obtain rfl := Option.some.inj h7
        exact Qs.midX () trivial (.cons rfl (.cons rfl (.nil))) (fun _ H => H.to)
  ·
    rintro ⟨⟩ _
    refine Qs.then_n ?_
    rcases bif_some h4 with ⟨hb, h4⟩ | ⟨hb, h4⟩
    · refine Ws.cond_t rfl hb ?_
      refine Ws.seq ?_
      refine Ws.region ?_
      refine Ls.cons (G.q (r_assign rfl) rfl rfl ?_)
      refine Ls.nil ?_
      refine Qs.then_n ?_
      refine Ws.ret ?_
      refine Qs.then_r ?_
      obtain rfl := Option.some.inj h4
      exact W_end (.inl rfl) Tryd.results10 (.tmp rfl .nil) rfl fun w hS => hR w hS.fin
    · refine Ws.cond_f rfl hb ?_
      refine Ws.skip ?_
      refine Qs.then_n ?_
      refine Ws.seq ?_
      refine Ws.seq ?_
      refine Ws.region ?_
      refine Ls.cons (G.q (r_assign rfl) rfl rfl ?_)
      refine Ls.nil ?_
      refine Qs.then_n ?_
      obtain ⟨x20, hx21, h22⟩ := bind_some h4
      refine Ws.cutX (ε := Unit) (isR x20 = true) (fun e => []) (fun e => Frz (kP (kI .u8) (kP (kI .u8) (kL (kI .i64)))) V0 a3 :: L) ?_ ?_
      ·
        refine Ws.block ?_
        refine Ws.loop (ε := Unit) (ref03_Right.l1 K a3 a1 a2) (fun s e => [(1, .pointer (some ⟨b1, 0, none⟩)), (3, .int .i64 s)]) (fun s e => Cells b1 [.int .i64 a0, .int .i64 a1, .int .i64 a2, V0] 24 :: Frz (kP (kI .u8) (kP (kI .u8) (kL (kI .i64)))) V0 a3 :: L) () hx21 (.cons rfl (.cons rfl (.nil))) (fun _ H => H.to) ?_
        rintro j24 s23 ⟨⟩ h25
        cases j24 with
        | zero => cases (show none = some _ from h25)
        | succ j24 =>
          rw [ref03_Right.l1] at h25
          refine Ws.seq ?_
          refine Ws.seq ?_
          refine Ws.region ?_
          refine Ls.cons (G.q (r_move rfl) rfl rfl ?_)
          refine Ls.cons (G.q (r_field rfl) rfl rfl ?_)
          refine Ls.cons (G.q (r_load rfl rfl) rfl rfl ?_)
          refine Ls.cons (G.q (r_len rfl) rfl rfl ?_)
          refine Ls.cons (G.q (r_bin rfl rfl rfl) rfl rfl ?_)
          refine Ls.nil ?_
          refine Qs.then_n ?_
          rcases bif_some h25 with ⟨hb, h25⟩ | ⟨hb, h25⟩
          · refine Ws.cond_t rfl hb ?_
            refine Ws.skip ?_
            refine Qs.then_n ?_
            refine Ws.seq ?_
            refine Ws.block ?_
            refine Ws.seq ?_
            refine Ws.region ?_
            refine Ls.cons (G.q (r_field rfl) rfl rfl ?_)
            refine Ls.cons (G.q (r_load rfl rfl) rfl rfl ?_)
            refine Ls.cons (G.q (r_move rfl) rfl rfl ?_)
            obtain ⟨y26, hy27, h25⟩ := bind_some h25
            have hy27 := idx_some hy27
            refine G.el (i := s23.toNat) (kP (kI .u8) (kP (kI .u8) (kL (kI .i64)))) 3 V0 rfl hy27.2 ?_
            intro b28 o29 c30
            refine G.xp_u8u8l ?_
            intro u31
            refine Ls.cons (G.q (r_idxN s23.toNat rfl rfl hy27.1 rfl) rfl rfl ?_)
            refine Ls.cons (G.q (r_loadN rfl rfl) rfl rfl ?_)
            refine Ls.cons (o_alloc (cs := [.int .u8 0, .int .u8 0, .slice none 0 0]) rfl rfl fun b32 => ?_)
            refine Ls.cons (o_store (vs := [.int .u8 y26.1, .int .u8 y26.2.1, u31]) rfl rfl rfl rfl ?_)
            refine Ls.nil ?_
            refine Qs.then_n ?_
            refine Ws.seq ?_
            refine Ws.seq ?_
            refine Ws.region ?_
            refine Ls.cons (G.q (r_field rfl) rfl rfl ?_)
            refine Ls.cons (G.q (r_loadN rfl rfl) rfl rfl ?_)
            refine Ls.cons (G.q (r_field rfl) rfl rfl ?_)
            refine Ls.cons (G.q (r_load rfl rfl) rfl rfl ?_)
            obtain ⟨x33, hx34, h25⟩ := bind_some h25
            refine Ls.cons (o_call Tryd.call20 rfl fun a_ w_ hK_ hS_ => ref02_Right.ok hx34 hS_.sels fun w1_ hS1_ => atRet (G.goA ?_ (hK_.put rfl _) hS1_))
            clear hS1_ w1_ hS_ hK_ w_ a_
            refine Ls.cons (G.q (r_not rfl) rfl rfl ?_)
            refine Ls.cons (G.q (r_move rfl) rfl rfl ?_)
            obtain ⟨x35, hx36, h37⟩ := bind_some h25
            refine Ls.cutX (ε := Unit) True (fun e => [(1, .pointer (some ⟨b1, 0, none⟩)), (3, .int .i64 s23), (4, .pointer (some ⟨b32, 0, none⟩)), (65, .bool x35)]) (fun e => Cells b1 [.int .i64 a0, .int .i64 a1, .int .i64 a2, V0] 24 :: Cells b32 [.int .u8 y26.1, .int .u8 y26.2.1, u31] 45 :: Frz (kP (kI .u8) (kP (kI .u8) (kL (kI .i64)))) V0 a3 :: Frz (kI .i64) u31 y26.2.2 :: L) ?_ ?_
            ·
              rcases bif_some hx36 with ⟨hb, hx36⟩ | ⟨hb, hx36⟩
              · refine G.fixB 58 hb rfl ?_
                refine Ls.guard_f rfl rfl rfl rfl ?_
                refine Ls.guard_f rfl rfl rfl rfl ?_
                refine Ls.guard_f rfl rfl rfl rfl ?_
                refine Ls.guard_f rfl rfl rfl rfl ?_
                refine Ls.guard_f rfl rfl rfl rfl ?_
                refine Ls.guard_f rfl rfl rfl rfl ?_
                refine Ls.cons (G.q (r_pick rfl rfl rfl) rfl rfl ?_)
                refine Ls.nil ?_
                refine Qs.only ?_
                obtain rfl := Option.some.inj hx36
                exact Qs.midX () trivial (.cons rfl (.cons rfl (.cons rfl (.cons rfl (.nil))))) (fun _ H => H.to)
              · refine G.fixB 58 hb rfl ?_
                refine Ls.guard_t rfl rfl rfl (G.q (r_field rfl) rfl rfl ?_)
                refine Ls.guard_t rfl rfl rfl (G.q (r_load rfl rfl) rfl rfl ?_)
                refine Ls.guard_t rfl rfl rfl (G.q (r_len rfl) rfl rfl ?_)
                refine Ls.guard_t rfl rfl rfl (G.q (r_field rfl) rfl rfl ?_)
                refine Ls.guard_t rfl rfl rfl (G.q (r_load rfl rfl) rfl rfl ?_)
                refine Ls.guard_t rfl rfl rfl (G.q (r_bin rfl rfl rfl) rfl rfl ?_)
                refine Ls.cons (G.q (r_pick rfl rfl rfl) rfl rfl ?_)
                refine Ls.nil ?_
                refine Qs.only ?_
                obtain rfl := Option.some.inj hx36
                exact Qs.midX () trivial (.cons rfl (.cons rfl (.cons rfl (.cons rfl (.nil))))) (fun _ H => H.to)
            ·
              rintro ⟨⟩ _
              refine Qs.then_n ?_
              rcases bif_some h37 with ⟨hb, h37⟩ | ⟨hb, h37⟩
              · refine Ws.cond_t rfl hb ?_
                refine Ws.seq ?_
                refine Ws.region ?_
                refine Ls.cons (G.q (r_assign rfl) rfl rfl ?_)
                refine Ls.nil ?_
                refine Qs.then_n ?_
                refine Ws.ret ?_
                refine Qs.then_r ?_
                refine Qs.block_r ?_
                refine Qs.then_r ?_
                refine Qs.then_r ?_
                refine Qs.block_r ?_
                refine Qs.then_r ?_
                obtain rfl := Option.some.inj h37
                obtain rfl := Option.some.inj h22
                exact W_end (.inl rfl) Tryd.results10 (.tmp rfl .nil) rfl fun w hS => hR w hS.fin
              · refine Ws.cond_f rfl hb ?_
                refine Ws.skip ?_
                refine Qs.then_n ?_
                refine Ws.seq ?_
                refine Ws.region ?_
                refine Ls.cons (G.q (r_assign rfl) rfl rfl ?_)
                refine Ls.nil ?_
                refine Qs.then_n ?_
                obtain ⟨x38, hx39, h40⟩ := bind_some h37
                refine Ws.thenI ?_
                refine Ws.cutX (ε := Unit) (isR x38 = true) (fun e => [(1, .pointer (some ⟨b1, 0, none⟩)), (3, .int .i64 s23)]) (fun e => Cells b1 [.int .i64 a0, .int .i64 a1, .int .i64 a2, V0] 24 :: Frz (kP (kI .u8) (kP (kI .u8) (kL (kI .i64)))) V0 a3 :: L) ?_ ?_
                ·
                  refine Ws.block ?_
                  refine Ws.loop (ε := Unit) (ref03_Right.l2 K y26) (fun s e => [(1, .pointer (some ⟨b1, 0, none⟩)), (3, .int .i64 s23), (4, .pointer (some ⟨b32, 0, none⟩)), (5, .int .i64 s)]) (fun s e => Cells b1 [.int .i64 a0, .int .i64 a1, .int .i64 a2, V0] 24 :: Cells b32 [.int .u8 y26.1, .int .u8 y26.2.1, u31] 45 :: Frz (kP (kI .u8) (kP (kI .u8) (kL (kI .i64)))) V0 a3 :: Frz (kI .i64) u31 y26.2.2 :: L) () hx39 (.cons rfl (.cons rfl (.cons rfl (.cons rfl (.nil))))) (fun _ H => H.to) ?_
                  rintro j42 s41 ⟨⟩ h43
                  cases j42 with
                  | zero => cases (show none = some _ from h43)
                  | succ j42 =>
                    rw [ref03_Right.l2] at h43
                    refine Ws.seq ?_
                    refine Ws.seq ?_
                    refine Ws.region ?_
                    refine Ls.cons (G.q (r_move rfl) rfl rfl ?_)
                    refine Ls.cons (G.q (r_field rfl) rfl rfl ?_)
                    refine Ls.cons (G.q (r_load rfl rfl) rfl rfl ?_)
                    refine Ls.cons (G.q (r_len rfl) rfl rfl ?_)
                    refine Ls.cons (G.q (r_bin rfl rfl rfl) rfl rfl ?_)
                    refine Ls.nil ?_
                    refine Qs.then_n ?_
                    rcases bif_some h43 with ⟨hb, h43⟩ | ⟨hb, h43⟩
                    · refine Ws.cond_t rfl hb ?_
                      refine Ws.skip ?_
                      refine Qs.then_n ?_
                      refine Ws.seq ?_
                      refine Ws.block ?_
                      refine Ws.seq ?_
                      refine Ws.region ?_
                      refine Ls.cons (G.q (r_field rfl) rfl rfl ?_)
                      refine Ls.cons (G.q (r_load rfl rfl) rfl rfl ?_)
                      refine Ls.cons (G.q (r_move rfl) rfl rfl ?_)
                      obtain ⟨y44, hy45, h43⟩ := bind_some h43
                      have hy45 := idx_some hy45
                      refine G.el (i := s41.toNat) (kI .i64) 1 u31 rfl hy45.2 ?_
                      intro b46 o47 c48
                      refine G.xp_i64 ?_
                      refine Ls.cons (G.q (r_idxN s41.toNat rfl rfl hy45.1 rfl) rfl rfl ?_)
                      refine Ls.cons (G.q (r_load rfl rfl) rfl rfl ?_)
                      refine Ls.cons (G.q (r_bin rfl rfl rfl) rfl rfl ?_)
                      refine Ls.cons (G.q (r_move rfl) rfl rfl ?_)
                      obtain ⟨x49, hx50, h51⟩ := bind_some h43
                      refine Ls.cutX (ε := Unit) True (fun e => [(1, .pointer (some ⟨b1, 0, none⟩)), (3, .int .i64 s23), (4, .pointer (some ⟨b32, 0, none⟩)), (5, .int .i64 s41), (94, .bool x49)]) (fun e => Cells b1 [.int .i64 a0, .int .i64 a1, .int .i64 a2, V0] 24 :: Cells b32 [.int .u8 y26.1, .int .u8 y26.2.1, u31] 45 :: Frz (kP (kI .u8) (kP (kI .u8) (kL (kI .i64)))) V0 a3 :: Frz (kI .i64) u31 y26.2.2 :: L) ?_ ?_
                      ·
                        rcases bif_some hx50 with ⟨hb, hx50⟩ | ⟨hb, hx50⟩
                        · refine G.fixB 79 hb rfl ?_
                          refine Ls.guard_t rfl rfl rfl (G.q (r_field rfl) rfl rfl ?_)
                          refine Ls.guard_t rfl rfl rfl (G.q (r_load rfl rfl) rfl rfl ?_)
                          refine Ls.guard_t rfl rfl rfl (G.q (r_move rfl) rfl rfl ?_)
                          refine Ls.guard_t rfl rfl rfl (G.q (r_idxN s41.toNat rfl rfl hy45.1 rfl) rfl rfl ?_)
                          refine Ls.guard_t rfl rfl rfl (G.q (r_load rfl rfl) rfl rfl ?_)
                          refine Ls.guard_t rfl rfl rfl (G.q (r_bin rfl rfl rfl) rfl rfl ?_)
                          refine Ls.cons (G.q (r_pick rfl rfl rfl) rfl rfl ?_)
                          refine Ls.cons (G.q (r_move rfl) rfl rfl ?_)
                          obtain ⟨x52, hx53, h54⟩ := bind_some hx50
                          refine Ls.cutX (ε := Unit) True (fun e => [(1, .pointer (some ⟨b1, 0, none⟩)), (3, .int .i64 s23), (4, .pointer (some ⟨b32, 0, none⟩)), (5, .int .i64 s41), (80, .pointer (some ⟨b32, 2, none⟩)), (81, u31), (82, .int .i64 s41), (83, .pointer (some ⟨b46, o47, none⟩)), (84, .int .i64 y44), (85, .bool ((y44 : Int) != 1)), (94, .bool x52)]) (fun e => Cells b1 [.int .i64 a0, .int .i64 a1, .int .i64 a2, V0] 24 :: Cells b32 [.int .u8 y26.1, .int .u8 y26.2.1, u31] 45 :: Frz (kI .i64) u31 y26.2.2 :: CellsP b46 o47 [.int .i64 y44] :: Frz (kP (kI .u8) (kP (kI .u8) (kL (kI .i64)))) V0 a3 :: L) ?_ ?_
                          ·
                            rcases bif_some hx53 with ⟨hb, hx53⟩ | ⟨hb, hx53⟩
                            · refine G.fixB 87 hb rfl ?_
                              refine Ls.guard_t rfl rfl rfl (G.q (r_field rfl) rfl rfl ?_)
                              refine Ls.guard_t rfl rfl rfl (G.q (r_load rfl rfl) rfl rfl ?_)
                              refine Ls.guard_t rfl rfl rfl (G.q (r_move rfl) rfl rfl ?_)
                              refine Ls.guard_t rfl rfl rfl (G.q (r_idxN s41.toNat rfl rfl hy45.1 rfl) rfl rfl ?_)
                              refine Ls.guard_t rfl rfl rfl (G.q (r_load rfl rfl) rfl rfl ?_)
                              refine Ls.guard_t rfl rfl rfl (G.q (r_bin rfl rfl rfl) rfl rfl ?_)
                              refine Ls.cons (G.q (r_pick rfl rfl rfl) rfl rfl ?_)
                              refine Ls.nil ?_
                              refine Qs.only ?_
                              obtain rfl := Option.some.inj hx53
                              exact Qs.midX () trivial (.cons rfl (.cons rfl (.cons rfl (.cons rfl (.cons rfl (.cons rfl (.cons rfl (.cons rfl (.cons rfl (.cons rfl (.cons rfl (.nil)))))))))))) (fun _ H => H.to)
                            · refine G.fixB 87 hb rfl ?_
                              refine Ls.guard_f rfl rfl rfl rfl ?_
                              refine Ls.guard_f rfl rfl rfl rfl ?_
                              refine Ls.guard_f rfl rfl rfl rfl ?_
                              refine Ls.guard_f rfl rfl rfl rfl ?_
                              refine Ls.guard_f rfl rfl rfl rfl ?_
                              refine Ls.guard_f rfl rfl rfl rfl ?_
                              refine Ls.cons (G.q (r_pick rfl rfl rfl) rfl rfl ?_)
                              refine Ls.nil ?_
                              refine Qs.only ?_
                              obtain rfl := Option.some.inj hx53
                              exact Qs.midX () trivial (.cons rfl (.cons rfl (.cons rfl (.cons rfl (.cons rfl (.cons rfl (.cons rfl (.cons rfl (.cons rfl (.cons rfl (.cons rfl (.nil)))))))))))) (fun _ H => H.to)
                          ·
                            rintro ⟨⟩ _
                            refine Qs.only ?_
                            obtain rfl := Option.some.inj h54
                            exact Qs.midX () trivial (.cons rfl (.cons rfl (.cons rfl (.cons rfl (.cons rfl (.nil)))))) (fun _ H => H.to)
                        · refine G.fixB 79 hb rfl ?_
                          refine Ls.guard_f rfl rfl rfl rfl ?_
                          refine Ls.guard_f rfl rfl rfl rfl ?_
                          refine Ls.guard_f rfl rfl rfl rfl ?_
                          refine Ls.guard_f rfl rfl rfl rfl ?_
                          refine Ls.guard_f rfl rfl rfl rfl ?_
                          refine Ls.guard_f rfl rfl rfl rfl ?_
                          refine Ls.cons (G.q (r_pick rfl rfl rfl) rfl rfl ?_)
                          refine Ls.cons (G.q (r_move rfl) rfl rfl ?_)
                          refine Ls.guard_f rfl rfl rfl rfl ?_
                          refine Ls.guard_f rfl rfl rfl rfl ?_
                          refine Ls.guard_f rfl rfl rfl rfl ?_
                          refine Ls.guard_f rfl rfl rfl rfl ?_
                          refine Ls.guard_f rfl rfl rfl rfl ?_
                          refine Ls.guard_f rfl rfl rfl rfl ?_
                          refine Ls.cons (G.q (r_pick rfl rfl rfl) rfl rfl ?_)
                          refine Ls.nil ?_
                          refine Qs.only ?_
                          obtain rfl := Option.some.inj hx50
                          exact Qs.midX () trivial (.cons rfl (.cons rfl (.cons rfl (.cons rfl (.cons rfl (.nil)))))) (fun _ H => H.to)
                      ·
                        rintro ⟨⟩ _
                        refine Qs.then_n ?_
                        rcases bif_some h51 with ⟨hb, h51⟩ | ⟨hb, h51⟩
                        · refine Ws.cond_t rfl hb ?_
                          refine Ws.seq ?_
                          refine Ws.region ?_
                          refine Ls.cons (G.q (r_assign rfl) rfl rfl ?_)
                          refine Ls.nil ?_
                          refine Qs.then_n ?_
                          refine Ws.ret ?_
                          refine Qs.block_r ?_
                          refine Qs.then_r ?_
                          refine Qs.then_r ?_
                          refine Qs.block_r ?_
                          refine Qs.then_r ?_
                          refine Qs.block_r ?_
                          refine Qs.then_r ?_
                          refine Qs.then_r ?_
                          refine Qs.block_r ?_
                          refine Qs.then_r ?_
                          obtain rfl := Option.some.inj h51
                          obtain rfl := Option.some.inj h40
                          obtain rfl := Option.some.inj h22
                          exact W_end (.inl rfl) Tryd.results10 (.tmp rfl .nil) rfl fun w hS => hR w hS.fin
                        · refine Ws.cond_f rfl hb ?_
                          refine Ws.skip ?_
                          refine Qs.block_n ?_
                          refine Qs.then_n ?_
                          refine Ws.region ?_
                          refine Ls.cons (G.q (r_move rfl) rfl rfl ?_)
                          refine Ls.cons (G.q (r_bin rfl rfl rfl) rfl rfl ?_)
                          refine Ls.cons (G.q (r_assign rfl) rfl rfl ?_)
                          refine Ls.nil ?_
                          refine Qs.then_n ?_
                          exact Qs.again () h51 (Nat.lt_succ_self _) (.cons rfl (.cons rfl (.cons rfl (.cons rfl (.nil))))) (fun _ H => H.to)
                    · refine Ws.cond_f rfl hb ?_
                      refine Ws.exit ?_
                      refine Qs.then_e ?_
                      refine Qs.then_e ?_
                      refine Qs.block_e ?_
                      refine Qs.then_n ?_
                      obtain rfl := Option.some.inj h43
                      exact Qs.midX () rfl (.cons rfl (.cons rfl (.nil))) (fun _ H => H.to)
                ·
                  rintro ⟨⟩ hφ
                  cases x38 with
                  | inl _ => cases hφ
                  | inr x38 =>
                    refine Qs.block_n ?_
                    refine Qs.then_n ?_
                    refine Ws.region ?_
                    refine Ls.cons (G.q (r_move rfl) rfl rfl ?_)
                    refine Ls.cons (G.q (r_bin rfl rfl rfl) rfl rfl ?_)
                    refine Ls.cons (G.q (r_assign rfl) rfl rfl ?_)
                    refine Ls.nil ?_
                    refine Qs.then_n ?_
                    exact Qs.again () h40 (Nat.lt_succ_self _) (.cons rfl (.cons rfl (.nil))) (fun _ H => H.to)
          · refine Ws.cond_f rfl hb ?_
            refine Ws.exit ?_
            refine Qs.then_e ?_
            refine Qs.then_e ?_
            refine Qs.block_e ?_
            refine Qs.then_n ?_
            obtain rfl := Option.some.inj h25
            exact Qs.midX () rfl (.nil) (fun _ H => H.to)
      ·
        rintro ⟨⟩ hφ
        cases x20 with
        | inl _ => cases hφ
        | inr x20 =>
          refine Ws.seq ?_
          refine Ws.region ?_
          refine Ls.cons (G.q (r_assign rfl) rfl rfl ?_)
          refine Ls.nil ?_
          refine Qs.then_n ?_
          refine Ws.ret ?_
          obtain rfl := Option.some.inj h22
          exact W_end (.inl rfl) Tryd.results10 (.tmp rfl .nil) rfl fun w hS => hR w hS.fin

def pla_Same_1.l2 (K : Nat) (y18 : Int × Int × (List Int)) (y25 : Int × Int × (List Int)) : Nat → Int → Option (Bool ⊕ Unit)
  | 0, _ => none
  | j39 + 1, s38 =>
    (bif decide ((s38 : Int) < (y18.2.2.length : Int)) then ((idx y18.2.2 s38).bind fun y41 => ((idx y25.2.2 s38).bind fun y46 => (bif (y41 : Int) != y46 then some (.inl false) else pla_Same_1.l2 K y18 y25 j39 (IntKind.wrap .i64 (s38 + 1))))) else some (.inr ()))

def pla_Same_1.l1 (K : Nat) (a3 : List (Int × Int × (List Int))) (a7 : List (Int × Int × (List Int))) : Nat → Int → Option (Bool ⊕ Unit)
  | 0, _ => none
  | j16 + 1, s15 =>
    (bif decide ((s15 : Int) < (a3.length : Int)) then ((idx a3 s15).bind fun y18 => ((idx a7 s15).bind fun y25 => (((bif !((y18.1 : Int) == y25.1 && ((y18.2.1 : Int) == y25.2.1)) then some true else some (((y18.2.2.length : Int) : Int) != (y25.2.2.length : Int)))).bind fun x32 => (bif x32 then some (.inl false) else ((pla_Same_1.l2 K y18 y25 K 0 : Option ((Bool) ⊕ (Unit))).bind fun y => match y with | .inl r => some (.inl r) | .inr x35 => pla_Same_1.l1 K a3 a7 j16 (IntKind.wrap .i64 (s15 + 1))))))) else some (.inr ()))

def pla_Same_1.f (K : Nat) (a0 : Int) (a1 : Int) (a2 : Int) (a3 : List (Int × Int × (List Int))) (a4 : Int) (a5 : Int) (a6 : Int) (a7 : List (Int × Int × (List Int))) : Option Bool :=
  (((bif (a0 : Int) != a4 then some true else (((bif (a1 : Int) != a5 then some true else (((bif (a2 : Int) != a6 then some true else some (((a3.length : Int) : Int) != (a7.length : Int)))).bind fun x9 => some x9))).bind fun x6 => some x6))).bind fun x3 => (bif x3 then some false else ((pla_Same_1.l1 K a3 a7 K 0 : Option ((Bool) ⊕ (Unit))).bind fun y => match y with | .inl r => some r | .inr x12 => some true)))

theorem pla_Same_1.ok {K : Nat} {a0 : Int} {a1 : Int} {a2 : Int} {a3 : List (Int × Int × (List Int))} {a4 : Int} {a5 : Int} {a6 : Int} {a7 : List (Int × Int × (List Int))} {V0 : Value} {V1 : Value} {r : Bool} (h : pla_Same_1.f K a0 a1 a2 a3 a4 a5 a6 a7 = some r) {τ : Meta} {L : List Itm} {w : World} {R : Ending → World → Prop} (hS : St τ ([Frz (kP (kI .u8) (kP (kI .u8) (kL (kI .i64)))) V0 a3, Frz (kP (kI .u8) (kP (kI .u8) (kL (kI .i64)))) V1 a7] ++ L) w)
    (hR : ∀ w', St τ ([] ++ L) w' → R (.returned (.bool r)) w') : Calls Tryd.prog 12 #[.agg #[.int .i64 a0, .int .i64 a1, .int .i64 a2, V0], .agg #[.int .i64 a4, .int .i64 a5, .int .i64 a6, V1]] w R := by
  refine enter (vs := [_, _]) Tryd.func12 rfl Tryd.ntmps12 rfl hS.cat ?_
  unfold pla_Same_1.f at h
  refine Ws.seq ?_
  refine Ws.region ?_
  refine Ls.cons (o_box (cs := [.int .i64 a0, .int .i64 a1, .int .i64 a2, V0]) rfl rfl fun b1 => ?_)
  refine Ls.cons (o_box (cs := [.int .i64 a4, .int .i64 a5, .int .i64 a6, V1]) rfl rfl fun b2 => ?_)
  refine Ls.cons (G.q (r_assign rfl) rfl rfl ?_)
  refine Ls.nil ?_
  refine Qs.then_n ?_
  refine Ws.seq ?_
  refine Ws.seq ?_
  refine Ws.region ?_
  refine Ls.cons (G.q (r_field rfl) rfl rfl ?_)
  refine Ls.cons (G.q (r_load rfl rfl) rfl rfl ?_)
  refine Ls.cons (G.q (r_field rfl) rfl rfl ?_)
  refine Ls.cons (G.q (r_load rfl rfl) rfl rfl ?_)
  refine Ls.cons (G.q (r_bin rfl rfl rfl) rfl rfl ?_)
  refine Ls.cons (G.q (r_move rfl) rfl rfl ?_)
  obtain ⟨x3, hx4, h5⟩ := bind_some h
  refine Ls.cutX (ε := Unit) True (fun e => [(2, .pointer (some ⟨b1, 0, none⟩)), (3, .pointer (some ⟨b2, 0, none⟩)), (37, .bool x3)]) (fun e => Cells b1 [.int .i64 a0, .int .i64 a1, .int .i64 a2, V0] 24 :: Cells b2 [.int .i64 a4, .int .i64 a5, .int .i64 a6, V1] 24 :: Frz (kP (kI .u8) (kP (kI .u8) (kL (kI .i64)))) V0 a3 :: Frz (kP (kI .u8) (kP (kI .u8) (kL (kI .i64)))) V1 a7 :: L) ?_ ?_
  ·
    rcases bif_some hx4 with ⟨hb, hx4⟩ | ⟨hb, hx4⟩
    · refine G.fixB 15 hb rfl ?_
      refine Ls.guard_f rfl rfl rfl rfl ?_
      refine Ls.guard_f rfl rfl rfl rfl ?_
      refine Ls.guard_f rfl rfl rfl rfl ?_
      refine Ls.guard_f rfl rfl rfl rfl ?_
      refine Ls.guard_f rfl rfl rfl rfl ?_
      refine Ls.cons (G.q (r_pick rfl rfl rfl) rfl rfl ?_)
      refine Ls.cons (G.q (r_move rfl) rfl rfl ?_)
      refine Ls.guard_f rfl rfl rfl rfl ?_
      refine Ls.guard_f rfl rfl rfl rfl ?_
      refine Ls.guard_f rfl rfl rfl rfl ?_
      refine Ls.guard_f rfl rfl rfl rfl ?_
      refine Ls.guard_f rfl rfl rfl rfl ?_
      refine Ls.cons (G.q (r_pick rfl rfl rfl) rfl rfl ?_)
      refine Ls.cons (G.q (r_move rfl) rfl rfl ?_)
      refine Ls.guard_f rfl rfl rfl rfl ?_
      refine Ls.guard_f rfl rfl rfl rfl ?_
      refine Ls.guard_f rfl rfl rfl rfl ?_
      refine Ls.guard_f rfl rfl rfl rfl ?_
      refine Ls.guard_f rfl rfl rfl rfl ?_
      refine Ls.guard_f rfl rfl rfl rfl ?_
      refine Ls.guard_f rfl rfl rfl rfl ?_
      refine Ls.cons (G.q (r_pick rfl rfl rfl) rfl rfl ?_)
      refine Ls.nil ?_
      refine Qs.only ?_
      obtain rfl := Option.some.inj hx4
      exact Qs.midX () trivial (.cons rfl (.cons rfl (.cons rfl (.nil)))) (fun _ H => H.to)
    · refine G.fixB 15 hb rfl ?_
      refine Ls.guard_t rfl rfl rfl (G.q (r_field rfl) rfl rfl ?_)
      refine Ls.guard_t rfl rfl rfl (G.q (r_load rfl rfl) rfl rfl ?_)
      refine Ls.guard_t rfl rfl rfl (G.q (r_field rfl) rfl rfl ?_)
      refine Ls.guard_t rfl rfl rfl (G.q (r_load rfl rfl) rfl rfl ?_)
      refine Ls.guard_t rfl rfl rfl (G.q (r_bin rfl rfl rfl) rfl rfl ?_)
      refine Ls.cons (G.q (r_pick rfl rfl rfl) rfl rfl ?_)
      refine Ls.cons (G.q (r_move rfl) rfl rfl ?_)
      obtain ⟨x6, hx7, h8⟩ := bind_some hx4
      refine Ls.cutX (ε := Unit) True (fun e => [(2, .pointer (some ⟨b1, 0, none⟩)), (3, .pointer (some ⟨b2, 0, none⟩)), (37, .bool x6)]) (fun e => Cells b1 [.int .i64 a0, .int .i64 a1, .int .i64 a2, V0] 24 :: Cells b2 [.int .i64 a4, .int .i64 a5, .int .i64 a6, V1] 24 :: Frz (kP (kI .u8) (kP (kI .u8) (kL (kI .i64)))) V0 a3 :: Frz (kP (kI .u8) (kP (kI .u8) (kL (kI .i64)))) V1 a7 :: L) ?_ ?_
      ·
        rcases bif_some hx7 with ⟨hb, hx7⟩ | ⟨hb, hx7⟩
        · refine G.fixB 22 hb rfl ?_
          refine Ls.guard_f rfl rfl rfl rfl ?_
          refine Ls.guard_f rfl rfl rfl rfl ?_
          refine Ls.guard_f rfl rfl rfl rfl ?_
          refine Ls.guard_f rfl rfl rfl rfl ?_
          refine Ls.guard_f rfl rfl rfl rfl ?_
          refine Ls.cons (G.q (r_pick rfl rfl rfl) rfl rfl ?_)
          refine Ls.cons (G.q (r_move rfl) rfl rfl ?_)
          refine Ls.guard_f rfl rfl rfl rfl ?_
          refine Ls.guard_f rfl rfl rfl rfl ?_
          refine Ls.guard_f rfl rfl rfl rfl ?_
          refine Ls.guard_f rfl rfl rfl rfl ?_
          refine Ls.guard_f rfl rfl rfl rfl ?_
          refine Ls.guard_f rfl rfl rfl rfl ?_
          refine Ls.guard_f rfl rfl rfl rfl ?_
          refine Ls.cons (G.q (r_pick rfl rfl rfl) rfl rfl ?_)
          refine Ls.nil ?_
          refine Qs.only ?_
          obtain rfl := Option.some.inj hx7
          exact Qs.midX () trivial (.cons rfl (.cons rfl (.cons rfl (.nil)))) (fun _ H => H.to)
        · refine G.fixB 22 hb rfl ?_
          refine Ls.guard_t rfl rfl rfl (G.q (r_field rfl) rfl rfl ?_)
          refine Ls.guard_t rfl rfl rfl (G.q (r_load rfl rfl) rfl rfl ?_)
          refine Ls.guard_t rfl rfl rfl (G.q (r_field rfl) rfl rfl ?_)
          refine Ls.guard_t rfl rfl rfl (G.q (r_load rfl rfl) rfl rfl ?_)
          refine Ls.guard_t rfl rfl rfl (G.q (r_bin rfl rfl rfl) rfl rfl ?_)
          refine Ls.cons (G.q (r_pick rfl rfl rfl) rfl rfl ?_)
          refine Ls.cons (G.q (r_move rfl) rfl rfl ?_)
          obtain ⟨x9, hx10, h11⟩ := bind_some hx7
          refine Ls.cutX (ε := Unit) True (fun e => [(2, .pointer (some ⟨b1, 0, none⟩)), (3, .pointer (some ⟨b2, 0, none⟩)), (37, .bool x9)]) (fun e => Cells b1 [.int .i64 a0, .int .i64 a1, .int .i64 a2, V0] 24 :: Cells b2 [.int .i64 a4, .int .i64 a5, .int .i64 a6, V1] 24 :: Frz (kP (kI .u8) (kP (kI .u8) (kL (kI .i64)))) V0 a3 :: Frz (kP (kI .u8) (kP (kI .u8) (kL (kI .i64)))) V1 a7 :: L) ?_ ?_
          ·
            rcases bif_some hx10 with ⟨hb, hx10⟩ | ⟨hb, hx10⟩
            · refine G.fixB 29 hb rfl ?_
              refine Ls.guard_f rfl rfl rfl rfl ?_
              refine Ls.guard_f rfl rfl rfl rfl ?_
              refine Ls.guard_f rfl rfl rfl rfl ?_
              refine Ls.guard_f rfl rfl rfl rfl ?_
              refine Ls.guard_f rfl rfl rfl rfl ?_
              refine Ls.guard_f rfl rfl rfl rfl ?_
              refine Ls.guard_f rfl rfl rfl rfl ?_
              refine Ls.cons (G.q (r_pick rfl rfl rfl) rfl rfl ?_)
              refine Ls.nil ?_
              refine Qs.only ?_
              obtain rfl := Option.some.inj hx10
              exact Qs.midX () trivial (.cons rfl (.cons rfl (.cons rfl (.nil)))) (fun _ H => H.to)
            · refine G.fixB 29 hb rfl ?_
              refine Ls.guard_t rfl rfl rfl (G.q (r_field rfl) rfl rfl ?_)
              refine Ls.guard_t rfl rfl rfl (G.q (r_load rfl rfl) rfl rfl ?_)
              refine Ls.guard_t rfl rfl rfl (G.q (r_len rfl) rfl rfl ?_)
              refine Ls.guard_t rfl rfl rfl (G.q (r_field rfl) rfl rfl ?_)
              refine Ls.guard_t rfl rfl rfl (G.q (r_load rfl rfl) rfl rfl ?_)
              refine Ls.guard_t rfl rfl rfl (G.q (r_len rfl) rfl rfl ?_)
              refine Ls.guard_t rfl rfl rfl (G.q (r_bin rfl rfl rfl) rfl rfl ?_)
              refine Ls.cons (G.q (r_pick rfl rfl rfl) rfl rfl ?_)
              refine Ls.nil ?_
              refine Qs.only ?_
              obtain rfl := Option.some.inj hx10
              exact Qs.midX () trivial (.cons rfl (.cons rfl (.cons rfl (.nil)))) (fun _ H => H.to)
          ·
            rintro ⟨⟩ _
            refine Qs.only ?_
            obtain rfl := Option.some.inj h11
            exact Qs.midX () trivial (.cons rfl (.cons rfl (.cons rfl (.nil)))) (fun _ H => H.to)
      ·
        rintro ⟨⟩ _
        refine Qs.only ?_
        obtain rfl := Option.some.inj h8
        exact Qs.midX () trivial (.cons rfl (.cons rfl (.cons rfl (.nil)))) (fun _ H => H.to)
  ·
    rintro ⟨⟩ _
    refine Qs.then_n ?_
    rcases bif_some h5 with ⟨hb, h5⟩ | ⟨hb, h5⟩
    · refine Ws.cond_t rfl hb ?_
      refine Ws.seq ?_
      refine Ws.region ?_
      refine Ls.cons (G.q (r_assign rfl) rfl rfl ?_)
      refine Ls.nil ?_
      refine Qs.then_n ?_
      refine Ws.ret ?_
      refine Qs.then_r ?_
      obtain rfl := Option.some.inj h5
      exact W_end (.inl rfl) Tryd.results12 (.tmp rfl .nil) rfl fun w hS => hR w hS.fin
    · refine Ws.cond_f rfl hb ?_
      refine Ws.skip ?_
      refine Qs.then_n ?_
      refine Ws.seq ?_
      refine Ws.seq ?_
      refine Ws.region ?_
      refine Ls.cons (G.q (r_field rfl) rfl rfl ?_)
      refine Ls.cons (G.q (r_load rfl rfl) rfl rfl ?_)
      refine Ls.cons (G.q (r_len rfl) rfl rfl ?_)
      refine Ls.cons (G.q (r_move rfl) rfl rfl ?_)
      refine Ls.nil ?_
      refine Qs.then_n ?_
      obtain ⟨x12, hx13, h14⟩ := bind_some h5
      refine Ws.cutX (ε := Unit) (isR x12 = true) (fun e => []) (fun e => Frz (kP (kI .u8) (kP (kI .u8) (kL (kI .i64)))) V0 a3 :: Frz (kP (kI .u8) (kP (kI .u8) (kL (kI .i64)))) V1 a7 :: L) ?_ ?_
      ·
        refine Ws.block ?_
        refine Ws.loop (ε := Unit) (pla_Same_1.l1 K a3 a7) (fun s e => [(3, .pointer (some ⟨b2, 0, none⟩)), (39, V0), (40, .int .i64 (a3.length : Int)), (41, .int .i64 s)]) (fun s e => Cells b2 [.int .i64 a4, .int .i64 a5, .int .i64 a6, V1] 24 :: Frz (kP (kI .u8) (kP (kI .u8) (kL (kI .i64)))) V0 a3 :: Frz (kP (kI .u8) (kP (kI .u8) (kL (kI .i64)))) V1 a7 :: L) () hx13 (.cons rfl (.cons rfl (.cons rfl (.cons rfl (.nil))))) (fun _ H => H.to) ?_
        rintro j16 s15 ⟨⟩ h17
        cases j16 with
        | zero => cases (show none = some _ from h17)
        | succ j16 =>
          rw [pla_Same_1.l1] at h17
          refine Ws.seq ?_
          refine Ws.region ?_
          refine Ls.cons (G.q (r_bin rfl rfl rfl) rfl rfl ?_)
          refine Ls.nil ?_
          refine Qs.then_n ?_
          refine Ws.seq ?_
          rcases bif_some h17 with ⟨hb, h17⟩ | ⟨hb, h17⟩
          · refine Ws.cond_t rfl hb ?_
            refine Ws.skip ?_
            refine Qs.then_n ?_
            refine Ws.seq ?_
            refine Ws.block ?_
            refine Ws.seq ?_
            refine Ws.region ?_
            refine Ls.cons (G.q (r_move rfl) rfl rfl ?_)
            obtain ⟨y18, hy19, h17⟩ := bind_some h17
            have hy19 := idx_some hy19
            refine G.el (i := s15.toNat) (kP (kI .u8) (kP (kI .u8) (kL (kI .i64)))) 3 V0 rfl hy19.2 ?_
            intro b20 o21 c22
            refine G.xp_u8u8l ?_
            intro u23
            refine Ls.cons (G.q (r_idxN s15.toNat rfl rfl hy19.1 rfl) rfl rfl ?_)
            refine Ls.cons (G.q (r_loadN rfl rfl) rfl rfl ?_)
            refine Ls.cons (o_alloc (cs := [.int .u8 0, .int .u8 0, .slice none 0 0]) rfl rfl fun b24 => ?_)
            refine Ls.cons (G.q (r_assign rfl) rfl rfl ?_)
            refine Ls.cons (o_store (vs := [.int .u8 y18.1, .int .u8 y18.2.1, u23]) rfl rfl rfl rfl ?_)
            refine Ls.nil ?_
            refine Qs.then_n ?_
            refine Ws.seq ?_
            refine Ws.region ?_
            refine Ls.cons (G.q (r_field rfl) rfl rfl ?_)
            refine Ls.cons (G.q (r_load rfl rfl) rfl rfl ?_)
            refine Ls.cons (G.q (r_move rfl) rfl rfl ?_)
            obtain ⟨y25, hy26, h17⟩ := bind_some h17
            have hy26 := idx_some hy26
            refine G.el (i := s15.toNat) (kP (kI .u8) (kP (kI .u8) (kL (kI .i64)))) 3 V1 rfl hy26.2 ?_
            intro b27 o28 c29
            refine G.xp_u8u8l ?_
            intro u30
            refine Ls.cons (G.q (r_idxN s15.toNat rfl rfl hy26.1 rfl) rfl rfl ?_)
            refine Ls.cons (G.q (r_loadN rfl rfl) rfl rfl ?_)
            refine Ls.cons (o_alloc (cs := [.int .u8 0, .int .u8 0, .slice none 0 0]) rfl rfl fun b31 => ?_)
            refine Ls.cons (o_store (vs := [.int .u8 y25.1, .int .u8 y25.2.1, u30]) rfl rfl rfl rfl ?_)
            refine Ls.nil ?_
            refine Qs.then_n ?_
            refine Ws.seq ?_
            refine Ws.seq ?_
            refine Ws.region ?_
            refine Ls.cons (G.q (r_field rfl) rfl rfl ?_)
            refine Ls.cons (G.q (r_loadN rfl rfl) rfl rfl ?_)
            refine Ls.cons (G.q (r_field rfl) rfl rfl ?_)
            refine Ls.cons (G.q (r_loadN rfl rfl) rfl rfl ?_)
            refine Ls.cons (G.q (r_neAgg rfl rfl Tryd.eqGuardType42 (fun w => eqv42 9998 _ _ _ _ w)) rfl rfl ?_)
            refine Ls.cons (G.q (r_move rfl) rfl rfl ?_)
            obtain ⟨x32, hx33, h34⟩ := bind_some h17
            refine Ls.cutX (ε := Unit) True (fun e => [(3, .pointer (some ⟨b2, 0, none⟩)), (6, .pointer (some ⟨b24, 0, none⟩)), (7, .pointer (some ⟨b31, 0, none⟩)), (39, V0), (40, .int .i64 (a3.length : Int)), (41, .int .i64 s15), (64, .bool x32)]) (fun e => Cells b2 [.int .i64 a4, .int .i64 a5, .int .i64 a6, V1] 24 :: Cells b24 [.int .u8 y18.1, .int .u8 y18.2.1, u23] 45 :: Cells b31 [.int .u8 y25.1, .int .u8 y25.2.1, u30] 45 :: Frz (kP (kI .u8) (kP (kI .u8) (kL (kI .i64)))) V0 a3 :: Frz (kP (kI .u8) (kP (kI .u8) (kL (kI .i64)))) V1 a7 :: Frz (kI .i64) u23 y18.2.2 :: Frz (kI .i64) u30 y25.2.2 :: L) ?_ ?_
            ·
              rcases bif_some hx33 with ⟨hb, hx33⟩ | ⟨hb, hx33⟩
              · refine G.fixB 56 hb rfl ?_
                refine Ls.guard_f rfl rfl rfl rfl ?_
                refine Ls.guard_f rfl rfl rfl rfl ?_
                refine Ls.guard_f rfl rfl rfl rfl ?_
                refine Ls.guard_f rfl rfl rfl rfl ?_
                refine Ls.guard_f rfl rfl rfl rfl ?_
                refine Ls.guard_f rfl rfl rfl rfl ?_
                refine Ls.guard_f rfl rfl rfl rfl ?_
                refine Ls.cons (G.q (r_pick rfl rfl rfl) rfl rfl ?_)
                refine Ls.nil ?_
                refine Qs.only ?_
                obtain rfl := Option.some.inj hx33
                exact Qs.midX () trivial (.cons rfl (.cons rfl (.cons rfl (.cons rfl (.cons rfl (.cons rfl (.cons rfl (.nil)))))))) (fun _ H => H.to)
              · refine G.fixB 56 hb rfl ?_
                refine Ls.guard_t rfl rfl rfl (G.q (r_field rfl) rfl rfl ?_)
                refine Ls.guard_t rfl rfl rfl (G.q (r_load rfl rfl) rfl rfl ?_)
                refine Ls.guard_t rfl rfl rfl (G.q (r_len rfl) rfl rfl ?_)
                refine Ls.guard_t rfl rfl rfl (G.q (r_field rfl) rfl rfl ?_)
                refine Ls.guard_t rfl rfl rfl (G.q (r_load rfl rfl) rfl rfl ?_)
                refine Ls.guard_t rfl rfl rfl (G.q (r_len rfl) rfl rfl ?_)
                refine Ls.guard_t rfl rfl rfl (G.q (r_bin rfl rfl rfl) rfl rfl ?_)
                refine Ls.cons (G.q (r_pick rfl rfl rfl) rfl rfl ?_)
                refine Ls.nil ?_
                refine Qs.only ?_
                obtain rfl := Option.some.inj hx33
                exact Qs.midX () trivial (.cons rfl (.cons rfl (.cons rfl (.cons rfl (.cons rfl (.cons rfl (.cons rfl (.nil)))))))) (fun _ H => H.to)
            ·
              rintro ⟨⟩ _
              refine Qs.then_n ?_
              rcases bif_some h34 with ⟨hb, h34⟩ | ⟨hb, h34⟩
              · refine Ws.cond_t rfl hb ?_
                refine Ws.seq ?_
                refine Ws.region ?_
                refine Ls.cons (G.q (r_assign rfl) rfl rfl ?_)
                refine Ls.nil ?_
                refine Qs.then_n ?_
                refine Ws.ret ?_
                refine Qs.then_r ?_
                refine Qs.block_r ?_
                refine Qs.then_r ?_
                refine Qs.then_r ?_
                refine Qs.block_r ?_
                refine Qs.then_r ?_
                obtain rfl := Option.some.inj h34
                obtain rfl := Option.some.inj h14
                exact W_end (.inl rfl) Tryd.results12 (.tmp rfl .nil) rfl fun w hS => hR w hS.fin
              · refine Ws.cond_f rfl hb ?_
                refine Ws.skip ?_
                refine Qs.then_n ?_
                refine Ws.seq ?_
                refine Ws.region ?_
                refine Ls.cons (G.q (r_field rfl) rfl rfl ?_)
                refine Ls.cons (G.q (r_load rfl rfl) rfl rfl ?_)
                refine Ls.cons (G.q (r_len rfl) rfl rfl ?_)
                refine Ls.cons (G.q (r_move rfl) rfl rfl ?_)
                refine Ls.nil ?_
                refine Qs.then_n ?_
                obtain ⟨x35, hx36, h37⟩ := bind_some h34
                refine Ws.thenI ?_
                refine Ws.cutX (ε := Unit) (isR x35 = true) (fun e => [(3, .pointer (some ⟨b2, 0, none⟩)), (39, V0), (40, .int .i64 (a3.length : Int)), (41, .int .i64 s15)]) (fun e => Cells b2 [.int .i64 a4, .int .i64 a5, .int .i64 a6, V1] 24 :: Frz (kP (kI .u8) (kP (kI .u8) (kL (kI .i64)))) V0 a3 :: Frz (kP (kI .u8) (kP (kI .u8) (kL (kI .i64)))) V1 a7 :: L) ?_ ?_
                ·
                  refine Ws.block ?_
                  refine Ws.loop (ε := Unit) (pla_Same_1.l2 K y18 y25) (fun s e => [(3, .pointer (some ⟨b2, 0, none⟩)), (7, .pointer (some ⟨b31, 0, none⟩)), (39, V0), (40, .int .i64 (a3.length : Int)), (41, .int .i64 s15), (66, u23), (67, .int .i64 (y18.2.2.length : Int)), (68, .int .i64 s)]) (fun s e => Cells b2 [.int .i64 a4, .int .i64 a5, .int .i64 a6, V1] 24 :: Cells b31 [.int .u8 y25.1, .int .u8 y25.2.1, u30] 45 :: Frz (kP (kI .u8) (kP (kI .u8) (kL (kI .i64)))) V0 a3 :: Frz (kI .i64) u23 y18.2.2 :: Frz (kP (kI .u8) (kP (kI .u8) (kL (kI .i64)))) V1 a7 :: Frz (kI .i64) u30 y25.2.2 :: L) () hx36 (.cons rfl (.cons rfl (.cons rfl (.cons rfl (.cons rfl (.cons rfl (.cons rfl (.cons rfl (.nil))))))))) (fun _ H => H.to) ?_
                  rintro j39 s38 ⟨⟩ h40
                  cases j39 with
                  | zero => cases (show none = some _ from h40)
                  | succ j39 =>
                    rw [pla_Same_1.l2] at h40
                    refine Ws.seq ?_
                    refine Ws.region ?_
                    refine Ls.cons (G.q (r_bin rfl rfl rfl) rfl rfl ?_)
                    refine Ls.nil ?_
                    refine Qs.then_n ?_
                    refine Ws.seq ?_
                    rcases bif_some h40 with ⟨hb, h40⟩ | ⟨hb, h40⟩
                    · refine Ws.cond_t rfl hb ?_
                      refine Ws.skip ?_
                      refine Qs.then_n ?_
                      refine Ws.seq ?_
                      refine Ws.block ?_
                      refine Ws.seq ?_
                      refine Ws.region ?_
                      refine Ls.cons (G.q (r_move rfl) rfl rfl ?_)
                      obtain ⟨y41, hy42, h40⟩ := bind_some h40
                      have hy42 := idx_some hy42
                      refine G.el (i := s38.toNat) (kI .i64) 1 u23 rfl hy42.2 ?_
                      intro b43 o44 c45
                      refine G.xp_i64 ?_
                      refine Ls.cons (G.q (r_idxN s38.toNat rfl rfl hy42.1 rfl) rfl rfl ?_)
                      refine Ls.cons (G.q (r_load rfl rfl) rfl rfl ?_)
                      refine Ls.cons (G.q (r_assign rfl) rfl rfl ?_)
                      refine Ls.cons (G.q (r_assign rfl) rfl rfl ?_)
                      refine Ls.nil ?_
                      refine Qs.then_n ?_
                      refine Ws.seq ?_
                      refine Ws.region ?_
                      refine Ls.cons (G.q (r_move rfl) rfl rfl ?_)
                      refine Ls.cons (G.q (r_field rfl) rfl rfl ?_)
                      refine Ls.cons (G.q (r_load rfl rfl) rfl rfl ?_)
                      refine Ls.cons (G.q (r_move rfl) rfl rfl ?_)
                      obtain ⟨y46, hy47, h40⟩ := bind_some h40
                      have hy47 := idx_some hy47
                      refine G.el (i := s38.toNat) (kI .i64) 1 u30 rfl hy47.2 ?_
                      intro b48 o49 c50
                      refine G.xp_i64 ?_
                      refine Ls.cons (G.q (r_idxN s38.toNat rfl rfl hy47.1 rfl) rfl rfl ?_)
                      refine Ls.cons (G.q (r_load rfl rfl) rfl rfl ?_)
                      refine Ls.cons (G.q (r_bin rfl rfl rfl) rfl rfl ?_)
                      refine Ls.nil ?_
                      refine Qs.then_n ?_
                      rcases bif_some h40 with ⟨hb, h40⟩ | ⟨hb, h40⟩
                      · refine Ws.cond_t rfl hb ?_
                        refine Ws.seq ?_
                        refine Ws.region ?_
                        refine Ls.cons (G.q (r_assign rfl) rfl rfl ?_)
                        refine Ls.nil ?_
                        refine Qs.then_n ?_
                        refine Ws.ret ?_
                        refine Qs.block_r ?_
                        refine Qs.then_r ?_
                        refine Qs.then_r ?_
                        refine Qs.block_r ?_
                        refine Qs.then_r ?_
                        refine Qs.block_r ?_
                        refine Qs.then_r ?_
                        refine Qs.then_r ?_
                        refine Qs.block_r ?_
                        refine Qs.then_r ?_
                        obtain rfl := Option.some.inj h40
                        obtain rfl := Option.some.inj h37
                        obtain rfl := Option.some.inj h14
                        exact W_end (.inl rfl) Tryd.results12 (.tmp rfl .nil) rfl fun w hS => hR w hS.fin
                      · refine Ws.cond_f rfl hb ?_
                        refine Ws.skip ?_
                        refine Qs.block_n ?_
                        refine Qs.then_n ?_
                        refine Ws.region ?_
                        refine Ls.cons (G.q (r_bin rfl rfl rfl) rfl rfl ?_)
                        refine Ls.cons (G.q (r_move rfl) rfl rfl ?_)
                        refine Ls.nil ?_
                        refine Qs.then_n ?_
                        exact Qs.again () h40 (Nat.lt_succ_self _) (.cons rfl (.cons rfl (.cons rfl (.cons rfl (.cons rfl (.cons rfl (.cons rfl (.cons rfl (.nil))))))))) (fun _ H => H.to)
                    · refine Ws.cond_f rfl hb ?_
                      refine Ws.exit ?_
                      refine Qs.then_e ?_
                      refine Qs.then_e ?_
                      refine Qs.block_e ?_
                      refine Qs.then_n ?_
                      obtain rfl := Option.some.inj h40
                      exact Qs.midX () rfl (.cons rfl (.cons rfl (.cons rfl (.cons rfl (.nil))))) (fun _ H => H.to)
                ·
                  rintro ⟨⟩ hφ
                  cases x35 with
                  | inl _ => cases hφ
                  | inr x35 =>
                    refine Qs.block_n ?_
                    refine Qs.then_n ?_
                    refine Ws.region ?_
                    refine Ls.cons (G.q (r_bin rfl rfl rfl) rfl rfl ?_)
                    refine Ls.cons (G.q (r_move rfl) rfl rfl ?_)
                    refine Ls.nil ?_
                    refine Qs.then_n ?_
                    exact Qs.again () h37 (Nat.lt_succ_self _) (.cons rfl (.cons rfl (.cons rfl (.cons rfl (.nil))))) (fun _ H => H.to)
          · refine Ws.cond_f rfl hb ?_
            refine Ws.exit ?_
            refine Qs.then_e ?_
            refine Qs.then_e ?_
            refine Qs.block_e ?_
            refine Qs.then_n ?_
            obtain rfl := Option.some.inj h17
            exact Qs.midX () rfl (.nil) (fun _ H => H.to)
      ·
        rintro ⟨⟩ hφ
        cases x12 with
        | inl _ => cases hφ
        | inr x12 =>
          refine Ws.seq ?_
          refine Ws.region ?_
          refine Ls.cons (G.q (r_assign rfl) rfl rfl ?_)
          refine Ls.nil ?_
          refine Qs.then_n ?_
          refine Ws.ret ?_
          obtain rfl := Option.some.inj h14
          exact W_end (.inl rfl) Tryd.results12 (.tmp rfl .nil) rfl fun w hS => hR w hS.fin

def ref03_Same.l2 (K : Nat) (x18 : Int × Int × (List Int) × Int × Int × (List Int)) : Nat → Int → Option (Bool ⊕ Unit)
  | 0, _ => none
  | j48 + 1, s47 =>
    (bif decide ((s47 : Int) < (x18.2.2.1.length : Int)) then ((idx x18.2.2.1 s47).bind fun y50 => ((idx x18.2.2.2.2.2 s47).bind fun y55 => (bif (y50 : Int) != y55 then some (.inl false) else ref03_Same.l2 K x18 j48 (IntKind.wrap .i64 (s47 + 1))))) else some (.inr ()))

def ref03_Same.l1 (K : Nat) (a3 : List (Int × Int × (List Int))) (a7 : List (Int × Int × (List Int))) : Nat → Int → Option (Bool ⊕ Unit)
  | 0, _ => none
  | j16 + 1, s15 =>
    (bif decide ((s15 : Int) < (a3.length : Int)) then ((((idx a3 s15).bind fun y21 => ((idx a7 s15).bind fun y27 => some (y21.1, y21.2.1, y21.2.2, y27.1, y27.2.1, y27.2.2)))).bind fun x18 => (((bif !((x18.1 : Int) == x18.2.2.2.1 && ((x18.2.1 : Int) == x18.2.2.2.2.1)) then some true else some (((x18.2.2.1.length : Int) : Int) != (x18.2.2.2.2.2.length : Int)))).bind fun x41 => (bif x41 then some (.inl false) else ((ref03_Same.l2 K x18 K 0 : Option ((Bool) ⊕ (Unit))).bind fun y => match y with | .inl r => some (.inl r) | .inr x44 => ref03_Same.l1 K a3 a7 j16 (IntKind.wrap .i64 (s15 + 1)))))) else some (.inr ()))

def ref03_Same.f (K : Nat) (a0 : Int) (a1 : Int) (a2 : Int) (a3 : List (Int × Int × (List Int))) (a4 : Int) (a5 : Int) (a6 : Int) (a7 : List (Int × Int × (List Int))) : Option Bool :=
  (((bif (a0 : Int) != a4 then some true else (((bif (a1 : Int) != a5 then some true else (((bif (a2 : Int) != a6 then some true else some (((a3.length : Int) : Int) != (a7.length : Int)))).bind fun x9 => some x9))).bind fun x6 => some x6))).bind fun x3 => (bif x3 then some false else ((ref03_Same.l1 K a3 a7 K 0 : Option ((Bool) ⊕ (Unit))).bind fun y => match y with | .inl r => some r | .inr x12 => some true)))

theorem ref03_Same.ok {K : Nat} {a0 : Int} {a1 : Int} {a2 : Int} {a3 : List (Int × Int × (List Int))} {a4 : Int} {a5 : Int} {a6 : Int} {a7 : List (Int × Int × (List Int))} {V0 : Value} {V1 : Value} {r : Bool} (h : ref03_Same.f K a0 a1 a2 a3 a4 a5 a6 a7 = some r) {τ : Meta} {L : List Itm} {w : World} {R : Ending → World → Prop} (hS : St τ ([Frz (kP (kI .u8) (kP (kI .u8) (kL (kI .i64)))) V0 a3, Frz (kP (kI .u8) (kP (kI .u8) (kL (kI .i64)))) V1 a7] ++ L) w)
    (hR : ∀ w', St τ ([] ++ L) w' → R (.returned (.bool r)) w') : Calls Tryd.prog 13 #[.agg #[.int .i64 a0, .int .i64 a1, .int .i64 a2, V0], .agg #[.int .i64 a4, .int .i64 a5, .int .i64 a6, V1]] w R := by
  refine enter (vs := [_, _]) Tryd.func13 rfl Tryd.ntmps13 rfl hS.cat ?_
  unfold ref03_Same.f at h
  refine Ws.seq ?_
  refine Ws.region ?_
  refine Ls.cons (o_box (cs := [.int .i64 a0, .int .i64 a1, .int .i64 a2, V0]) rfl rfl fun b1 => ?_)
  refine Ls.cons (o_box (cs := [.int .i64 a4, .int .i64 a5, .int .i64 a6, V1]) rfl rfl fun b2 => ?_)
  refine Ls.cons (G.q (r_assign rfl) rfl rfl ?_)
  refine Ls.nil ?_
  refine Qs.then_n ?_
  refine Ws.seq ?_
  refine Ws.seq ?_
  refine Ws.region ?_
  refine Ls.cons (G.q (r_field rfl) rfl rfl ?_)
  refine Ls.cons (G.q (r_load rfl rfl) rfl rfl ?_)
  refine Ls.cons (G.q (r_field rfl) rfl rfl ?_)
  refine Ls.cons (G.q (r_load rfl rfl) rfl rfl ?_)
  refine Ls.cons (G.q (r_bin rfl rfl rfl) rfl rfl ?_)
  refine Ls.cons (G.q (r_move rfl) rfl rfl ?_)
  obtain ⟨x3, hx4, h5⟩ := bind_some h
  refine Ls.cutX (ε := Unit) True (fun e => [(2, .pointer (some ⟨b1, 0, none⟩)), (3, .pointer (some ⟨b2, 0, none⟩)), (36, .bool x3)]) (fun e => Cells b1 [.int .i64 a0, .int .i64 a1, .int .i64 a2, V0] 24 :: Cells b2 [.int .i64 a4, .int .i64 a5, .int .i64 a6, V1] 24 :: Frz (kP (kI .u8) (kP (kI .u8) (kL (kI .i64)))) V0 a3 :: Frz (kP (kI .u8) (kP (kI .u8) (kL (kI .i64)))) V1 a7 :: L) ?_ ?_
  ·
    rcases bif_some hx4 with ⟨hb, hx4⟩ | ⟨hb, hx4⟩
    · refine G.fixB 14 hb rfl ?_
      refine Ls.guard_f rfl rfl rfl rfl ?_
      refine Ls.guard_f rfl rfl rfl rfl ?_
      refine Ls.guard_f rfl rfl rfl rfl ?_
      refine Ls.guard_f rfl rfl rfl rfl ?_
      refine Ls.guard_f rfl rfl rfl rfl ?_
      refine Ls.cons (G.q (r_pick rfl rfl rfl) rfl rfl ?_)
      refine Ls.cons (G.q (r_move rfl) rfl rfl ?_)
      refine Ls.guard_f rfl rfl rfl rfl ?_
      refine Ls.guard_f rfl rfl rfl rfl ?_
      refine Ls.guard_f rfl rfl rfl rfl ?_
      refine Ls.guard_f rfl rfl rfl rfl ?_
      refine Ls.guard_f rfl rfl rfl rfl ?_
      refine Ls.cons (G.q (r_pick rfl rfl rfl) rfl rfl ?_)
      refine Ls.cons (G.q (r_move rfl) rfl rfl ?_)
      refine Ls.guard_f rfl rfl rfl rfl ?_
      refine Ls.guard_f rfl rfl rfl rfl ?_
      refine Ls.guard_f rfl rfl rfl rfl ?_
      refine Ls.guard_f rfl rfl rfl rfl ?_
      refine Ls.guard_f rfl rfl rfl rfl ?_
      refine Ls.guard_f rfl rfl rfl rfl ?_
      refine Ls.guard_f rfl rfl rfl rfl ?_
      refine Ls.cons (G.q (r_pick rfl rfl rfl) rfl rfl ?_)
      refine Ls.nil ?_
      refine Qs.only ?_
      obtain rfl := Option.some.inj hx4
      exact Qs.midX () trivial (.cons rfl (.cons rfl (.cons rfl (.nil)))) (fun _ H => H.to)
    · refine G.fixB 14 hb rfl ?_
      refine Ls.guard_t rfl rfl rfl (G.q (r_field rfl) rfl rfl ?_)
      refine Ls.guard_t rfl rfl rfl (G.q (r_load rfl rfl) rfl rfl ?_)
      refine Ls.guard_t rfl rfl rfl (G.q (r_field rfl) rfl rfl ?_)
      refine Ls.guard_t rfl rfl rfl (G.q (r_load rfl rfl) rfl rfl ?_)
      refine Ls.guard_t rfl rfl rfl (G.q (r_bin rfl rfl rfl) rfl rfl ?_)
      refine Ls.cons (G.q (r_pick rfl rfl rfl) rfl rfl ?_)
      refine Ls.cons (G.q (r_move rfl) rfl rfl ?_)
      obtain ⟨x6, hx7, h8⟩ := bind_some hx4
      refine Ls.cutX (ε := Unit) True (fun e => [(2, .pointer (some ⟨b1, 0, none⟩)), (3, .pointer (some ⟨b2, 0, none⟩)), (36, .bool x6)]) (fun e => Cells b1 [.int .i64 a0, .int .i64 a1, .int .i64 a2, V0] 24 :: Cells b2 [.int .i64 a4, .int .i64 a5, .int .i64 a6, V1] 24 :: Frz (kP (kI .u8) (kP (kI .u8) (kL (kI .i64)))) V0 a3 :: Frz (kP (kI .u8) (kP (kI .u8) (kL (kI .i64)))) V1 a7 :: L) ?_ ?_
      ·
        rcases bif_some hx7 with ⟨hb, hx7⟩ | ⟨hb, hx7⟩
        · refine G.fixB 21 hb rfl ?_
          refine Ls.guard_f rfl rfl rfl rfl ?_
          refine Ls.guard_f rfl rfl rfl rfl ?_
          refine Ls.guard_f rfl rfl rfl rfl ?_
          refine Ls.guard_f rfl rfl rfl rfl ?_
          refine Ls.guard_f rfl rfl rfl rfl ?_
          refine Ls.cons (G.q (r_pick rfl rfl rfl) rfl rfl ?_)
          refine Ls.cons (G.q (r_move rfl) rfl rfl ?_)
          refine Ls.guard_f rfl rfl rfl rfl ?_
          refine Ls.guard_f rfl rfl rfl rfl ?_
          refine Ls.guard_f rfl rfl rfl rfl ?_
          refine Ls.guard_f rfl rfl rfl rfl ?_
          refine Ls.guard_f rfl rfl rfl rfl ?_
          refine Ls.guard_f rfl rfl rfl rfl ?_
          refine Ls.guard_f rfl rfl rfl rfl ?_
          refine Ls.cons (G.q (r_pick rfl rfl rfl) rfl rfl ?_)
          refine Ls.nil ?_
          refine Qs.only ?_
          obtain rfl := Option.some.inj hx7
          exact Qs.midX () trivial (.cons rfl (.cons rfl (.cons rfl (.nil)))) (fun _ H => H.to)
        · refine G.fixB 21 hb rfl ?_
          refine Ls.guard_t rfl rfl rfl (G.q (r_field rfl) rfl rfl ?_)
          refine Ls.guard_t rfl rfl rfl (G.q (r_load rfl rfl) rfl rfl ?_)
          refine Ls.guard_t rfl rfl rfl (G.q (r_field rfl) rfl rfl ?_)
          refine Ls.guard_t rfl rfl rfl (G.q (r_load rfl rfl) rfl rfl ?_)
          refine Ls.guard_t rfl rfl rfl (G.q (r_bin rfl rfl rfl) rfl rfl ?_)
          refine Ls.cons (G.q (r_pick rfl rfl rfl) rfl rfl ?_)
          refine Ls.cons (G.q (r_move rfl) rfl rfl ?_)
          obtain ⟨x9, hx10, h11⟩ := bind_some hx7
          refine Ls.cutX (ε := Unit) True (fun e => [(2, .pointer (some ⟨b1, 0, none⟩)), (3, .pointer (some ⟨b2, 0, none⟩)), (36, .bool x9)]) (fun e => Cells b1 [.int .i64 a0, .int .i64 a1, .int .i64 a2, V0] 24 :: Cells b2 [.int .i64 a4, .int .i64 a5, .int .i64 a6, V1] 24 :: Frz (kP (kI .u8) (kP (kI .u8) (kL (kI .i64)))) V0 a3 :: Frz (kP (kI .u8) (kP (kI .u8) (kL (kI .i64)))) V1 a7 :: L) ?_ ?_
          ·
            rcases bif_some hx10 with ⟨hb, hx10⟩ | ⟨hb, hx10⟩
            · refine G.fixB 28 hb rfl ?_
              refine Ls.guard_f rfl rfl rfl rfl ?_
              refine Ls.guard_f rfl rfl rfl rfl ?_
              refine Ls.guard_f rfl rfl rfl rfl ?_
              refine Ls.guard_f rfl rfl rfl rfl ?_
              refine Ls.guard_f rfl rfl rfl rfl ?_
              refine Ls.guard_f rfl rfl rfl rfl ?_
              refine Ls.guard_f rfl rfl rfl rfl ?_
              refine Ls.cons (G.q (r_pick rfl rfl rfl) rfl rfl ?_)
              refine Ls.nil ?_
              refine Qs.only ?_
              obtain rfl := Option.some.inj hx10
              exact Qs.midX () trivial (.cons rfl (.cons rfl (.cons rfl (.nil)))) (fun _ H => H.to)
            · refine G.fixB 28 hb rfl ?_
              refine Ls.guard_t rfl rfl rfl (G.q (r_field rfl) rfl rfl ?_)
              refine Ls.guard_t rfl rfl rfl (G.q (r_load rfl rfl) rfl rfl ?_)
              refine Ls.guard_t rfl rfl rfl (G.q (r_len rfl) rfl rfl ?_)
              refine Ls.guard_t rfl rfl rfl (G.q (r_field rfl) rfl rfl ?_)
              refine Ls.guard_t rfl rfl rfl (G.q (r_load rfl rfl) rfl rfl ?_)
              refine Ls.guard_t rfl rfl rfl (G.q (r_len rfl) rfl rfl ?_)
              refine Ls.guard_t rfl rfl rfl (G.q (r_bin rfl rfl rfl) rfl rfl ?_)
              refine Ls.cons (G.q (r_pick rfl rfl rfl) rfl rfl ?_)
              refine Ls.nil ?_
              refine Qs.only ?_
              obtain rfl := Option.some.inj hx10
              exact Qs.midX () trivial (.cons rfl (.cons rfl (.cons rfl (.nil)))) (fun _ H => H.to)
          ·
            rintro ⟨⟩ _
            refine Qs.only ?_
            obtain rfl := Option.some.inj h11
            exact Qs.midX () trivial (.cons rfl (.cons rfl (.cons rfl (.nil)))) (fun _ H => H.to)
      ·
        rintro ⟨⟩ _
        refine Qs.only ?_
        obtain rfl := Option.some.inj h8
        exact Qs.midX () trivial (.cons rfl (.cons rfl (.cons rfl (.nil)))) (fun _ H => H.to)
  ·
    rintro ⟨⟩ _
    refine Qs.then_n ?_
    rcases bif_some h5 with ⟨hb, h5⟩ | ⟨hb, h5⟩
    · refine Ws.cond_t rfl hb ?_
      refine Ws.seq ?_
      refine Ws.region ?_
      refine Ls.cons (G.q (r_assign rfl) rfl rfl ?_)
      refine Ls.nil ?_
      refine Qs.then_n ?_
      refine Ws.ret ?_
      refine Qs.then_r ?_
      obtain rfl := Option.some.inj h5
      exact W_end (.inl rfl) Tryd.results13 (.tmp rfl .nil) rfl fun w hS => hR w hS.fin
    · refine Ws.cond_f rfl hb ?_
      refine Ws.skip ?_
      refine Qs.then_n ?_
      refine Ws.seq ?_
      refine Ws.seq ?_
      refine Ws.region ?_
      refine Ls.cons (G.q (r_assign rfl) rfl rfl ?_)
      refine Ls.nil ?_
      refine Qs.then_n ?_
      obtain ⟨x12, hx13, h14⟩ := bind_some h5
      refine Ws.cutX (ε := Unit) (isR x12 = true) (fun e => []) (fun e => Frz (kP (kI .u8) (kP (kI .u8) (kL (kI .i64)))) V0 a3 :: Frz (kP (kI .u8) (kP (kI .u8) (kL (kI .i64)))) V1 a7 :: L) ?_ ?_
      ·
        refine Ws.block ?_
        refine Ws.loop (ε := Unit) (ref03_Same.l1 K a3 a7) (fun s e => [(2, .pointer (some ⟨b1, 0, none⟩)), (3, .pointer (some ⟨b2, 0, none⟩)), (5, .int .i64 s)]) (fun s e => Cells b1 [.int .i64 a0, .int .i64 a1, .int .i64 a2, V0] 24 :: Cells b2 [.int .i64 a4, .int .i64 a5, .int .i64 a6, V1] 24 :: Frz (kP (kI .u8) (kP (kI .u8) (kL (kI .i64)))) V0 a3 :: Frz (kP (kI .u8) (kP (kI .u8) (kL (kI .i64)))) V1 a7 :: L) () hx13 (.cons rfl (.cons rfl (.cons rfl (.nil)))) (fun _ H => H.to) ?_
        rintro j16 s15 ⟨⟩ h17
        cases j16 with
        | zero => cases (show none = some _ from h17)
        | succ j16 =>
          rw [ref03_Same.l1] at h17
          refine Ws.seq ?_
          refine Ws.seq ?_
          refine Ws.region ?_
          refine Ls.cons (G.q (r_move rfl) rfl rfl ?_)
          refine Ls.cons (G.q (r_field rfl) rfl rfl ?_)
          refine Ls.cons (G.q (r_load rfl rfl) rfl rfl ?_)
          refine Ls.cons (G.q (r_len rfl) rfl rfl ?_)
          refine Ls.cons (G.q (r_bin rfl rfl rfl) rfl rfl ?_)
          refine Ls.nil ?_
          refine Qs.then_n ?_
          rcases bif_some h17 with ⟨hb, h17⟩ | ⟨hb, h17⟩
          · refine Ws.cond_t rfl hb ?_
            refine Ws.skip ?_
            refine Qs.then_n ?_
            refine Ws.seq ?_
            refine Ws.block ?_
            refine Ws.seq ?_
            obtain ⟨x18, hx19, h20⟩ := bind_some h17
            refine Ws.cutX (ε := Nat × Value × Nat × Value) (True) (fun e => [(2, .pointer (some ⟨b1, 0, none⟩)), (3, .pointer (some ⟨b2, 0, none⟩)), (5, .int .i64 s15), (6, .pointer (some ⟨e.1, 0, none⟩)), (7, .pointer (some ⟨e.2.2.1, 0, none⟩))]) (fun e => Frz (kI .i64) e.2.1 x18.2.2.1 :: Cells e.1 [.int .u8 x18.1, .int .u8 x18.2.1, e.2.1] 45 :: Frz (kI .i64) e.2.2.2 x18.2.2.2.2.2 :: Cells e.2.2.1 [.int .u8 x18.2.2.2.1, .int .u8 x18.2.2.2.2.1, e.2.2.2] 45 :: Cells b1 [.int .i64 a0, .int .i64 a1, .int .i64 a2, V0] 24 :: Cells b2 [.int .i64 a4, .int .i64 a5, .int .i64 a6, V1] 24 :: Frz (kP (kI .u8) (kP (kI .u8) (kL (kI .i64)))) V0 a3 :: Frz (kP (kI .u8) (kP (kI .u8) (kL (kI .i64)))) V1 a7 :: L) ?_ ?_
            ·
              refine D.start [Cells b1 [.int .i64 a0, .int .i64 a1, .int .i64 a2, V0] 24, Cells b2 [.int .i64 a4, .int .i64 a5, .int .i64 a6, V1] 24, Frz (kP (kI .u8) (kP (kI .u8) (kL (kI .i64)))) V0 a3, Frz (kP (kI .u8) (kP (kI .u8) (kL (kI .i64)))) V1 a7] rfl ?_
              refine D.take 0 rfl (by kernel_rfl) (r_field rfl) rfl ?_
              refine D.take 1 rfl (by kernel_rfl) (r_load rfl rfl) rfl ?_
              refine D.take 2 rfl (by kernel_rfl) (r_move rfl) rfl ?_
              obtain ⟨y21, hy22, hx19⟩ := bind_some hx19
              have hy22 := idx_some hy22
              refine G.el (i := s15.toNat) (kP (kI .u8) (kP (kI .u8) (kL (kI .i64)))) 3 V0 rfl hy22.2 ?_
              intro b23 o24 c25
              refine G.xp_u8u8l ?_
              intro u26
              refine D.more [Cells b1 [.int .i64 a0, .int .i64 a1, .int .i64 a2, V0] 24, Cells b2 [.int .i64 a4, .int .i64 a5, .int .i64 a6, V1] 24, Frz (kP (kI .u8) (kP (kI .u8) (kL (kI .i64)))) V0 a3, Frz (kP (kI .u8) (kP (kI .u8) (kL (kI .i64)))) V1 a7, Frz (kI .i64) u26 y21.2.2, CellsP b23 o24 [.int .u8 y21.1, .int .u8 y21.2.1, u26], ElP V0 s15.toNat 3 b23 o24] ?_
              refine D.take 3 rfl (by kernel_rfl) (r_idxN s15.toNat rfl rfl hy22.1 rfl) rfl ?_
              refine D.take 4 rfl (by kernel_rfl) (r_loadN rfl rfl) rfl ?_
              refine D.take 5 rfl (by kernel_rfl) (r_field rfl) rfl ?_
              refine D.take 6 rfl (by kernel_rfl) (r_load rfl rfl) rfl ?_
              refine D.take 7 rfl (by kernel_rfl) (r_move rfl) rfl ?_
              obtain ⟨y27, hy28, hx19⟩ := bind_some hx19
              have hy28 := idx_some hy28
              refine G.el (i := s15.toNat) (kP (kI .u8) (kP (kI .u8) (kL (kI .i64)))) 3 V1 rfl hy28.2 ?_
              intro b29 o30 c31
              refine G.xp_u8u8l ?_
              intro u32
              refine D.more [Cells b1 [.int .i64 a0, .int .i64 a1, .int .i64 a2, V0] 24, Cells b2 [.int .i64 a4, .int .i64 a5, .int .i64 a6, V1] 24, Frz (kP (kI .u8) (kP (kI .u8) (kL (kI .i64)))) V0 a3, Frz (kP (kI .u8) (kP (kI .u8) (kL (kI .i64)))) V1 a7, Frz (kI .i64) u26 y21.2.2, CellsP b23 o24 [.int .u8 y21.1, .int .u8 y21.2.1, u26], ElP V0 s15.toNat 3 b23 o24, Frz (kI .i64) u32 y27.2.2, CellsP b29 o30 [.int .u8 y27.1, .int .u8 y27.2.1, u32], ElP V1 s15.toNat 3 b29 o30] ?_
              refine D.take 8 rfl (by kernel_rfl) (r_idxN s15.toNat rfl rfl hy28.1 rfl) rfl ?_
              refine D.take 9 rfl (by kernel_rfl) (r_loadN rfl rfl) rfl ?_
              refine D.runs [10, 11] (by kernel_rfl) rfl ?_
              refine all_cons ?_ (all_cons ?_ (all_nil))
              ·
                refine D.one 10 rfl (o_alloc (cs := [.int .u8 0, .int .u8 0, .slice none 0 0]) rfl rfl fun b33 => ?_)
                refine D.next ?_
                refine D.run 11 rfl (by kernel_rfl) (o_alloc (cs := [.int .u8 0, .int .u8 0, .slice none 0 0]) rfl rfl fun b34 => ?_)
                refine D.next ?_
                refine D.run 12 rfl (by kernel_rfl) (o_store (vs := [.int .u8 y21.1, .int .u8 y21.2.1, u26]) rfl rfl rfl rfl ?_)
                refine D.next ?_
                refine D.tail (by kernel_rfl) ?_
                refine A.run 13 rfl (by kernel_rfl) (o_store (vs := [.int .u8 y27.1, .int .u8 y27.2.1, u32]) rfl rfl rfl rfl ?_)
                refine A.done (by kernel_rfl) ?_
                refine Qs.then_n ?_
                obtain rfl := Option.some.inj hx19
                exact Qs.midX (b33, u26, b34, u32) trivial (.cons rfl (.cons rfl (.cons rfl (.cons rfl (.cons rfl (.nil)))))) (fun _ H => H.to)
              ·
                refine D.one 11 rfl (o_alloc (cs := [.int .u8 0, .int .u8 0, .slice none 0 0]) rfl rfl fun b35 => ?_)
                refine D.next ?_
                refine D.run 10 rfl (by kernel_rfl) (o_alloc (cs := [.int .u8 0, .int .u8 0, .slice none 0 0]) rfl rfl fun b36 => ?_)
                refine D.next ?_
                refine D.run 12 rfl (by kernel_rfl) (o_store (vs := [.int .u8 y21.1, .int .u8 y21.2.1, u26]) rfl rfl rfl rfl ?_)
                refine D.next ?_
                refine D.tail (by kernel_rfl) ?_
                refine A.run 13 rfl (by kernel_rfl) (o_store (vs := [.int .u8 y27.1, .int .u8 y27.2.1, u32]) rfl rfl rfl rfl ?_)
                refine A.done (by kernel_rfl) ?_
                refine Qs.then_n ?_
                obtain rfl := Option.some.inj hx19
                exact Qs.midX (b36, u26, b35, u32) trivial (.cons rfl (.cons rfl (.cons rfl (.cons rfl (.cons rfl (.nil)))))) (fun _ H => H.to)
            ·
              rintro ⟨e37, e38, e39, e40⟩ hφ
              refine Ws.seq ?_
              refine Ws.seq ?_
              refine Ws.region ?_
              refine Ls.cons (G.q (r_field rfl) rfl rfl ?_)
              refine Ls.cons (G.q (r_loadN rfl rfl) rfl rfl ?_)
              refine Ls.cons (G.q (r_field rfl) rfl rfl ?_)
              refine Ls.cons (G.q (r_loadN rfl rfl) rfl rfl ?_)
              refine Ls.cons (G.q (r_neAgg rfl rfl Tryd.eqGuardType42 (fun w => eqv42 9998 _ _ _ _ w)) rfl rfl ?_)
              refine Ls.cons (G.q (r_move rfl) rfl rfl ?_)
              obtain ⟨x41, hx42, h43⟩ := bind_some h20
              refine Ls.cutX (ε := Unit) True (fun e => [(2, .pointer (some ⟨b1, 0, none⟩)), (3, .pointer (some ⟨b2, 0, none⟩)), (5, .int .i64 s15), (6, .pointer (some ⟨e37, 0, none⟩)), (7, .pointer (some ⟨e39, 0, none⟩)), (67, .bool x41)]) (fun e => Cells b1 [.int .i64 a0, .int .i64 a1, .int .i64 a2, V0] 24 :: Cells b2 [.int .i64 a4, .int .i64 a5, .int .i64 a6, V1] 24 :: Cells e37 [.int .u8 x18.1, .int .u8 x18.2.1, e38] 45 :: Cells e39 [.int .u8 x18.2.2.2.1, .int .u8 x18.2.2.2.2.1, e40] 45 :: Frz (kP (kI .u8) (kP (kI .u8) (kL (kI .i64)))) V0 a3 :: Frz (kP (kI .u8) (kP (kI .u8) (kL (kI .i64)))) V1 a7 :: Frz (kI .i64) e38 x18.2.2.1 :: Frz (kI .i64) e40 x18.2.2.2.2.2 :: L) ?_ ?_
              ·
                rcases bif_some hx42 with ⟨hb, hx42⟩ | ⟨hb, hx42⟩
                · refine G.fixB 59 hb rfl ?_
                  refine Ls.guard_f rfl rfl rfl rfl ?_
                  refine Ls.guard_f rfl rfl rfl rfl ?_
                  refine Ls.guard_f rfl rfl rfl rfl ?_
                  refine Ls.guard_f rfl rfl rfl rfl ?_
                  refine Ls.guard_f rfl rfl rfl rfl ?_
                  refine Ls.guard_f rfl rfl rfl rfl ?_
                  refine Ls.guard_f rfl rfl rfl rfl ?_
                  refine Ls.cons (G.q (r_pick rfl rfl rfl) rfl rfl ?_)
                  refine Ls.nil ?_
                  refine Qs.only ?_
                  obtain rfl := Option.some.inj hx42
                  exact Qs.midX () trivial (.cons rfl (.cons rfl (.cons rfl (.cons rfl (.cons rfl (.cons rfl (.nil))))))) (fun _ H => H.to)
                · refine G.fixB 59 hb rfl ?_
                  refine Ls.guard_t rfl rfl rfl (G.q (r_field rfl) rfl rfl ?_)
                  refine Ls.guard_t rfl rfl rfl (G.q (r_load rfl rfl) rfl rfl ?_)
                  refine Ls.guard_t rfl rfl rfl (G.q (r_len rfl) rfl rfl ?_)
                  refine Ls.guard_t rfl rfl rfl (G.q (r_field rfl) rfl rfl ?_)
                  refine Ls.guard_t rfl rfl rfl (G.q (r_load rfl rfl) rfl rfl ?_)
                  refine Ls.guard_t rfl rfl rfl (G.q (r_len rfl) rfl rfl ?_)
                  refine Ls.guard_t rfl rfl rfl (G.q (r_bin rfl rfl rfl) rfl rfl ?_)
                  refine Ls.cons (G.q (r_pick rfl rfl rfl) rfl rfl ?_)
                  refine Ls.nil ?_
                  refine Qs.only ?_
                  obtain rfl := Option.some.inj hx42
                  exact Qs.midX () trivial (.cons rfl (.cons rfl (.cons rfl (.cons rfl (.cons rfl (.cons rfl (.nil))))))) (fun _ H => H.to)
              ·
                rintro ⟨⟩ _
                refine Qs.then_n ?_
                rcases bif_some h43 with ⟨hb, h43⟩ | ⟨hb, h43⟩
                · refine Ws.cond_t rfl hb ?_
                  refine Ws.seq ?_
                  refine Ws.region ?_
                  refine Ls.cons (G.q (r_assign rfl) rfl rfl ?_)
                  refine Ls.nil ?_
                  refine Qs.then_n ?_
                  refine Ws.ret ?_
                  refine Qs.then_r ?_
                  refine Qs.block_r ?_
                  refine Qs.then_r ?_
                  refine Qs.then_r ?_
                  refine Qs.block_r ?_
                  refine Qs.then_r ?_
                  obtain rfl := Option.some.inj h43
                  obtain rfl := Option.some.inj h14
                  exact W_end (.inl rfl) Tryd.results13 (.tmp rfl .nil) rfl fun w hS => hR w hS.fin
                · refine Ws.cond_f rfl hb ?_
                  refine Ws.skip ?_
                  refine Qs.then_n ?_
                  refine Ws.seq ?_
                  refine Ws.region ?_
                  refine Ls.cons (G.q (r_assign rfl) rfl rfl ?_)
                  refine Ls.nil ?_
                  refine Qs.then_n ?_
                  obtain ⟨x44, hx45, h46⟩ := bind_some h43
                  refine Ws.thenI ?_
                  refine Ws.cutX (ε := Unit) (isR x44 = true) (fun e => [(2, .pointer (some ⟨b1, 0, none⟩)), (3, .pointer (some ⟨b2, 0, none⟩)), (5, .int .i64 s15)]) (fun e => Cells b1 [.int .i64 a0, .int .i64 a1, .int .i64 a2, V0] 24 :: Cells b2 [.int .i64 a4, .int .i64 a5, .int .i64 a6, V1] 24 :: Frz (kP (kI .u8) (kP (kI .u8) (kL (kI .i64)))) V0 a3 :: Frz (kP (kI .u8) (kP (kI .u8) (kL (kI .i64)))) V1 a7 :: L) ?_ ?_
                  ·
                    refine Ws.block ?_
                    refine Ws.loop (ε := Unit) (ref03_Same.l2 K x18) (fun s e => [(2, .pointer (some ⟨b1, 0, none⟩)), (3, .pointer (some ⟨b2, 0, none⟩)), (5, .int .i64 s15), (6, .pointer (some ⟨e37, 0, none⟩)), (7, .pointer (some ⟨e39, 0, none⟩)), (8, .int .i64 s)]) (fun s e => Cells b1 [.int .i64 a0, .int .i64 a1, .int .i64 a2, V0] 24 :: Cells b2 [.int .i64 a4, .int .i64 a5, .int .i64 a6, V1] 24 :: Cells e37 [.int .u8 x18.1, .int .u8 x18.2.1, e38] 45 :: Cells e39 [.int .u8 x18.2.2.2.1, .int .u8 x18.2.2.2.2.1, e40] 45 :: Frz (kP (kI .u8) (kP (kI .u8) (kL (kI .i64)))) V0 a3 :: Frz (kP (kI .u8) (kP (kI .u8) (kL (kI .i64)))) V1 a7 :: Frz (kI .i64) e38 x18.2.2.1 :: Frz (kI .i64) e40 x18.2.2.2.2.2 :: L) () hx45 (.cons rfl (.cons rfl (.cons rfl (.cons rfl (.cons rfl (.cons rfl (.nil))))))) (fun _ H => H.to) ?_
                    rintro j48 s47 ⟨⟩ h49
                    cases j48 with
                    | zero => cases (show none = some _ from h49)
                    | succ j48 =>
                      rw [ref03_Same.l2] at h49
                      refine Ws.seq ?_
                      refine Ws.seq ?_
                      refine Ws.region ?_
                      refine Ls.cons (G.q (r_move rfl) rfl rfl ?_)
                      refine Ls.cons (G.q (r_field rfl) rfl rfl ?_)
                      refine Ls.cons (G.q (r_load rfl rfl) rfl rfl ?_)
                      refine Ls.cons (G.q (r_len rfl) rfl rfl ?_)
                      refine Ls.cons (G.q (r_bin rfl rfl rfl) rfl rfl ?_)
                      refine Ls.nil ?_
                      refine Qs.then_n ?_
                      rcases bif_some h49 with ⟨hb, h49⟩ | ⟨hb, h49⟩
                      · refine Ws.cond_t rfl hb ?_
                        refine Ws.skip ?_
                        refine Qs.then_n ?_
                        refine Ws.seq ?_
                        refine Ws.block ?_
                        refine Ws.seq ?_
                        refine D.start [Cells b1 [.int .i64 a0, .int .i64 a1, .int .i64 a2, V0] 24, Cells b2 [.int .i64 a4, .int .i64 a5, .int .i64 a6, V1] 24, Cells e37 [.int .u8 x18.1, .int .u8 x18.2.1, e38] 45, Cells e39 [.int .u8 x18.2.2.2.1, .int .u8 x18.2.2.2.2.1, e40] 45, Frz (kP (kI .u8) (kP (kI .u8) (kL (kI .i64)))) V0 a3, Frz (kP (kI .u8) (kP (kI .u8) (kL (kI .i64)))) V1 a7, Frz (kI .i64) e38 x18.2.2.1, Frz (kI .i64) e40 x18.2.2.2.2.2] rfl ?_
                        refine D.take 0 rfl (by kernel_rfl) (r_field rfl) rfl ?_
                        refine D.take 1 rfl (by kernel_rfl) (r_load rfl rfl) rfl ?_
                        refine D.take 2 rfl (by kernel_rfl) (r_move rfl) rfl ?_
                        obtain ⟨y50, hy51, h49⟩ := bind_some h49
                        have hy51 := idx_some hy51
                        refine G.el (i := s47.toNat) (kI .i64) 1 e38 rfl hy51.2 ?_
                        intro b52 o53 c54
                        refine G.xp_i64 ?_
                        refine D.more [Cells b1 [.int .i64 a0, .int .i64 a1, .int .i64 a2, V0] 24, Cells b2 [.int .i64 a4, .int .i64 a5, .int .i64 a6, V1] 24, Cells e37 [.int .u8 x18.1, .int .u8 x18.2.1, e38] 45, Cells e39 [.int .u8 x18.2.2.2.1, .int .u8 x18.2.2.2.2.1, e40] 45, Frz (kP (kI .u8) (kP (kI .u8) (kL (kI .i64)))) V0 a3, Frz (kP (kI .u8) (kP (kI .u8) (kL (kI .i64)))) V1 a7, Frz (kI .i64) e38 x18.2.2.1, Frz (kI .i64) e40 x18.2.2.2.2.2, CellsP b52 o53 [.int .i64 y50], ElP e38 s47.toNat 1 b52 o53] ?_
                        refine D.take 3 rfl (by kernel_rfl) (r_idxN s47.toNat rfl rfl hy51.1 rfl) rfl ?_
                        refine D.take 4 rfl (by kernel_rfl) (r_load rfl rfl) rfl ?_
                        refine D.take 5 rfl (by kernel_rfl) (r_field rfl) rfl ?_
                        refine D.take 6 rfl (by kernel_rfl) (r_load rfl rfl) rfl ?_
                        refine D.take 7 rfl (by kernel_rfl) (r_move rfl) rfl ?_
                        obtain ⟨y55, hy56, h49⟩ := bind_some h49
                        have hy56 := idx_some hy56
                        refine G.el (i := s47.toNat) (kI .i64) 1 e40 rfl hy56.2 ?_
                        intro b57 o58 c59
                        refine G.xp_i64 ?_
                        refine D.more [Cells b1 [.int .i64 a0, .int .i64 a1, .int .i64 a2, V0] 24, Cells b2 [.int .i64 a4, .int .i64 a5, .int .i64 a6, V1] 24, Cells e37 [.int .u8 x18.1, .int .u8 x18.2.1, e38] 45, Cells e39 [.int .u8 x18.2.2.2.1, .int .u8 x18.2.2.2.2.1, e40] 45, Frz (kP (kI .u8) (kP (kI .u8) (kL (kI .i64)))) V0 a3, Frz (kP (kI .u8) (kP (kI .u8) (kL (kI .i64)))) V1 a7, Frz (kI .i64) e38 x18.2.2.1, Frz (kI .i64) e40 x18.2.2.2.2.2, CellsP b52 o53 [.int .i64 y50], ElP e38 s47.toNat 1 b52 o53, CellsP b57 o58 [.int .i64 y55], ElP e40 s47.toNat 1 b57 o58] ?_
                        refine D.take 8 rfl (by kernel_rfl) (r_idxN s47.toNat rfl rfl hy56.1 rfl) rfl ?_
                        refine D.take 9 rfl (by kernel_rfl) (r_load rfl rfl) rfl ?_
                        refine D.take 10 rfl (by kernel_rfl) (r_bin rfl rfl rfl) rfl ?_
                        refine D.done (by kernel_rfl) (by kernel_rfl) ?_
                        refine Qs.then_n ?_
                        rcases bif_some h49 with ⟨hb, h49⟩ | ⟨hb, h49⟩
                        · refine Ws.cond_t rfl hb ?_
                          refine Ws.seq ?_
                          refine Ws.region ?_
                          refine Ls.cons (G.q (r_assign rfl) rfl rfl ?_)
                          refine Ls.nil ?_
                          refine Qs.then_n ?_
                          refine Ws.ret ?_
                          refine Qs.block_r ?_
                          refine Qs.then_r ?_
                          refine Qs.then_r ?_
                          refine Qs.block_r ?_
                          refine Qs.then_r ?_
                          refine Qs.block_r ?_
                          refine Qs.then_r ?_
                          refine Qs.then_r ?_
                          refine Qs.block_r ?_
                          refine Qs.then_r ?_
                          obtain rfl := Option.some.inj h49
                          obtain rfl := Option.some.inj h46
                          obtain rfl := Option.some.inj h14
                          exact W_end (.inl rfl) Tryd.results13 (.tmp rfl .nil) rfl fun w hS => hR w hS.fin
                        · refine Ws.cond_f rfl hb ?_
                          refine Ws.skip ?_
                          refine Qs.block_n ?_
                          refine Qs.then_n ?_
                          refine Ws.region ?_
                          refine Ls.cons (G.q (r_move rfl) rfl rfl ?_)
                          refine Ls.cons (G.q (r_bin rfl rfl rfl) rfl rfl ?_)
                          refine Ls.cons (G.q (r_assign rfl) rfl rfl ?_)
                          refine Ls.nil ?_
                          refine Qs.then_n ?_
                          exact Qs.again () h49 (Nat.lt_succ_self _) (.cons rfl (.cons rfl (.cons rfl (.cons rfl (.cons rfl (.cons rfl (.nil))))))) (fun _ H => H.to)
                      · refine Ws.cond_f rfl hb ?_
                        refine Ws.exit ?_
                        refine Qs.then_e ?_
                        refine Qs.then_e ?_
                        refine Qs.block_e ?_
                        refine Qs.then_n ?_
                        obtain rfl := Option.some.inj h49
                        exact Qs.midX () rfl (.cons rfl (.cons rfl (.cons rfl (.nil)))) (fun _ H => H.to)
                  ·
                    rintro ⟨⟩ hφ
                    cases x44 with
                    | inl _ => cases hφ
                    | inr x44 =>
                      refine Qs.block_n ?_
                      refine Qs.then_n ?_
                      refine Ws.region ?_
                      refine Ls.cons (G.q (r_move rfl) rfl rfl ?_)
                      refine Ls.cons (G.q (r_bin rfl rfl rfl) rfl rfl ?_)
                      refine Ls.cons (G.q (r_assign rfl) rfl rfl ?_)
                      refine Ls.nil ?_
                      refine Qs.then_n ?_
                      exact Qs.again () h46 (Nat.lt_succ_self _) (.cons rfl (.cons rfl (.cons rfl (.nil)))) (fun _ H => H.to)
          · refine Ws.cond_f rfl hb ?_
            refine Ws.exit ?_
            refine Qs.then_e ?_
            refine Qs.then_e ?_
            refine Qs.block_e ?_
            refine Qs.then_n ?_
            obtain rfl := Option.some.inj h17
            exact Qs.midX () rfl (.nil) (fun _ H => H.to)
      ·
        rintro ⟨⟩ hφ
        cases x12 with
        | inl _ => cases hφ
        | inr x12 =>
          refine Ws.seq ?_
          refine Ws.region ?_
          refine Ls.cons (G.q (r_assign rfl) rfl rfl ?_)
          refine Ls.nil ?_
          refine Qs.then_n ?_
          refine Ws.ret ?_
          obtain rfl := Option.some.inj h14
          exact W_end (.inl rfl) Tryd.results13 (.tmp rfl .nil) rfl fun w hS => hR w hS.fin

def ref03_Digits.f (K : Nat) (a0 : Int) : Option ByteArray :=
  (bif decide ((a0 : Int) < 10) then some (b2s [IntKind.wrap .u8 (IntKind.wrap .i64 (48 + (iDiv .rem .i64 a0 10)))]) else (bif decide ((b2s [IntKind.wrap .u8 (IntKind.wrap .i64 (48 + (iDiv .quo .i64 a0 10)))]).size + (b2s [IntKind.wrap .u8 (IntKind.wrap .i64 (48 + (iDiv .rem .i64 a0 10)))]).size ≤ 1099511627776) then some ((b2s [IntKind.wrap .u8 (IntKind.wrap .i64 (48 + (iDiv .quo .i64 a0 10)))]) ++ (b2s [IntKind.wrap .u8 (IntKind.wrap .i64 (48 + (iDiv .rem .i64 a0 10)))])) else none))

theorem ref03_Digits.ok {K : Nat} {a0 : Int} {r : ByteArray} (h : ref03_Digits.f K a0 = some r) {τ : Meta} {L : List Itm} {w : World} {R : Ending → World → Prop} (hS : St τ ([] ++ L) w)
    (hR : ∀ w', St τ ([] ++ L) w' → R (.returned (.string r)) w') : Calls Tryd.prog 28 #[.int .i64 a0] w R := by
  refine enter (vs := [_]) Tryd.func28 rfl Tryd.ntmps28 rfl hS.cat ?_
  unfold ref03_Digits.f at h
  refine Ws.seq ?_
  refine Ws.region ?_
  refine Ls.cons (G.q (r_assign rfl) rfl rfl ?_)
  refine Ls.nil ?_
  refine Qs.then_n ?_
  refine Ws.seq ?_
  refine Ws.region ?_
  refine Ls.cons (G.q (r_move rfl) rfl rfl ?_)
  refine Ls.cons (G.q (r_dv rfl rfl rfl (by decide)) rfl rfl ?_)
  refine Ls.cons (G.q (r_bin rfl rfl rfl) rfl rfl ?_)
  refine Ls.cons (G.q (r_conv rfl) rfl rfl ?_)
  refine Ls.cons (o_lit (kI .u8) [IntKind.wrap .u8 (IntKind.wrap .i64 (48 + (iDiv .rem .i64 a0 10)))] [.int .u8 (IntKind.wrap .u8 (IntKind.wrap .i64 (48 + (iDiv .rem .i64 a0 10))))] rfl rfl rfl rfl (by kernel_rfl) (.cons (c := [.int .u8 (IntKind.wrap .u8 (IntKind.wrap .i64 (48 + (iDiv .rem .i64 a0 10))))]) inferInstance .nil rfl) rfl fun v1 => ?_)
  refine Ls.cons (G.q (r_b2s rfl) rfl rfl ?_)
  refine Ls.cons (G.q (r_assign rfl) rfl rfl ?_)
  refine Ls.nil ?_
  refine Qs.then_n ?_
  refine Ws.seq ?_
  refine Ws.seq ?_
  refine Ws.region ?_
  refine Ls.cons (G.q (r_move rfl) rfl rfl ?_)
  refine Ls.cons (G.q (r_bin rfl rfl rfl) rfl rfl ?_)
  refine Ls.nil ?_
  refine Qs.then_n ?_
  rcases bif_some h with ⟨hb, h⟩ | ⟨hb, h⟩
  · refine Ws.cond_t rfl hb ?_
    refine Ws.seq ?_
    refine Ws.region ?_
    refine Ls.cons (G.q (r_move rfl) rfl rfl ?_)
    refine Ls.cons (G.q (r_assign rfl) rfl rfl ?_)
    refine Ls.nil ?_
    refine Qs.then_n ?_
    refine Ws.ret ?_
    refine Qs.then_r ?_
    obtain rfl := Option.some.inj h
    exact W_end (.inl rfl) Tryd.results28 (.tmp rfl .nil) rfl fun w hS => hR w hS.fin
  · refine Ws.cond_f rfl hb ?_
    refine Ws.skip ?_
    refine Qs.then_n ?_
    refine Ws.seq ?_
    refine Ws.region ?_
    refine Ls.cons (G.q (r_move rfl) rfl rfl ?_)
    refine Ls.cons (G.q (r_dv rfl rfl rfl (by decide)) rfl rfl ?_)
    refine Ls.cons (G.q (r_bin rfl rfl rfl) rfl rfl ?_)
    refine Ls.cons (G.q (r_conv rfl) rfl rfl ?_)
    refine Ls.cons (o_lit (kI .u8) [IntKind.wrap .u8 (IntKind.wrap .i64 (48 + (iDiv .quo .i64 a0 10)))] [.int .u8 (IntKind.wrap .u8 (IntKind.wrap .i64 (48 + (iDiv .quo .i64 a0 10))))] rfl rfl rfl rfl (by kernel_rfl) (.cons (c := [.int .u8 (IntKind.wrap .u8 (IntKind.wrap .i64 (48 + (iDiv .quo .i64 a0 10))))]) inferInstance .nil rfl) rfl fun v2 => ?_)
    refine Ls.cons (G.q (r_b2s rfl) rfl rfl ?_)
    refine Ls.cons (G.q (r_move rfl) rfl rfl ?_)
    rcases bif_some h with ⟨hb, h⟩ | ⟨_, h⟩
    rotate_left
    · cases h
    refine Ls.cons (G.q (r_cat rfl rfl (of_decide_eq_true hb)) rfl rfl ?_)
    refine Ls.cons (G.q (r_assign rfl) rfl rfl ?_)
    refine Ls.nil ?_
    refine Qs.then_n ?_
    refine Ws.ret ?_
    obtain rfl := Option.some.inj h
    exact W_end (.inl rfl) Tryd.results28 (.tmp rfl .nil) rfl fun w hS => hR w hS.fin

def ref03_Kinds.f (K : Nat)  : Option (List ByteArray) :=
  some [(⟨#[102]⟩ : ByteArray), (⟨#[102, 100]⟩ : ByteArray), (⟨#[102, 114]⟩ : ByteArray), (⟨#[102, 100, 114]⟩ : ByteArray)]

theorem ref03_Kinds.ok {K : Nat}  {r : (List ByteArray)} (h : ref03_Kinds.f K  = some r) {τ : Meta} {L : List Itm} {w : World} {R : Ending → World → Prop} (hS : St τ ([] ++ L) w)
    (hR : ∀ (w0 : Value) w', St τ ([Own kS w0 r 9] ++ L) w' → R (.returned (w0)) w') : Calls Tryd.prog 29 #[] w R := by
  refine enter (vs := []) Tryd.func29 rfl Tryd.ntmps29 rfl hS.cat ?_
  unfold ref03_Kinds.f at h
  refine Ws.seq ?_
  refine Ws.region ?_
  refine Ls.cons (G.q (r_assign rfl) rfl rfl ?_)
  refine Ls.nil ?_
  refine Qs.then_n ?_
  refine Ws.seq ?_
  refine Ws.region ?_
  refine Ls.cons (o_lit kS [(⟨#[102]⟩ : ByteArray), (⟨#[102, 100]⟩ : ByteArray), (⟨#[102, 114]⟩ : ByteArray), (⟨#[102, 100, 114]⟩ : ByteArray)] [.string (⟨#[102]⟩ : ByteArray), .string (⟨#[102, 100]⟩ : ByteArray), .string (⟨#[102, 114]⟩ : ByteArray), .string (⟨#[102, 100, 114]⟩ : ByteArray)] rfl rfl rfl rfl (by kernel_rfl) (.cons (c := [.string (⟨#[102]⟩ : ByteArray)]) inferInstance (.cons (c := [.string (⟨#[102, 100]⟩ : ByteArray)]) inferInstance (.cons (c := [.string (⟨#[102, 114]⟩ : ByteArray)]) inferInstance (.cons (c := [.string (⟨#[102, 100, 114]⟩ : ByteArray)]) inferInstance .nil rfl) rfl) rfl) rfl) rfl fun v1 => ?_)
  refine Ls.cons (G.q (r_assign rfl) rfl rfl ?_)
  refine Ls.nil ?_
  refine Qs.then_n ?_
  refine Ws.ret ?_
  obtain rfl := Option.some.inj h
  exact W_end (.inl rfl) Tryd.results29 (.tmp rfl .nil) rfl fun w hS => hR v1 w hS.fin

def ref02_Text.l1 (K : Nat) (a2 : Int) (x2 : (List Int)) : Nat → (ByteArray × Int) → Option ByteArray
  | 0, _ => none
  | j9 + 1, s8 =>
    (bif decide ((s8.2 : Int) < a2) then ((idx x2 s8.2).bind fun y12 => ((idx [(⟨#[48]⟩ : ByteArray), (⟨#[49]⟩ : ByteArray), (⟨#[45]⟩ : ByteArray)] y12).bind fun y15 => (bif decide (s8.1.size + y15.size ≤ 1099511627776) then ref02_Text.l1 K a2 x2 j9 (s8.1 ++ y15, IntKind.wrap .i64 (s8.2 + 1)) else none))) else some s8.1)

def ref02_Text.f (K : Nat) (a0 : Int) (a1 : Int) (a2 : Int) : Option ByteArray :=
  ((ref02_Literals.f K a0 a1).bind fun x2 => ((ref02_Text.l1 K a2 x2 K ((⟨#[]⟩ : ByteArray), 0)).bind fun x5 => some x5))

theorem ref02_Text.ok {K : Nat} {a0 : Int} {a1 : Int} {a2 : Int} {r : ByteArray} (h : ref02_Text.f K a0 a1 a2 = some r) {τ : Meta} {L : List Itm} {w : World} {R : Ending → World → Prop} (hS : St τ ([] ++ L) w)
    (hR : ∀ w', St τ ([] ++ L) w' → R (.returned (.string r)) w') : Calls Tryd.prog 49 #[.agg #[.int .u8 a0, .int .u8 a1], .int .i64 a2] w R := by
  refine enter (vs := [_, _]) Tryd.func49 rfl Tryd.ntmps49 rfl hS.cat ?_
  unfold ref02_Text.f at h
  refine Ws.seq ?_
  refine Ws.region ?_
  refine Ls.cons (o_box (cs := [.int .u8 a0, .int .u8 a1]) rfl rfl fun b1 => ?_)
  refine Ls.cons (G.q (r_assign rfl) rfl rfl ?_)
  refine Ls.nil ?_
  refine Qs.then_n ?_
  refine Ws.seq ?_
  refine Ws.region ?_
  refine Ls.cons (G.q (r_assign rfl) rfl rfl ?_)
  refine Ls.nil ?_
  refine Qs.then_n ?_
  refine Ws.seq ?_
  refine Ws.region ?_
  refine Ls.cons (G.q (r_loadN rfl rfl) rfl rfl ?_)
  obtain ⟨x2, hx3, h⟩ := bind_some h
  refine Ls.cons (o_call Tryd.call41 rfl fun a_ w_ hK_ hS_ => ref02_Literals.ok hx3 hS_.sels fun u4 w1_ hS1_ => atRet (G.goA ?_ (hK_.put rfl _) hS1_))
  clear hS1_ w1_ hS_ hK_ w_ a_
  refine Ls.cons (G.q (r_assign rfl) rfl rfl ?_)
  refine Ls.nil ?_
  refine Qs.then_n ?_
  refine Ws.seq ?_
  refine Ws.seq ?_
  refine Ws.region ?_
  refine Ls.cons (G.q (r_assign rfl) rfl rfl ?_)
  refine Ls.nil ?_
  refine Qs.then_n ?_
  obtain ⟨x5, hx6, h7⟩ := bind_some h
  refine Ws.cutX (ε := Unit) (True) (fun e => [(5, .string x5)]) (fun e => L) ?_ ?_
  ·
    refine Ws.block ?_
    refine Ws.loop (ε := Unit) (ref02_Text.l1 K a2 x2) (fun s e => [(1, .int .i64 a2), (5, .string s.1), (6, u4), (7, .int .i64 s.2)]) (fun s e => Own (kI .i64) u4 x2 3 :: L) () hx6 (.cons rfl (.cons rfl (.cons rfl (.cons rfl (.nil))))) (fun _ H => H.to) ?_
    rintro j9 s8 ⟨⟩ h10
    cases j9 with
    | zero => cases (show none = some _ from h10)
    | succ j9 =>
      rw [ref02_Text.l1] at h10
      refine Ws.seq ?_
      refine Ws.seq ?_
      refine Ws.region ?_
      refine Ls.cons (G.q (r_move rfl) rfl rfl ?_)
      refine Ls.cons (G.q (r_move rfl) rfl rfl ?_)
      refine Ls.cons (G.q (r_bin rfl rfl rfl) rfl rfl ?_)
      refine Ls.nil ?_
      refine Qs.then_n ?_
      rcases bif_some h10 with ⟨hb, h10⟩ | ⟨hb, h10⟩
      · refine Ws.cond_t rfl hb ?_
        refine Ws.skip ?_
        refine Qs.then_n ?_
        refine Ws.seq ?_
        refine Ws.block ?_
        refine Ws.region ?_
        refine Ls.cons (G.q (r_move rfl) rfl rfl ?_)
        refine Ls.cons (o_lit kS [(⟨#[48]⟩ : ByteArray), (⟨#[49]⟩ : ByteArray), (⟨#[45]⟩ : ByteArray)] [.string (⟨#[48]⟩ : ByteArray), .string (⟨#[49]⟩ : ByteArray), .string (⟨#[45]⟩ : ByteArray)] rfl rfl rfl rfl (by kernel_rfl) (.cons (c := [.string (⟨#[48]⟩ : ByteArray)]) inferInstance (.cons (c := [.string (⟨#[49]⟩ : ByteArray)]) inferInstance (.cons (c := [.string (⟨#[45]⟩ : ByteArray)]) inferInstance .nil rfl) rfl) rfl) rfl fun v11 => ?_)
        refine Ls.cons (G.q (r_move rfl) rfl rfl ?_)
        refine Ls.cons (G.q (r_move rfl) rfl rfl ?_)
        obtain ⟨y12, hy13, h10⟩ := bind_some h10
        have hy13 := idx_some hy13
        refine G.at (kI .i64) u4 hy13.2 ?_
        intro b14
        refine Ls.cons (G.q (r_idxO (kI .i64) rfl rfl hy13.1 hy13.2) rfl rfl ?_)
        refine Ls.cons (G.q (r_loadO (kI .i64) u4 s8.2.toNat 0 rfl hy13.2 rfl rfl rfl) rfl rfl ?_)
        obtain ⟨y15, hy16, h10⟩ := bind_some h10
        have hy16 := idx_some hy16
        refine G.at kS v11 hy16.2 ?_
        intro b17
        refine Ls.cons (G.q (r_idxO kS rfl rfl hy16.1 hy16.2) rfl rfl ?_)
        refine Ls.cons (G.q (r_loadO kS v11 y12.toNat 0 rfl hy16.2 rfl rfl rfl) rfl rfl ?_)
        rcases bif_some h10 with ⟨hb, h10⟩ | ⟨_, h10⟩
        rotate_left
        · cases h10
        refine Ls.cons (G.q (r_cat rfl rfl (of_decide_eq_true hb)) rfl rfl ?_)
        refine Ls.cons (G.q (r_assign rfl) rfl rfl ?_)
        refine Ls.nil ?_
        refine Qs.block_n ?_
        refine Qs.then_n ?_
        refine Ws.region ?_
        refine Ls.cons (G.q (r_move rfl) rfl rfl ?_)
        refine Ls.cons (G.q (r_bin rfl rfl rfl) rfl rfl ?_)
        refine Ls.cons (G.q (r_assign rfl) rfl rfl ?_)
        refine Ls.nil ?_
        refine Qs.then_n ?_
        exact Qs.again () h10 (Nat.lt_succ_self _) (.cons rfl (.cons rfl (.cons rfl (.cons rfl (.nil))))) (fun _ H => H.to)
      · refine Ws.cond_f rfl hb ?_
        refine Ws.exit ?_
        refine Qs.then_e ?_
        refine Qs.then_e ?_
        refine Qs.block_e ?_
        refine Qs.then_n ?_
        obtain rfl := Option.some.inj h10
        exact Qs.midX () trivial (.cons rfl (.nil)) (fun _ H => H.to)
  ·
    rintro ⟨⟩ hφ
    refine Ws.seq ?_
    refine Ws.region ?_
    refine Ls.cons (G.q (r_move rfl) rfl rfl ?_)
    refine Ls.cons (G.q (r_assign rfl) rfl rfl ?_)
    refine Ls.nil ?_
    refine Qs.then_n ?_
    refine Ws.ret ?_
    obtain rfl := Option.some.inj h7
    exact W_end (.inl rfl) Tryd.results49 (.tmp rfl .nil) rfl fun w hS => hR w hS.fin

def ref03_Line.l1 (K : Nat) (a2 : List Int) : Nat → (ByteArray × Int) → Option ByteArray
  | 0, _ => none
  | j8 + 1, s7 =>
    (bif decide ((s7.2 : Int) < (a2.length : Int)) then ((idx a2 s7.2).bind fun y11 => ((idx [(⟨#[48]⟩ : ByteArray), (⟨#[49]⟩ : ByteArray), (⟨#[45]⟩ : ByteArray)] y11).bind fun y16 => (bif decide (s7.1.size + y16.size ≤ 1099511627776) then ref03_Line.l1 K a2 j8 (s7.1 ++ y16, IntKind.wrap .i64 (s7.2 + 1)) else none))) else some s7.1)

def ref03_Line.f (K : Nat) (a0 : Int) (a1 : Int) (a2 : List Int) (a3 : Int) : Option ByteArray :=
  ((ref02_Text.f K a0 a1 a3).bind fun x2 => (bif decide (x2.size + (⟨#[32]⟩ : ByteArray).size ≤ 1099511627776) then ((ref03_Line.l1 K a2 K (x2 ++ (⟨#[32]⟩ : ByteArray), 0)).bind fun x4 => some x4) else none))

theorem ref03_Line.ok {K : Nat} {a0 : Int} {a1 : Int} {a2 : List Int} {a3 : Int} {V0 : Value} {r : ByteArray} (h : ref03_Line.f K a0 a1 a2 a3 = some r) {τ : Meta} {L : List Itm} {w : World} {R : Ending → World → Prop} (hS : St τ ([Frz (kI .i64) V0 a2] ++ L) w)
    (hR : ∀ w', St τ ([] ++ L) w' → R (.returned (.string r)) w') : Calls Tryd.prog 30 #[.agg #[.int .u8 a0, .int .u8 a1, V0], .int .i64 a3] w R := by
  refine enter (vs := [_, _]) Tryd.func30 rfl Tryd.ntmps30 rfl hS.cat ?_
  unfold ref03_Line.f at h
  refine Ws.seq ?_
  refine Ws.region ?_
  refine Ls.cons (o_box (cs := [.int .u8 a0, .int .u8 a1, V0]) rfl rfl fun b1 => ?_)
  refine Ls.cons (G.q (r_assign rfl) rfl rfl ?_)
  refine Ls.nil ?_
  refine Qs.then_n ?_
  refine Ws.seq ?_
  refine Ws.region ?_
  refine Ls.cons (G.q (r_field rfl) rfl rfl ?_)
  refine Ls.cons (G.q (r_loadN rfl rfl) rfl rfl ?_)
  refine Ls.cons (G.q (r_move rfl) rfl rfl ?_)
  obtain ⟨x2, hx3, h⟩ := bind_some h
  refine Ls.cons (o_call Tryd.call49 rfl fun a_ w_ hK_ hS_ => ref02_Text.ok hx3 hS_.sels fun w1_ hS1_ => atRet (G.goA ?_ (hK_.put rfl _) hS1_))
  clear hS1_ w1_ hS_ hK_ w_ a_
  rcases bif_some h with ⟨hb, h⟩ | ⟨_, h⟩
  rotate_left
  · cases h
  refine Ls.cons (G.q (r_cat rfl rfl (of_decide_eq_true hb)) rfl rfl ?_)
  refine Ls.cons (G.q (r_assign rfl) rfl rfl ?_)
  refine Ls.nil ?_
  refine Qs.then_n ?_
  refine Ws.seq ?_
  refine Ws.seq ?_
  refine Ws.region ?_
  refine Ls.cons (G.q (r_assign rfl) rfl rfl ?_)
  refine Ls.nil ?_
  refine Qs.then_n ?_
  obtain ⟨x4, hx5, h6⟩ := bind_some h
  refine Ws.cutX (ε := Unit) (True) (fun e => [(5, .string x4)]) (fun e => Frz (kI .i64) V0 a2 :: L) ?_ ?_
  ·
    refine Ws.block ?_
    refine Ws.loop (ε := Unit) (ref03_Line.l1 K a2) (fun s e => [(2, .pointer (some ⟨b1, 0, none⟩)), (5, .string s.1), (6, .int .i64 s.2)]) (fun s e => Cells b1 [.int .u8 a0, .int .u8 a1, V0] 45 :: Frz (kI .i64) V0 a2 :: L) () hx5 (.cons rfl (.cons rfl (.cons rfl (.nil)))) (fun _ H => H.to) ?_
    rintro j8 s7 ⟨⟩ h9
    cases j8 with
    | zero => cases (show none = some _ from h9)
    | succ j8 =>
      rw [ref03_Line.l1] at h9
      refine Ws.seq ?_
      refine Ws.seq ?_
      refine Ws.region ?_
      refine Ls.cons (G.q (r_move rfl) rfl rfl ?_)
      refine Ls.cons (G.q (r_field rfl) rfl rfl ?_)
      refine Ls.cons (G.q (r_load rfl rfl) rfl rfl ?_)
      refine Ls.cons (G.q (r_len rfl) rfl rfl ?_)
      refine Ls.cons (G.q (r_bin rfl rfl rfl) rfl rfl ?_)
      refine Ls.nil ?_
      refine Qs.then_n ?_
      rcases bif_some h9 with ⟨hb, h9⟩ | ⟨hb, h9⟩
      · refine Ws.cond_t rfl hb ?_
        refine Ws.skip ?_
        refine Qs.then_n ?_
        refine Ws.seq ?_
        refine Ws.block ?_
        refine Ws.region ?_
        refine Ls.cons (G.q (r_move rfl) rfl rfl ?_)
        refine Ls.cons (o_lit kS [(⟨#[48]⟩ : ByteArray), (⟨#[49]⟩ : ByteArray), (⟨#[45]⟩ : ByteArray)] [.string (⟨#[48]⟩ : ByteArray), .string (⟨#[49]⟩ : ByteArray), .string (⟨#[45]⟩ : ByteArray)] rfl rfl rfl rfl (by kernel_rfl) (.cons (c := [.string (⟨#[48]⟩ : ByteArray)]) inferInstance (.cons (c := [.string (⟨#[49]⟩ : ByteArray)]) inferInstance (.cons (c := [.string (⟨#[45]⟩ : ByteArray)]) inferInstance .nil rfl) rfl) rfl) rfl fun v10 => ?_)
        refine Ls.cons (G.q (r_field rfl) rfl rfl ?_)
        refine Ls.cons (G.q (r_load rfl rfl) rfl rfl ?_)
        refine Ls.cons (G.q (r_move rfl) rfl rfl ?_)
        obtain ⟨y11, hy12, h9⟩ := bind_some h9
        have hy12 := idx_some hy12
        refine G.el (i := s7.2.toNat) (kI .i64) 1 V0 rfl hy12.2 ?_
        intro b13 o14 c15
        refine G.xp_i64 ?_
        refine Ls.cons (G.q (r_idxN s7.2.toNat rfl rfl hy12.1 rfl) rfl rfl ?_)
        refine Ls.cons (G.q (r_load rfl rfl) rfl rfl ?_)
        obtain ⟨y16, hy17, h9⟩ := bind_some h9
        have hy17 := idx_some hy17
        refine G.at kS v10 hy17.2 ?_
        intro b18
        refine Ls.cons (G.q (r_idxO kS rfl rfl hy17.1 hy17.2) rfl rfl ?_)
        refine Ls.cons (G.q (r_loadO kS v10 y11.toNat 0 rfl hy17.2 rfl rfl rfl) rfl rfl ?_)
        rcases bif_some h9 with ⟨hb, h9⟩ | ⟨_, h9⟩
        rotate_left
        · cases h9
        refine Ls.cons (G.q (r_cat rfl rfl (of_decide_eq_true hb)) rfl rfl ?_)
        refine Ls.cons (G.q (r_assign rfl) rfl rfl ?_)
        refine Ls.nil ?_
        refine Qs.block_n ?_
        refine Qs.then_n ?_
        refine Ws.region ?_
        refine Ls.cons (G.q (r_move rfl) rfl rfl ?_)
        refine Ls.cons (G.q (r_bin rfl rfl rfl) rfl rfl ?_)
        refine Ls.cons (G.q (r_assign rfl) rfl rfl ?_)
        refine Ls.nil ?_
        refine Qs.then_n ?_
        exact Qs.again () h9 (Nat.lt_succ_self _) (.cons rfl (.cons rfl (.cons rfl (.nil)))) (fun _ H => H.to)
      · refine Ws.cond_f rfl hb ?_
        refine Ws.exit ?_
        refine Qs.then_e ?_
        refine Qs.then_e ?_
        refine Qs.block_e ?_
        refine Qs.then_n ?_
        obtain rfl := Option.some.inj h9
        exact Qs.midX () trivial (.cons rfl (.nil)) (fun _ H => H.to)
  ·
    rintro ⟨⟩ hφ
    refine Ws.seq ?_
    refine Ws.region ?_
    refine Ls.cons (G.q (r_move rfl) rfl rfl ?_)
    refine Ls.cons (G.q (r_assign rfl) rfl rfl ?_)
    refine Ls.nil ?_
    refine Qs.then_n ?_
    refine Ws.ret ?_
    obtain rfl := Option.some.inj h6
    exact W_end (.inl rfl) Tryd.results30 (.tmp rfl .nil) rfl fun w hS => hR w hS.fin

def ref03_Print.l1 (K : Nat) (a3 : List (Int × Int × (List Int))) (a1 : Int) : Nat → (ByteArray × Int) → Option ByteArray
  | 0, _ => none
  | j18 + 1, s17 =>
    (bif decide ((s17.2 : Int) < (a3.length : Int)) then ((idx a3 s17.2).bind fun y20 => ((ref03_Line.f K y20.1 y20.2.1 y20.2.2 a1).bind fun x26 => (bif decide (s17.1.size + x26.size ≤ 1099511627776) then (bif decide ((s17.1 ++ x26).size + (⟨#[10]⟩ : ByteArray).size ≤ 1099511627776) then ref03_Print.l1 K a3 a1 j18 ((s17.1 ++ x26) ++ (⟨#[10]⟩ : ByteArray), IntKind.wrap .i64 (s17.2 + 1)) else none) else none))) else some s17.1)

def ref03_Print.f (K : Nat) (a0 : Int) (a1 : Int) (a2 : Int) (a3 : List (Int × Int × (List Int))) : Option ByteArray :=
  ((ref03_Digits.f K a1).bind fun x2 => (bif decide ((⟨#[46, 105, 32]⟩ : ByteArray).size + x2.size ≤ 1099511627776) then (bif decide (((⟨#[46, 105, 32]⟩ : ByteArray) ++ x2).size + (⟨#[10, 46, 111, 32]⟩ : ByteArray).size ≤ 1099511627776) then ((ref03_Digits.f K a2).bind fun x4 => (bif decide ((((⟨#[46, 105, 32]⟩ : ByteArray) ++ x2) ++ (⟨#[10, 46, 111, 32]⟩ : ByteArray)).size + x4.size ≤ 1099511627776) then (bif decide (((((⟨#[46, 105, 32]⟩ : ByteArray) ++ x2) ++ (⟨#[10, 46, 111, 32]⟩ : ByteArray)) ++ x4).size + (⟨#[10, 46, 116, 121, 112, 101, 32]⟩ : ByteArray).size ≤ 1099511627776) then ((ref03_Kinds.f K ).bind fun x6 => ((idx x6 a0).bind fun y9 => (bif decide ((((((⟨#[46, 105, 32]⟩ : ByteArray) ++ x2) ++ (⟨#[10, 46, 111, 32]⟩ : ByteArray)) ++ x4) ++ (⟨#[10, 46, 116, 121, 112, 101, 32]⟩ : ByteArray)).size + y9.size ≤ 1099511627776) then (bif decide (((((((⟨#[46, 105, 32]⟩ : ByteArray) ++ x2) ++ (⟨#[10, 46, 111, 32]⟩ : ByteArray)) ++ x4) ++ (⟨#[10, 46, 116, 121, 112, 101, 32]⟩ : ByteArray)) ++ y9).size + (⟨#[10, 46, 112, 32]⟩ : ByteArray).size ≤ 1099511627776) then ((ref03_Digits.f K (a3.length : Int)).bind fun x12 => (bif decide ((((((((⟨#[46, 105, 32]⟩ : ByteArray) ++ x2) ++ (⟨#[10, 46, 111, 32]⟩ : ByteArray)) ++ x4) ++ (⟨#[10, 46, 116, 121, 112, 101, 32]⟩ : ByteArray)) ++ y9) ++ (⟨#[10, 46, 112, 32]⟩ : ByteArray)).size + x12.size ≤ 1099511627776) then (bif decide (((((((((⟨#[46, 105, 32]⟩ : ByteArray) ++ x2) ++ (⟨#[10, 46, 111, 32]⟩ : ByteArray)) ++ x4) ++ (⟨#[10, 46, 116, 121, 112, 101, 32]⟩ : ByteArray)) ++ y9) ++ (⟨#[10, 46, 112, 32]⟩ : ByteArray)) ++ x12).size + (⟨#[10]⟩ : ByteArray).size ≤ 1099511627776) then ((ref03_Print.l1 K a3 a1 K (((((((((⟨#[46, 105, 32]⟩ : ByteArray) ++ x2) ++ (⟨#[10, 46, 111, 32]⟩ : ByteArray)) ++ x4) ++ (⟨#[10, 46, 116, 121, 112, 101, 32]⟩ : ByteArray)) ++ y9) ++ (⟨#[10, 46, 112, 32]⟩ : ByteArray)) ++ x12) ++ (⟨#[10]⟩ : ByteArray), 0)).bind fun x14 => (bif decide (x14.size + (⟨#[46, 101, 10]⟩ : ByteArray).size ≤ 1099511627776) then some (x14 ++ (⟨#[46, 101, 10]⟩ : ByteArray)) else none)) else none) else none)) else none) else none))) else none) else none)) else none) else none))

theorem ref03_Print.ok {K : Nat} {a0 : Int} {a1 : Int} {a2 : Int} {a3 : List (Int × Int × (List Int))} {V0 : Value} {r : ByteArray} (h : ref03_Print.f K a0 a1 a2 a3 = some r) {τ : Meta} {L : List Itm} {w : World} {R : Ending → World → Prop} (hS : St τ ([Frz (kP (kI .u8) (kP (kI .u8) (kL (kI .i64)))) V0 a3] ++ L) w)
    (hR : ∀ w', St τ ([] ++ L) w' → R (.returned (.string r)) w') : Calls Tryd.prog 14 #[.agg #[.int .i64 a0, .int .i64 a1, .int .i64 a2, V0]] w R := by
  refine enter (vs := [_]) Tryd.func14 rfl Tryd.ntmps14 rfl hS.cat ?_
  unfold ref03_Print.f at h
  refine Ws.seq ?_
  refine Ws.region ?_
  refine Ls.cons (o_box (cs := [.int .i64 a0, .int .i64 a1, .int .i64 a2, V0]) rfl rfl fun b1 => ?_)
  refine Ls.cons (G.q (r_assign rfl) rfl rfl ?_)
  refine Ls.nil ?_
  refine Qs.then_n ?_
  refine Ws.seq ?_
  refine D.start [Frz (kP (kI .u8) (kP (kI .u8) (kL (kI .i64)))) V0 a3, Cells b1 [.int .i64 a0, .int .i64 a1, .int .i64 a2, V0] 24] rfl ?_
  refine D.take 0 rfl (by kernel_rfl) (r_field rfl) rfl ?_
  refine D.take 1 rfl (by kernel_rfl) (r_load rfl rfl) rfl ?_
  refine D.take 5 rfl (by kernel_rfl) (r_field rfl) rfl ?_
  refine D.take 6 rfl (by kernel_rfl) (r_load rfl rfl) rfl ?_
  refine D.take 11 rfl (by kernel_rfl) (r_field rfl) rfl ?_
  refine D.take 12 rfl (by kernel_rfl) (r_load rfl rfl) rfl ?_
  refine D.take 17 rfl (by kernel_rfl) (r_field rfl) rfl ?_
  refine D.take 18 rfl (by kernel_rfl) (r_load rfl rfl) rfl ?_
  refine D.take 19 rfl (by kernel_rfl) (r_len rfl) rfl ?_
  obtain ⟨x2, hx3, h⟩ := bind_some h
  refine D.run 2 rfl (by kernel_rfl) (o_call Tryd.call28 rfl fun a_ w_ hK_ hS_ => ref03_Digits.ok hx3 hS_.sels fun w1_ hS1_ => atRet (G.goA ?_ (hK_.put rfl _) hS1_))
  clear hS1_ w1_ hS_ hK_ w_ a_
  refine D.next ?_
  rcases bif_some h with ⟨hb, h⟩ | ⟨_, h⟩
  rotate_left
  · cases h
  refine D.take 3 rfl (by kernel_rfl) (r_cat rfl rfl (of_decide_eq_true hb)) rfl ?_
  rcases bif_some h with ⟨hb, h⟩ | ⟨_, h⟩
  rotate_left
  · cases h
  refine D.take 4 rfl (by kernel_rfl) (r_cat rfl rfl (of_decide_eq_true hb)) rfl ?_
  obtain ⟨x4, hx5, h⟩ := bind_some h
  refine D.run 7 rfl (by kernel_rfl) (o_call Tryd.call28 rfl fun a_ w_ hK_ hS_ => ref03_Digits.ok hx5 hS_.sels fun w1_ hS1_ => atRet (G.goA ?_ (hK_.put rfl _) hS1_))
  clear hS1_ w1_ hS_ hK_ w_ a_
  refine D.next ?_
  rcases bif_some h with ⟨hb, h⟩ | ⟨_, h⟩
  rotate_left
  · cases h
  refine D.take 8 rfl (by kernel_rfl) (r_cat rfl rfl (of_decide_eq_true hb)) rfl ?_
  rcases bif_some h with ⟨hb, h⟩ | ⟨_, h⟩
  rotate_left
  · cases h
  refine D.take 9 rfl (by kernel_rfl) (r_cat rfl rfl (of_decide_eq_true hb)) rfl ?_
  obtain ⟨x6, hx7, h⟩ := bind_some h
  refine D.run 10 rfl (by kernel_rfl) (o_call Tryd.call29 rfl fun a_ w_ hK_ hS_ => ref03_Kinds.ok hx7 hS_.sels fun u8 w1_ hS1_ => atRet (G.goA ?_ (hK_.put rfl _) hS1_))
  clear hS1_ w1_ hS_ hK_ w_ a_
  refine D.next ?_
  obtain ⟨y9, hy10, h⟩ := bind_some h
  have hy10 := idx_some hy10
  refine G.at kS u8 hy10.2 ?_
  intro b11
  refine D.more [Frz (kP (kI .u8) (kP (kI .u8) (kL (kI .i64)))) V0 a3, Cells b1 [.int .i64 a0, .int .i64 a1, .int .i64 a2, V0] 24, Own kS u8 x6 9, AtB u8 b11] ?_
  refine D.take 13 rfl (by kernel_rfl) (r_idxO kS rfl rfl hy10.1 hy10.2) rfl ?_
  refine D.take 14 rfl (by kernel_rfl) (r_loadO kS u8 a0.toNat 0 rfl hy10.2 rfl rfl rfl) rfl ?_
  rcases bif_some h with ⟨hb, h⟩ | ⟨_, h⟩
  rotate_left
  · cases h
  refine D.take 15 rfl (by kernel_rfl) (r_cat rfl rfl (of_decide_eq_true hb)) rfl ?_
  rcases bif_some h with ⟨hb, h⟩ | ⟨_, h⟩
  rotate_left
  · cases h
  refine D.take 16 rfl (by kernel_rfl) (r_cat rfl rfl (of_decide_eq_true hb)) rfl ?_
  obtain ⟨x12, hx13, h⟩ := bind_some h
  refine D.run 20 rfl (by kernel_rfl) (o_call Tryd.call28 rfl fun a_ w_ hK_ hS_ => ref03_Digits.ok hx13 hS_.sels fun w1_ hS1_ => atRet (G.goA ?_ (hK_.put rfl _) hS1_))
  clear hS1_ w1_ hS_ hK_ w_ a_
  refine D.next ?_
  rcases bif_some h with ⟨hb, h⟩ | ⟨_, h⟩
  rotate_left
  · cases h
  refine D.take 21 rfl (by kernel_rfl) (r_cat rfl rfl (of_decide_eq_true hb)) rfl ?_
  rcases bif_some h with ⟨hb, h⟩ | ⟨_, h⟩
  rotate_left
  · cases h
  refine D.take 22 rfl (by kernel_rfl) (r_cat rfl rfl (of_decide_eq_true hb)) rfl ?_
  refine D.tail (by kernel_rfl) ?_
  refine A.run 23 rfl (by kernel_rfl) (G.q (r_assign rfl) rfl rfl ?_)
  refine A.done (by kernel_rfl) ?_
  refine Qs.then_n ?_
  refine Ws.seq ?_
  refine Ws.seq ?_
  refine Ws.region ?_
  refine Ls.cons (G.q (r_assign rfl) rfl rfl ?_)
  refine Ls.nil ?_
  refine Qs.then_n ?_
  obtain ⟨x14, hx15, h16⟩ := bind_some h
  refine Ws.cutX (ε := Unit) (True) (fun e => [(3, .string x14)]) (fun e => Frz (kP (kI .u8) (kP (kI .u8) (kL (kI .i64)))) V0 a3 :: L) ?_ ?_
  ·
    refine Ws.block ?_
    refine Ws.loop (ε := Unit) (ref03_Print.l1 K a3 a1) (fun s e => [(1, .pointer (some ⟨b1, 0, none⟩)), (3, .string s.1), (4, .int .i64 s.2)]) (fun s e => Cells b1 [.int .i64 a0, .int .i64 a1, .int .i64 a2, V0] 24 :: Frz (kP (kI .u8) (kP (kI .u8) (kL (kI .i64)))) V0 a3 :: L) () hx15 (.cons rfl (.cons rfl (.cons rfl (.nil)))) (fun _ H => H.to) ?_
    rintro j18 s17 ⟨⟩ h19
    cases j18 with
    | zero => cases (show none = some _ from h19)
    | succ j18 =>
      rw [ref03_Print.l1] at h19
      refine Ws.seq ?_
      refine Ws.seq ?_
      refine Ws.region ?_
      refine Ls.cons (G.q (r_move rfl) rfl rfl ?_)
      refine Ls.cons (G.q (r_field rfl) rfl rfl ?_)
      refine Ls.cons (G.q (r_load rfl rfl) rfl rfl ?_)
      refine Ls.cons (G.q (r_len rfl) rfl rfl ?_)
      refine Ls.cons (G.q (r_bin rfl rfl rfl) rfl rfl ?_)
      refine Ls.nil ?_
      refine Qs.then_n ?_
      rcases bif_some h19 with ⟨hb, h19⟩ | ⟨hb, h19⟩
      · refine Ws.cond_t rfl hb ?_
        refine Ws.skip ?_
        refine Qs.then_n ?_
        refine Ws.seq ?_
        refine Ws.block ?_
        refine D.start [Cells b1 [.int .i64 a0, .int .i64 a1, .int .i64 a2, V0] 24, Frz (kP (kI .u8) (kP (kI .u8) (kL (kI .i64)))) V0 a3] rfl ?_
        refine D.take 0 rfl (by kernel_rfl) (r_move rfl) rfl ?_
        refine D.take 1 rfl (by kernel_rfl) (r_field rfl) rfl ?_
        refine D.take 2 rfl (by kernel_rfl) (r_load rfl rfl) rfl ?_
        refine D.take 3 rfl (by kernel_rfl) (r_move rfl) rfl ?_
        obtain ⟨y20, hy21, h19⟩ := bind_some h19
        have hy21 := idx_some hy21
        refine G.el (i := s17.2.toNat) (kP (kI .u8) (kP (kI .u8) (kL (kI .i64)))) 3 V0 rfl hy21.2 ?_
        intro b22 o23 c24
        refine G.xp_u8u8l ?_
        intro u25
        refine D.more [Cells b1 [.int .i64 a0, .int .i64 a1, .int .i64 a2, V0] 24, Frz (kP (kI .u8) (kP (kI .u8) (kL (kI .i64)))) V0 a3, Frz (kI .i64) u25 y20.2.2, CellsP b22 o23 [.int .u8 y20.1, .int .u8 y20.2.1, u25], ElP V0 s17.2.toNat 3 b22 o23] ?_
        refine D.take 4 rfl (by kernel_rfl) (r_idxN s17.2.toNat rfl rfl hy21.1 rfl) rfl ?_
        refine D.take 5 rfl (by kernel_rfl) (r_loadN rfl rfl) rfl ?_
        refine D.take 6 rfl (by kernel_rfl) (r_field rfl) rfl ?_
        refine D.take 7 rfl (by kernel_rfl) (r_load rfl rfl) rfl ?_
        obtain ⟨x26, hx27, h19⟩ := bind_some h19
        refine D.run 8 rfl (by kernel_rfl) (o_call Tryd.call30 rfl fun a_ w_ hK_ hS_ => ref03_Line.ok (V0 := u25) hx27 hS_.sels fun w1_ hS1_ => atRet (G.goA ?_ (hK_.put rfl _) hS1_))
        clear hS1_ w1_ hS_ hK_ w_ a_
        refine D.next ?_
        rcases bif_some h19 with ⟨hb, h19⟩ | ⟨_, h19⟩
        rotate_left
        · cases h19
        refine D.take 9 rfl (by kernel_rfl) (r_cat rfl rfl (of_decide_eq_true hb)) rfl ?_
        rcases bif_some h19 with ⟨hb, h19⟩ | ⟨_, h19⟩
        rotate_left
        · cases h19
        refine D.take 10 rfl (by kernel_rfl) (r_cat rfl rfl (of_decide_eq_true hb)) rfl ?_
        refine D.tail (by kernel_rfl) ?_
        refine A.run 11 rfl (by kernel_rfl) (G.q (r_assign rfl) rfl rfl ?_)
        refine A.done (by kernel_rfl) ?_
        refine Qs.block_n ?_
        refine Qs.then_n ?_
        refine Ws.region ?_
        refine Ls.cons (G.q (r_move rfl) rfl rfl ?_)
        refine Ls.cons (G.q (r_bin rfl rfl rfl) rfl rfl ?_)
        refine Ls.cons (G.q (r_assign rfl) rfl rfl ?_)
        refine Ls.nil ?_
        refine Qs.then_n ?_
        exact Qs.again () h19 (Nat.lt_succ_self _) (.cons rfl (.cons rfl (.cons rfl (.nil)))) (fun _ H => H.to)
      · refine Ws.cond_f rfl hb ?_
        refine Ws.exit ?_
        refine Qs.then_e ?_
        refine Qs.then_e ?_
        refine Qs.block_e ?_
        refine Qs.then_n ?_
        obtain rfl := Option.some.inj h19
        exact Qs.midX () trivial (.cons rfl (.nil)) (fun _ H => H.to)
  ·
    rintro ⟨⟩ hφ
    refine Ws.seq ?_
    refine Ws.region ?_
    refine Ls.cons (G.q (r_move rfl) rfl rfl ?_)
    rcases bif_some h16 with ⟨hb, h16⟩ | ⟨_, h16⟩
    rotate_left
    · cases h16
    refine Ls.cons (G.q (r_cat rfl rfl (of_decide_eq_true hb)) rfl rfl ?_)
    refine Ls.cons (G.q (r_assign rfl) rfl rfl ?_)
    refine Ls.nil ?_
    refine Qs.then_n ?_
    refine Ws.ret ?_
    obtain rfl := Option.some.inj h16
    exact W_end (.inl rfl) Tryd.results14 (.tmp rfl .nil) rfl fun w hS => hR w hS.fin

def law03_PlaPrints.f (K : Nat) (a0 : Int) (a1 : Int) (a2 : Int) (a3 : List (Int × Int × (List Int))) (a4 : Int) (a5 : Int) (a6 : Int) (a7 : List (Int × Int × (List Int))) : Option Bool :=
  ((law03_Great.f K a0 a1 a2 a3).bind fun x3 => (((bif x3 then some true else ((law03_Great.f K a4 a5 a6 a7).bind fun x8 => some x8))).bind fun x5 => (bif x5 then ((law03_knows.f K ).bind fun x10 => some x10) else ((pla_Print.f K a0 a1 a2 a3).bind fun x12 => ((ref03_Right.f K a0 a1 a2 a3).bind fun x14 => ((((pla_Right.f K a0 a1 a2 a3).bind fun x19 => (bif !(x19 == x14) then some true else ((pla_Same_1.f K a0 a1 a2 a3 a4 a5 a6 a7).bind fun x21 => ((ref03_Same.f K a0 a1 a2 a3 a4 a5 a6 a7).bind fun x23 => some (!(x21 == x23))))))).bind fun x16 => (bif x16 then some false else (bif !x14 then (((bif (x12.1.toList == (⟨#[]⟩ : ByteArray).toList) then (((bif (x12.2 : Int) == 1 then ((law03_knows.f K ).bind fun x31 => some x31) else some false)).bind fun x28 => some x28) else some false)).bind fun x25 => some x25) else ((ref03_Print.f K a0 a1 a2 a3).bind fun x33 => (((bif (x12.1.toList == x33.toList) then (((bif (x12.2 : Int) == 0 then ((law03_knows.f K ).bind fun x41 => some x41) else some false)).bind fun x38 => some x38) else some false)).bind fun x35 => some x35))))))))))

theorem law03_PlaPrints.ok {K : Nat} {a0 : Int} {a1 : Int} {a2 : Int} {a3 : List (Int × Int × (List Int))} {a4 : Int} {a5 : Int} {a6 : Int} {a7 : List (Int × Int × (List Int))} {V0 : Value} {V1 : Value} {r : Bool} (h : law03_PlaPrints.f K a0 a1 a2 a3 a4 a5 a6 a7 = some r) {τ : Meta} {L : List Itm} {w : World} {R : Ending → World → Prop} (hS : St τ ([Frz (kP (kI .u8) (kP (kI .u8) (kL (kI .i64)))) V0 a3, Frz (kP (kI .u8) (kP (kI .u8) (kL (kI .i64)))) V1 a7, Glo] ++ L) w)
    (hR : ∀ w', St τ ([] ++ L) w' → R (.returned (.bool r)) w') : Calls Tryd.prog 3 #[.agg #[.int .i64 a0, .int .i64 a1, .int .i64 a2, V0], .agg #[.int .i64 a4, .int .i64 a5, .int .i64 a6, V1]] w R := by
  refine enter (vs := [_, _]) Tryd.func3 rfl Tryd.ntmps3 rfl hS.cat ?_
  unfold law03_PlaPrints.f at h
  refine Ws.seq ?_
  refine Ws.region ?_
  refine Ls.cons (o_box (cs := [.int .i64 a0, .int .i64 a1, .int .i64 a2, V0]) rfl rfl fun b1 => ?_)
  refine Ls.cons (o_box (cs := [.int .i64 a4, .int .i64 a5, .int .i64 a6, V1]) rfl rfl fun b2 => ?_)
  refine Ls.cons (G.q (r_assign rfl) rfl rfl ?_)
  refine Ls.nil ?_
  refine Qs.then_n ?_
  refine Ws.seq ?_
  refine Ws.seq ?_
  refine Ws.region ?_
  refine Ls.cons (G.q (r_loadN rfl rfl) rfl rfl ?_)
  obtain ⟨x3, hx4, h⟩ := bind_some h
  refine Ls.cons (o_call Tryd.call7 rfl fun a_ w_ hK_ hS_ => law03_Great.ok (V0 := V0) hx4 hS_.sels fun w1_ hS1_ => atRet (G.goA ?_ (hK_.put rfl _) hS1_))
  clear hS1_ w1_ hS_ hK_ w_ a_
  refine Ls.cons (G.q (r_move rfl) rfl rfl ?_)
  obtain ⟨x5, hx6, h7⟩ := bind_some h
  refine Ls.cutX (ε := Unit) True (fun e => [(2, .pointer (some ⟨b1, 0, none⟩)), (3, .pointer (some ⟨b2, 0, none⟩)), (13, .bool x5)]) (fun e => Glo :: Cells b1 [.int .i64 a0, .int .i64 a1, .int .i64 a2, V0] 24 :: Cells b2 [.int .i64 a4, .int .i64 a5, .int .i64 a6, V1] 24 :: Frz (kP (kI .u8) (kP (kI .u8) (kL (kI .i64)))) V0 a3 :: Frz (kP (kI .u8) (kP (kI .u8) (kL (kI .i64)))) V1 a7 :: L) ?_ ?_
  ·
    rcases bif_some hx6 with ⟨hb, hx6⟩ | ⟨hb, hx6⟩
    · refine G.fixB 10 hb rfl ?_
      refine Ls.guard_f rfl rfl rfl rfl ?_
      refine Ls.guard_f rfl rfl rfl rfl ?_
      refine Ls.cons (G.q (r_pick rfl rfl rfl) rfl rfl ?_)
      refine Ls.nil ?_
      refine Qs.only ?_
      obtain rfl := Option.some.inj hx6
      exact Qs.midX () trivial (.cons rfl (.cons rfl (.cons rfl (.nil)))) (fun _ H => H.to)
    · refine G.fixB 10 hb rfl ?_
      refine Ls.guard_t rfl rfl rfl (G.q (r_loadN rfl rfl) rfl rfl ?_)
      obtain ⟨x8, hx9, hx6⟩ := bind_some hx6
      refine Ls.guard_t rfl rfl rfl (o_call Tryd.call7 rfl fun a_ w_ hK_ hS_ => law03_Great.ok (V0 := V1) hx9 hS_.sels fun w1_ hS1_ => atRet (G.goA ?_ (hK_.put rfl _) hS1_))
      clear hS1_ w1_ hS_ hK_ w_ a_
      refine Ls.cons (G.q (r_pick rfl rfl rfl) rfl rfl ?_)
      refine Ls.nil ?_
      refine Qs.only ?_
      obtain rfl := Option.some.inj hx6
      exact Qs.midX () trivial (.cons rfl (.cons rfl (.cons rfl (.nil)))) (fun _ H => H.to)
  ·
    rintro ⟨⟩ _
    refine Qs.then_n ?_
    rcases bif_some h7 with ⟨hb, h7⟩ | ⟨hb, h7⟩
    · refine Ws.cond_t rfl hb ?_
      refine Ws.seq ?_
      refine Ws.region ?_
      obtain ⟨x10, hx11, h7⟩ := bind_some h7
      refine Ls.cons (o_call Tryd.call8 rfl fun a_ w_ hK_ hS_ => law03_knows.ok hx11 hS_.sels fun w1_ hS1_ => atRet (G.goA ?_ (hK_.put rfl _) hS1_))
      clear hS1_ w1_ hS_ hK_ w_ a_
      refine Ls.cons (G.q (r_assign rfl) rfl rfl ?_)
      refine Ls.nil ?_
      refine Qs.then_n ?_
      refine Ws.ret ?_
      refine Qs.then_r ?_
      obtain rfl := Option.some.inj h7
      exact W_end (.inl rfl) Tryd.results3 (.tmp rfl .nil) rfl fun w hS => hR w hS.fin
    · refine Ws.cond_f rfl hb ?_
      refine Ws.skip ?_
      refine Qs.then_n ?_
      refine Ws.seq ?_
      refine Ws.region ?_
      refine Ls.cons (G.q (r_loadN rfl rfl) rfl rfl ?_)
      obtain ⟨x12, hx13, h7⟩ := bind_some h7
      refine Ls.cons (o_call Tryd.call9 rfl fun a_ w_ hK_ hS_ => pla_Print.ok (V0 := V0) hx13 hS_.sels fun w1_ hS1_ => atRet (G.goA ?_ (hK_.put rfl _) hS1_))
      clear hS1_ w1_ hS_ hK_ w_ a_
      refine Ls.cons (G.q (r_move rfl) rfl rfl ?_)
      refine Ls.cons (G.q (r_extract rfl rfl) rfl rfl ?_)
      refine Ls.cons (G.q (r_extract rfl rfl) rfl rfl ?_)
      refine Ls.cons (G.q (r_assign rfl) rfl rfl ?_)
      refine Ls.cons (G.q (r_assign rfl) rfl rfl ?_)
      refine Ls.nil ?_
      refine Qs.then_n ?_
      refine Ws.seq ?_
      refine Ws.region ?_
      refine Ls.cons (G.q (r_loadN rfl rfl) rfl rfl ?_)
      obtain ⟨x14, hx15, h7⟩ := bind_some h7
      refine Ls.cons (o_call Tryd.call10 rfl fun a_ w_ hK_ hS_ => ref03_Right.ok (V0 := V0) hx15 hS_.sels fun w1_ hS1_ => atRet (G.goA ?_ (hK_.put rfl _) hS1_))
      clear hS1_ w1_ hS_ hK_ w_ a_
      refine Ls.cons (G.q (r_assign rfl) rfl rfl ?_)
      refine Ls.nil ?_
      refine Qs.then_n ?_
      refine Ws.seq ?_
      refine Ws.seq ?_
      obtain ⟨x16, hx17, h18⟩ := bind_some h7
      refine Ws.cutX (ε := Unit) (True) (fun e => [(2, .pointer (some ⟨b1, 0, none⟩)), (5, .string x12.1), (6, .int .i64 x12.2), (7, .bool x14), (34, .bool x16)]) (fun e => Glo :: Cells b1 [.int .i64 a0, .int .i64 a1, .int .i64 a2, V0] 24 :: Frz (kP (kI .u8) (kP (kI .u8) (kL (kI .i64)))) V0 a3 :: Frz (kP (kI .u8) (kP (kI .u8) (kL (kI .i64)))) V1 a7 :: L) ?_ ?_
      ·
        refine D.start [Glo, Cells b1 [.int .i64 a0, .int .i64 a1, .int .i64 a2, V0] 24, Cells b2 [.int .i64 a4, .int .i64 a5, .int .i64 a6, V1] 24, Frz (kP (kI .u8) (kP (kI .u8) (kL (kI .i64)))) V0 a3, Frz (kP (kI .u8) (kP (kI .u8) (kL (kI .i64)))) V1 a7] rfl ?_
        refine D.take 0 rfl (by kernel_rfl) (r_loadN rfl rfl) rfl ?_
        refine D.take 2 rfl (by kernel_rfl) (r_move rfl) rfl ?_
        obtain ⟨x19, hx20, hx17⟩ := bind_some hx17
        refine D.run 1 rfl (by kernel_rfl) (o_call Tryd.call11 rfl fun a_ w_ hK_ hS_ => pla_Right.ok (V0 := V0) hx20 hS_.sels fun w1_ hS1_ => atRet (G.goA ?_ (hK_.put rfl _) hS1_))
        clear hS1_ w1_ hS_ hK_ w_ a_
        refine D.next ?_
        refine D.take 3 rfl (by kernel_rfl) (r_eqBn rfl rfl) rfl ?_
        refine D.take 4 rfl (by kernel_rfl) (r_move rfl) rfl ?_
        rcases bif_some hx17 with ⟨hb, hx17⟩ | ⟨hb, hx17⟩
        · refine G.fixB 26 hb rfl ?_
          refine D.take_f 5 rfl (by kernel_rfl) rfl rfl rfl rfl ?_
          refine D.take_f 6 rfl (by kernel_rfl) rfl rfl rfl rfl ?_
          refine D.take_f 7 rfl (by kernel_rfl) rfl rfl rfl rfl ?_
          refine D.take_f 8 rfl (by kernel_rfl) rfl rfl rfl rfl ?_
          refine D.take_f 9 rfl (by kernel_rfl) rfl rfl rfl rfl ?_
          refine D.take_f 10 rfl (by kernel_rfl) rfl rfl rfl rfl ?_
          refine D.take_f 11 rfl (by kernel_rfl) rfl rfl rfl rfl ?_
          refine D.take 12 rfl (by kernel_rfl) (r_pick rfl rfl rfl) rfl ?_
          refine D.done (by kernel_rfl) (by kernel_rfl) ?_
          refine Qs.then_n ?_
          obtain rfl := Option.some.inj hx17
          exact Qs.midX () trivial (.cons rfl (.cons rfl (.cons rfl (.cons rfl (.cons rfl (.nil)))))) (fun _ H => H.to)
        · refine G.fixB 26 hb rfl ?_
          refine D.take_t 5 rfl (by kernel_rfl) rfl rfl rfl (r_loadN rfl rfl) rfl ?_
          refine D.take_t 6 rfl (by kernel_rfl) rfl rfl rfl (r_loadN rfl rfl) rfl ?_
          refine D.take_t 8 rfl (by kernel_rfl) rfl rfl rfl (r_loadN rfl rfl) rfl ?_
          refine D.take_t 9 rfl (by kernel_rfl) rfl rfl rfl (r_loadN rfl rfl) rfl ?_
          obtain ⟨x21, hx22, hx17⟩ := bind_some hx17
          refine D.run_t 7 rfl (by kernel_rfl) rfl rfl rfl (o_call Tryd.call12 rfl fun a_ w_ hK_ hS_ => pla_Same_1.ok (V0 := V0) (V1 := V1) hx22 hS_.sels fun w1_ hS1_ => atRet (G.goA ?_ (hK_.put rfl _) hS1_))
          clear hS1_ w1_ hS_ hK_ w_ a_
          refine D.next ?_
          obtain ⟨x23, hx24, hx17⟩ := bind_some hx17
          refine D.run_t 10 rfl (by kernel_rfl) rfl rfl rfl (o_call Tryd.call13 rfl fun a_ w_ hK_ hS_ => ref03_Same.ok (V0 := V0) (V1 := V1) hx24 hS_.sels fun w1_ hS1_ => atRet (G.goA ?_ (hK_.put rfl _) hS1_))
          clear hS1_ w1_ hS_ hK_ w_ a_
          refine D.next ?_
          refine D.take_t 11 rfl (by kernel_rfl) rfl rfl rfl (r_eqBn rfl rfl) rfl ?_
          refine D.take 12 rfl (by kernel_rfl) (r_pick rfl rfl rfl) rfl ?_
          refine D.done (by kernel_rfl) (by kernel_rfl) ?_
          refine Qs.then_n ?_
          obtain rfl := Option.some.inj hx17
          exact Qs.midX () trivial (.cons rfl (.cons rfl (.cons rfl (.cons rfl (.cons rfl (.nil)))))) (fun _ H => H.to)
      ·
        rintro ⟨⟩ hφ
        rcases bif_some h18 with ⟨hb, h18⟩ | ⟨hb, h18⟩
        · refine Ws.cond_t rfl hb ?_
          refine Ws.seq ?_
          refine Ws.region ?_
          refine Ls.cons (G.q (r_assign rfl) rfl rfl ?_)
          refine Ls.nil ?_
          refine Qs.then_n ?_
          refine Ws.ret ?_
          refine Qs.then_r ?_
          obtain rfl := Option.some.inj h18
          exact W_end (.inl rfl) Tryd.results3 (.tmp rfl .nil) rfl fun w hS => hR w hS.fin
        · refine Ws.cond_f rfl hb ?_
          refine Ws.skip ?_
          refine Qs.then_n ?_
          refine Ws.seq ?_
          refine Ws.seq ?_
          refine Ws.region ?_
          refine Ls.cons (G.q (r_move rfl) rfl rfl ?_)
          refine Ls.cons (G.q (r_not rfl) rfl rfl ?_)
          refine Ls.nil ?_
          refine Qs.then_n ?_
          rcases bif_some h18 with ⟨hb, h18⟩ | ⟨hb, h18⟩
          · refine Ws.cond_t rfl hb ?_
            refine Ws.seq ?_
            refine Ws.region ?_
            refine Ls.cons (G.q (r_move rfl) rfl rfl ?_)
            refine Ls.cons (G.q (r_eqS rfl rfl) rfl rfl ?_)
            refine Ls.cons (G.q (r_move rfl) rfl rfl ?_)
            obtain ⟨x25, hx26, h27⟩ := bind_some h18
            refine Ls.cutX (ε := Unit) True (fun e => [(4, .bool x25)]) (fun e => Glo :: Frz (kP (kI .u8) (kP (kI .u8) (kL (kI .i64)))) V0 a3 :: Frz (kP (kI .u8) (kP (kI .u8) (kL (kI .i64)))) V1 a7 :: L) ?_ ?_
            ·
              rcases bif_some hx26 with ⟨hb, hx26⟩ | ⟨hb, hx26⟩
              · refine G.fixB 39 hb rfl ?_
                refine Ls.guard_t rfl rfl rfl (G.q (r_move rfl) rfl rfl ?_)
                refine Ls.guard_t rfl rfl rfl (G.q (r_bin rfl rfl rfl) rfl rfl ?_)
                refine Ls.cons (G.q (r_pick rfl rfl rfl) rfl rfl ?_)
                refine Ls.cons (G.q (r_move rfl) rfl rfl ?_)
                obtain ⟨x28, hx29, h30⟩ := bind_some hx26
                refine Ls.cutX (ε := Unit) True (fun e => [(4, .bool x28)]) (fun e => Glo :: Frz (kP (kI .u8) (kP (kI .u8) (kL (kI .i64)))) V0 a3 :: Frz (kP (kI .u8) (kP (kI .u8) (kL (kI .i64)))) V1 a7 :: L) ?_ ?_
                ·
                  rcases bif_some hx29 with ⟨hb, hx29⟩ | ⟨hb, hx29⟩
                  · refine G.fixB 43 hb rfl ?_
                    obtain ⟨x31, hx32, hx29⟩ := bind_some hx29
                    refine Ls.guard_t rfl rfl rfl (o_call Tryd.call8 rfl fun a_ w_ hK_ hS_ => law03_knows.ok hx32 hS_.sels fun w1_ hS1_ => atRet (G.goA ?_ (hK_.put rfl _) hS1_))
                    clear hS1_ w1_ hS_ hK_ w_ a_
                    refine Ls.cons (G.q (r_pick rfl rfl rfl) rfl rfl ?_)
                    refine Ls.cons (G.q (r_assign rfl) rfl rfl ?_)
                    refine Ls.nil ?_
                    refine Qs.only ?_
                    obtain rfl := Option.some.inj hx29
                    exact Qs.midX () trivial (.cons rfl (.nil)) (fun _ H => H.to)
                  · refine G.fixB 43 hb rfl ?_
                    refine Ls.guard_f rfl rfl rfl rfl ?_
                    refine Ls.cons (G.q (r_pick rfl rfl rfl) rfl rfl ?_)
                    refine Ls.cons (G.q (r_assign rfl) rfl rfl ?_)
                    refine Ls.nil ?_
                    refine Qs.only ?_
                    obtain rfl := Option.some.inj hx29
                    exact Qs.midX () trivial (.cons rfl (.nil)) (fun _ H => H.to)
                ·
                  rintro ⟨⟩ _
                  refine Qs.only ?_
                  obtain rfl := Option.some.inj h30
                  exact Qs.midX () trivial (.cons rfl (.nil)) (fun _ H => H.to)
              · refine G.fixB 39 hb rfl ?_
                refine Ls.guard_f rfl rfl rfl rfl ?_
                refine Ls.guard_f rfl rfl rfl rfl ?_
                refine Ls.cons (G.q (r_pick rfl rfl rfl) rfl rfl ?_)
                refine Ls.cons (G.q (r_move rfl) rfl rfl ?_)
                refine Ls.guard_f rfl rfl rfl rfl ?_
                refine Ls.cons (G.q (r_pick rfl rfl rfl) rfl rfl ?_)
                refine Ls.cons (G.q (r_assign rfl) rfl rfl ?_)
                refine Ls.nil ?_
                refine Qs.only ?_
                obtain rfl := Option.some.inj hx26
                exact Qs.midX () trivial (.cons rfl (.nil)) (fun _ H => H.to)
            ·
              rintro ⟨⟩ _
              refine Qs.then_n ?_
              refine Ws.ret ?_
              refine Qs.then_r ?_
              obtain rfl := Option.some.inj h27
              exact W_end (.inl rfl) Tryd.results3 (.tmp rfl .nil) rfl fun w hS => hR w hS.fin
          · refine Ws.cond_f rfl hb ?_
            refine Ws.skip ?_
            refine Qs.then_n ?_
            refine Ws.seq ?_
            refine Ws.region ?_
            refine Ls.cons (G.q (r_move rfl) rfl rfl ?_)
            refine Ls.cons (G.q (r_loadN rfl rfl) rfl rfl ?_)
            obtain ⟨x33, hx34, h18⟩ := bind_some h18
            refine Ls.cons (o_call Tryd.call14 rfl fun a_ w_ hK_ hS_ => ref03_Print.ok (V0 := V0) hx34 hS_.sels fun w1_ hS1_ => atRet (G.goA ?_ (hK_.put rfl _) hS1_))
            clear hS1_ w1_ hS_ hK_ w_ a_
            refine Ls.cons (G.q (r_eqS rfl rfl) rfl rfl ?_)
            refine Ls.cons (G.q (r_move rfl) rfl rfl ?_)
            obtain ⟨x35, hx36, h37⟩ := bind_some h18
            refine Ls.cutX (ε := Unit) True (fun e => [(4, .bool x35)]) (fun e => Glo :: Frz (kP (kI .u8) (kP (kI .u8) (kL (kI .i64)))) V0 a3 :: Frz (kP (kI .u8) (kP (kI .u8) (kL (kI .i64)))) V1 a7 :: L) ?_ ?_
            ·
              rcases bif_some hx36 with ⟨hb, hx36⟩ | ⟨hb, hx36⟩
              · refine G.fixB 50 hb rfl ?_
                refine Ls.guard_t rfl rfl rfl (G.q (r_move rfl) rfl rfl ?_)
                refine Ls.guard_t rfl rfl rfl (G.q (r_bin rfl rfl rfl) rfl rfl ?_)
                refine Ls.cons (G.q (r_pick rfl rfl rfl) rfl rfl ?_)
                refine Ls.cons (G.q (r_move rfl) rfl rfl ?_)
                obtain ⟨x38, hx39, h40⟩ := bind_some hx36
                refine Ls.cutX (ε := Unit) True (fun e => [(4, .bool x38)]) (fun e => Glo :: Frz (kP (kI .u8) (kP (kI .u8) (kL (kI .i64)))) V0 a3 :: Frz (kP (kI .u8) (kP (kI .u8) (kL (kI .i64)))) V1 a7 :: L) ?_ ?_
                ·
                  rcases bif_some hx39 with ⟨hb, hx39⟩ | ⟨hb, hx39⟩
                  · refine G.fixB 54 hb rfl ?_
                    obtain ⟨x41, hx42, hx39⟩ := bind_some hx39
                    refine Ls.guard_t rfl rfl rfl (o_call Tryd.call8 rfl fun a_ w_ hK_ hS_ => law03_knows.ok hx42 hS_.sels fun w1_ hS1_ => atRet (G.goA ?_ (hK_.put rfl _) hS1_))
                    clear hS1_ w1_ hS_ hK_ w_ a_
                    refine Ls.cons (G.q (r_pick rfl rfl rfl) rfl rfl ?_)
                    refine Ls.cons (G.q (r_assign rfl) rfl rfl ?_)
                    refine Ls.nil ?_
                    refine Qs.only ?_
                    obtain rfl := Option.some.inj hx39
                    exact Qs.midX () trivial (.cons rfl (.nil)) (fun _ H => H.to)
                  · refine G.fixB 54 hb rfl ?_
                    refine Ls.guard_f rfl rfl rfl rfl ?_
                    refine Ls.cons (G.q (r_pick rfl rfl rfl) rfl rfl ?_)
                    refine Ls.cons (G.q (r_assign rfl) rfl rfl ?_)
                    refine Ls.nil ?_
                    refine Qs.only ?_
                    obtain rfl := Option.some.inj hx39
                    exact Qs.midX () trivial (.cons rfl (.nil)) (fun _ H => H.to)
                ·
                  rintro ⟨⟩ _
                  refine Qs.only ?_
                  obtain rfl := Option.some.inj h40
                  exact Qs.midX () trivial (.cons rfl (.nil)) (fun _ H => H.to)
              · refine G.fixB 50 hb rfl ?_
                refine Ls.guard_f rfl rfl rfl rfl ?_
                refine Ls.guard_f rfl rfl rfl rfl ?_
                refine Ls.cons (G.q (r_pick rfl rfl rfl) rfl rfl ?_)
                refine Ls.cons (G.q (r_move rfl) rfl rfl ?_)
                refine Ls.guard_f rfl rfl rfl rfl ?_
                refine Ls.cons (G.q (r_pick rfl rfl rfl) rfl rfl ?_)
                refine Ls.cons (G.q (r_assign rfl) rfl rfl ?_)
                refine Ls.nil ?_
                refine Qs.only ?_
                obtain rfl := Option.some.inj hx36
                exact Qs.midX () trivial (.cons rfl (.nil)) (fun _ H => H.to)
            ·
              rintro ⟨⟩ _
              refine Qs.then_n ?_
              refine Ws.ret ?_
              obtain rfl := Option.some.inj h37
              exact W_end (.inl rfl) Tryd.results3 (.tmp rfl .nil) rfl fun w hS => hR w hS.fin

def law03_PlaBack.f (K : Nat) (a0 : Int) (a1 : Int) (a2 : Int) (a3 : List (Int × Int × (List Int))) (a4 : ByteArray) : Option Bool :=
  ((law03_Great.f K a0 a1 a2 a3).bind fun x2 => (((bif x2 then some true else some (decide (((a4.size : Int) : Int) > 9000)))).bind fun x4 => (bif x4 then ((law03_knows.f K ).bind fun x7 => some x7) else ((pla_Print.f K a0 a1 a2 a3).bind fun x9 => (((bif (x9.2 : Int) == 0 then ((pla_Parse.f K x9.1).bind fun x14 => (((bif (x14.2.2.2.2.2 : Int) != 0 then some true else ((ref03_Same.f K a0 a1 a2 a3 x14.1 x14.2.1 x14.2.2.1 x14.2.2.2.1).bind fun x21 => some (!x21)))).bind fun x18 => (bif x18 then some (.inl false) else some (.inr ())))) else some (.inr ())) : Option ((Bool) ⊕ (Unit))).bind fun y => match y with | .inl r => some r | .inr x11 => ((pla_Parse.f K a4).bind fun x23 => (bif (x23.2.2.2.2.2 : Int) != 0 then ((ref03_Same.f K x23.1 x23.2.1 x23.2.2.1 x23.2.2.2.1 0 0 0 []).bind fun x27 => (((bif x27 then ((law03_knows.f K ).bind fun x32 => some x32) else some false)).bind fun x29 => some x29)) else ((pla_Print.f K x23.1 x23.2.1 x23.2.2.1 x23.2.2.2.1).bind fun x34 => ((pla_Parse.f K x34.1).bind fun x36 => (((bif (x34.2 : Int) == 0 then (((bif (x36.2.2.2.2.2 : Int) == 0 then ((ref03_Same.f K x23.1 x23.2.1 x23.2.2.1 x23.2.2.2.1 x36.1 x36.2.1 x36.2.2.1 x36.2.2.2.1).bind fun x46 => (((bif x46 then ((law03_knows.f K ).bind fun x51 => some x51) else some false)).bind fun x48 => some x48)) else some false)).bind fun x43 => some x43) else some false)).bind fun x40 => some x40))))))))))

theorem law03_PlaBack.ok {K : Nat} {a0 : Int} {a1 : Int} {a2 : Int} {a3 : List (Int × Int × (List Int))} {a4 : ByteArray} {V0 : Value} {r : Bool} (h : law03_PlaBack.f K a0 a1 a2 a3 a4 = some r) {τ : Meta} {L : List Itm} {w : World} {R : Ending → World → Prop} (hS : St τ ([Frz (kP (kI .u8) (kP (kI .u8) (kL (kI .i64)))) V0 a3, Glo] ++ L) w)
    (hR : ∀ w', St τ ([] ++ L) w' → R (.returned (.bool r)) w') : Calls Tryd.prog 4 #[.agg #[.int .i64 a0, .int .i64 a1, .int .i64 a2, V0], .string a4] w R := by
  refine enter (vs := [_, _]) Tryd.func4 rfl Tryd.ntmps4 rfl hS.cat ?_
  unfold law03_PlaBack.f at h
  refine Ws.seq ?_
  refine Ws.region ?_
  refine Ls.cons (o_box (cs := [.int .i64 a0, .int .i64 a1, .int .i64 a2, V0]) rfl rfl fun b1 => ?_)
  refine Ls.cons (G.q (r_assign rfl) rfl rfl ?_)
  refine Ls.nil ?_
  refine Qs.then_n ?_
  refine Ws.seq ?_
  refine Ws.seq ?_
  refine Ws.region ?_
  refine Ls.cons (G.q (r_loadN rfl rfl) rfl rfl ?_)
  obtain ⟨x2, hx3, h⟩ := bind_some h
  refine Ls.cons (o_call Tryd.call7 rfl fun a_ w_ hK_ hS_ => law03_Great.ok (V0 := V0) hx3 hS_.sels fun w1_ hS1_ => atRet (G.goA ?_ (hK_.put rfl _) hS1_))
  clear hS1_ w1_ hS_ hK_ w_ a_
  refine Ls.cons (G.q (r_move rfl) rfl rfl ?_)
  obtain ⟨x4, hx5, h6⟩ := bind_some h
  refine Ls.cutX (ε := Unit) True (fun e => [(1, .string a4), (2, .pointer (some ⟨b1, 0, none⟩)), (24, .bool x4)]) (fun e => Glo :: Cells b1 [.int .i64 a0, .int .i64 a1, .int .i64 a2, V0] 24 :: Frz (kP (kI .u8) (kP (kI .u8) (kL (kI .i64)))) V0 a3 :: L) ?_ ?_
  ·
    rcases bif_some hx5 with ⟨hb, hx5⟩ | ⟨hb, hx5⟩
    · refine G.fixB 20 hb rfl ?_
      refine Ls.guard_f rfl rfl rfl rfl ?_
      refine Ls.guard_f rfl rfl rfl rfl ?_
      refine Ls.guard_f rfl rfl rfl rfl ?_
      refine Ls.cons (G.q (r_pick rfl rfl rfl) rfl rfl ?_)
      refine Ls.nil ?_
      refine Qs.only ?_
      obtain rfl := Option.some.inj hx5
      exact Qs.midX () trivial (.cons rfl (.cons rfl (.cons rfl (.nil)))) (fun _ H => H.to)
    · refine G.fixB 20 hb rfl ?_
      refine Ls.guard_t rfl rfl rfl (G.q (r_move rfl) rfl rfl ?_)
      refine Ls.guard_t rfl rfl rfl (G.q (r_lenS rfl) rfl rfl ?_)
      refine Ls.guard_t rfl rfl rfl (G.q (r_bin rfl rfl rfl) rfl rfl ?_)
      refine Ls.cons (G.q (r_pick rfl rfl rfl) rfl rfl ?_)
      refine Ls.nil ?_
      refine Qs.only ?_
      obtain rfl := Option.some.inj hx5
      exact Qs.midX () trivial (.cons rfl (.cons rfl (.cons rfl (.nil)))) (fun _ H => H.to)
  ·
    rintro ⟨⟩ _
    refine Qs.then_n ?_
    rcases bif_some h6 with ⟨hb, h6⟩ | ⟨hb, h6⟩
    · refine Ws.cond_t rfl hb ?_
      refine Ws.seq ?_
      refine Ws.region ?_
      obtain ⟨x7, hx8, h6⟩ := bind_some h6
      refine Ls.cons (o_call Tryd.call8 rfl fun a_ w_ hK_ hS_ => law03_knows.ok hx8 hS_.sels fun w1_ hS1_ => atRet (G.goA ?_ (hK_.put rfl _) hS1_))
      clear hS1_ w1_ hS_ hK_ w_ a_
      refine Ls.cons (G.q (r_assign rfl) rfl rfl ?_)
      refine Ls.nil ?_
      refine Qs.then_n ?_
      refine Ws.ret ?_
      refine Qs.then_r ?_
      obtain rfl := Option.some.inj h6
      exact W_end (.inl rfl) Tryd.results4 (.tmp rfl .nil) rfl fun w hS => hR w hS.fin
    · refine Ws.cond_f rfl hb ?_
      refine Ws.skip ?_
      refine Qs.then_n ?_
      refine Ws.seq ?_
      refine Ws.region ?_
      refine Ls.cons (G.q (r_loadN rfl rfl) rfl rfl ?_)
      obtain ⟨x9, hx10, h6⟩ := bind_some h6
      refine Ls.cons (o_call Tryd.call9 rfl fun a_ w_ hK_ hS_ => pla_Print.ok (V0 := V0) hx10 hS_.sels fun w1_ hS1_ => atRet (G.goA ?_ (hK_.put rfl _) hS1_))
      clear hS1_ w1_ hS_ hK_ w_ a_
      refine Ls.cons (G.q (r_move rfl) rfl rfl ?_)
      refine Ls.cons (G.q (r_extract rfl rfl) rfl rfl ?_)
      refine Ls.cons (G.q (r_extract rfl rfl) rfl rfl ?_)
      refine Ls.cons (G.q (r_assign rfl) rfl rfl ?_)
      refine Ls.cons (G.q (r_assign rfl) rfl rfl ?_)
      refine Ls.nil ?_
      refine Qs.then_n ?_
      refine Ws.seq ?_
      refine Ws.seq ?_
      refine Ws.region ?_
      refine Ls.cons (G.q (r_move rfl) rfl rfl ?_)
      refine Ls.cons (G.q (r_bin rfl rfl rfl) rfl rfl ?_)
      refine Ls.nil ?_
      refine Qs.then_n ?_
      obtain ⟨x11, hx12, h13⟩ := bind_some h6
      refine Ws.cutX (ε := Unit) (isR x11 = true) (fun e => [(1, .string a4)]) (fun e => Glo :: Frz (kP (kI .u8) (kP (kI .u8) (kL (kI .i64)))) V0 a3 :: L) ?_ ?_
      ·
        rcases bif_some hx12 with ⟨hb, hx12⟩ | ⟨hb, hx12⟩
        · refine Ws.cond_t rfl hb ?_
          refine Ws.seq ?_
          refine Ws.region ?_
          refine Ls.cons (G.q (r_move rfl) rfl rfl ?_)
          obtain ⟨x14, hx15, hx12⟩ := bind_some hx12
          refine Ls.cons (o_call Tryd.call15 rfl fun a_ w_ hK_ hS_ => pla_Parse.ok hx15 hS_.sels fun u16 w1_ hS1_ => atRet (G.goA ?_ (hK_.put rfl _) hS1_))
          clear hS1_ w1_ hS_ hK_ w_ a_
          refine Ls.cons (G.q (r_move rfl) rfl rfl ?_)
          refine Ls.cons (G.q (r_extract rfl rfl) rfl rfl ?_)
          refine Ls.cons (G.q (r_extract rfl rfl) rfl rfl ?_)
          refine Ls.cons (G.q (r_extract rfl rfl) rfl rfl ?_)
          refine Ls.cons (o_alloc (cs := [.int .i64 0, .int .i64 0, .int .i64 0, .slice none 0 0]) rfl rfl fun b17 => ?_)
          refine Ls.cons (o_store (vs := [.int .i64 x14.1, .int .i64 x14.2.1, .int .i64 x14.2.2.1, u16]) rfl rfl rfl rfl ?_)
          refine Ls.cons (G.q (r_assign rfl) rfl rfl ?_)
          refine Ls.cons (G.q (r_assign rfl) rfl rfl ?_)
          refine Ls.nil ?_
          refine Qs.then_n ?_
          refine Ws.seq ?_
          refine Ws.region ?_
          refine Ls.cons (G.q (r_move rfl) rfl rfl ?_)
          refine Ls.cons (G.q (r_bin rfl rfl rfl) rfl rfl ?_)
          refine Ls.cons (G.q (r_move rfl) rfl rfl ?_)
          obtain ⟨x18, hx19, h20⟩ := bind_some hx12
          refine Ls.cutX (ε := Unit) True (fun e => [(1, .string a4), (46, .bool x18)]) (fun e => Glo :: Frz (kP (kI .u8) (kP (kI .u8) (kL (kI .i64)))) V0 a3 :: L) ?_ ?_
          ·
            rcases bif_some hx19 with ⟨hb, hx19⟩ | ⟨hb, hx19⟩
            · refine G.fixB 41 hb rfl ?_
              refine Ls.guard_f rfl rfl rfl rfl ?_
              refine Ls.guard_f rfl rfl rfl rfl ?_
              refine Ls.guard_f rfl rfl rfl rfl ?_
              refine Ls.guard_f rfl rfl rfl rfl ?_
              refine Ls.cons (G.q (r_pick rfl rfl rfl) rfl rfl ?_)
              refine Ls.nil ?_
              refine Qs.only ?_
              obtain rfl := Option.some.inj hx19
              exact Qs.midX () trivial (.cons rfl (.cons rfl (.nil))) (fun _ H => H.to)
            · refine G.fixB 41 hb rfl ?_
              refine Ls.guard_t rfl rfl rfl (G.q (r_loadN rfl rfl) rfl rfl ?_)
              refine Ls.guard_t rfl rfl rfl (G.q (r_loadN rfl rfl) rfl rfl ?_)
              refine G.frz (kP (kI .u8) (kP (kI .u8) (kL (kI .i64)))) u16 45 ?_
              obtain ⟨x21, hx22, hx19⟩ := bind_some hx19
              refine Ls.guard_t rfl rfl rfl (o_call Tryd.call13 rfl fun a_ w_ hK_ hS_ => ref03_Same.ok (V0 := V0) (V1 := u16) hx22 hS_.sels fun w1_ hS1_ => atRet (G.goA ?_ (hK_.put rfl _) hS1_))
              clear hS1_ w1_ hS_ hK_ w_ a_
              refine Ls.guard_t rfl rfl rfl (G.q (r_not rfl) rfl rfl ?_)
              refine Ls.cons (G.q (r_pick rfl rfl rfl) rfl rfl ?_)
              refine Ls.nil ?_
              refine Qs.only ?_
              obtain rfl := Option.some.inj hx19
              exact Qs.midX () trivial (.cons rfl (.cons rfl (.nil))) (fun _ H => H.to)
          ·
            rintro ⟨⟩ _
            refine Qs.then_n ?_
            rcases bif_some h20 with ⟨hb, h20⟩ | ⟨hb, h20⟩
            · refine Ws.cond_t rfl hb ?_
              refine Ws.seq ?_
              refine Ws.region ?_
              refine Ls.cons (G.q (r_assign rfl) rfl rfl ?_)
              refine Ls.nil ?_
              refine Qs.then_n ?_
              refine Ws.ret ?_
              refine Qs.then_r ?_
              obtain rfl := Option.some.inj h20
              obtain rfl := Option.some.inj h13
              exact W_end (.inl rfl) Tryd.results4 (.tmp rfl .nil) rfl fun w hS => hR w hS.fin
            · refine Ws.cond_f rfl hb ?_
              refine Ws.skip ?_
              refine Qs.then_n ?_
              obtain rfl := Option.some.inj h20
              exact Qs.midX () rfl (.cons rfl (.nil)) (fun _ H => H.to)
        · refine Ws.cond_f rfl hb ?_
          refine Ws.skip ?_
          refine Qs.then_n ?_
          obtain rfl := Option.some.inj hx12
          exact Qs.midX () rfl (.cons rfl (.nil)) (fun _ H => H.to)
      ·
        rintro ⟨⟩ hφ
        cases x11 with
        | inl _ => cases hφ
        | inr x11 =>
          refine Ws.seq ?_
          refine Ws.region ?_
          refine Ls.cons (G.q (r_move rfl) rfl rfl ?_)
          obtain ⟨x23, hx24, h13⟩ := bind_some h13
          refine Ls.cons (o_call Tryd.call15 rfl fun a_ w_ hK_ hS_ => pla_Parse.ok hx24 hS_.sels fun u25 w1_ hS1_ => atRet (G.goA ?_ (hK_.put rfl _) hS1_))
          clear hS1_ w1_ hS_ hK_ w_ a_
          refine Ls.cons (G.q (r_move rfl) rfl rfl ?_)
          refine Ls.cons (G.q (r_extract rfl rfl) rfl rfl ?_)
          refine Ls.cons (G.q (r_extract rfl rfl) rfl rfl ?_)
          refine Ls.cons (G.q (r_extract rfl rfl) rfl rfl ?_)
          refine Ls.cons (o_alloc (cs := [.int .i64 0, .int .i64 0, .int .i64 0, .slice none 0 0]) rfl rfl fun b26 => ?_)
          refine Ls.cons (o_store (vs := [.int .i64 x23.1, .int .i64 x23.2.1, .int .i64 x23.2.2.1, u25]) rfl rfl rfl rfl ?_)
          refine Ls.cons (G.q (r_assign rfl) rfl rfl ?_)
          refine Ls.cons (G.q (r_assign rfl) rfl rfl ?_)
          refine Ls.nil ?_
          refine Qs.then_n ?_
          refine Ws.seq ?_
          refine Ws.seq ?_
          refine Ws.region ?_
          refine Ls.cons (G.q (r_move rfl) rfl rfl ?_)
          refine Ls.cons (G.q (r_bin rfl rfl rfl) rfl rfl ?_)
          refine Ls.nil ?_
          refine Qs.then_n ?_
          rcases bif_some h13 with ⟨hb, h13⟩ | ⟨hb, h13⟩
          · refine Ws.cond_t rfl hb ?_
            refine Ws.seq ?_
            refine Ws.region ?_
            refine Ls.cons (G.q (r_loadN rfl rfl) rfl rfl ?_)
            refine Ls.cons (G.q (r_build [.int .i64 0, .int .i64 0, .int .i64 0, .slice none 0 0] rfl (by kernel_rfl)) rfl rfl ?_)
            refine G.frz (kP (kI .u8) (kP (kI .u8) (kL (kI .i64)))) u25 45 ?_
            obtain ⟨x27, hx28, h13⟩ := bind_some h13
            refine Ls.cons (o_call Tryd.call13 rfl fun a_ w_ hK_ hS_ => ref03_Same.ok (V0 := u25) (V1 := (.slice none 0 0)) hx28 hS_.sels fun w1_ hS1_ => atRet (G.goA ?_ (hK_.put rfl _) hS1_))
            clear hS1_ w1_ hS_ hK_ w_ a_
            refine Ls.cons (G.q (r_move rfl) rfl rfl ?_)
            obtain ⟨x29, hx30, h31⟩ := bind_some h13
            refine Ls.cutX (ε := Unit) True (fun e => [(4, .bool x29)]) (fun e => Glo :: Frz (kP (kI .u8) (kP (kI .u8) (kL (kI .i64)))) V0 a3 :: L) ?_ ?_
            ·
              rcases bif_some hx30 with ⟨hb, hx30⟩ | ⟨hb, hx30⟩
              · refine G.fixB 58 hb rfl ?_
                obtain ⟨x32, hx33, hx30⟩ := bind_some hx30
                refine Ls.guard_t rfl rfl rfl (o_call Tryd.call8 rfl fun a_ w_ hK_ hS_ => law03_knows.ok hx33 hS_.sels fun w1_ hS1_ => atRet (G.goA ?_ (hK_.put rfl _) hS1_))
                clear hS1_ w1_ hS_ hK_ w_ a_
                refine Ls.cons (G.q (r_pick rfl rfl rfl) rfl rfl ?_)
                refine Ls.cons (G.q (r_assign rfl) rfl rfl ?_)
                refine Ls.nil ?_
                refine Qs.only ?_
                obtain rfl := Option.some.inj hx30
                exact Qs.midX () trivial (.cons rfl (.nil)) (fun _ H => H.to)
              · refine G.fixB 58 hb rfl ?_
                refine Ls.guard_f rfl rfl rfl rfl ?_
                refine Ls.cons (G.q (r_pick rfl rfl rfl) rfl rfl ?_)
                refine Ls.cons (G.q (r_assign rfl) rfl rfl ?_)
                refine Ls.nil ?_
                refine Qs.only ?_
                obtain rfl := Option.some.inj hx30
                exact Qs.midX () trivial (.cons rfl (.nil)) (fun _ H => H.to)
            ·
              rintro ⟨⟩ _
              refine Qs.then_n ?_
              refine Ws.ret ?_
              refine Qs.then_r ?_
              obtain rfl := Option.some.inj h31
              exact W_end (.inl rfl) Tryd.results4 (.tmp rfl .nil) rfl fun w hS => hR w hS.fin
          · refine Ws.cond_f rfl hb ?_
            refine Ws.skip ?_
            refine Qs.then_n ?_
            refine Ws.seq ?_
            refine Ws.region ?_
            refine Ls.cons (G.q (r_loadN rfl rfl) rfl rfl ?_)
            refine G.frz (kP (kI .u8) (kP (kI .u8) (kL (kI .i64)))) u25 45 ?_
            obtain ⟨x34, hx35, h13⟩ := bind_some h13
            refine Ls.cons (o_call Tryd.call9 rfl fun a_ w_ hK_ hS_ => pla_Print.ok (V0 := u25) hx35 hS_.sels fun w1_ hS1_ => atRet (G.goA ?_ (hK_.put rfl _) hS1_))
            clear hS1_ w1_ hS_ hK_ w_ a_
            refine Ls.cons (G.q (r_move rfl) rfl rfl ?_)
            refine Ls.cons (G.q (r_extract rfl rfl) rfl rfl ?_)
            refine Ls.cons (G.q (r_extract rfl rfl) rfl rfl ?_)
            refine Ls.cons (G.q (r_assign rfl) rfl rfl ?_)
            refine Ls.cons (G.q (r_assign rfl) rfl rfl ?_)
            refine Ls.nil ?_
            refine Qs.then_n ?_
            refine Ws.seq ?_
            refine Ws.region ?_
            refine Ls.cons (G.q (r_move rfl) rfl rfl ?_)
            obtain ⟨x36, hx37, h13⟩ := bind_some h13
            refine Ls.cons (o_call Tryd.call15 rfl fun a_ w_ hK_ hS_ => pla_Parse.ok hx37 hS_.sels fun u38 w1_ hS1_ => atRet (G.goA ?_ (hK_.put rfl _) hS1_))
            clear hS1_ w1_ hS_ hK_ w_ a_
            refine Ls.cons (G.q (r_move rfl) rfl rfl ?_)
            refine Ls.cons (G.q (r_extract rfl rfl) rfl rfl ?_)
            refine Ls.cons (G.q (r_extract rfl rfl) rfl rfl ?_)
            refine Ls.cons (G.q (r_extract rfl rfl) rfl rfl ?_)
            refine Ls.cons (o_alloc (cs := [.int .i64 0, .int .i64 0, .int .i64 0, .slice none 0 0]) rfl rfl fun b39 => ?_)
            refine Ls.cons (o_store (vs := [.int .i64 x36.1, .int .i64 x36.2.1, .int .i64 x36.2.2.1, u38]) rfl rfl rfl rfl ?_)
            refine Ls.cons (G.q (r_assign rfl) rfl rfl ?_)
            refine Ls.cons (G.q (r_assign rfl) rfl rfl ?_)
            refine Ls.nil ?_
            refine Qs.then_n ?_
            refine Ws.seq ?_
            refine Ws.region ?_
            refine Ls.cons (G.q (r_move rfl) rfl rfl ?_)
            refine Ls.cons (G.q (r_bin rfl rfl rfl) rfl rfl ?_)
            refine Ls.cons (G.q (r_move rfl) rfl rfl ?_)
            obtain ⟨x40, hx41, h42⟩ := bind_some h13
            refine Ls.cutX (ε := Unit) True (fun e => [(4, .bool x40)]) (fun e => Glo :: Frz (kP (kI .u8) (kP (kI .u8) (kL (kI .i64)))) V0 a3 :: L) ?_ ?_
            ·
              rcases bif_some hx41 with ⟨hb, hx41⟩ | ⟨hb, hx41⟩
              · refine G.fixB 74 hb rfl ?_
                refine Ls.guard_t rfl rfl rfl (G.q (r_move rfl) rfl rfl ?_)
                refine Ls.guard_t rfl rfl rfl (G.q (r_bin rfl rfl rfl) rfl rfl ?_)
                refine Ls.cons (G.q (r_pick rfl rfl rfl) rfl rfl ?_)
                refine Ls.cons (G.q (r_move rfl) rfl rfl ?_)
                obtain ⟨x43, hx44, h45⟩ := bind_some hx41
                refine Ls.cutX (ε := Unit) True (fun e => [(4, .bool x43)]) (fun e => Glo :: Frz (kP (kI .u8) (kP (kI .u8) (kL (kI .i64)))) V0 a3 :: L) ?_ ?_
                ·
                  rcases bif_some hx44 with ⟨hb, hx44⟩ | ⟨hb, hx44⟩
                  · refine G.fixB 78 hb rfl ?_
                    refine Ls.guard_t rfl rfl rfl (G.q (r_loadN rfl rfl) rfl rfl ?_)
                    refine Ls.guard_t rfl rfl rfl (G.q (r_loadN rfl rfl) rfl rfl ?_)
                    refine G.frz (kP (kI .u8) (kP (kI .u8) (kL (kI .i64)))) u38 45 ?_
                    obtain ⟨x46, hx47, hx44⟩ := bind_some hx44
                    refine Ls.guard_t rfl rfl rfl (o_call Tryd.call13 rfl fun a_ w_ hK_ hS_ => ref03_Same.ok (V0 := u25) (V1 := u38) hx47 hS_.sels fun w1_ hS1_ => atRet (G.goA ?_ (hK_.put rfl _) hS1_))
                    clear hS1_ w1_ hS_ hK_ w_ a_
                    refine Ls.cons (G.q (r_pick rfl rfl rfl) rfl rfl ?_)
                    refine Ls.cons (G.q (r_move rfl) rfl rfl ?_)
                    obtain ⟨x48, hx49, h50⟩ := bind_some hx44
                    refine Ls.cutX (ε := Unit) True (fun e => [(4, .bool x48)]) (fun e => Glo :: Frz (kP (kI .u8) (kP (kI .u8) (kL (kI .i64)))) V0 a3 :: L) ?_ ?_
                    ·
                      rcases bif_some hx49 with ⟨hb, hx49⟩ | ⟨hb, hx49⟩
                      · refine G.fixB 83 hb rfl ?_
                        obtain ⟨x51, hx52, hx49⟩ := bind_some hx49
                        refine Ls.guard_t rfl rfl rfl (o_call Tryd.call8 rfl fun a_ w_ hK_ hS_ => law03_knows.ok hx52 hS_.sels fun w1_ hS1_ => atRet (G.goA ?_ (hK_.put rfl _) hS1_))
                        clear hS1_ w1_ hS_ hK_ w_ a_
                        refine Ls.cons (G.q (r_pick rfl rfl rfl) rfl rfl ?_)
                        refine Ls.cons (G.q (r_assign rfl) rfl rfl ?_)
                        refine Ls.nil ?_
                        refine Qs.only ?_
                        obtain rfl := Option.some.inj hx49
                        exact Qs.midX () trivial (.cons rfl (.nil)) (fun _ H => H.to)
                      · refine G.fixB 83 hb rfl ?_
                        refine Ls.guard_f rfl rfl rfl rfl ?_
                        refine Ls.cons (G.q (r_pick rfl rfl rfl) rfl rfl ?_)
                        refine Ls.cons (G.q (r_assign rfl) rfl rfl ?_)
                        refine Ls.nil ?_
                        refine Qs.only ?_
                        obtain rfl := Option.some.inj hx49
                        exact Qs.midX () trivial (.cons rfl (.nil)) (fun _ H => H.to)
                    ·
                      rintro ⟨⟩ _
                      refine Qs.only ?_
                      obtain rfl := Option.some.inj h50
                      exact Qs.midX () trivial (.cons rfl (.nil)) (fun _ H => H.to)
                  · refine G.fixB 78 hb rfl ?_
                    refine Ls.guard_f rfl rfl rfl rfl ?_
                    refine Ls.guard_f rfl rfl rfl rfl ?_
                    refine Ls.guard_f rfl rfl rfl rfl ?_
                    refine Ls.cons (G.q (r_pick rfl rfl rfl) rfl rfl ?_)
                    refine Ls.cons (G.q (r_move rfl) rfl rfl ?_)
                    refine Ls.guard_f rfl rfl rfl rfl ?_
                    refine Ls.cons (G.q (r_pick rfl rfl rfl) rfl rfl ?_)
                    refine Ls.cons (G.q (r_assign rfl) rfl rfl ?_)
                    refine Ls.nil ?_
                    refine Qs.only ?_
                    obtain rfl := Option.some.inj hx44
                    exact Qs.midX () trivial (.cons rfl (.nil)) (fun _ H => H.to)
                ·
                  rintro ⟨⟩ _
                  refine Qs.only ?_
                  obtain rfl := Option.some.inj h45
                  exact Qs.midX () trivial (.cons rfl (.nil)) (fun _ H => H.to)
              · refine G.fixB 74 hb rfl ?_
                refine Ls.guard_f rfl rfl rfl rfl ?_
                refine Ls.guard_f rfl rfl rfl rfl ?_
                refine Ls.cons (G.q (r_pick rfl rfl rfl) rfl rfl ?_)
                refine Ls.cons (G.q (r_move rfl) rfl rfl ?_)
                refine Ls.guard_f rfl rfl rfl rfl ?_
                refine Ls.guard_f rfl rfl rfl rfl ?_
                refine Ls.guard_f rfl rfl rfl rfl ?_
                refine Ls.cons (G.q (r_pick rfl rfl rfl) rfl rfl ?_)
                refine Ls.cons (G.q (r_move rfl) rfl rfl ?_)
                refine Ls.guard_f rfl rfl rfl rfl ?_
                refine Ls.cons (G.q (r_pick rfl rfl rfl) rfl rfl ?_)
                refine Ls.cons (G.q (r_assign rfl) rfl rfl ?_)
                refine Ls.nil ?_
                refine Qs.only ?_
                obtain rfl := Option.some.inj hx41
                exact Qs.midX () trivial (.cons rfl (.nil)) (fun _ H => H.to)
            ·
              rintro ⟨⟩ _
              refine Qs.then_n ?_
              refine Ws.ret ?_
              obtain rfl := Option.some.inj h42
              exact W_end (.inl rfl) Tryd.results4 (.tmp rfl .nil) rfl fun w hS => hR w hS.fin

end Go.Proofs.YtbkojmcppeflbaaDoor
