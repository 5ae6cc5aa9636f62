import Derived.Test.YtbkojmcppeflbaaDoorLb
namespace Go.Proofs.YtbkojmcppeflbaaDoor
open Go
set_option linter.unusedVariables false
set_option linter.unusedSimpArgs false
set_option linter.unusedSectionVars false
set_option linter.unnecessarySimpa false
set_option maxRecDepth 100000
set_option linter.unusedVariables false
theorem G.xp_u8u8l {τ : Meta} {N : Nat} {κ : Act → World → Prop} {m : List (Nat × Value)} {L : List Itm} {v0 : Value} {i0 sz b o : Nat} {cs : List Value} {y : Int × Int × (List Int)}
    (n : ∀ u2, G τ N κ m (Frz (kI .i64) u2 y.2.2 :: CellsP b o [.int .u8 y.1, .int .u8 y.2.1, u2] :: ElP v0 i0 sz b o :: L)) : G τ N κ m (ElP v0 i0 sz b o :: Rp (kP (kI .u8) (kP (kI .u8) (kL (kI .i64)))) cs y :: CellsP b o cs :: L) := by
  intro a w hK hS
  obtain ⟨F, h, lF, lh, dF, ⟨_, _, e0, ⟨_, _, r0, ⟨_, _, c0, K0, d3, rfl⟩, d2, rfl⟩, d1, rfl⟩, hm⟩ := hS
  obtain ⟨rfl, e1⟩ := e0; obtain ⟨rfl, r1⟩ := r0; obtain ⟨rfl, c1⟩ := c0
  obtain ⟨_, _, rfl, rfl, ⟨_, _, rfl, rfl, ⟨u2, rfl, q2⟩⟩⟩ := r1
  simp only [PH.nil_un] at lh dF
  exact n u2 a w hK ⟨F, _, lF, lh, dF, ⟨PH.nil, _, ⟨rfl, q2⟩, ⟨PH.nil, _, ⟨rfl, c1⟩, ⟨PH.nil, _, ⟨rfl, e1⟩, K0, PH.nil_dj _, (PH.nil_un _).symm⟩, PH.nil_dj _, (PH.nil_un _).symm⟩, PH.nil_dj _, (PH.nil_un _).symm⟩, hm⟩

theorem G.xp_s {τ : Meta} {N : Nat} {κ : Act → World → Prop} {m : List (Nat × Value)} {L : List Itm} {v0 : Value} {i0 sz b o : Nat} {cs : List Value} {y : ByteArray}
    (n : G τ N κ m (CellsP b o [.string y] :: ElP v0 i0 sz b o :: L)) : G τ N κ m (ElP v0 i0 sz b o :: Rp kS cs y :: CellsP b o cs :: L) := by
  intro a w hK hS
  obtain ⟨F, h, lF, lh, dF, ⟨_, _, e0, ⟨_, _, r0, ⟨_, _, c0, K0, d3, rfl⟩, d2, rfl⟩, d1, rfl⟩, hm⟩ := hS
  obtain ⟨rfl, e1⟩ := e0; obtain ⟨rfl, r1⟩ := r0; obtain ⟨rfl, c1⟩ := c0
  obtain rfl := r1
  simp only [PH.nil_un] at lh dF
  exact n a w hK ⟨F, _, lF, lh, dF, ⟨PH.nil, _, ⟨rfl, c1⟩, ⟨PH.nil, _, ⟨rfl, e1⟩, K0, PH.nil_dj _, (PH.nil_un _).symm⟩, PH.nil_dj _, (PH.nil_un _).symm⟩, hm⟩

theorem G.xp_i64 {τ : Meta} {N : Nat} {κ : Act → World → Prop} {m : List (Nat × Value)} {L : List Itm} {v0 : Value} {i0 sz b o : Nat} {cs : List Value} {y : Int}
    (n : G τ N κ m (CellsP b o [.int .i64 y] :: ElP v0 i0 sz b o :: L)) : G τ N κ m (ElP v0 i0 sz b o :: Rp (kI .i64) cs y :: CellsP b o cs :: L) := by
  intro a w hK hS
  obtain ⟨F, h, lF, lh, dF, ⟨_, _, e0, ⟨_, _, r0, ⟨_, _, c0, K0, d3, rfl⟩, d2, rfl⟩, d1, rfl⟩, hm⟩ := hS
  obtain ⟨rfl, e1⟩ := e0; obtain ⟨rfl, r1⟩ := r0; obtain ⟨rfl, c1⟩ := c0
  obtain rfl := r1
  simp only [PH.nil_un] at lh dF
  exact n a w hK ⟨F, _, lF, lh, dF, ⟨PH.nil, _, ⟨rfl, c1⟩, ⟨PH.nil, _, ⟨rfl, e1⟩, K0, PH.nil_dj _, (PH.nil_un _).symm⟩, PH.nil_dj _, (PH.nil_un _).symm⟩, hm⟩

theorem eqv42 (d : Nat) (x0 : Int) (x1 : Int) (y0 : Int) (y1 : Int) (w : World) : (Op.equalIn (d + 2) 42 (.agg #[.int .u8 x0, .int .u8 x1]) (.agg #[.int .u8 y0, .int .u8 y1])).run Tryd.prog w = .ok (x0 == y0 && (x1 == y1)) w := by
  have p0 := fun (x0 : Int) (x1 : Int) (w : World) => run_part (P := Tryd.prog) (t := 5) rfl #[.int .u8 x0, .int .u8 x1] 0 _ rfl w
  have p1 := fun (x0 : Int) (x1 : Int) (w : World) => run_part (P := Tryd.prog) (t := 5) rfl #[.int .u8 x0, .int .u8 x1] 1 _ rfl w
  rw [eqStruct Tryd.stoodInHeld42]
  simp [Op.eqFields, p0, p1, eqInt, eqStr, eqBool]
  by_cases h0 : x0 = y0 <;> by_cases h1 : x1 = y1 <;> simp [h0, h1]

def law03_Great.l1 (K : Nat) (a3 : List (Int × Int × (List Int))) : Nat → Int → Option (Bool ⊕ Unit)
  | 0, _ => none
  | j6 + 1, s5 =>
    (bif decide ((s5 : Int) < (a3.length : Int)) then ((idx a3 s5).bind fun y8 => (bif decide (((y8.2.2.length : Int) : Int) > 20) then some (.inl true) else law03_Great.l1 K a3 j6 (IntKind.wrap .i64 (s5 + 1)))) else some (.inr ()))

def law03_Great.f (K : Nat) (a0 : Int) (a1 : Int) (a2 : Int) (a3 : List (Int × Int × (List Int))) : Option Bool :=
  ((law03_Great.l1 K a3 K 0 : Option ((Bool) ⊕ (Unit))).bind fun y => match y with | .inl r => some r | .inr x2 => some (decide (((a3.length : Int) : Int) > 100)))

theorem law03_Great.ok {K : Nat} {a0 : Int} {a1 : Int} {a2 : Int} {a3 : List (Int × Int × (List Int))} {V0 : Value} {r : Bool} (h : law03_Great.f K a0 a1 a2 a3 = some r) {τ : Meta} {L : List Itm} {w : World} {R : Ending → World → Prop} (hS : St τ ([Frz (kP (kI .u8) (kP (kI .u8) (kL (kI .i64)))) V0 a3] ++ L) w)
    (hR : ∀ w', St τ ([] ++ L) w' → R (.returned (.bool r)) w') : Calls Tryd.prog 7 #[.agg #[.int .i64 a0, .int .i64 a1, .int .i64 a2, V0]] w R := by
  refine enter (vs := [_]) Tryd.func7 rfl Tryd.ntmps7 rfl hS.cat ?_
  unfold law03_Great.f at h
  refine Ws.seq ?_
  refine Ws.region ?_
  refine Ls.cons (o_box (cs := [.int .i64 a0, .int .i64 a1, .int .i64 a2, V0]) rfl rfl fun b1 => ?_)
  refine Ls.cons (G.q (r_assign rfl) rfl rfl ?_)
  refine Ls.nil ?_
  refine Qs.then_n ?_
  refine Ws.seq ?_
  refine Ws.seq ?_
  refine Ws.region ?_
  refine Ls.cons (G.q (r_assign rfl) rfl rfl ?_)
  refine Ls.nil ?_
  refine Qs.then_n ?_
  obtain ⟨x2, hx3, h4⟩ := bind_some h
  refine Ws.cutX (ε := Unit) (isR x2 = true) (fun e => [(1, .pointer (some ⟨b1, 0, none⟩))]) (fun e => Cells b1 [.int .i64 a0, .int .i64 a1, .int .i64 a2, V0] 24 :: Frz (kP (kI .u8) (kP (kI .u8) (kL (kI .i64)))) V0 a3 :: L) ?_ ?_
  ·
    refine Ws.block ?_
    refine Ws.loop (ε := Unit) (law03_Great.l1 K a3) (fun s e => [(1, .pointer (some ⟨b1, 0, none⟩)), (3, .int .i64 s)]) (fun s e => Cells b1 [.int .i64 a0, .int .i64 a1, .int .i64 a2, V0] 24 :: Frz (kP (kI .u8) (kP (kI .u8) (kL (kI .i64)))) V0 a3 :: L) () hx3 (.cons rfl (.cons rfl (.nil))) (fun _ H => H.to) ?_
    rintro j6 s5 ⟨⟩ h7
    cases j6 with
    | zero => cases (show none = some _ from h7)
    | succ j6 =>
      rw [law03_Great.l1] at h7
      refine Ws.seq ?_
      refine Ws.seq ?_
      refine Ws.region ?_
      refine Ls.cons (G.q (r_move rfl) rfl rfl ?_)
      refine Ls.cons (G.q (r_field rfl) rfl rfl ?_)
      refine Ls.cons (G.q (r_load rfl rfl) rfl rfl ?_)
      refine Ls.cons (G.q (r_len rfl) rfl rfl ?_)
      refine Ls.cons (G.q (r_bin rfl rfl rfl) rfl rfl ?_)
      refine Ls.nil ?_
      refine Qs.then_n ?_
      rcases bif_some h7 with ⟨hb, h7⟩ | ⟨hb, h7⟩
      · refine Ws.cond_t rfl hb ?_
        refine Ws.skip ?_
        refine Qs.then_n ?_
        refine Ws.seq ?_
        refine Ws.block ?_
        refine Ws.seq ?_
        refine Ws.region ?_
        refine Ls.cons (G.q (r_field rfl) rfl rfl ?_)
        refine Ls.cons (G.q (r_load rfl rfl) rfl rfl ?_)
        refine Ls.cons (G.q (r_move rfl) rfl rfl ?_)
        obtain ⟨y8, hy9, h7⟩ := bind_some h7
        have hy9 := idx_some hy9
        refine G.el (i := s5.toNat) (kP (kI .u8) (kP (kI .u8) (kL (kI .i64)))) 3 V0 rfl hy9.2 ?_
        intro b10 o11 c12
        refine G.xp_u8u8l ?_
        intro u13
        refine Ls.cons (G.q (r_idxN s5.toNat rfl rfl hy9.1 rfl) rfl rfl ?_)
        refine Ls.cons (G.q (r_field rfl) rfl rfl ?_)
        refine Ls.cons (G.q (r_load rfl rfl) rfl rfl ?_)
        refine Ls.cons (G.q (r_len rfl) rfl rfl ?_)
        refine Ls.cons (G.q (r_bin rfl rfl rfl) rfl rfl ?_)
        refine Ls.nil ?_
        refine Qs.then_n ?_
        rcases bif_some h7 with ⟨hb, h7⟩ | ⟨hb, h7⟩
        · refine Ws.cond_t rfl hb ?_
          refine Ws.seq ?_
          refine Ws.region ?_
          refine Ls.cons (G.q (r_assign rfl) rfl rfl ?_)
          refine Ls.nil ?_
          refine Qs.then_n ?_
          refine Ws.ret ?_
          refine Qs.block_r ?_
          refine Qs.then_r ?_
          refine Qs.then_r ?_
          refine Qs.block_r ?_
          refine Qs.then_r ?_
          obtain rfl := Option.some.inj h7
          obtain rfl := Option.some.inj h4
          exact W_end (.inl rfl) Tryd.results7 (.tmp rfl .nil) rfl fun w hS => hR w hS.fin
        · refine Ws.cond_f rfl hb ?_
          refine Ws.skip ?_
          refine Qs.block_n ?_
          refine Qs.then_n ?_
          refine Ws.region ?_
          refine Ls.cons (G.q (r_move rfl) rfl rfl ?_)
          refine Ls.cons (G.q (r_bin rfl rfl rfl) rfl rfl ?_)
          refine Ls.cons (G.q (r_assign rfl) rfl rfl ?_)
          refine Ls.nil ?_
          refine Qs.then_n ?_
          exact Qs.again () h7 (Nat.lt_succ_self _) (.cons rfl (.cons rfl (.nil))) (fun _ H => H.to)
      · refine Ws.cond_f rfl hb ?_
        refine Ws.exit ?_
        refine Qs.then_e ?_
        refine Qs.then_e ?_
        refine Qs.block_e ?_
        refine Qs.then_n ?_
        obtain rfl := Option.some.inj h7
        exact Qs.midX () rfl (.cons rfl (.nil)) (fun _ H => H.to)
  ·
    rintro ⟨⟩ hφ
    cases x2 with
    | inl _ => cases hφ
    | inr x2 =>
      refine Ws.seq ?_
      refine Ws.region ?_
      refine Ls.cons (G.q (r_field rfl) rfl rfl ?_)
      refine Ls.cons (G.q (r_load rfl rfl) rfl rfl ?_)
      refine Ls.cons (G.q (r_len rfl) rfl rfl ?_)
      refine Ls.cons (G.q (r_bin rfl rfl rfl) rfl rfl ?_)
      refine Ls.cons (G.q (r_assign rfl) rfl rfl ?_)
      refine Ls.nil ?_
      refine Qs.then_n ?_
      refine Ws.ret ?_
      obtain rfl := Option.some.inj h4
      exact W_end (.inl rfl) Tryd.results7 (.tmp rfl .nil) rfl fun w hS => hR w hS.fin

def internal_stringslite_HasPrefix.f (K : Nat) (a0 : ByteArray) (a1 : ByteArray) : Option Bool :=
  (((bif decide (((a0.size : Int) : Int) ≥ (a1.size : Int)) then (bif decide (0 ≤ (a1.size : Int) ∧ 0 ≤ (a1.size : Int).toNat ∧ (a1.size : Int).toNat ≤ a0.size) then some ((a0.extract 0 ((a1.size : Int).toNat)).toList == a1.toList) else none) else some false)).bind fun x1 => some x1)

theorem internal_stringslite_HasPrefix.ok {K : Nat} {a0 : ByteArray} {a1 : ByteArray} {r : Bool} (h : internal_stringslite_HasPrefix.f K a0 a1 = some r) {τ : Meta} {L : List Itm} {w : World} {R : Ending → World → Prop} (hS : St τ ([] ++ L) w)
    (hR : ∀ w', St τ ([] ++ L) w' → R (.returned (.bool r)) w') : Calls Tryd.prog 83 #[.string a0, .string a1] w R := by
  refine enter (vs := [_, _]) Tryd.func83 rfl Tryd.ntmps83 rfl hS.cat ?_
  unfold internal_stringslite_HasPrefix.f at h
  refine Ws.seq ?_
  refine Ws.region ?_
  refine Ls.cons (G.q (r_assign rfl) rfl rfl ?_)
  refine Ls.nil ?_
  refine Qs.then_n ?_
  refine Ws.seq ?_
  refine Ws.region ?_
  refine Ls.cons (G.q (r_move rfl) rfl rfl ?_)
  refine Ls.cons (G.q (r_lenS rfl) rfl rfl ?_)
  refine Ls.cons (G.q (r_move rfl) rfl rfl ?_)
  refine Ls.cons (G.q (r_lenS rfl) rfl rfl ?_)
  refine Ls.cons (G.q (r_bin rfl rfl rfl) rfl rfl ?_)
  refine Ls.cons (G.q (r_move rfl) rfl rfl ?_)
  obtain ⟨x1, hx2, h3⟩ := bind_some h
  refine Ls.cutX (ε := Unit) True (fun e => [(4, .bool x1)]) (fun e => L) ?_ ?_
  ·
    rcases bif_some hx2 with ⟨hb, hx2⟩ | ⟨hb, hx2⟩
    · refine G.fixB 10 hb rfl ?_
      refine Ls.guard_t rfl rfl rfl (G.q (r_move rfl) rfl rfl ?_)
      refine Ls.guard_t rfl rfl rfl (G.q (r_move rfl) rfl rfl ?_)
      refine Ls.guard_t rfl rfl rfl (G.q (r_lenS rfl) rfl rfl ?_)
      rcases bif_some hx2 with ⟨hb, hx2⟩ | ⟨_, hx2⟩
      rotate_left
      · cases hx2
      have hb := of_decide_eq_true hb
      refine Ls.guard_t rfl rfl rfl (G.q (r_cutS rfl rfl ⟨_, _, rfl, hb.1, rfl⟩ hb.2.1 hb.2.2) rfl rfl ?_)
      refine Ls.guard_t rfl rfl rfl (G.q (r_move rfl) rfl rfl ?_)
      refine Ls.guard_t rfl rfl rfl (G.q (r_eqS rfl rfl) rfl rfl ?_)
      refine Ls.cons (G.q (r_pick rfl rfl rfl) rfl rfl ?_)
      refine Ls.cons (G.q (r_assign rfl) rfl rfl ?_)
      refine Ls.nil ?_
      refine Qs.only ?_
      obtain rfl := Option.some.inj hx2
      exact Qs.midX () trivial (.cons rfl (.nil)) (fun _ H => H.to)
    · refine G.fixB 10 hb rfl ?_
      refine Ls.guard_f rfl rfl rfl rfl ?_
      refine Ls.guard_f rfl rfl rfl rfl ?_
      refine Ls.guard_f rfl rfl rfl rfl ?_
      refine Ls.guard_f rfl rfl rfl rfl ?_
      refine Ls.guard_f rfl rfl rfl rfl ?_
      refine Ls.guard_f rfl rfl rfl rfl ?_
      refine Ls.cons (G.q (r_pick rfl rfl rfl) rfl rfl ?_)
      refine Ls.cons (G.q (r_assign rfl) rfl rfl ?_)
      refine Ls.nil ?_
      refine Qs.only ?_
      obtain rfl := Option.some.inj hx2
      exact Qs.midX () trivial (.cons rfl (.nil)) (fun _ H => H.to)
  ·
    rintro ⟨⟩ _
    refine Qs.then_n ?_
    refine Ws.ret ?_
    obtain rfl := Option.some.inj h3
    exact W_end (.inl rfl) Tryd.results83 (.tmp rfl .nil) rfl fun w hS => hR w hS.fin

def internal_stringslite_CutPrefix.f (K : Nat) (a0 : ByteArray) (a1 : ByteArray) : Option (ByteArray × Bool) :=
  ((internal_stringslite_HasPrefix.f K a0 a1).bind fun x1 => (bif !x1 then some (a0, false) else (bif decide (0 ≤ (a1.size : Int) ∧ (a1.size : Int).toNat ≤ a0.size ∧ a0.size ≤ a0.size) then some (a0.extract ((a1.size : Int).toNat) a0.size, true) else none)))

theorem internal_stringslite_CutPrefix.ok {K : Nat} {a0 : ByteArray} {a1 : ByteArray} {r : ByteArray × Bool} (h : internal_stringslite_CutPrefix.f K a0 a1 = some r) {τ : Meta} {L : List Itm} {w : World} {R : Ending → World → Prop} (hS : St τ ([] ++ L) w)
    (hR : ∀ w', St τ ([] ++ L) w' → R (.returned (.tuple #[.string r.1, .bool r.2])) w') : Calls Tryd.prog 68 #[.string a0, .string a1] w R := by
  refine enter (vs := [_, _]) Tryd.func68 rfl Tryd.ntmps68 rfl hS.cat ?_
  unfold internal_stringslite_CutPrefix.f at h
  refine Ws.seq ?_
  refine Ws.region ?_
  refine Ls.cons (G.q (r_assign rfl) rfl rfl ?_)
  refine Ls.cons (G.q (r_assign rfl) rfl rfl ?_)
  refine Ls.nil ?_
  refine Qs.then_n ?_
  refine Ws.seq ?_
  refine Ws.seq ?_
  refine Ws.region ?_
  refine Ls.cons (G.q (r_move rfl) rfl rfl ?_)
  refine Ls.cons (G.q (r_move rfl) rfl rfl ?_)
  obtain ⟨x1, hx2, h⟩ := bind_some h
  refine Ls.cons (o_call Tryd.call83 rfl fun a_ w_ hK_ hS_ => internal_stringslite_HasPrefix.ok hx2 hS_.sels fun w1_ hS1_ => atRet (G.goA ?_ (hK_.put rfl _) hS1_))
  clear hS1_ w1_ hS_ hK_ w_ a_
  refine Ls.cons (G.q (r_not rfl) rfl rfl ?_)
  refine Ls.nil ?_
  refine Qs.then_n ?_
  rcases bif_some h with ⟨hb, h⟩ | ⟨hb, h⟩
  · refine Ws.cond_t rfl hb ?_
    refine Ws.seq ?_
    refine Ws.region ?_
    refine Ls.cons (G.q (r_move rfl) rfl rfl ?_)
    refine Ls.cons (G.q (r_assign rfl) rfl rfl ?_)
    refine Ls.cons (G.q (r_assign rfl) rfl rfl ?_)
    refine Ls.nil ?_
    refine Qs.then_n ?_
    refine Ws.ret ?_
    refine Qs.then_r ?_
    obtain rfl := Option.some.inj h
    exact W_end (.inl rfl) Tryd.results68 (.tmp rfl (.tmp rfl .nil)) rfl fun w hS => hR w hS.fin
  · refine Ws.cond_f rfl hb ?_
    refine Ws.skip ?_
    refine Qs.then_n ?_
    refine Ws.seq ?_
    refine Ws.region ?_
    refine Ls.cons (G.q (r_move rfl) rfl rfl ?_)
    refine Ls.cons (G.q (r_move rfl) rfl rfl ?_)
    refine Ls.cons (G.q (r_lenS rfl) rfl rfl ?_)
    rcases bif_some h with ⟨hb, h⟩ | ⟨_, h⟩
    rotate_left
    · cases h
    have hb := of_decide_eq_true hb
    refine Ls.cons (G.q (r_cutS rfl ⟨_, _, rfl, hb.1, rfl⟩ rfl hb.2.1 hb.2.2) rfl rfl ?_)
    refine Ls.cons (G.q (r_assign rfl) rfl rfl ?_)
    refine Ls.cons (G.q (r_assign rfl) rfl rfl ?_)
    refine Ls.nil ?_
    refine Qs.then_n ?_
    refine Ws.ret ?_
    obtain rfl := Option.some.inj h
    exact W_end (.inl rfl) Tryd.results68 (.tmp rfl (.tmp rfl .nil)) rfl fun w hS => hR w hS.fin

def strings_CutPrefix.f (K : Nat) (a0 : ByteArray) (a1 : ByteArray) : Option (ByteArray × Bool) :=
  ((internal_stringslite_CutPrefix.f K a0 a1).bind fun x1 => some (x1.1, x1.2))

theorem strings_CutPrefix.ok {K : Nat} {a0 : ByteArray} {a1 : ByteArray} {r : ByteArray × Bool} (h : strings_CutPrefix.f K a0 a1 = some r) {τ : Meta} {L : List Itm} {w : World} {R : Ending → World → Prop} (hS : St τ ([] ++ L) w)
    (hR : ∀ w', St τ ([] ++ L) w' → R (.returned (.tuple #[.string r.1, .bool r.2])) w') : Calls Tryd.prog 53 #[.string a0, .string a1] w R := by
  refine enter (vs := [_, _]) Tryd.func53 rfl Tryd.ntmps53 rfl hS.cat ?_
  unfold strings_CutPrefix.f at h
  refine Ws.seq ?_
  refine Ws.region ?_
  refine Ls.cons (G.q (r_assign rfl) rfl rfl ?_)
  refine Ls.cons (G.q (r_assign rfl) rfl rfl ?_)
  refine Ls.nil ?_
  refine Qs.then_n ?_
  refine Ws.seq ?_
  refine Ws.region ?_
  refine Ls.cons (G.q (r_move rfl) rfl rfl ?_)
  refine Ls.cons (G.q (r_move rfl) rfl rfl ?_)
  obtain ⟨x1, hx2, h⟩ := bind_some h
  refine Ls.cons (o_call Tryd.call68 rfl fun a_ w_ hK_ hS_ => internal_stringslite_CutPrefix.ok hx2 hS_.sels fun w1_ hS1_ => atRet (G.goA ?_ (hK_.put rfl _) hS1_))
  clear hS1_ w1_ hS_ hK_ w_ a_
  refine Ls.cons (G.q (r_extract rfl rfl) rfl rfl ?_)
  refine Ls.cons (G.q (r_extract rfl rfl) rfl rfl ?_)
  refine Ls.cons (G.q (r_assign rfl) rfl rfl ?_)
  refine Ls.cons (G.q (r_assign rfl) rfl rfl ?_)
  refine Ls.nil ?_
  refine Qs.then_n ?_
  refine Ws.ret ?_
  obtain rfl := Option.some.inj h
  exact W_end (.inl rfl) Tryd.results53 (.tmp rfl (.tmp rfl .nil)) rfl fun w hS => hR w hS.fin

def pla_number.f (K : Nat) (a0 : ByteArray) (a1 : ByteArray) (a2 : Int) (a3 : Int) : Option Int :=
  (bif decide (a1.size + (⟨#[32]⟩ : ByteArray).size ≤ 1099511627776) then ((strings_CutPrefix.f K a0 (a1 ++ (⟨#[32]⟩ : ByteArray))).bind fun x1 => ((strconv_Atoi.f K x1.1).bind fun x3 => (((bif !x1.2 then some true else (((bif !x3.2 then some true else (((bif decide (((x1.1.size : Int) : Int) > 2) then some true else ((strconv_Itoa.f K x3.1).bind fun x15 => (((bif !(x15.toList == x1.1.toList) then some true else (((bif decide ((x3.1 : Int) < a2) then some true else some (decide ((x3.1 : Int) > a3)))).bind fun x20 => some x20))).bind fun x17 => some x17)))).bind fun x12 => some x12))).bind fun x9 => some x9))).bind fun x6 => (bif x6 then some (-1) else some x3.1)))) else none)

theorem pla_number.ok {K : Nat} {a0 : ByteArray} {a1 : ByteArray} {a2 : Int} {a3 : Int} {r : Int} (h : pla_number.f K a0 a1 a2 a3 = some r) {τ : Meta} {L : List Itm} {w : World} {R : Ending → World → Prop} (hS : St τ ([Glo] ++ L) w)
    (hR : ∀ w', St τ ([] ++ L) w' → R (.returned (.int .i64 r)) w') : Calls Tryd.prog 52 #[.string a0, .string a1, .int .i64 a2, .int .i64 a3] w R := by
  refine enter (vs := [_, _, _, _]) Tryd.func52 rfl Tryd.ntmps52 rfl hS.cat ?_
  unfold pla_number.f at h
  refine Ws.seq ?_
  refine Ws.region ?_
  refine Ls.cons (G.q (r_assign rfl) rfl rfl ?_)
  refine Ls.nil ?_
  refine Qs.then_n ?_
  refine Ws.seq ?_
  refine Ws.region ?_
  refine Ls.cons (G.q (r_move rfl) rfl rfl ?_)
  refine Ls.cons (G.q (r_move rfl) rfl rfl ?_)
  rcases bif_some h with ⟨hb, h⟩ | ⟨_, h⟩
  rotate_left
  · cases h
  refine Ls.cons (G.q (r_cat rfl rfl (of_decide_eq_true hb)) rfl rfl ?_)
  obtain ⟨x1, hx2, h⟩ := bind_some h
  refine Ls.cons (o_call Tryd.call53 rfl fun a_ w_ hK_ hS_ => strings_CutPrefix.ok hx2 hS_.sels fun w1_ hS1_ => atRet (G.goA ?_ (hK_.put rfl _) hS1_))
  clear hS1_ w1_ hS_ hK_ w_ a_
  refine Ls.cons (G.q (r_move rfl) rfl rfl ?_)
  refine Ls.cons (G.q (r_extract rfl rfl) rfl rfl ?_)
  refine Ls.cons (G.q (r_extract rfl rfl) rfl rfl ?_)
  refine Ls.cons (G.q (r_assign rfl) rfl rfl ?_)
  refine Ls.cons (G.q (r_assign rfl) rfl rfl ?_)
  refine Ls.nil ?_
  refine Qs.then_n ?_
  refine Ws.seq ?_
  refine Ws.region ?_
  refine Ls.cons (G.q (r_move rfl) rfl rfl ?_)
  obtain ⟨x3, hx4, h⟩ := bind_some h
  refine Ls.cons (o_call Tryd.call67 rfl fun a_ w_ hK_ hS_ => strconv_Atoi.ok hx4 hS_.sels fun u5 w1_ hS1_ => atRet (G.goA ?_ (hK_.put rfl _) hS1_))
  clear hS1_ w1_ hS_ hK_ w_ a_
  refine Ls.cons (G.q (r_move rfl) rfl rfl ?_)
  refine Ls.cons (G.q (r_extract rfl rfl) rfl rfl ?_)
  refine Ls.cons (G.q (r_extract rfl rfl) rfl rfl ?_)
  refine Ls.cons (G.q (r_assign rfl) rfl rfl ?_)
  refine Ls.cons (G.q (r_assign rfl) rfl rfl ?_)
  refine Ls.nil ?_
  refine Qs.then_n ?_
  refine Ws.seq ?_
  refine Ws.seq ?_
  refine Ws.region ?_
  refine Ls.cons (G.q (r_move rfl) rfl rfl ?_)
  refine Ls.cons (G.q (r_not rfl) rfl rfl ?_)
  refine Ls.cons (G.q (r_move rfl) rfl rfl ?_)
  obtain ⟨x6, hx7, h8⟩ := bind_some h
  refine Ls.cutX (ε := Unit) True (fun e => [(11, .int .i64 x3.1), (51, .bool x6)]) (fun e => Glo :: L) ?_ ?_
  ·
    rcases bif_some hx7 with ⟨hb, hx7⟩ | ⟨hb, hx7⟩
    · refine G.fixB 27 hb rfl ?_
      refine Ls.guard_f rfl rfl rfl rfl ?_
      refine Ls.guard_f rfl rfl rfl rfl ?_
      refine Ls.cons (G.q (r_pick rfl rfl rfl) rfl rfl ?_)
      refine Ls.cons (G.q (r_move rfl) rfl rfl ?_)
      refine Ls.guard_f rfl rfl rfl rfl ?_
      refine Ls.guard_f rfl rfl rfl rfl ?_
      refine Ls.guard_f rfl rfl rfl rfl ?_
      refine Ls.cons (G.q (r_pick rfl rfl rfl) rfl rfl ?_)
      refine Ls.cons (G.q (r_move rfl) rfl rfl ?_)
      refine Ls.guard_f rfl rfl rfl rfl ?_
      refine Ls.guard_f rfl rfl rfl rfl ?_
      refine Ls.guard_f rfl rfl rfl rfl ?_
      refine Ls.guard_f rfl rfl rfl rfl ?_
      refine Ls.cons (G.q (r_pick rfl rfl rfl) rfl rfl ?_)
      refine Ls.cons (G.q (r_move rfl) rfl rfl ?_)
      refine Ls.guard_f rfl rfl rfl rfl ?_
      refine Ls.guard_f rfl rfl rfl rfl ?_
      refine Ls.guard_f rfl rfl rfl rfl ?_
      refine Ls.cons (G.q (r_pick rfl rfl rfl) rfl rfl ?_)
      refine Ls.cons (G.q (r_move rfl) rfl rfl ?_)
      refine Ls.guard_f rfl rfl rfl rfl ?_
      refine Ls.guard_f rfl rfl rfl rfl ?_
      refine Ls.guard_f rfl rfl rfl rfl ?_
      refine Ls.cons (G.q (r_pick rfl rfl rfl) rfl rfl ?_)
      refine Ls.nil ?_
      refine Qs.only ?_
      obtain rfl := Option.some.inj hx7
      exact Qs.midX () trivial (.cons rfl (.cons rfl (.nil))) (fun _ H => H.to)
    · refine G.fixB 27 hb rfl ?_
      refine Ls.guard_t rfl rfl rfl (G.q (r_move rfl) rfl rfl ?_)
      refine Ls.guard_t rfl rfl rfl (G.q (r_ifcNe rfl) rfl rfl ?_)
      refine Ls.cons (G.q (r_pick rfl rfl rfl) rfl rfl ?_)
      refine Ls.cons (G.q (r_move rfl) rfl rfl ?_)
      obtain ⟨x9, hx10, h11⟩ := bind_some hx7
      refine Ls.cutX (ε := Unit) True (fun e => [(11, .int .i64 x3.1), (51, .bool x9)]) (fun e => Glo :: L) ?_ ?_
      ·
        rcases bif_some hx10 with ⟨hb, hx10⟩ | ⟨hb, hx10⟩
        · refine G.fixB 31 hb rfl ?_
          refine Ls.guard_f rfl rfl rfl rfl ?_
          refine Ls.guard_f rfl rfl rfl rfl ?_
          refine Ls.guard_f rfl rfl rfl rfl ?_
          refine Ls.cons (G.q (r_pick rfl rfl rfl) rfl rfl ?_)
          refine Ls.cons (G.q (r_move rfl) rfl rfl ?_)
          refine Ls.guard_f rfl rfl rfl rfl ?_
          refine Ls.guard_f rfl rfl rfl rfl ?_
          refine Ls.guard_f rfl rfl rfl rfl ?_
          refine Ls.guard_f rfl rfl rfl rfl ?_
          refine Ls.cons (G.q (r_pick rfl rfl rfl) rfl rfl ?_)
          refine Ls.cons (G.q (r_move rfl) rfl rfl ?_)
          refine Ls.guard_f rfl rfl rfl rfl ?_
          refine Ls.guard_f rfl rfl rfl rfl ?_
          refine Ls.guard_f rfl rfl rfl rfl ?_
          refine Ls.cons (G.q (r_pick rfl rfl rfl) rfl rfl ?_)
          refine Ls.cons (G.q (r_move rfl) rfl rfl ?_)
          refine Ls.guard_f rfl rfl rfl rfl ?_
          refine Ls.guard_f rfl rfl rfl rfl ?_
          refine Ls.guard_f rfl rfl rfl rfl ?_
          refine Ls.cons (G.q (r_pick rfl rfl rfl) rfl rfl ?_)
          refine Ls.nil ?_
          refine Qs.only ?_
          obtain rfl := Option.some.inj hx10
          exact Qs.midX () trivial (.cons rfl (.cons rfl (.nil))) (fun _ H => H.to)
        · refine G.fixB 31 hb rfl ?_
          refine Ls.guard_t rfl rfl rfl (G.q (r_move rfl) rfl rfl ?_)
          refine Ls.guard_t rfl rfl rfl (G.q (r_lenS rfl) rfl rfl ?_)
          refine Ls.guard_t rfl rfl rfl (G.q (r_bin rfl rfl rfl) rfl rfl ?_)
          refine Ls.cons (G.q (r_pick rfl rfl rfl) rfl rfl ?_)
          refine Ls.cons (G.q (r_move rfl) rfl rfl ?_)
          obtain ⟨x12, hx13, h14⟩ := bind_some hx10
          refine Ls.cutX (ε := Unit) True (fun e => [(11, .int .i64 x3.1), (51, .bool x12)]) (fun e => Glo :: L) ?_ ?_
          ·
            rcases bif_some hx13 with ⟨hb, hx13⟩ | ⟨hb, hx13⟩
            · refine G.fixB 36 hb rfl ?_
              refine Ls.guard_f rfl rfl rfl rfl ?_
              refine Ls.guard_f rfl rfl rfl rfl ?_
              refine Ls.guard_f rfl rfl rfl rfl ?_
              refine Ls.guard_f rfl rfl rfl rfl ?_
              refine Ls.cons (G.q (r_pick rfl rfl rfl) rfl rfl ?_)
              refine Ls.cons (G.q (r_move rfl) rfl rfl ?_)
              refine Ls.guard_f rfl rfl rfl rfl ?_
              refine Ls.guard_f rfl rfl rfl rfl ?_
              refine Ls.guard_f rfl rfl rfl rfl ?_
              refine Ls.cons (G.q (r_pick rfl rfl rfl) rfl rfl ?_)
              refine Ls.cons (G.q (r_move rfl) rfl rfl ?_)
              refine Ls.guard_f rfl rfl rfl rfl ?_
              refine Ls.guard_f rfl rfl rfl rfl ?_
              refine Ls.guard_f rfl rfl rfl rfl ?_
              refine Ls.cons (G.q (r_pick rfl rfl rfl) rfl rfl ?_)
              refine Ls.nil ?_
              refine Qs.only ?_
              obtain rfl := Option.some.inj hx13
              exact Qs.midX () trivial (.cons rfl (.cons rfl (.nil))) (fun _ H => H.to)
            · refine G.fixB 36 hb rfl ?_
              refine Ls.guard_t rfl rfl rfl (G.q (r_move rfl) rfl rfl ?_)
              obtain ⟨x15, hx16, hx13⟩ := bind_some hx13
              refine Ls.guard_t rfl rfl rfl (o_call Tryd.call24 rfl fun a_ w_ hK_ hS_ => strconv_Itoa.ok hx16 hS_.sels fun w1_ hS1_ => atRet (G.goA ?_ (hK_.put rfl _) hS1_))
              clear hS1_ w1_ hS_ hK_ w_ a_
              refine Ls.guard_t rfl rfl rfl (G.q (r_move rfl) rfl rfl ?_)
              refine Ls.guard_t rfl rfl rfl (G.q (r_eqSn rfl rfl) rfl rfl ?_)
              refine Ls.cons (G.q (r_pick rfl rfl rfl) rfl rfl ?_)
              refine Ls.cons (G.q (r_move rfl) rfl rfl ?_)
              obtain ⟨x17, hx18, h19⟩ := bind_some hx13
              refine Ls.cutX (ε := Unit) True (fun e => [(11, .int .i64 x3.1), (51, .bool x17)]) (fun e => Glo :: L) ?_ ?_
              ·
                rcases bif_some hx18 with ⟨hb, hx18⟩ | ⟨hb, hx18⟩
                · refine G.fixB 42 hb rfl ?_
                  refine Ls.guard_f rfl rfl rfl rfl ?_
                  refine Ls.guard_f rfl rfl rfl rfl ?_
                  refine Ls.guard_f rfl rfl rfl rfl ?_
                  refine Ls.cons (G.q (r_pick rfl rfl rfl) rfl rfl ?_)
                  refine Ls.cons (G.q (r_move rfl) rfl rfl ?_)
                  refine Ls.guard_f rfl rfl rfl rfl ?_
                  refine Ls.guard_f rfl rfl rfl rfl ?_
                  refine Ls.guard_f rfl rfl rfl rfl ?_
                  refine Ls.cons (G.q (r_pick rfl rfl rfl) rfl rfl ?_)
                  refine Ls.nil ?_
                  refine Qs.only ?_
                  obtain rfl := Option.some.inj hx18
                  exact Qs.midX () trivial (.cons rfl (.cons rfl (.nil))) (fun _ H => H.to)
                · refine G.fixB 42 hb rfl ?_
                  refine Ls.guard_t rfl rfl rfl (G.q (r_move rfl) rfl rfl ?_)
                  refine Ls.guard_t rfl rfl rfl (G.q (r_move rfl) rfl rfl ?_)
                  refine Ls.guard_t rfl rfl rfl (G.q (r_bin rfl rfl rfl) rfl rfl ?_)
                  refine Ls.cons (G.q (r_pick rfl rfl rfl) rfl rfl ?_)
                  refine Ls.cons (G.q (r_move rfl) rfl rfl ?_)
                  obtain ⟨x20, hx21, h22⟩ := bind_some hx18
                  refine Ls.cutX (ε := Unit) True (fun e => [(11, .int .i64 x3.1), (51, .bool x20)]) (fun e => Glo :: L) ?_ ?_
                  ·
                    rcases bif_some hx21 with ⟨hb, hx21⟩ | ⟨hb, hx21⟩
                    · refine G.fixB 47 hb rfl ?_
                      refine Ls.guard_f rfl rfl rfl rfl ?_
                      refine Ls.guard_f rfl rfl rfl rfl ?_
                      refine Ls.guard_f rfl rfl rfl rfl ?_
                      refine Ls.cons (G.q (r_pick rfl rfl rfl) rfl rfl ?_)
                      refine Ls.nil ?_
                      refine Qs.only ?_
                      obtain rfl := Option.some.inj hx21
                      exact Qs.midX () trivial (.cons rfl (.cons rfl (.nil))) (fun _ H => H.to)
                    · refine G.fixB 47 hb rfl ?_
                      refine Ls.guard_t rfl rfl rfl (G.q (r_move rfl) rfl rfl ?_)
                      refine Ls.guard_t rfl rfl rfl (G.q (r_move rfl) rfl rfl ?_)
                      refine Ls.guard_t rfl rfl rfl (G.q (r_bin rfl rfl rfl) rfl rfl ?_)
                      refine Ls.cons (G.q (r_pick rfl rfl rfl) rfl rfl ?_)
                      refine Ls.nil ?_
                      refine Qs.only ?_
                      obtain rfl := Option.some.inj hx21
                      exact Qs.midX () trivial (.cons rfl (.cons rfl (.nil))) (fun _ H => H.to)
                  ·
                    rintro ⟨⟩ _
                    refine Qs.only ?_
                    obtain rfl := Option.some.inj h22
                    exact Qs.midX () trivial (.cons rfl (.cons rfl (.nil))) (fun _ H => H.to)
              ·
                rintro ⟨⟩ _
                refine Qs.only ?_
                obtain rfl := Option.some.inj h19
                exact Qs.midX () trivial (.cons rfl (.cons rfl (.nil))) (fun _ H => H.to)
          ·
            rintro ⟨⟩ _
            refine Qs.only ?_
            obtain rfl := Option.some.inj h14
            exact Qs.midX () trivial (.cons rfl (.cons rfl (.nil))) (fun _ H => H.to)
      ·
        rintro ⟨⟩ _
        refine Qs.only ?_
        obtain rfl := Option.some.inj h11
        exact Qs.midX () trivial (.cons rfl (.cons rfl (.nil))) (fun _ H => H.to)
  ·
    rintro ⟨⟩ _
    refine Qs.then_n ?_
    rcases bif_some h8 with ⟨hb, h8⟩ | ⟨hb, h8⟩
    · refine Ws.cond_t rfl hb ?_
      refine Ws.seq ?_
      refine Ws.region ?_
      refine Ls.cons (G.q (r_assign rfl) rfl rfl ?_)
      refine Ls.nil ?_
      refine Qs.then_n ?_
      refine Ws.ret ?_
      refine Qs.then_r ?_
      obtain rfl := Option.some.inj h8
      exact W_end (.inl rfl) Tryd.results52 (.tmp rfl .nil) rfl fun w hS => hR w hS.fin
    · refine Ws.cond_f rfl hb ?_
      refine Ws.skip ?_
      refine Qs.then_n ?_
      refine Ws.seq ?_
      refine Ws.region ?_
      refine Ls.cons (G.q (r_move rfl) rfl rfl ?_)
      refine Ls.cons (G.q (r_assign rfl) rfl rfl ?_)
      refine Ls.nil ?_
      refine Qs.then_n ?_
      refine Ws.ret ?_
      obtain rfl := Option.some.inj h8
      exact W_end (.inl rfl) Tryd.results52 (.tmp rfl .nil) rfl fun w hS => hR w hS.fin

def pla_reader_take_1.f (K : Nat) (a0 : Bool) : Option Int :=
  (bif a0 then some 0 else some 2)

theorem pla_reader_take_1.ok {K : Nat} {a0 : Bool} {r : Int} (h : pla_reader_take_1.f K a0 = some r) {τ : Meta} {L : List Itm} {w : World} {R : Ending → World → Prop} (hS : St τ ([] ++ L) w)
    (hR : ∀ w', St τ ([] ++ L) w' → R (.returned (.int .i64 r)) w') : Calls Tryd.prog 51 #[.bool a0] w R := by
  refine enter (vs := [_]) Tryd.func51 rfl Tryd.ntmps51 rfl hS.cat ?_
  unfold pla_reader_take_1.f at h
  refine Ws.seq ?_
  refine Ws.region ?_
  refine Ls.cons (G.q (r_assign rfl) rfl rfl ?_)
  refine Ls.nil ?_
  refine Qs.then_n ?_
  refine Ws.seq ?_
  refine Ws.seq ?_
  refine Ws.region ?_
  refine Ls.cons (G.q (r_move rfl) rfl rfl ?_)
  refine Ls.nil ?_
  refine Qs.then_n ?_
  rcases bif_some h with ⟨hb, h⟩ | ⟨hb, h⟩
  · refine Ws.cond_t rfl hb ?_
    refine Ws.seq ?_
    refine Ws.region ?_
    refine Ls.cons (G.q (r_assign rfl) rfl rfl ?_)
    refine Ls.nil ?_
    refine Qs.then_n ?_
    refine Ws.ret ?_
    refine Qs.then_r ?_
    obtain rfl := Option.some.inj h
    exact W_end (.inl rfl) Tryd.results51 (.tmp rfl .nil) rfl fun w hS => hR w hS.fin
  · refine Ws.cond_f rfl hb ?_
    refine Ws.skip ?_
    refine Qs.then_n ?_
    refine Ws.seq ?_
    refine Ws.region ?_
    refine Ls.cons (G.q (r_assign rfl) rfl rfl ?_)
    refine Ls.nil ?_
    refine Qs.then_n ?_
    refine Ws.ret ?_
    obtain rfl := Option.some.inj h
    exact W_end (.inl rfl) Tryd.results51 (.tmp rfl .nil) rfl fun w hS => hR w hS.fin

def pla_kinds.f (K : Nat)  : Option (List ByteArray) :=
  some [(⟨#[102]⟩ : ByteArray), (⟨#[102, 100]⟩ : ByteArray), (⟨#[102, 114]⟩ : ByteArray), (⟨#[102, 100, 114]⟩ : ByteArray)]

theorem pla_kinds.ok {K : Nat}  {r : (List ByteArray)} (h : pla_kinds.f K  = some r) {τ : Meta} {L : List Itm} {w : World} {R : Ending → World → Prop} (hS : St τ ([] ++ L) w)
    (hR : ∀ (w0 : Value) w', St τ ([Own kS w0 r 9] ++ L) w' → R (.returned (w0)) w') : Calls Tryd.prog 25 #[] w R := by
  refine enter (vs := []) Tryd.func25 rfl Tryd.ntmps25 rfl hS.cat ?_
  unfold pla_kinds.f at h
  refine Ws.seq ?_
  refine Ws.region ?_
  refine Ls.cons (G.q (r_assign rfl) rfl rfl ?_)
  refine Ls.nil ?_
  refine Qs.then_n ?_
  refine Ws.seq ?_
  refine Ws.region ?_
  refine Ls.cons (o_lit kS [(⟨#[102]⟩ : ByteArray), (⟨#[102, 100]⟩ : ByteArray), (⟨#[102, 114]⟩ : ByteArray), (⟨#[102, 100, 114]⟩ : ByteArray)] [.string (⟨#[102]⟩ : ByteArray), .string (⟨#[102, 100]⟩ : ByteArray), .string (⟨#[102, 114]⟩ : ByteArray), .string (⟨#[102, 100, 114]⟩ : ByteArray)] rfl rfl rfl rfl (by kernel_rfl) (.cons (c := [.string (⟨#[102]⟩ : ByteArray)]) inferInstance (.cons (c := [.string (⟨#[102, 100]⟩ : ByteArray)]) inferInstance (.cons (c := [.string (⟨#[102, 114]⟩ : ByteArray)]) inferInstance (.cons (c := [.string (⟨#[102, 100, 114]⟩ : ByteArray)]) inferInstance .nil rfl) rfl) rfl) rfl) rfl fun v1 => ?_)
  refine Ls.cons (G.q (r_assign rfl) rfl rfl ?_)
  refine Ls.nil ?_
  refine Qs.then_n ?_
  refine Ws.ret ?_
  obtain rfl := Option.some.inj h
  exact W_end (.inl rfl) Tryd.results25 (.tmp rfl .nil) rfl fun w hS => hR v1 w hS.fin

def cube_Parse.l1 (K : Nat) (a0 : ByteArray) : Nat → (Int × Int × Nat) → Option ((Int × Int × Int) ⊕ (Int × Int))
  | 0, _ => none
  | j8 + 1, s7 =>
    (bif decide (s7.2.2 < a0.size) then (bif (((Utf8.decode a0 s7.2.2).1 : Int) : Int) == 49 then (bif decide (0 ≤ (s7.2.2 : Int)) then (bif decide (0 ≤ (s7.2.2 : Int)) then cube_Parse.l1 K a0 j8 (iBit .or .u8 s7.1 (iSh .shl .u8 1 (s7.2.2 : Int)), iBit .or .u8 s7.2.1 (iSh .shl .u8 1 (s7.2.2 : Int)), s7.2.2 + (Utf8.decode a0 s7.2.2).2) else none) else none) else (bif (((Utf8.decode a0 s7.2.2).1 : Int) : Int) == 48 then (bif decide (0 ≤ (s7.2.2 : Int)) then cube_Parse.l1 K a0 j8 (iBit .or .u8 s7.1 (iSh .shl .u8 1 (s7.2.2 : Int)), s7.2.1, s7.2.2 + (Utf8.decode a0 s7.2.2).2) else none) else (bif (((Utf8.decode a0 s7.2.2).1 : Int) : Int) == 45 then cube_Parse.l1 K a0 j8 (s7.1, s7.2.1, s7.2.2 + (Utf8.decode a0 s7.2.2).2) else some (.inl (0, 0, 2))))) else some (.inr (s7.1, s7.2.1)))

def cube_Parse.f (K : Nat) (a0 : ByteArray) : Option (Int × Int × Int) :=
  (bif decide (((a0.size : Int) : Int) > 8) then some (0, 0, 2) else ((cube_Parse.l1 K a0 K (0, 0, 0) : Option ((Int × Int × Int) ⊕ (Int × Int))).bind fun y => match y with | .inl r => some r | .inr x4 => some (x4.1, x4.2, 0)))

theorem cube_Parse.ok {K : Nat} {a0 : ByteArray} {r : Int × Int × Int} (h : cube_Parse.f K a0 = some r) {τ : Meta} {L : List Itm} {w : World} {R : Ending → World → Prop} (hS : St τ ([] ++ L) w)
    (hR : ∀ w', St τ ([] ++ L) w' → R (.returned (.tuple #[.agg #[.int .u8 r.1, .int .u8 r.2.1], .int .i64 r.2.2])) w') : Calls Tryd.prog 70 #[.string a0] w R := by
  refine enter (vs := [_]) Tryd.func70 rfl Tryd.ntmps70 rfl hS.cat ?_
  unfold cube_Parse.f at h
  refine Ws.seq ?_
  refine Ws.region ?_
  refine Ls.cons (o_alloc (cs := [.int .u8 0, .int .u8 0]) rfl rfl fun b1 => ?_)
  refine Ls.cons (G.q (r_assign rfl) rfl rfl ?_)
  refine Ls.nil ?_
  refine Qs.then_n ?_
  refine Ws.seq ?_
  refine Ws.seq ?_
  refine Ws.region ?_
  refine Ls.cons (G.q (r_move rfl) rfl rfl ?_)
  refine Ls.cons (G.q (r_lenS rfl) rfl rfl ?_)
  refine Ls.cons (G.q (r_bin rfl rfl rfl) rfl rfl ?_)
  refine Ls.nil ?_
  refine Qs.then_n ?_
  rcases bif_some h with ⟨hb, h⟩ | ⟨hb, h⟩
  · refine Ws.cond_t rfl hb ?_
    refine Ws.seq ?_
    refine Ws.region ?_
    refine Ls.cons (G.q (r_build [.int .u8 0, .int .u8 0] rfl (by kernel_rfl)) rfl rfl ?_)
    refine Ls.cons (o_store (vs := [.int .u8 0, .int .u8 0]) rfl rfl rfl rfl ?_)
    refine Ls.cons (G.q (r_assign rfl) rfl rfl ?_)
    refine Ls.nil ?_
    refine Qs.then_n ?_
    refine Ws.ret ?_
    refine Qs.then_r ?_
    obtain rfl := Option.some.inj h
    exact W_end (.inl rfl) Tryd.results70 (.cellN rfl rfl (.tmp rfl .nil)) rfl fun w hS => hR w hS.fin
  · refine Ws.cond_f rfl hb ?_
    refine Ws.skip ?_
    refine Qs.then_n ?_
    refine Ws.seq ?_
    refine Ws.region ?_
    refine Ls.cons (o_alloc (cs := [.int .u8 0, .int .u8 0]) rfl rfl fun b2 => ?_)
    refine Ls.nil ?_
    refine Qs.then_n ?_
    refine Ws.seq ?_
    refine Ws.seq ?_
    refine Ws.region ?_
    refine Ls.cons (G.q (r_move rfl) rfl rfl ?_)
    refine Ls.cons (o_rangeS rfl rfl fun r3 => ?_)
    refine Ls.nil ?_
    refine Qs.then_n ?_
    obtain ⟨x4, hx5, h6⟩ := bind_some h
    refine Ws.cutX (ε := Unit) (isR x4 = true) (fun e => [(2, .pointer (some ⟨b1, 0, none⟩)), (4, .pointer (some ⟨b2, 0, none⟩))]) (fun e => Cells b1 [.int .u8 0, .int .u8 0] 42 :: Cells b2 [.int .u8 ((getR (0, 0) x4).1), .int .u8 ((getR (0, 0) x4).2)] 42 :: L) ?_ ?_
    ·
      refine Ws.block ?_
      refine Ws.loop (ε := Unit) (cube_Parse.l1 K a0) (fun s e => [(2, .pointer (some ⟨b1, 0, none⟩)), (4, .pointer (some ⟨b2, 0, none⟩)), (12, .pointer (some ⟨r3, 0, none⟩))]) (fun s e => Cells b1 [.int .u8 0, .int .u8 0] 42 :: Cells b2 [.int .u8 s.1, .int .u8 s.2.1] 42 :: SIt r3 a0 s.2.2 :: L) () hx5 (.cons rfl (.cons rfl (.cons rfl (.nil)))) (fun _ H => H.to) ?_
      rintro j8 s7 ⟨⟩ h9
      cases j8 with
      | zero => cases (show none = some _ from h9)
      | succ j8 =>
        rw [cube_Parse.l1] at h9
        refine Ws.seq ?_
        refine Ws.region ?_
        rcases bif_some h9 with ⟨hb, h9⟩ | ⟨hb, h9⟩
        ·
          refine Ls.cons (o_nextT rfl hb rfl ?_)
          refine Ls.cons (G.q (r_extract rfl rfl) rfl rfl ?_)
          refine Ls.nil ?_
          refine Qs.then_n ?_
          refine Ws.seq ?_
          refine Ws.cond_t rfl rfl ?_
          refine Ws.skip ?_
          refine Qs.then_n ?_
          refine Ws.block ?_
          refine Ws.seq ?_
          refine Ws.region ?_
          refine Ls.cons (G.q (r_extract rfl rfl) rfl rfl ?_)
          refine Ls.cons (G.q (r_extract rfl rfl) rfl rfl ?_)
          refine Ls.cons (G.q (r_assign rfl) rfl rfl ?_)
          refine Ls.cons (G.q (r_assign rfl) rfl rfl ?_)
          refine Ls.nil ?_
          refine Qs.then_n ?_
          refine Ws.seq ?_
          refine Ws.region ?_
          refine Ls.cons (G.q (r_move rfl) rfl rfl ?_)
          refine Ls.nil ?_
          refine Qs.then_n ?_
          refine Ws.block ?_
          refine Ws.seq ?_
          refine Ws.region ?_
          refine Ls.cons (G.q (r_bin rfl rfl rfl) rfl rfl ?_)
          refine Ls.cons (G.q (r_assign rfl) rfl rfl ?_)
          refine Ls.nil ?_
          refine Qs.then_n ?_
          rcases bif_some h9 with ⟨hb, h9⟩ | ⟨hb, h9⟩
          · refine Ws.cond_t rfl hb ?_
            refine Ws.seq ?_
            refine D.start [Cells b1 [.int .u8 0, .int .u8 0] 42, Cells b2 [.int .u8 s7.1, .int .u8 s7.2.1] 42, SIt r3 a0 (s7.2.2 + (Utf8.decode a0 s7.2.2).2)] rfl ?_
            refine D.take 0 rfl (by kernel_rfl) (r_field rfl) rfl ?_
            refine D.take 1 rfl (by kernel_rfl) (r_load rfl rfl) rfl ?_
            refine D.take 2 rfl (by kernel_rfl) (r_move rfl) rfl ?_
            rcases bif_some h9 with ⟨hb, h9⟩ | ⟨_, h9⟩
            rotate_left
            · cases h9
            refine D.take 3 rfl (by kernel_rfl) (r_sh rfl rfl rfl (of_decide_eq_true hb)) rfl ?_
            refine D.take 4 rfl (by kernel_rfl) (r_bit rfl rfl rfl) rfl ?_
            refine D.tail (by kernel_rfl) ?_
            refine A.run 5 rfl (by kernel_rfl) (G.q (r_field rfl) rfl rfl ?_)
            refine A.run 6 rfl (by kernel_rfl) (o_store (vs := [.int .u8 (iBit .or .u8 s7.2.1 (iSh .shl .u8 1 (s7.2.2 : Int)))]) rfl rfl rfl rfl ?_)
            refine A.done (by kernel_rfl) ?_
            refine Qs.then_n ?_
            refine D.start [Cells b1 [.int .u8 0, .int .u8 0] 42, Cells b2 [.int .u8 s7.1, .int .u8 (iBit .or .u8 s7.2.1 (iSh .shl .u8 1 (s7.2.2 : Int)))] 42, SIt r3 a0 (s7.2.2 + (Utf8.decode a0 s7.2.2).2)] rfl ?_
            refine D.take 0 rfl (by kernel_rfl) (r_field rfl) rfl ?_
            refine D.take 1 rfl (by kernel_rfl) (r_load rfl rfl) rfl ?_
            refine D.take 2 rfl (by kernel_rfl) (r_move rfl) rfl ?_
            rcases bif_some h9 with ⟨hb, h9⟩ | ⟨_, h9⟩
            rotate_left
            · cases h9
            refine D.take 3 rfl (by kernel_rfl) (r_sh rfl rfl rfl (of_decide_eq_true hb)) rfl ?_
            refine D.take 4 rfl (by kernel_rfl) (r_bit rfl rfl rfl) rfl ?_
            refine D.tail (by kernel_rfl) ?_
            refine A.run 5 rfl (by kernel_rfl) (G.q (r_field rfl) rfl rfl ?_)
            refine A.run 6 rfl (by kernel_rfl) (o_store (vs := [.int .u8 (iBit .or .u8 s7.1 (iSh .shl .u8 1 (s7.2.2 : Int)))]) rfl rfl rfl rfl ?_)
            refine A.done (by kernel_rfl) ?_
            refine Qs.block_n ?_
            refine Qs.block_n ?_
            refine Qs.then_n ?_
            exact Qs.again () h9 (Nat.lt_succ_self _) (.cons rfl (.cons rfl (.cons rfl (.nil)))) (fun _ H => H.to)
          · refine Ws.cond_f rfl hb ?_
            refine Ws.seq ?_
            refine Ws.region ?_
            refine Ls.cons (G.q (r_bin rfl rfl rfl) rfl rfl ?_)
            refine Ls.cons (G.q (r_assign rfl) rfl rfl ?_)
            refine Ls.nil ?_
            refine Qs.then_n ?_
            rcases bif_some h9 with ⟨hb, h9⟩ | ⟨hb, h9⟩
            · refine Ws.cond_t rfl hb ?_
              refine D.start [Cells b1 [.int .u8 0, .int .u8 0] 42, Cells b2 [.int .u8 s7.1, .int .u8 s7.2.1] 42, SIt r3 a0 (s7.2.2 + (Utf8.decode a0 s7.2.2).2)] rfl ?_
              refine D.take 0 rfl (by kernel_rfl) (r_field rfl) rfl ?_
              refine D.take 1 rfl (by kernel_rfl) (r_load rfl rfl) rfl ?_
              refine D.take 2 rfl (by kernel_rfl) (r_move rfl) rfl ?_
              rcases bif_some h9 with ⟨hb, h9⟩ | ⟨_, h9⟩
              rotate_left
              · cases h9
              refine D.take 3 rfl (by kernel_rfl) (r_sh rfl rfl rfl (of_decide_eq_true hb)) rfl ?_
              refine D.take 4 rfl (by kernel_rfl) (r_bit rfl rfl rfl) rfl ?_
              refine D.tail (by kernel_rfl) ?_
              refine A.run 5 rfl (by kernel_rfl) (G.q (r_field rfl) rfl rfl ?_)
              refine A.run 6 rfl (by kernel_rfl) (o_store (vs := [.int .u8 (iBit .or .u8 s7.1 (iSh .shl .u8 1 (s7.2.2 : Int)))]) rfl rfl rfl rfl ?_)
              refine A.done (by kernel_rfl) ?_
              refine Qs.block_n ?_
              refine Qs.block_n ?_
              refine Qs.then_n ?_
              exact Qs.again () h9 (Nat.lt_succ_self _) (.cons rfl (.cons rfl (.cons rfl (.nil)))) (fun _ H => H.to)
            · refine Ws.cond_f rfl hb ?_
              refine Ws.seq ?_
              refine Ws.region ?_
              refine Ls.cons (G.q (r_bin rfl rfl rfl) rfl rfl ?_)
              refine Ls.cons (G.q (r_assign rfl) rfl rfl ?_)
              refine Ls.nil ?_
              refine Qs.then_n ?_
              rcases bif_some h9 with ⟨hb, h9⟩ | ⟨hb, h9⟩
              · refine Ws.cond_t rfl hb ?_
                refine Ws.skip ?_
                refine Qs.block_n ?_
                refine Qs.block_n ?_
                refine Qs.then_n ?_
                exact Qs.again () h9 (Nat.lt_succ_self _) (.cons rfl (.cons rfl (.cons rfl (.nil)))) (fun _ H => H.to)
              · refine Ws.cond_f rfl hb ?_
                refine Ws.seq ?_
                refine Ws.region ?_
                refine Ls.cons (G.q (r_build [.int .u8 0, .int .u8 0] rfl (by kernel_rfl)) rfl rfl ?_)
                refine Ls.cons (o_store (vs := [.int .u8 0, .int .u8 0]) rfl rfl rfl rfl ?_)
                refine Ls.cons (G.q (r_assign rfl) rfl rfl ?_)
                refine Ls.nil ?_
                refine Qs.then_n ?_
                refine Ws.ret ?_
                refine Qs.block_r ?_
                refine Qs.block_r ?_
                refine Qs.then_r ?_
                refine Qs.block_r ?_
                refine Qs.then_r ?_
                obtain rfl := Option.some.inj h9
                obtain rfl := Option.some.inj h6
                exact W_end (.inl rfl) Tryd.results70 (.cellN rfl rfl (.tmp rfl .nil)) rfl fun w hS => hR w hS.fin
        ·
          refine Ls.cons (o_nextE rfl hb rfl ?_)
          refine Ls.cons (G.q (r_extract rfl rfl) rfl rfl ?_)
          refine Ls.nil ?_
          refine Qs.then_n ?_
          refine Ws.seq ?_
          refine Ws.cond_f rfl rfl ?_
          refine Ws.exit ?_
          refine Qs.then_e ?_
          refine Qs.then_e ?_
          refine Qs.block_e ?_
          refine Qs.then_n ?_
          obtain rfl := Option.some.inj h9
          exact Qs.midX () rfl (.cons rfl (.cons rfl (.nil))) (fun _ H => H.to)
    ·
      rintro ⟨⟩ hφ
      cases x4 with
      | inl _ => cases hφ
      | inr x4 =>
        refine Ws.seq ?_
        refine Ws.region ?_
        refine Ls.cons (G.q (r_loadN rfl rfl) rfl rfl ?_)
        refine Ls.cons (o_store (vs := [.int .u8 x4.1, .int .u8 x4.2]) rfl rfl rfl rfl ?_)
        refine Ls.cons (G.q (r_assign rfl) rfl rfl ?_)
        refine Ls.nil ?_
        refine Qs.then_n ?_
        refine Ws.ret ?_
        obtain rfl := Option.some.inj h6
        exact W_end (.inl rfl) Tryd.results70 (.cellN rfl rfl (.tmp rfl .nil)) rfl fun w hS => hR w hS.fin

def pla_reader_row.l1 (K : Nat) (x1 : ByteArray × ByteArray × Bool) (a3 : List (Int × Int × (List Int))) : Nat → ((List Int) × Nat) → Option ((Bool × (List (Int × Int × (List Int)))) ⊕ (List Int))
  | 0, _ => none
  | j21 + 1, s20 =>
    (bif decide (s20.2 < x1.2.1.size) then (((bif (((Utf8.decode x1.2.1 s20.2).1 : Int) : Int) == 48 then some ((((Utf8.decode x1.2.1 s20.2).1 : Int) : Int) == 48) else some ((((Utf8.decode x1.2.1 s20.2).1 : Int) : Int) == 49))).bind fun x24 => (bif x24 then (bif decide (s20.1.length + [IntKind.wrap .i64 (IntKind.wrap .i32 (((Utf8.decode x1.2.1 s20.2).1 : Int) - 48))].length ≤ 1099511627776) then pla_reader_row.l1 K x1 a3 j21 (s20.1 ++ [IntKind.wrap .i64 (IntKind.wrap .i32 (((Utf8.decode x1.2.1 s20.2).1 : Int) - 48))], s20.2 + (Utf8.decode x1.2.1 s20.2).2) else none) else (bif (((Utf8.decode x1.2.1 s20.2).1 : Int) : Int) == 45 then (bif decide (s20.1.length + [2].length ≤ 1099511627776) then pla_reader_row.l1 K x1 a3 j21 (s20.1 ++ [2], s20.2 + (Utf8.decode x1.2.1 s20.2).2) else none) else some (.inl (false, a3))))) else some (.inr s20.1))

def pla_reader_row.f (K : Nat) (a0 : Int) (a1 : Int) (a2 : Int) (a3 : List (Int × Int × (List Int))) (a4 : Int) (a5 : Int) (a6 : ByteArray) : Option (Bool × (List (Int × Int × (List Int)))) :=
  ((strings_Cut.f K a6 (⟨#[32]⟩ : ByteArray)).bind fun x1 => ((cube_Parse.f K x1.1).bind fun x3 => (((bif !x1.2.2 then some true else (((bif (x3.2.2 : Int) != 0 then some true else (((bif ((x1.1.size : Int) : Int) != a1 then some true else some (((x1.2.1.size : Int) : Int) != a2))).bind fun x12 => some x12))).bind fun x9 => some x9))).bind fun x6 => (bif x6 then some (false, a3) else ((pla_reader_row.l1 K x1 a3 K ([], 0) : Option ((Bool × (List (Int × Int × (List Int)))) ⊕ ((List Int)))).bind fun y => match y with | .inl r => some r | .inr x17 => (bif decide (a3.length + [(x3.1, x3.2.1, x17)].length ≤ 1099511627776) then some (true, a3 ++ [(x3.1, x3.2.1, x17)]) else none))))))

theorem pla_reader_row.ok {K : Nat} {a0 : Int} {a1 : Int} {a2 : Int} {a3 : List (Int × Int × (List Int))} {a4 : Int} {a5 : Int} {a6 : ByteArray} {B0 : Nat} {V1 : Value} {r : Bool × (List (Int × Int × (List Int)))} (h : pla_reader_row.f K a0 a1 a2 a3 a4 a5 a6 = some r) {τ : Meta} {L : List Itm} {w : World} {R : Ending → World → Prop} (hS : St τ ([Cells B0 [.int .i64 a0, .int .i64 a1, .int .i64 a2, V1, .int .i64 a4, .int .i64 a5] 65, Own (kP (kI .u8) (kP (kI .u8) (kL (kI .i64)))) V1 a3 45, Glo] ++ L) w)
    (hR : ∀ (w0 : Value) w', St τ ([Own (kP (kI .u8) (kP (kI .u8) (kL (kI .i64)))) w0 r.2 45, Cells B0 [.int .i64 a0, .int .i64 a1, .int .i64 a2, w0, .int .i64 a4, .int .i64 a5] 65] ++ L) w' → R (.returned (.bool r.1)) w') : Calls Tryd.prog 54 #[.pointer (some ⟨B0, 0, none⟩), .string a6] w R := by
  refine enter (vs := [_, _]) Tryd.func54 rfl Tryd.ntmps54 rfl hS.cat ?_
  unfold pla_reader_row.f at h
  refine Ws.seq ?_
  refine Ws.region ?_
  refine Ls.cons (G.q (r_assign rfl) rfl rfl ?_)
  refine Ls.nil ?_
  refine Qs.then_n ?_
  refine Ws.seq ?_
  refine Ws.region ?_
  refine Ls.cons (G.q (r_move rfl) rfl rfl ?_)
  obtain ⟨x1, hx2, h⟩ := bind_some h
  refine Ls.cons (o_call Tryd.call69 rfl fun a_ w_ hK_ hS_ => strings_Cut.ok hx2 hS_.sels fun w1_ hS1_ => atRet (G.goA ?_ (hK_.put rfl _) hS1_))
  clear hS1_ w1_ hS_ hK_ w_ a_
  refine Ls.cons (G.q (r_move rfl) rfl rfl ?_)
  refine Ls.cons (G.q (r_extract rfl rfl) rfl rfl ?_)
  refine Ls.cons (G.q (r_extract rfl rfl) rfl rfl ?_)
  refine Ls.cons (G.q (r_extract rfl rfl) rfl rfl ?_)
  refine Ls.cons (G.q (r_assign rfl) rfl rfl ?_)
  refine Ls.cons (G.q (r_assign rfl) rfl rfl ?_)
  refine Ls.cons (G.q (r_assign rfl) rfl rfl ?_)
  refine Ls.nil ?_
  refine Qs.then_n ?_
  refine Ws.seq ?_
  refine Ws.region ?_
  refine Ls.cons (G.q (r_move rfl) rfl rfl ?_)
  obtain ⟨x3, hx4, h⟩ := bind_some h
  refine Ls.cons (o_call Tryd.call70 rfl fun a_ w_ hK_ hS_ => cube_Parse.ok hx4 hS_.sels fun w1_ hS1_ => atRet (G.goA ?_ (hK_.put rfl _) hS1_))
  clear hS1_ w1_ hS_ hK_ w_ a_
  refine Ls.cons (G.q (r_move rfl) rfl rfl ?_)
  refine Ls.cons (G.q (r_extract rfl rfl) rfl rfl ?_)
  refine Ls.cons (G.q (r_extract rfl rfl) rfl rfl ?_)
  refine Ls.cons (o_alloc (cs := [.int .u8 0, .int .u8 0]) rfl rfl fun b5 => ?_)
  refine Ls.cons (o_store (vs := [.int .u8 x3.1, .int .u8 x3.2.1]) rfl rfl rfl rfl ?_)
  refine Ls.cons (G.q (r_assign rfl) rfl rfl ?_)
  refine Ls.nil ?_
  refine Qs.then_n ?_
  refine Ws.seq ?_
  refine Ws.seq ?_
  refine Ws.region ?_
  refine Ls.cons (G.q (r_move rfl) rfl rfl ?_)
  refine Ls.cons (G.q (r_not rfl) rfl rfl ?_)
  refine Ls.cons (G.q (r_move rfl) rfl rfl ?_)
  obtain ⟨x6, hx7, h8⟩ := bind_some h
  refine Ls.cutX (ε := Unit) True (fun e => [(0, .pointer (some ⟨B0, 0, none⟩)), (6, .string x1.2.1), (8, .pointer (some ⟨b5, 0, none⟩)), (49, .bool x6)]) (fun e => Glo :: Cells B0 [.int .i64 a0, .int .i64 a1, .int .i64 a2, V1, .int .i64 a4, .int .i64 a5] 65 :: Cells b5 [.int .u8 x3.1, .int .u8 x3.2.1] 42 :: Own (kP (kI .u8) (kP (kI .u8) (kL (kI .i64)))) V1 a3 45 :: L) ?_ ?_
  ·
    rcases bif_some hx7 with ⟨hb, hx7⟩ | ⟨hb, hx7⟩
    · refine G.fixB 26 hb rfl ?_
      refine Ls.guard_f rfl rfl rfl rfl ?_
      refine Ls.guard_f rfl rfl rfl rfl ?_
      refine Ls.cons (G.q (r_pick rfl rfl rfl) rfl rfl ?_)
      refine Ls.cons (G.q (r_move rfl) rfl rfl ?_)
      refine Ls.guard_f rfl rfl rfl rfl ?_
      refine Ls.guard_f rfl rfl rfl rfl ?_
      refine Ls.guard_f rfl rfl rfl rfl ?_
      refine Ls.guard_f rfl rfl rfl rfl ?_
      refine Ls.guard_f rfl rfl rfl rfl ?_
      refine Ls.guard_f rfl rfl rfl rfl ?_
      refine Ls.guard_f rfl rfl rfl rfl ?_
      refine Ls.guard_f rfl rfl rfl rfl ?_
      refine Ls.cons (G.q (r_pick rfl rfl rfl) rfl rfl ?_)
      refine Ls.cons (G.q (r_move rfl) rfl rfl ?_)
      refine Ls.guard_f rfl rfl rfl rfl ?_
      refine Ls.guard_f rfl rfl rfl rfl ?_
      refine Ls.guard_f rfl rfl rfl rfl ?_
      refine Ls.guard_f rfl rfl rfl rfl ?_
      refine Ls.guard_f rfl rfl rfl rfl ?_
      refine Ls.guard_f rfl rfl rfl rfl ?_
      refine Ls.guard_f rfl rfl rfl rfl ?_
      refine Ls.guard_f rfl rfl rfl rfl ?_
      refine Ls.cons (G.q (r_pick rfl rfl rfl) rfl rfl ?_)
      refine Ls.nil ?_
      refine Qs.only ?_
      obtain rfl := Option.some.inj hx7
      exact Qs.midX () trivial (.cons rfl (.cons rfl (.cons rfl (.cons rfl (.nil))))) (fun _ H => H.to)
    · refine G.fixB 26 hb rfl ?_
      refine Ls.guard_t rfl rfl rfl (G.q (r_move rfl) rfl rfl ?_)
      refine Ls.guard_t rfl rfl rfl (G.q (r_bin rfl rfl rfl) rfl rfl ?_)
      refine Ls.cons (G.q (r_pick rfl rfl rfl) rfl rfl ?_)
      refine Ls.cons (G.q (r_move rfl) rfl rfl ?_)
      obtain ⟨x9, hx10, h11⟩ := bind_some hx7
      refine Ls.cutX (ε := Unit) True (fun e => [(0, .pointer (some ⟨B0, 0, none⟩)), (6, .string x1.2.1), (8, .pointer (some ⟨b5, 0, none⟩)), (49, .bool x9)]) (fun e => Glo :: Cells B0 [.int .i64 a0, .int .i64 a1, .int .i64 a2, V1, .int .i64 a4, .int .i64 a5] 65 :: Cells b5 [.int .u8 x3.1, .int .u8 x3.2.1] 42 :: Own (kP (kI .u8) (kP (kI .u8) (kL (kI .i64)))) V1 a3 45 :: L) ?_ ?_
      ·
        rcases bif_some hx10 with ⟨hb, hx10⟩ | ⟨hb, hx10⟩
        · refine G.fixB 30 hb rfl ?_
          refine Ls.guard_f rfl rfl rfl rfl ?_
          refine Ls.guard_f rfl rfl rfl rfl ?_
          refine Ls.guard_f rfl rfl rfl rfl ?_
          refine Ls.guard_f rfl rfl rfl rfl ?_
          refine Ls.guard_f rfl rfl rfl rfl ?_
          refine Ls.guard_f rfl rfl rfl rfl ?_
          refine Ls.guard_f rfl rfl rfl rfl ?_
          refine Ls.guard_f rfl rfl rfl rfl ?_
          refine Ls.cons (G.q (r_pick rfl rfl rfl) rfl rfl ?_)
          refine Ls.cons (G.q (r_move rfl) rfl rfl ?_)
          refine Ls.guard_f rfl rfl rfl rfl ?_
          refine Ls.guard_f rfl rfl rfl rfl ?_
          refine Ls.guard_f rfl rfl rfl rfl ?_
          refine Ls.guard_f rfl rfl rfl rfl ?_
          refine Ls.guard_f rfl rfl rfl rfl ?_
          refine Ls.guard_f rfl rfl rfl rfl ?_
          refine Ls.guard_f rfl rfl rfl rfl ?_
          refine Ls.guard_f rfl rfl rfl rfl ?_
          refine Ls.cons (G.q (r_pick rfl rfl rfl) rfl rfl ?_)
          refine Ls.nil ?_
          refine Qs.only ?_
          obtain rfl := Option.some.inj hx10
          exact Qs.midX () trivial (.cons rfl (.cons rfl (.cons rfl (.cons rfl (.nil))))) (fun _ H => H.to)
        · refine G.fixB 30 hb rfl ?_
          refine Ls.guard_t rfl rfl rfl (G.q (r_move rfl) rfl rfl ?_)
          refine Ls.guard_t rfl rfl rfl (G.q (r_lenS rfl) rfl rfl ?_)
          refine Ls.guard_t rfl rfl rfl (G.q (r_move rfl) rfl rfl ?_)
          refine Ls.guard_t rfl rfl rfl (G.q (r_nilCheck rfl) rfl rfl ?_)
          refine Ls.guard_t rfl rfl rfl (G.q (r_field rfl) rfl rfl ?_)
          refine Ls.guard_t rfl rfl rfl (G.q (r_field rfl) rfl rfl ?_)
          refine Ls.guard_t rfl rfl rfl (G.q (r_load rfl rfl) rfl rfl ?_)
          refine Ls.guard_t rfl rfl rfl (G.q (r_bin rfl rfl rfl) rfl rfl ?_)
          refine Ls.cons (G.q (r_pick rfl rfl rfl) rfl rfl ?_)
          refine Ls.cons (G.q (r_move rfl) rfl rfl ?_)
          obtain ⟨x12, hx13, h14⟩ := bind_some hx10
          refine Ls.cutX (ε := Unit) True (fun e => [(0, .pointer (some ⟨B0, 0, none⟩)), (6, .string x1.2.1), (8, .pointer (some ⟨b5, 0, none⟩)), (49, .bool x12)]) (fun e => Glo :: Cells B0 [.int .i64 a0, .int .i64 a1, .int .i64 a2, V1, .int .i64 a4, .int .i64 a5] 65 :: Cells b5 [.int .u8 x3.1, .int .u8 x3.2.1] 42 :: Own (kP (kI .u8) (kP (kI .u8) (kL (kI .i64)))) V1 a3 45 :: L) ?_ ?_
          ·
            rcases bif_some hx13 with ⟨hb, hx13⟩ | ⟨hb, hx13⟩
            · refine G.fixB 40 hb rfl ?_
              refine Ls.guard_f rfl rfl rfl rfl ?_
              refine Ls.guard_f rfl rfl rfl rfl ?_
              refine Ls.guard_f rfl rfl rfl rfl ?_
              refine Ls.guard_f rfl rfl rfl rfl ?_
              refine Ls.guard_f rfl rfl rfl rfl ?_
              refine Ls.guard_f rfl rfl rfl rfl ?_
              refine Ls.guard_f rfl rfl rfl rfl ?_
              refine Ls.guard_f rfl rfl rfl rfl ?_
              refine Ls.cons (G.q (r_pick rfl rfl rfl) rfl rfl ?_)
              refine Ls.nil ?_
              refine Qs.only ?_
              obtain rfl := Option.some.inj hx13
              exact Qs.midX () trivial (.cons rfl (.cons rfl (.cons rfl (.cons rfl (.nil))))) (fun _ H => H.to)
            · refine G.fixB 40 hb rfl ?_
              refine Ls.guard_t rfl rfl rfl (G.q (r_move rfl) rfl rfl ?_)
              refine Ls.guard_t rfl rfl rfl (G.q (r_lenS rfl) rfl rfl ?_)
              refine Ls.guard_t rfl rfl rfl (G.q (r_move rfl) rfl rfl ?_)
              refine Ls.guard_t rfl rfl rfl (G.q (r_nilCheck rfl) rfl rfl ?_)
              refine Ls.guard_t rfl rfl rfl (G.q (r_field rfl) rfl rfl ?_)
              refine Ls.guard_t rfl rfl rfl (G.q (r_field rfl) rfl rfl ?_)
              refine Ls.guard_t rfl rfl rfl (G.q (r_load rfl rfl) rfl rfl ?_)
              refine Ls.guard_t rfl rfl rfl (G.q (r_bin rfl rfl rfl) rfl rfl ?_)
              refine Ls.cons (G.q (r_pick rfl rfl rfl) rfl rfl ?_)
              refine Ls.nil ?_
              refine Qs.only ?_
              obtain rfl := Option.some.inj hx13
              exact Qs.midX () trivial (.cons rfl (.cons rfl (.cons rfl (.cons rfl (.nil))))) (fun _ H => H.to)
          ·
            rintro ⟨⟩ _
            refine Qs.only ?_
            obtain rfl := Option.some.inj h14
            exact Qs.midX () trivial (.cons rfl (.cons rfl (.cons rfl (.cons rfl (.nil))))) (fun _ H => H.to)
      ·
        rintro ⟨⟩ _
        refine Qs.only ?_
        obtain rfl := Option.some.inj h11
        exact Qs.midX () trivial (.cons rfl (.cons rfl (.cons rfl (.cons rfl (.nil))))) (fun _ H => H.to)
  ·
    rintro ⟨⟩ _
    refine Qs.then_n ?_
    rcases bif_some h8 with ⟨hb, h8⟩ | ⟨hb, h8⟩
    · refine Ws.cond_t rfl hb ?_
      refine Ws.seq ?_
      refine Ws.region ?_
      refine Ls.cons (G.q (r_assign rfl) rfl rfl ?_)
      refine Ls.nil ?_
      refine Qs.then_n ?_
      refine Ws.ret ?_
      refine Qs.then_r ?_
      obtain rfl := Option.some.inj h8
      exact W_end (.inl rfl) Tryd.results54 (.tmp rfl .nil) rfl fun w hS => hR V1 w hS.fin
    · refine Ws.cond_f rfl hb ?_
      refine Ws.skip ?_
      refine Qs.then_n ?_
      refine Ws.seq ?_
      refine Ws.region ?_
      refine Ls.cons (G.q (r_loadN rfl rfl) rfl rfl ?_)
      refine Ls.cons (G.q (r_build [.int .u8 x3.1, .int .u8 x3.2.1, .slice none 0 0] rfl (by kernel_rfl)) rfl rfl ?_)
      refine Ls.cons (o_alloc (cs := [.int .u8 0, .int .u8 0, .slice none 0 0]) rfl rfl fun b15 => ?_)
      refine Ls.cons (o_store (vs := [.int .u8 x3.1, .int .u8 x3.2.1, .slice none 0 0]) rfl rfl rfl rfl ?_)
      refine Ls.nil ?_
      refine Qs.then_n ?_
      refine Ws.seq ?_
      refine Ws.seq ?_
      refine Ws.region ?_
      refine Ls.cons (G.q (r_move rfl) rfl rfl ?_)
      refine Ls.cons (o_rangeS rfl rfl fun r16 => ?_)
      refine Ls.nil ?_
      refine Qs.then_n ?_
      obtain ⟨x17, hx18, h19⟩ := bind_some h8
      refine Ws.cutX (ε := Value) (isR x17 = true) (fun e => [(0, .pointer (some ⟨B0, 0, none⟩)), (10, .pointer (some ⟨b15, 0, none⟩))]) (fun e => Glo :: Cells B0 [.int .i64 a0, .int .i64 a1, .int .i64 a2, V1, .int .i64 a4, .int .i64 a5] 65 :: Own (kI .i64) e (getR [] x17) 3 :: Cells b15 [.int .u8 x3.1, .int .u8 x3.2.1, e] 45 :: Own (kP (kI .u8) (kP (kI .u8) (kL (kI .i64)))) V1 a3 45 :: L) ?_ ?_
      ·
        refine Ws.block ?_
        refine Ws.loop (ε := Value) (pla_reader_row.l1 K x1 a3) (fun s e => [(0, .pointer (some ⟨B0, 0, none⟩)), (10, .pointer (some ⟨b15, 0, none⟩)), (53, .pointer (some ⟨r16, 0, none⟩))]) (fun s e => Glo :: Cells B0 [.int .i64 a0, .int .i64 a1, .int .i64 a2, V1, .int .i64 a4, .int .i64 a5] 65 :: Own (kI .i64) e s.1 3 :: Cells b15 [.int .u8 x3.1, .int .u8 x3.2.1, e] 45 :: SIt r16 x1.2.1 s.2 :: Own (kP (kI .u8) (kP (kI .u8) (kL (kI .i64)))) V1 a3 45 :: L) (.slice none 0 0) hx18 (.cons rfl (.cons rfl (.cons rfl (.nil)))) (fun _ H => H.to) ?_
        rintro j21 s20 e23 h22
        cases j21 with
        | zero => cases (show none = some _ from h22)
        | succ j21 =>
          rw [pla_reader_row.l1] at h22
          refine Ws.seq ?_
          refine Ws.region ?_
          rcases bif_some h22 with ⟨hb, h22⟩ | ⟨hb, h22⟩
          ·
            refine Ls.cons (o_nextT rfl hb rfl ?_)
            refine Ls.cons (G.q (r_extract rfl rfl) rfl rfl ?_)
            refine Ls.nil ?_
            refine Qs.then_n ?_
            refine Ws.seq ?_
            refine Ws.cond_t rfl rfl ?_
            refine Ws.skip ?_
            refine Qs.then_n ?_
            refine Ws.block ?_
            refine Ws.seq ?_
            refine Ws.region ?_
            refine Ls.cons (G.q (r_extract rfl rfl) rfl rfl ?_)
            refine Ls.cons (G.q (r_assign rfl) rfl rfl ?_)
            refine Ls.nil ?_
            refine Qs.then_n ?_
            refine Ws.seq ?_
            refine Ws.region ?_
            refine Ls.cons (G.q (r_move rfl) rfl rfl ?_)
            refine Ls.nil ?_
            refine Qs.then_n ?_
            refine Ws.block ?_
            refine Ws.seq ?_
            refine Ws.seq ?_
            refine Ws.region ?_
            refine Ls.cons (G.q (r_bin rfl rfl rfl) rfl rfl ?_)
            refine Ls.cons (G.q (r_assign rfl) rfl rfl ?_)
            refine Ls.nil ?_
            refine Qs.then_n ?_
            obtain ⟨x24, hx25, h26⟩ := bind_some h22
            refine Ws.cutX (ε := Unit) (True) (fun e => [(0, .pointer (some ⟨B0, 0, none⟩)), (10, .pointer (some ⟨b15, 0, none⟩)), (12, .int .i32 ((Utf8.decode x1.2.1 s20.2).1 : Int)), (53, .pointer (some ⟨r16, 0, none⟩)), (57, .int .i32 ((Utf8.decode x1.2.1 s20.2).1 : Int)), (58, .bool x24)]) (fun e => Glo :: Cells B0 [.int .i64 a0, .int .i64 a1, .int .i64 a2, V1, .int .i64 a4, .int .i64 a5] 65 :: Cells b15 [.int .u8 x3.1, .int .u8 x3.2.1, e23] 45 :: SIt r16 x1.2.1 (s20.2 + (Utf8.decode x1.2.1 s20.2).2) :: Own (kP (kI .u8) (kP (kI .u8) (kL (kI .i64)))) V1 a3 45 :: Own (kI .i64) e23 s20.1 3 :: L) ?_ ?_
            ·
              rcases bif_some hx25 with ⟨hb, hx25⟩ | ⟨hb, hx25⟩
              · refine Ws.cond_t rfl hb ?_
                refine Ws.skip ?_
                refine Qs.then_n ?_
                obtain rfl := Option.some.inj hx25
                exact Qs.midX () trivial (.cons rfl (.cons rfl (.cons rfl (.cons rfl (.cons rfl (.cons rfl (.nil))))))) (fun _ H => H.to)
              · refine Ws.cond_f rfl hb ?_
                refine Ws.region ?_
                refine Ls.cons (G.q (r_bin rfl rfl rfl) rfl rfl ?_)
                refine Ls.cons (G.q (r_assign rfl) rfl rfl ?_)
                refine Ls.nil ?_
                refine Qs.then_n ?_
                obtain rfl := Option.some.inj hx25
                exact Qs.midX () trivial (.cons rfl (.cons rfl (.cons rfl (.cons rfl (.cons rfl (.cons rfl (.nil))))))) (fun _ H => H.to)
            ·
              rintro ⟨⟩ hφ
              rcases bif_some h26 with ⟨hb, h26⟩ | ⟨hb, h26⟩
              · refine Ws.cond_t rfl hb ?_
                refine Ws.region ?_
                refine Ls.cons (G.q (r_field rfl) rfl rfl ?_)
                refine Ls.cons (G.q (r_load rfl rfl) rfl rfl ?_)
                refine Ls.cons (G.q (r_move rfl) rfl rfl ?_)
                refine Ls.cons (G.q (r_bin rfl rfl rfl) rfl rfl ?_)
                refine Ls.cons (G.q (r_conv rfl) rfl rfl ?_)
                refine Ls.cons (o_lit (kI .i64) [IntKind.wrap .i64 (IntKind.wrap .i32 (((Utf8.decode x1.2.1 s20.2).1 : Int) - 48))] [.int .i64 (IntKind.wrap .i64 (IntKind.wrap .i32 (((Utf8.decode x1.2.1 s20.2).1 : Int) - 48)))] rfl rfl rfl rfl (by kernel_rfl) (.cons (c := [.int .i64 (IntKind.wrap .i64 (IntKind.wrap .i32 (((Utf8.decode x1.2.1 s20.2).1 : Int) - 48)))]) inferInstance .nil rfl) rfl fun v27 => ?_)
                rcases bif_some h26 with ⟨hb, h26⟩ | ⟨_, h26⟩
                rotate_left
                · cases h26
                refine Ls.cons (o_append (kI .i64) rfl rfl rfl rfl (of_decide_eq_true hb) rfl fun v28 => ?_)
                refine Ls.cons (G.q (r_field rfl) rfl rfl ?_)
                refine Ls.cons (o_store (vs := [v28]) rfl rfl rfl rfl ?_)
                refine Ls.nil ?_
                refine Qs.block_n ?_
                refine Qs.block_n ?_
                refine Qs.then_n ?_
                exact Qs.again v28 h26 (Nat.lt_succ_self _) (.cons rfl (.cons rfl (.cons rfl (.nil)))) (fun _ H => H.to)
              · refine Ws.cond_f rfl hb ?_
                refine Ws.seq ?_
                refine Ws.region ?_
                refine Ls.cons (G.q (r_bin rfl rfl rfl) rfl rfl ?_)
                refine Ls.cons (G.q (r_assign rfl) rfl rfl ?_)
                refine Ls.nil ?_
                refine Qs.then_n ?_
                rcases bif_some h26 with ⟨hb, h26⟩ | ⟨hb, h26⟩
                · refine Ws.cond_t rfl hb ?_
                  refine Ws.region ?_
                  refine Ls.cons (G.q (r_field rfl) rfl rfl ?_)
                  refine Ls.cons (G.q (r_load rfl rfl) rfl rfl ?_)
                  refine Ls.cons (o_lit (kI .i64) [2] [.int .i64 2] rfl rfl rfl rfl (by kernel_rfl) (.cons (c := [.int .i64 2]) inferInstance .nil rfl) rfl fun v29 => ?_)
                  rcases bif_some h26 with ⟨hb, h26⟩ | ⟨_, h26⟩
                  rotate_left
                  · cases h26
                  refine Ls.cons (o_append (kI .i64) rfl rfl rfl rfl (of_decide_eq_true hb) rfl fun v30 => ?_)
                  refine Ls.cons (G.q (r_field rfl) rfl rfl ?_)
                  refine Ls.cons (o_store (vs := [v30]) rfl rfl rfl rfl ?_)
                  refine Ls.nil ?_
                  refine Qs.block_n ?_
                  refine Qs.block_n ?_
                  refine Qs.then_n ?_
                  exact Qs.again v30 h26 (Nat.lt_succ_self _) (.cons rfl (.cons rfl (.cons rfl (.nil)))) (fun _ H => H.to)
                · refine Ws.cond_f rfl hb ?_
                  refine Ws.seq ?_
                  refine Ws.region ?_
                  refine Ls.cons (G.q (r_assign rfl) rfl rfl ?_)
                  refine Ls.nil ?_
                  refine Qs.then_n ?_
                  refine Ws.ret ?_
                  refine Qs.block_r ?_
                  refine Qs.block_r ?_
                  refine Qs.then_r ?_
                  refine Qs.block_r ?_
                  refine Qs.then_r ?_
                  obtain rfl := Option.some.inj h26
                  obtain rfl := Option.some.inj h19
                  exact W_end (.inl rfl) Tryd.results54 (.tmp rfl .nil) rfl fun w hS => hR V1 w hS.fin
          ·
            refine Ls.cons (o_nextE rfl hb rfl ?_)
            refine Ls.cons (G.q (r_extract rfl rfl) rfl rfl ?_)
            refine Ls.nil ?_
            refine Qs.then_n ?_
            refine Ws.seq ?_
            refine Ws.cond_f rfl rfl ?_
            refine Ws.exit ?_
            refine Qs.then_e ?_
            refine Qs.then_e ?_
            refine Qs.block_e ?_
            refine Qs.then_n ?_
            obtain rfl := Option.some.inj h22
            exact Qs.midX e23 rfl (.cons rfl (.cons rfl (.nil))) (fun _ H => H.to)
      ·
        rintro e31 hφ
        cases x17 with
        | inl _ => cases hφ
        | inr x17 =>
          refine Ws.seq ?_
          refine D.start [Glo, Cells B0 [.int .i64 a0, .int .i64 a1, .int .i64 a2, V1, .int .i64 a4, .int .i64 a5] 65, Cells b15 [.int .u8 x3.1, .int .u8 x3.2.1, e31] 45] rfl ?_
          refine D.take 0 rfl (by kernel_rfl) (r_move rfl) rfl ?_
          refine D.take 1 rfl (by kernel_rfl) (r_move rfl) rfl ?_
          refine D.take 2 rfl (by kernel_rfl) (r_nilCheck rfl) rfl ?_
          refine D.take 3 rfl (by kernel_rfl) (r_field rfl) rfl ?_
          refine D.take 4 rfl (by kernel_rfl) (r_field rfl) rfl ?_
          refine D.take 5 rfl (by kernel_rfl) (r_load rfl rfl) rfl ?_
          refine D.take 6 rfl (by kernel_rfl) (r_loadN rfl rfl) rfl ?_
          refine G.frz (kI .i64) e31 3 ?_
          refine D.run 7 rfl (by kernel_rfl) (o_lit (kP (kI .u8) (kP (kI .u8) (kL (kI .i64)))) [(x3.1, x3.2.1, x17)] [.int .u8 x3.1, .int .u8 x3.2.1, e31] rfl rfl rfl rfl (by kernel_rfl) (.cons (c := [.int .u8 x3.1, .int .u8 x3.2.1, e31]) inferInstance .nil rfl) rfl fun v32 => ?_)
          refine D.next ?_
          rcases bif_some h19 with ⟨hb, h19⟩ | ⟨_, h19⟩
          rotate_left
          · cases h19
          refine D.run 8 rfl (by kernel_rfl) (o_append (kP (kI .u8) (kP (kI .u8) (kL (kI .i64)))) rfl rfl rfl rfl (of_decide_eq_true hb) rfl fun v33 => ?_)
          refine D.next ?_
          refine D.tail (by kernel_rfl) ?_
          refine A.run 9 rfl (by kernel_rfl) (G.q (r_nilCheck rfl) rfl rfl ?_)
          refine A.run 10 rfl (by kernel_rfl) (G.q (r_field rfl) rfl rfl ?_)
          refine A.run 11 rfl (by kernel_rfl) (G.q (r_field rfl) rfl rfl ?_)
          refine A.run 12 rfl (by kernel_rfl) (o_store (vs := [v33]) rfl rfl rfl rfl ?_)
          refine A.done (by kernel_rfl) ?_
          refine Qs.then_n ?_
          refine Ws.seq ?_
          refine Ws.region ?_
          refine Ls.cons (G.q (r_assign rfl) rfl rfl ?_)
          refine Ls.nil ?_
          refine Qs.then_n ?_
          refine Ws.ret ?_
          obtain rfl := Option.some.inj h19
          exact W_end (.inl rfl) Tryd.results54 (.tmp rfl .nil) rfl fun w hS => hR v33 w hS.fin

def pla_reader_take.l1 (K : Nat) (x14 : (List ByteArray)) (x9 : ByteArray × Bool) (a1 : Int) (a2 : Int) (a3 : List (Int × Int × (List Int))) (a5 : Int) : Nat → Int → Option ((Int × Int × Int × Int × (List (Int × Int × (List Int))) × Int × Int) ⊕ Unit)
  | 0, _ => none
  | j21 + 1, s20 =>
    (bif decide ((s20 : Int) < (x14.length : Int)) then ((idx x14 s20).bind fun y23 => (bif (y23.toList == x9.1.toList) then some (.inl (0, s20, a1, a2, a3, 3, a5)) else pla_reader_take.l1 K x14 x9 a1 a2 a3 a5 j21 (IntKind.wrap .i64 (s20 + 1)))) else some (.inr ()))

def pla_reader_take.f (K : Nat) (a0 : Int) (a1 : Int) (a2 : Int) (a3 : List (Int × Int × (List Int))) (a4 : Int) (a5 : Int) (a6 : ByteArray) : Option (Int × Int × Int × Int × (List (Int × Int × (List Int))) × Int × Int) :=
  (bif (a4 : Int) == 0 then ((pla_number.f K a6 (⟨#[46, 105]⟩ : ByteArray) 0 8).bind fun x1 => ((pla_reader_take_1.f K (decide ((x1 : Int) ≥ 0))).bind fun x3 => some (x3, a0, x1, a2, a3, IntKind.wrap .i64 (a4 + 1), a5))) else (bif (a4 : Int) == 1 then ((pla_number.f K a6 (⟨#[46, 111]⟩ : ByteArray) 1 4).bind fun x5 => ((pla_reader_take_1.f K (decide ((x5 : Int) ≥ 0))).bind fun x7 => some (x7, a0, a1, x5, a3, IntKind.wrap .i64 (a4 + 1), a5))) else (bif (a4 : Int) == 5 then some (2, a0, a1, a2, a3, a4, a5) else ((strings_CutPrefix.f K a6 (⟨#[46, 116, 121, 112, 101, 32]⟩ : ByteArray)).bind fun x9 => (((bif x9.2 then some ((a4 : Int) == 2) else some false)).bind fun x11 => (bif x11 then ((pla_kinds.f K ).bind fun x14 => ((pla_reader_take.l1 K x14 x9 a1 a2 a3 a5 K 0 : Option ((Int × Int × Int × Int × (List (Int × Int × (List Int))) × Int × Int) ⊕ (Unit))).bind fun y => match y with | .inl r => some r | .inr x17 => some (2, a0, a1, a2, a3, 3, a5))) else ((pla_number.f K a6 (⟨#[46, 112]⟩ : ByteArray) 0 64).bind fun x26 => (((bif decide ((x26 : Int) ≥ 0) then some (decide ((a4 : Int) ≤ 3)) else some false)).bind fun x28 => (bif x28 then some (0, a0, a1, a2, a3, 4, x26) else (bif (a6.toList == (⟨#[46, 101]⟩ : ByteArray).toList) then (((bif decide ((a5 : Int) < 0) then ((pla_reader_take_1.f K true).bind fun x34 => some x34) else ((pla_reader_take_1.f K ((a5 : Int) == (a3.length : Int))).bind fun x36 => some x36))).bind fun x31 => some (x31, a0, a1, a2, a3, 5, a5)) else ((pla_reader_row.f K a0 a1 a2 a3 4 a5 a6).bind fun x38 => (bif !x38.1 then some (2, a0, a1, a2, x38.2, 4, a5) else (bif ((a3.length : Int) : Int) == 64 then some (3, a0, a1, a2, x38.2, 4, a5) else some (0, a0, a1, a2, x38.2, 4, a5))))))))))))))

theorem pla_reader_take.ok {K : Nat} {a0 : Int} {a1 : Int} {a2 : Int} {a3 : List (Int × Int × (List Int))} {a4 : Int} {a5 : Int} {a6 : ByteArray} {B0 : Nat} {V1 : Value} {r : Int × Int × Int × Int × (List (Int × Int × (List Int))) × Int × Int} (h : pla_reader_take.f K a0 a1 a2 a3 a4 a5 a6 = some r) {τ : Meta} {L : List Itm} {w : World} {R : Ending → World → Prop} (hS : St τ ([Cells B0 [.int .i64 a0, .int .i64 a1, .int .i64 a2, V1, .int .i64 a4, .int .i64 a5] 65, Own (kP (kI .u8) (kP (kI .u8) (kL (kI .i64)))) V1 a3 45, Glo] ++ L) w)
    (hR : ∀ (w0 : Value) w', St τ ([Own (kP (kI .u8) (kP (kI .u8) (kL (kI .i64)))) w0 r.2.2.2.2.1 45, Cells B0 [.int .i64 r.2.1, .int .i64 r.2.2.1, .int .i64 r.2.2.2.1, w0, .int .i64 r.2.2.2.2.2.1, .int .i64 r.2.2.2.2.2.2] 65] ++ L) w' → R (.returned (.int .i64 r.1)) w') : Calls Tryd.prog 32 #[.pointer (some ⟨B0, 0, none⟩), .string a6] w R := by
  refine enter (vs := [_, _]) Tryd.func32 rfl Tryd.ntmps32 rfl hS.cat ?_
  unfold pla_reader_take.f at h
  refine Ws.seq ?_
  refine Ws.region ?_
  refine Ls.cons (G.q (r_assign rfl) rfl rfl ?_)
  refine Ls.nil ?_
  refine Qs.then_n ?_
  refine Ws.seq ?_
  refine Ws.region ?_
  refine Ls.cons (G.q (r_assign rfl) rfl rfl ?_)
  refine Ls.nil ?_
  refine Qs.then_n ?_
  refine Ws.seq ?_
  refine Ws.seq ?_
  refine Ws.region ?_
  refine Ls.cons (G.q (r_move rfl) rfl rfl ?_)
  refine Ls.cons (G.q (r_nilCheck rfl) rfl rfl ?_)
  refine Ls.cons (G.q (r_field rfl) rfl rfl ?_)
  refine Ls.cons (G.q (r_load rfl rfl) rfl rfl ?_)
  refine Ls.nil ?_
  refine Qs.then_n ?_
  refine Ws.block ?_
  refine Ws.seq ?_
  refine Ws.region ?_
  refine Ls.cons (G.q (r_bin rfl rfl rfl) rfl rfl ?_)
  refine Ls.cons (G.q (r_assign rfl) rfl rfl ?_)
  refine Ls.nil ?_
  refine Qs.then_n ?_
  rcases bif_some h with ⟨hb, h⟩ | ⟨hb, h⟩
  · refine Ws.cond_t rfl hb ?_
    refine Ws.seq ?_
    refine Ws.region ?_
    refine Ls.cons (G.q (r_move rfl) rfl rfl ?_)
    refine Ls.cons (G.q (r_move rfl) rfl rfl ?_)
    obtain ⟨x1, hx2, h⟩ := bind_some h
    refine Ls.cons (o_call Tryd.call52 rfl fun a_ w_ hK_ hS_ => pla_number.ok hx2 hS_.sels fun w1_ hS1_ => atRet (G.goA ?_ (hK_.put rfl _) hS1_))
    clear hS1_ w1_ hS_ hK_ w_ a_
    refine Ls.cons (G.q (r_nilCheck rfl) rfl rfl ?_)
    refine Ls.cons (G.q (r_field rfl) rfl rfl ?_)
    refine Ls.cons (G.q (r_field rfl) rfl rfl ?_)
    refine Ls.cons (o_store (vs := [.int .i64 x1]) rfl rfl rfl rfl ?_)
    refine Ls.nil ?_
    refine Qs.then_n ?_
    refine Ws.seq ?_
    refine Ws.region ?_
    refine Ls.cons (G.q (r_move rfl) rfl rfl ?_)
    refine Ls.cons (G.q (r_nilCheck rfl) rfl rfl ?_)
    refine Ls.cons (G.q (r_field rfl) rfl rfl ?_)
    refine Ls.cons (G.q (r_load rfl rfl) rfl rfl ?_)
    refine Ls.cons (G.q (r_bin rfl rfl rfl) rfl rfl ?_)
    refine Ls.cons (G.q (r_nilCheck rfl) rfl rfl ?_)
    refine Ls.cons (G.q (r_field rfl) rfl rfl ?_)
    refine Ls.cons (o_store (vs := [.int .i64 (IntKind.wrap .i64 (a4 + 1))]) rfl rfl rfl rfl ?_)
    refine Ls.nil ?_
    refine Qs.then_n ?_
    refine Ws.seq ?_
    refine Ws.region ?_
    refine Ls.cons (G.q (r_move rfl) rfl rfl ?_)
    refine Ls.cons (G.q (r_move rfl) rfl rfl ?_)
    refine Ls.cons (G.q (r_nilCheck rfl) rfl rfl ?_)
    refine Ls.cons (G.q (r_field rfl) rfl rfl ?_)
    refine Ls.cons (G.q (r_field rfl) rfl rfl ?_)
    refine Ls.cons (G.q (r_load rfl rfl) rfl rfl ?_)
    refine Ls.cons (G.q (r_bin rfl rfl rfl) rfl rfl ?_)
    obtain ⟨x3, hx4, h⟩ := bind_some h
    refine Ls.cons (o_call_at (fst := []) (cs := []) (all := [.bool (decide ((x1 : Int) ≥ 0))]) Tryd.call51 rfl rfl rfl fun a_ w_ hK_ hS_ => pla_reader_take_1.ok hx4 hS_.sels fun w1_ hS1_ => atRet (G.goA ?_ (hK_.put rfl _) hS1_))
    clear hS1_ w1_ hS_ hK_ w_ a_
    refine Ls.cons (G.q (r_assign rfl) rfl rfl ?_)
    refine Ls.nil ?_
    refine Qs.then_n ?_
    refine Ws.ret ?_
    refine Qs.block_r ?_
    refine Qs.then_r ?_
    obtain rfl := Option.some.inj h
    exact W_end (.inl rfl) Tryd.results32 (.tmp rfl .nil) rfl fun w hS => hR V1 w hS.fin
  · refine Ws.cond_f rfl hb ?_
    refine Ws.seq ?_
    refine Ws.region ?_
    refine Ls.cons (G.q (r_bin rfl rfl rfl) rfl rfl ?_)
    refine Ls.cons (G.q (r_assign rfl) rfl rfl ?_)
    refine Ls.nil ?_
    refine Qs.then_n ?_
    rcases bif_some h with ⟨hb, h⟩ | ⟨hb, h⟩
    · refine Ws.cond_t rfl hb ?_
      refine Ws.seq ?_
      refine Ws.region ?_
      refine Ls.cons (G.q (r_move rfl) rfl rfl ?_)
      refine Ls.cons (G.q (r_move rfl) rfl rfl ?_)
      obtain ⟨x5, hx6, h⟩ := bind_some h
      refine Ls.cons (o_call Tryd.call52 rfl fun a_ w_ hK_ hS_ => pla_number.ok hx6 hS_.sels fun w1_ hS1_ => atRet (G.goA ?_ (hK_.put rfl _) hS1_))
      clear hS1_ w1_ hS_ hK_ w_ a_
      refine Ls.cons (G.q (r_nilCheck rfl) rfl rfl ?_)
      refine Ls.cons (G.q (r_field rfl) rfl rfl ?_)
      refine Ls.cons (G.q (r_field rfl) rfl rfl ?_)
      refine Ls.cons (o_store (vs := [.int .i64 x5]) rfl rfl rfl rfl ?_)
      refine Ls.nil ?_
      refine Qs.then_n ?_
      refine Ws.seq ?_
      refine Ws.region ?_
      refine Ls.cons (G.q (r_move rfl) rfl rfl ?_)
      refine Ls.cons (G.q (r_nilCheck rfl) rfl rfl ?_)
      refine Ls.cons (G.q (r_field rfl) rfl rfl ?_)
      refine Ls.cons (G.q (r_load rfl rfl) rfl rfl ?_)
      refine Ls.cons (G.q (r_bin rfl rfl rfl) rfl rfl ?_)
      refine Ls.cons (G.q (r_nilCheck rfl) rfl rfl ?_)
      refine Ls.cons (G.q (r_field rfl) rfl rfl ?_)
      refine Ls.cons (o_store (vs := [.int .i64 (IntKind.wrap .i64 (a4 + 1))]) rfl rfl rfl rfl ?_)
      refine Ls.nil ?_
      refine Qs.then_n ?_
      refine Ws.seq ?_
      refine Ws.region ?_
      refine Ls.cons (G.q (r_move rfl) rfl rfl ?_)
      refine Ls.cons (G.q (r_move rfl) rfl rfl ?_)
      refine Ls.cons (G.q (r_nilCheck rfl) rfl rfl ?_)
      refine Ls.cons (G.q (r_field rfl) rfl rfl ?_)
      refine Ls.cons (G.q (r_field rfl) rfl rfl ?_)
      refine Ls.cons (G.q (r_load rfl rfl) rfl rfl ?_)
      refine Ls.cons (G.q (r_bin rfl rfl rfl) rfl rfl ?_)
      obtain ⟨x7, hx8, h⟩ := bind_some h
      refine Ls.cons (o_call_at (fst := []) (cs := []) (all := [.bool (decide ((x5 : Int) ≥ 0))]) Tryd.call51 rfl rfl rfl fun a_ w_ hK_ hS_ => pla_reader_take_1.ok hx8 hS_.sels fun w1_ hS1_ => atRet (G.goA ?_ (hK_.put rfl _) hS1_))
      clear hS1_ w1_ hS_ hK_ w_ a_
      refine Ls.cons (G.q (r_assign rfl) rfl rfl ?_)
      refine Ls.nil ?_
      refine Qs.then_n ?_
      refine Ws.ret ?_
      refine Qs.block_r ?_
      refine Qs.then_r ?_
      obtain rfl := Option.some.inj h
      exact W_end (.inl rfl) Tryd.results32 (.tmp rfl .nil) rfl fun w hS => hR V1 w hS.fin
    · refine Ws.cond_f rfl hb ?_
      refine Ws.seq ?_
      refine Ws.region ?_
      refine Ls.cons (G.q (r_bin rfl rfl rfl) rfl rfl ?_)
      refine Ls.cons (G.q (r_assign rfl) rfl rfl ?_)
      refine Ls.nil ?_
      refine Qs.then_n ?_
      rcases bif_some h with ⟨hb, h⟩ | ⟨hb, h⟩
      · refine Ws.cond_t rfl hb ?_
        refine Ws.seq ?_
        refine Ws.region ?_
        refine Ls.cons (G.q (r_assign rfl) rfl rfl ?_)
        refine Ls.nil ?_
        refine Qs.then_n ?_
        refine Ws.ret ?_
        refine Qs.block_r ?_
        refine Qs.then_r ?_
        obtain rfl := Option.some.inj h
        exact W_end (.inl rfl) Tryd.results32 (.tmp rfl .nil) rfl fun w hS => hR V1 w hS.fin
      · refine Ws.cond_f rfl hb ?_
        refine Ws.skip ?_
        refine Qs.block_n ?_
        refine Qs.then_n ?_
        refine Ws.seq ?_
        refine Ws.seq ?_
        refine Ws.region ?_
        refine Ls.cons (G.q (r_move rfl) rfl rfl ?_)
        obtain ⟨x9, hx10, h⟩ := bind_some h
        refine Ls.cons (o_call Tryd.call53 rfl fun a_ w_ hK_ hS_ => strings_CutPrefix.ok hx10 hS_.sels fun w1_ hS1_ => atRet (G.goA ?_ (hK_.put rfl _) hS1_))
        clear hS1_ w1_ hS_ hK_ w_ a_
        refine Ls.cons (G.q (r_move rfl) rfl rfl ?_)
        refine Ls.cons (G.q (r_extract rfl rfl) rfl rfl ?_)
        refine Ls.cons (G.q (r_extract rfl rfl) rfl rfl ?_)
        refine Ls.cons (G.q (r_assign rfl) rfl rfl ?_)
        refine Ls.cons (G.q (r_assign rfl) rfl rfl ?_)
        refine Ls.nil ?_
        refine Qs.then_n ?_
        refine Ws.seq ?_
        refine Ws.region ?_
        refine Ls.cons (G.q (r_move rfl) rfl rfl ?_)
        refine Ls.cons (G.q (r_move rfl) rfl rfl ?_)
        obtain ⟨x11, hx12, h13⟩ := bind_some h
        refine Ls.cutX (ε := Unit) True (fun e => [(0, .pointer (some ⟨B0, 0, none⟩)), (1, .string a6), (5, .func (.func 51) #[] #[]), (6, .string x9.1), (76, .bool x11)]) (fun e => Glo :: Cells B0 [.int .i64 a0, .int .i64 a1, .int .i64 a2, V1, .int .i64 a4, .int .i64 a5] 65 :: Own (kP (kI .u8) (kP (kI .u8) (kL (kI .i64)))) V1 a3 45 :: L) ?_ ?_
        ·
          rcases bif_some hx12 with ⟨hb, hx12⟩ | ⟨hb, hx12⟩
          · refine G.fixB 70 hb rfl ?_
            refine Ls.guard_t rfl rfl rfl (G.q (r_move rfl) rfl rfl ?_)
            refine Ls.guard_t rfl rfl rfl (G.q (r_nilCheck rfl) rfl rfl ?_)
            refine Ls.guard_t rfl rfl rfl (G.q (r_field rfl) rfl rfl ?_)
            refine Ls.guard_t rfl rfl rfl (G.q (r_load rfl rfl) rfl rfl ?_)
            refine Ls.guard_t rfl rfl rfl (G.q (r_bin rfl rfl rfl) rfl rfl ?_)
            refine Ls.cons (G.q (r_pick rfl rfl rfl) rfl rfl ?_)
            refine Ls.nil ?_
            refine Qs.only ?_
            obtain rfl := Option.some.inj hx12
            exact Qs.midX () trivial (.cons rfl (.cons rfl (.cons rfl (.cons rfl (.cons rfl (.nil)))))) (fun _ H => H.to)
          · refine G.fixB 70 hb rfl ?_
            refine Ls.guard_f rfl rfl rfl rfl ?_
            refine Ls.guard_f rfl rfl rfl rfl ?_
            refine Ls.guard_f rfl rfl rfl rfl ?_
            refine Ls.guard_f rfl rfl rfl rfl ?_
            refine Ls.guard_f rfl rfl rfl rfl ?_
            refine Ls.cons (G.q (r_pick rfl rfl rfl) rfl rfl ?_)
            refine Ls.nil ?_
            refine Qs.only ?_
            obtain rfl := Option.some.inj hx12
            exact Qs.midX () trivial (.cons rfl (.cons rfl (.cons rfl (.cons rfl (.cons rfl (.nil)))))) (fun _ H => H.to)
        ·
          rintro ⟨⟩ _
          refine Qs.then_n ?_
          rcases bif_some h13 with ⟨hb, h13⟩ | ⟨hb, h13⟩
          · refine Ws.cond_t rfl hb ?_
            refine Ws.seq ?_
            refine Ws.region ?_
            refine Ls.cons (G.q (r_move rfl) rfl rfl ?_)
            refine Ls.cons (G.q (r_nilCheck rfl) rfl rfl ?_)
            refine Ls.cons (G.q (r_field rfl) rfl rfl ?_)
            refine Ls.cons (o_store (vs := [.int .i64 3]) rfl rfl rfl rfl ?_)
            refine Ls.nil ?_
            refine Qs.then_n ?_
            refine Ws.seq ?_
            refine Ws.seq ?_
            refine Ws.region ?_
            obtain ⟨x14, hx15, h13⟩ := bind_some h13
            refine Ls.cons (o_call Tryd.call25 rfl fun a_ w_ hK_ hS_ => pla_kinds.ok hx15 hS_.sels fun u16 w1_ hS1_ => atRet (G.goA ?_ (hK_.put rfl _) hS1_))
            clear hS1_ w1_ hS_ hK_ w_ a_
            refine Ls.cons (G.q (r_len rfl) rfl rfl ?_)
            refine Ls.cons (G.q (r_move rfl) rfl rfl ?_)
            refine Ls.nil ?_
            refine Qs.then_n ?_
            obtain ⟨x17, hx18, h19⟩ := bind_some h13
            refine Ws.cutX (ε := Unit) (isR x17 = true) (fun e => []) (fun e => Glo :: Cells B0 [.int .i64 a0, .int .i64 a1, .int .i64 a2, V1, .int .i64 3, .int .i64 a5] 65 :: Own (kP (kI .u8) (kP (kI .u8) (kL (kI .i64)))) V1 a3 45 :: L) ?_ ?_
            ·
              refine Ws.block ?_
              refine Ws.loop (ε := Unit) (pla_reader_take.l1 K x14 x9 a1 a2 a3 a5) (fun s e => [(0, .pointer (some ⟨B0, 0, none⟩)), (6, .string x9.1), (80, u16), (81, .int .i64 (x14.length : Int)), (82, .int .i64 s)]) (fun s e => Glo :: Cells B0 [.int .i64 a0, .int .i64 a1, .int .i64 a2, V1, .int .i64 3, .int .i64 a5] 65 :: Own kS u16 x14 9 :: Own (kP (kI .u8) (kP (kI .u8) (kL (kI .i64)))) V1 a3 45 :: L) () hx18 (.cons rfl (.cons rfl (.cons rfl (.cons rfl (.cons rfl (.nil)))))) (fun _ H => H.to) ?_
              rintro j21 s20 ⟨⟩ h22
              cases j21 with
              | zero => cases (show none = some _ from h22)
              | succ j21 =>
                rw [pla_reader_take.l1] at h22
                refine Ws.seq ?_
                refine Ws.region ?_
                refine Ls.cons (G.q (r_bin rfl rfl rfl) rfl rfl ?_)
                refine Ls.nil ?_
                refine Qs.then_n ?_
                refine Ws.seq ?_
                rcases bif_some h22 with ⟨hb, h22⟩ | ⟨hb, h22⟩
                · refine Ws.cond_t rfl hb ?_
                  refine Ws.skip ?_
                  refine Qs.then_n ?_
                  refine Ws.seq ?_
                  refine Ws.block ?_
                  refine Ws.seq ?_
                  refine Ws.region ?_
                  refine Ls.cons (G.q (r_move rfl) rfl rfl ?_)
                  obtain ⟨y23, hy24, h22⟩ := bind_some h22
                  have hy24 := idx_some hy24
                  refine G.at kS u16 hy24.2 ?_
                  intro b25
                  refine Ls.cons (G.q (r_idxO kS rfl rfl hy24.1 hy24.2) rfl rfl ?_)
                  refine Ls.cons (G.q (r_loadO kS u16 s20.toNat 0 rfl hy24.2 rfl rfl rfl) rfl rfl ?_)
                  refine Ls.cons (G.q (r_assign rfl) rfl rfl ?_)
                  refine Ls.cons (G.q (r_assign rfl) rfl rfl ?_)
                  refine Ls.nil ?_
                  refine Qs.then_n ?_
                  refine Ws.seq ?_
                  refine Ws.region ?_
                  refine Ls.cons (G.q (r_move rfl) rfl rfl ?_)
                  refine Ls.cons (G.q (r_move rfl) rfl rfl ?_)
                  refine Ls.cons (G.q (r_eqS rfl rfl) rfl rfl ?_)
                  refine Ls.nil ?_
                  refine Qs.then_n ?_
                  rcases bif_some h22 with ⟨hb, h22⟩ | ⟨hb, h22⟩
                  · refine Ws.cond_t rfl hb ?_
                    refine Ws.seq ?_
                    refine Ws.region ?_
                    refine Ls.cons (G.q (r_move rfl) rfl rfl ?_)
                    refine Ls.cons (G.q (r_move rfl) rfl rfl ?_)
                    refine Ls.cons (G.q (r_nilCheck rfl) rfl rfl ?_)
                    refine Ls.cons (G.q (r_field rfl) rfl rfl ?_)
                    refine Ls.cons (G.q (r_field rfl) rfl rfl ?_)
                    refine Ls.cons (o_store (vs := [.int .i64 s20]) rfl rfl rfl rfl ?_)
                    refine Ls.nil ?_
                    refine Qs.then_n ?_
                    refine Ws.seq ?_
                    refine Ws.region ?_
                    refine Ls.cons (G.q (r_assign rfl) rfl rfl ?_)
                    refine Ls.nil ?_
                    refine Qs.then_n ?_
                    refine Ws.ret ?_
                    refine Qs.block_r ?_
                    refine Qs.then_r ?_
                    refine Qs.then_r ?_
                    refine Qs.block_r ?_
                    refine Qs.then_r ?_
                    refine Qs.then_r ?_
                    obtain rfl := Option.some.inj h22
                    obtain rfl := Option.some.inj h19
                    exact W_end (.inl rfl) Tryd.results32 (.tmp rfl .nil) rfl fun w hS => hR V1 w hS.fin
                  · refine Ws.cond_f rfl hb ?_
                    refine Ws.skip ?_
                    refine Qs.block_n ?_
                    refine Qs.then_n ?_
                    refine Ws.region ?_
                    refine Ls.cons (G.q (r_bin rfl rfl rfl) rfl rfl ?_)
                    refine Ls.cons (G.q (r_move rfl) rfl rfl ?_)
                    refine Ls.nil ?_
                    refine Qs.then_n ?_
                    exact Qs.again () h22 (Nat.lt_succ_self _) (.cons rfl (.cons rfl (.cons rfl (.cons rfl (.cons rfl (.nil)))))) (fun _ H => H.to)
                · refine Ws.cond_f rfl hb ?_
                  refine Ws.exit ?_
                  refine Qs.then_e ?_
                  refine Qs.then_e ?_
                  refine Qs.block_e ?_
                  refine Qs.then_n ?_
                  obtain rfl := Option.some.inj h22
                  exact Qs.midX () rfl (.nil) (fun _ H => H.to)
            ·
              rintro ⟨⟩ hφ
              cases x17 with
              | inl _ => cases hφ
              | inr x17 =>
                refine Ws.seq ?_
                refine Ws.region ?_
                refine Ls.cons (G.q (r_assign rfl) rfl rfl ?_)
                refine Ls.nil ?_
                refine Qs.then_n ?_
                refine Ws.ret ?_
                refine Qs.then_r ?_
                obtain rfl := Option.some.inj h19
                exact W_end (.inl rfl) Tryd.results32 (.tmp rfl .nil) rfl fun w hS => hR V1 w hS.fin
          · refine Ws.cond_f rfl hb ?_
            refine Ws.skip ?_
            refine Qs.then_n ?_
            refine Ws.seq ?_
            refine Ws.seq ?_
            refine Ws.region ?_
            refine Ls.cons (G.q (r_move rfl) rfl rfl ?_)
            obtain ⟨x26, hx27, h13⟩ := bind_some h13
            refine Ls.cons (o_call Tryd.call52 rfl fun a_ w_ hK_ hS_ => pla_number.ok hx27 hS_.sels fun w1_ hS1_ => atRet (G.goA ?_ (hK_.put rfl _) hS1_))
            clear hS1_ w1_ hS_ hK_ w_ a_
            refine Ls.cons (G.q (r_assign rfl) rfl rfl ?_)
            refine Ls.nil ?_
            refine Qs.then_n ?_
            refine Ws.seq ?_
            refine Ws.region ?_
            refine Ls.cons (G.q (r_move rfl) rfl rfl ?_)
            refine Ls.cons (G.q (r_bin rfl rfl rfl) rfl rfl ?_)
            refine Ls.cons (G.q (r_move rfl) rfl rfl ?_)
            obtain ⟨x28, hx29, h30⟩ := bind_some h13
            refine Ls.cutX (ε := Unit) True (fun e => [(0, .pointer (some ⟨B0, 0, none⟩)), (1, .string a6), (5, .func (.func 51) #[] #[]), (10, .int .i64 x26), (106, .bool x28)]) (fun e => Glo :: Cells B0 [.int .i64 a0, .int .i64 a1, .int .i64 a2, V1, .int .i64 a4, .int .i64 a5] 65 :: Own (kP (kI .u8) (kP (kI .u8) (kL (kI .i64)))) V1 a3 45 :: L) ?_ ?_
            ·
              rcases bif_some hx29 with ⟨hb, hx29⟩ | ⟨hb, hx29⟩
              · refine G.fixB 100 hb rfl ?_
                refine Ls.guard_t rfl rfl rfl (G.q (r_move rfl) rfl rfl ?_)
                refine Ls.guard_t rfl rfl rfl (G.q (r_nilCheck rfl) rfl rfl ?_)
                refine Ls.guard_t rfl rfl rfl (G.q (r_field rfl) rfl rfl ?_)
                refine Ls.guard_t rfl rfl rfl (G.q (r_load rfl rfl) rfl rfl ?_)
                refine Ls.guard_t rfl rfl rfl (G.q (r_bin rfl rfl rfl) rfl rfl ?_)
                refine Ls.cons (G.q (r_pick rfl rfl rfl) rfl rfl ?_)
                refine Ls.nil ?_
                refine Qs.only ?_
                obtain rfl := Option.some.inj hx29
                exact Qs.midX () trivial (.cons rfl (.cons rfl (.cons rfl (.cons rfl (.cons rfl (.nil)))))) (fun _ H => H.to)
              · refine G.fixB 100 hb rfl ?_
                refine Ls.guard_f rfl rfl rfl rfl ?_
                refine Ls.guard_f rfl rfl rfl rfl ?_
                refine Ls.guard_f rfl rfl rfl rfl ?_
                refine Ls.guard_f rfl rfl rfl rfl ?_
                refine Ls.guard_f rfl rfl rfl rfl ?_
                refine Ls.cons (G.q (r_pick rfl rfl rfl) rfl rfl ?_)
                refine Ls.nil ?_
                refine Qs.only ?_
                obtain rfl := Option.some.inj hx29
                exact Qs.midX () trivial (.cons rfl (.cons rfl (.cons rfl (.cons rfl (.cons rfl (.nil)))))) (fun _ H => H.to)
            ·
              rintro ⟨⟩ _
              refine Qs.then_n ?_
              rcases bif_some h30 with ⟨hb, h30⟩ | ⟨hb, h30⟩
              · refine Ws.cond_t rfl hb ?_
                refine Ws.seq ?_
                refine Ws.region ?_
                refine Ls.cons (G.q (r_move rfl) rfl rfl ?_)
                refine Ls.cons (G.q (r_move rfl) rfl rfl ?_)
                refine Ls.cons (G.q (r_move rfl) rfl rfl ?_)
                refine Ls.cons (G.q (r_nilCheck rfl) rfl rfl ?_)
                refine Ls.cons (G.q (r_field rfl) rfl rfl ?_)
                refine Ls.cons (o_store (vs := [.int .i64 x26]) rfl rfl rfl rfl ?_)
                refine Ls.cons (G.q (r_nilCheck rfl) rfl rfl ?_)
                refine Ls.cons (G.q (r_field rfl) rfl rfl ?_)
                refine Ls.cons (o_store (vs := [.int .i64 4]) rfl rfl rfl rfl ?_)
                refine Ls.nil ?_
                refine Qs.then_n ?_
                refine Ws.seq ?_
                refine Ws.region ?_
                refine Ls.cons (G.q (r_assign rfl) rfl rfl ?_)
                refine Ls.nil ?_
                refine Qs.then_n ?_
                refine Ws.ret ?_
                refine Qs.then_r ?_
                obtain rfl := Option.some.inj h30
                exact W_end (.inl rfl) Tryd.results32 (.tmp rfl .nil) rfl fun w hS => hR V1 w hS.fin
              · refine Ws.cond_f rfl hb ?_
                refine Ws.skip ?_
                refine Qs.then_n ?_
                refine Ws.seq ?_
                refine Ws.region ?_
                refine Ls.cons (G.q (r_move rfl) rfl rfl ?_)
                refine Ls.cons (G.q (r_nilCheck rfl) rfl rfl ?_)
                refine Ls.cons (G.q (r_field rfl) rfl rfl ?_)
                refine Ls.cons (o_store (vs := [.int .i64 4]) rfl rfl rfl rfl ?_)
                refine Ls.nil ?_
                refine Qs.then_n ?_
                refine Ws.seq ?_
                refine Ws.seq ?_
                refine Ws.region ?_
                refine Ls.cons (G.q (r_move rfl) rfl rfl ?_)
                refine Ls.cons (G.q (r_eqS rfl rfl) rfl rfl ?_)
                refine Ls.nil ?_
                refine Qs.then_n ?_
                rcases bif_some h30 with ⟨hb, h30⟩ | ⟨hb, h30⟩
                · refine Ws.cond_t rfl hb ?_
                  refine Ws.seq ?_
                  refine Ws.region ?_
                  refine Ls.cons (G.q (r_move rfl) rfl rfl ?_)
                  refine Ls.cons (G.q (r_nilCheck rfl) rfl rfl ?_)
                  refine Ls.cons (G.q (r_field rfl) rfl rfl ?_)
                  refine Ls.cons (o_store (vs := [.int .i64 5]) rfl rfl rfl rfl ?_)
                  refine Ls.nil ?_
                  refine Qs.then_n ?_
                  refine Ws.seq ?_
                  obtain ⟨x31, hx32, h33⟩ := bind_some h30
                  refine Ws.cutX (ε := Unit) (True) (fun e => [(4, .int .i64 x31)]) (fun e => Glo :: Cells B0 [.int .i64 a0, .int .i64 a1, .int .i64 a2, V1, .int .i64 5, .int .i64 a5] 65 :: Own (kP (kI .u8) (kP (kI .u8) (kL (kI .i64)))) V1 a3 45 :: L) ?_ ?_
                  ·
                    refine D.start [Glo, Cells B0 [.int .i64 a0, .int .i64 a1, .int .i64 a2, V1, .int .i64 5, .int .i64 a5] 65, Own (kP (kI .u8) (kP (kI .u8) (kL (kI .i64)))) V1 a3 45] rfl ?_
                    refine D.take 0 rfl (by kernel_rfl) (r_move rfl) rfl ?_
                    refine D.take 1 rfl (by kernel_rfl) (r_move rfl) rfl ?_
                    refine D.take 2 rfl (by kernel_rfl) (r_nilCheck rfl) rfl ?_
                    refine D.take 3 rfl (by kernel_rfl) (r_field rfl) rfl ?_
                    refine D.take 4 rfl (by kernel_rfl) (r_load rfl rfl) rfl ?_
                    refine D.take 5 rfl (by kernel_rfl) (r_bin rfl rfl rfl) rfl ?_
                    refine D.take 6 rfl (by kernel_rfl) (r_move rfl) rfl ?_
                    rcases bif_some hx32 with ⟨hb, hx32⟩ | ⟨hb, hx32⟩
                    · refine G.fixB 128 hb rfl ?_
                      refine D.take_f 7 rfl (by kernel_rfl) rfl rfl rfl rfl ?_
                      refine D.take_f 8 rfl (by kernel_rfl) rfl rfl rfl rfl ?_
                      refine D.take_f 9 rfl (by kernel_rfl) rfl rfl rfl rfl ?_
                      refine D.take_f 10 rfl (by kernel_rfl) rfl rfl rfl rfl ?_
                      refine D.take_f 11 rfl (by kernel_rfl) rfl rfl rfl rfl ?_
                      refine D.take_f 12 rfl (by kernel_rfl) rfl rfl rfl rfl ?_
                      refine D.take_f 13 rfl (by kernel_rfl) rfl rfl rfl rfl ?_
                      refine D.take_f 14 rfl (by kernel_rfl) rfl rfl rfl rfl ?_
                      refine D.take_f 15 rfl (by kernel_rfl) rfl rfl rfl rfl ?_
                      refine D.take_f 16 rfl (by kernel_rfl) rfl rfl rfl rfl ?_
                      refine D.take_f 17 rfl (by kernel_rfl) rfl rfl rfl rfl ?_
                      refine D.take 18 rfl (by kernel_rfl) (r_pick rfl rfl rfl) rfl ?_
                      obtain ⟨x34, hx35, hx32⟩ := bind_some hx32
                      refine D.run 19 rfl (by kernel_rfl) (o_call_at (fst := []) (cs := []) (all := [.bool true]) Tryd.call51 rfl rfl rfl fun a_ w_ hK_ hS_ => pla_reader_take_1.ok hx35 hS_.sels fun w1_ hS1_ => atRet (G.goA ?_ (hK_.put rfl _) hS1_))
                      clear hS1_ w1_ hS_ hK_ w_ a_
                      refine D.next ?_
                      refine D.tail (by kernel_rfl) ?_
                      refine A.run 20 rfl (by kernel_rfl) (G.q (r_assign rfl) rfl rfl ?_)
                      refine A.done (by kernel_rfl) ?_
                      refine Qs.then_n ?_
                      obtain rfl := Option.some.inj hx32
                      exact Qs.midX () trivial (.cons rfl (.nil)) (fun _ H => H.to)
                    · refine G.fixB 128 hb rfl ?_
                      refine D.take_t 7 rfl (by kernel_rfl) rfl rfl rfl (r_move rfl) rfl ?_
                      refine D.take_t 8 rfl (by kernel_rfl) rfl rfl rfl (r_nilCheck rfl) rfl ?_
                      refine D.take_t 9 rfl (by kernel_rfl) rfl rfl rfl (r_field rfl) rfl ?_
                      refine D.take_t 10 rfl (by kernel_rfl) rfl rfl rfl (r_load rfl rfl) rfl ?_
                      refine D.take_t 11 rfl (by kernel_rfl) rfl rfl rfl (r_move rfl) rfl ?_
                      refine D.take_t 12 rfl (by kernel_rfl) rfl rfl rfl (r_nilCheck rfl) rfl ?_
                      refine D.take_t 13 rfl (by kernel_rfl) rfl rfl rfl (r_field rfl) rfl ?_
                      refine D.take_t 14 rfl (by kernel_rfl) rfl rfl rfl (r_field rfl) rfl ?_
                      refine D.take_t 15 rfl (by kernel_rfl) rfl rfl rfl (r_load rfl rfl) rfl ?_
                      refine D.take_t 16 rfl (by kernel_rfl) rfl rfl rfl (r_len rfl) rfl ?_
                      refine D.take_t 17 rfl (by kernel_rfl) rfl rfl rfl (r_bin rfl rfl rfl) rfl ?_
                      refine D.take 18 rfl (by kernel_rfl) (r_pick rfl rfl rfl) rfl ?_
                      obtain ⟨x36, hx37, hx32⟩ := bind_some hx32
                      refine D.run 19 rfl (by kernel_rfl) (o_call_at (fst := []) (cs := []) (all := [.bool ((a5 : Int) == (a3.length : Int))]) Tryd.call51 rfl rfl rfl fun a_ w_ hK_ hS_ => pla_reader_take_1.ok hx37 hS_.sels fun w1_ hS1_ => atRet (G.goA ?_ (hK_.put rfl _) hS1_))
                      clear hS1_ w1_ hS_ hK_ w_ a_
                      refine D.next ?_
                      refine D.tail (by kernel_rfl) ?_
                      refine A.run 20 rfl (by kernel_rfl) (G.q (r_assign rfl) rfl rfl ?_)
                      refine A.done (by kernel_rfl) ?_
                      refine Qs.then_n ?_
                      obtain rfl := Option.some.inj hx32
                      exact Qs.midX () trivial (.cons rfl (.nil)) (fun _ H => H.to)
                  ·
                    rintro ⟨⟩ hφ
                    refine Ws.ret ?_
                    refine Qs.then_r ?_
                    obtain rfl := Option.some.inj h33
                    exact W_end (.inl rfl) Tryd.results32 (.tmp rfl .nil) rfl fun w hS => hR V1 w hS.fin
                · refine Ws.cond_f rfl hb ?_
                  refine Ws.skip ?_
                  refine Qs.then_n ?_
                  refine Ws.seq ?_
                  refine Ws.region ?_
                  refine Ls.cons (G.q (r_move rfl) rfl rfl ?_)
                  refine Ls.cons (G.q (r_nilCheck rfl) rfl rfl ?_)
                  refine Ls.cons (G.q (r_field rfl) rfl rfl ?_)
                  refine Ls.cons (G.q (r_field rfl) rfl rfl ?_)
                  refine Ls.cons (G.q (r_load rfl rfl) rfl rfl ?_)
                  refine Ls.cons (G.q (r_len rfl) rfl rfl ?_)
                  refine Ls.cons (G.q (r_bin rfl rfl rfl) rfl rfl ?_)
                  refine Ls.cons (G.q (r_assign rfl) rfl rfl ?_)
                  refine Ls.nil ?_
                  refine Qs.then_n ?_
                  refine Ws.seq ?_
                  refine Ws.seq ?_
                  refine Ws.region ?_
                  refine Ls.cons (G.q (r_move rfl) rfl rfl ?_)
                  refine Ls.cons (G.q (r_move rfl) rfl rfl ?_)
                  obtain ⟨x38, hx39, h30⟩ := bind_some h30
                  refine Ls.cons (o_call Tryd.call54 rfl fun a_ w_ hK_ hS_ => pla_reader_row.ok (B0 := B0) (V1 := V1) hx39 hS_.sels fun u40 w1_ hS1_ => atRet (G.goA ?_ (hK_.put rfl _) hS1_))
                  clear hS1_ w1_ hS_ hK_ w_ a_
                  refine Ls.cons (G.q (r_not rfl) rfl rfl ?_)
                  refine Ls.nil ?_
                  refine Qs.then_n ?_
                  rcases bif_some h30 with ⟨hb, h30⟩ | ⟨hb, h30⟩
                  · refine Ws.cond_t rfl hb ?_
                    refine Ws.seq ?_
                    refine Ws.region ?_
                    refine Ls.cons (G.q (r_assign rfl) rfl rfl ?_)
                    refine Ls.nil ?_
                    refine Qs.then_n ?_
                    refine Ws.ret ?_
                    refine Qs.then_r ?_
                    obtain rfl := Option.some.inj h30
                    exact W_end (.inl rfl) Tryd.results32 (.tmp rfl .nil) rfl fun w hS => hR u40 w hS.fin
                  · refine Ws.cond_f rfl hb ?_
                    refine Ws.skip ?_
                    refine Qs.then_n ?_
                    refine Ws.seq ?_
                    refine Ws.seq ?_
                    refine Ws.region ?_
                    refine Ls.cons (G.q (r_move rfl) rfl rfl ?_)
                    refine Ls.nil ?_
                    refine Qs.then_n ?_
                    rcases bif_some h30 with ⟨hb, h30⟩ | ⟨hb, h30⟩
                    · refine Ws.cond_t rfl hb ?_
                      refine Ws.seq ?_
                      refine Ws.region ?_
                      refine Ls.cons (G.q (r_assign rfl) rfl rfl ?_)
                      refine Ls.nil ?_
                      refine Qs.then_n ?_
                      refine Ws.ret ?_
                      refine Qs.then_r ?_
                      obtain rfl := Option.some.inj h30
                      exact W_end (.inl rfl) Tryd.results32 (.tmp rfl .nil) rfl fun w hS => hR u40 w hS.fin
                    · refine Ws.cond_f rfl hb ?_
                      refine Ws.skip ?_
                      refine Qs.then_n ?_
                      refine Ws.seq ?_
                      refine Ws.region ?_
                      refine Ls.cons (G.q (r_assign rfl) rfl rfl ?_)
                      refine Ls.nil ?_
                      refine Qs.then_n ?_
                      refine Ws.ret ?_
                      obtain rfl := Option.some.inj h30
                      exact W_end (.inl rfl) Tryd.results32 (.tmp rfl .nil) rfl fun w hS => hR u40 w hS.fin

def pla_Parse.l1 (K : Nat) (x3 : List ByteArray) : Nat → (Int × Int × Int × Int × (List (Int × Int × (List Int))) × Int × Int) → Option ((Int × Int × Int × (List (Int × Int × (List Int))) × Int × Int) ⊕ (Int × Int × Int × (List (Int × Int × (List Int))) × Int × Int))
  | 0, _ => none
  | j13 + 1, s12 =>
    (bif decide ((s12.1 : Int) < (((x3.take ((IntKind.wrap .i64 ((x3.length : Int) - 1)).toNat)).drop 0).length : Int)) then ((idx ((x3.take ((IntKind.wrap .i64 ((x3.length : Int) - 1)).toNat)).drop 0) s12.1).bind fun y16 => (((bif (y16.toList == (⟨#[]⟩ : ByteArray).toList) then some true else ((idx y16.data.toList 0).bind fun y24 => some (((y24.toNat : Int) : Int) == 35)))).bind fun x21 => (bif x21 then pla_Parse.l1 K x3 j13 (IntKind.wrap .i64 (s12.1 + 1), s12.2.1, s12.2.2.1, s12.2.2.2.1, s12.2.2.2.2.1, s12.2.2.2.2.2.1, s12.2.2.2.2.2.2) else ((pla_reader_take.f K s12.2.1 s12.2.2.1 s12.2.2.2.1 s12.2.2.2.2.1 s12.2.2.2.2.2.1 s12.2.2.2.2.2.2 y16).bind fun x26 => (bif (x26.1 : Int) != 0 then some (.inl (0, 0, 0, [], s12.1, x26.1)) else pla_Parse.l1 K x3 j13 (IntKind.wrap .i64 (s12.1 + 1), x26.2.1, x26.2.2.1, x26.2.2.2.1, x26.2.2.2.2.1, x26.2.2.2.2.2.1, x26.2.2.2.2.2.2)))))) else some (.inr (s12.2.1, s12.2.2.1, s12.2.2.2.1, s12.2.2.2.2.1, s12.2.2.2.2.2.1, s12.2.2.2.2.2.2)))

def pla_Parse.f (K : Nat) (a0 : ByteArray) : Option (Int × Int × Int × (List (Int × Int × (List Int))) × Int × Int) :=
  (bif decide (((a0.size : Int) : Int) > 8000) then some (0, 0, 0, [], 0, 3) else ((strings_Split.f K a0 (⟨#[10]⟩ : ByteArray)).bind fun x3 => (bif decide (0 ≤ (IntKind.wrap .i64 ((x3.length : Int) - 1)) ∧ 0 ≤ (IntKind.wrap .i64 ((x3.length : Int) - 1)).toNat ∧ (IntKind.wrap .i64 ((x3.length : Int) - 1)).toNat ≤ x3.length) then ((pla_Parse.l1 K x3 K (0, 1, 0, 0, [], 0, -1) : Option ((Int × Int × Int × (List (Int × Int × (List Int))) × Int × Int) ⊕ (Int × Int × Int × (List (Int × Int × (List Int))) × Int × Int))).bind fun y => match y with | .inl r => some r | .inr x9 => ((idx x3 (IntKind.wrap .i64 ((x3.length : Int) - 1))).bind fun y30 => (bif !(y30.toList == (⟨#[]⟩ : ByteArray).toList) then some (0, 0, 0, [], IntKind.wrap .i64 ((x3.length : Int) - 1), 2) else (bif (x9.2.2.2.2.1 : Int) != 5 then some (0, 0, 0, [], IntKind.wrap .i64 ((x3.length : Int) - 1), 7) else some (x9.1, x9.2.1, x9.2.2.1, x9.2.2.2.1, 0, 0))))) else none)))

theorem pla_Parse.ok {K : Nat} {a0 : ByteArray} {r : Int × Int × Int × (List (Int × Int × (List Int))) × Int × Int} (h : pla_Parse.f K a0 = some r) {τ : Meta} {L : List Itm} {w : World} {R : Ending → World → Prop} (hS : St τ ([Glo] ++ L) w)
    (hR : ∀ (w0 : Value) w', St τ ([Own (kP (kI .u8) (kP (kI .u8) (kL (kI .i64)))) w0 r.2.2.2.1 45] ++ L) w' → R (.returned (.tuple #[.agg #[.int .i64 r.1, .int .i64 r.2.1, .int .i64 r.2.2.1, w0], .int .i64 r.2.2.2.2.1, .int .i64 r.2.2.2.2.2])) w') : Calls Tryd.prog 15 #[.string a0] w R := by
  refine enter (vs := [_]) Tryd.func15 rfl Tryd.ntmps15 rfl hS.cat ?_
  unfold pla_Parse.f at h
  refine Ws.seq ?_
  refine Ws.region ?_
  refine Ls.cons (o_alloc (cs := [.int .i64 0, .int .i64 0, .int .i64 0, .slice none 0 0]) rfl rfl fun b1 => ?_)
  refine Ls.cons (G.q (r_assign rfl) rfl rfl ?_)
  refine Ls.cons (G.q (r_assign rfl) rfl rfl ?_)
  refine Ls.nil ?_
  refine Qs.then_n ?_
  refine Ws.seq ?_
  refine Ws.seq ?_
  refine Ws.region ?_
  refine Ls.cons (G.q (r_move rfl) rfl rfl ?_)
  refine Ls.cons (G.q (r_lenS rfl) rfl rfl ?_)
  refine Ls.cons (G.q (r_bin rfl rfl rfl) rfl rfl ?_)
  refine Ls.nil ?_
  refine Qs.then_n ?_
  rcases bif_some h with ⟨hb, h⟩ | ⟨hb, h⟩
  · refine Ws.cond_t rfl hb ?_
    refine Ws.seq ?_
    refine Ws.region ?_
    refine Ls.cons (G.q (r_build [.int .i64 0, .int .i64 0, .int .i64 0, .slice none 0 0] rfl (by kernel_rfl)) rfl rfl ?_)
    refine Ls.cons (o_store (vs := [.int .i64 0, .int .i64 0, .int .i64 0, .slice none 0 0]) rfl rfl rfl rfl ?_)
    refine Ls.cons (G.q (r_assign rfl) rfl rfl ?_)
    refine Ls.cons (G.q (r_assign rfl) rfl rfl ?_)
    refine Ls.nil ?_
    refine Qs.then_n ?_
    refine Ws.ret ?_
    refine Qs.then_r ?_
    obtain rfl := Option.some.inj h
    exact W_end (.inl rfl) Tryd.results15 (.cellN rfl rfl (.tmp rfl (.tmp rfl .nil))) rfl fun w hS => hR (.slice none 0 0) w hS.fin
  · refine Ws.cond_f rfl hb ?_
    refine Ws.skip ?_
    refine Qs.then_n ?_
    refine Ws.seq ?_
    refine Ws.region ?_
    refine Ls.cons (G.q (r_build [.int .i64 1, .int .i64 0, .int .i64 0, .slice none 0 0] rfl (by kernel_rfl)) rfl rfl ?_)
    refine Ls.cons (G.q (r_build [.int .i64 1, .int .i64 0, .int .i64 0, .slice none 0 0, .int .i64 0, .int .i64 (-1)] rfl (by kernel_rfl)) rfl rfl ?_)
    refine Ls.cons (o_box (cs := [.int .i64 1, .int .i64 0, .int .i64 0, .slice none 0 0, .int .i64 0, .int .i64 (-1)]) rfl rfl fun b2 => ?_)
    refine Ls.cons (G.q (r_assign rfl) rfl rfl ?_)
    refine Ls.nil ?_
    refine Qs.then_n ?_
    refine Ws.seq ?_
    refine Ws.region ?_
    refine Ls.cons (G.q (r_move rfl) rfl rfl ?_)
    obtain ⟨x3, hx4, h⟩ := bind_some h
    refine Ls.cons (o_call Tryd.call31 rfl fun a_ w_ hK_ hS_ => strings_Split.ok hx4 hS_.sels fun u5 w1_ hS1_ => atRet (G.goA ?_ (hK_.put rfl _) hS1_))
    clear hS1_ w1_ hS_ hK_ w_ a_
    refine Ls.cons (G.q (r_assign rfl) rfl rfl ?_)
    refine Ls.nil ?_
    refine Qs.then_n ?_
    refine Ws.seq ?_
    refine Ws.region ?_
    refine Ls.cons (G.q (r_move rfl) rfl rfl ?_)
    refine Ls.cons (G.q (r_len rfl) rfl rfl ?_)
    refine Ls.cons (G.q (r_bin rfl rfl rfl) rfl rfl ?_)
    refine Ls.cons (G.q (r_assign rfl) rfl rfl ?_)
    refine Ls.nil ?_
    refine Qs.then_n ?_
    refine Ws.seq ?_
    refine Ws.seq ?_
    refine Ws.region ?_
    refine Ls.cons (G.q (r_move rfl) rfl rfl ?_)
    refine Ls.cons (G.q (r_move rfl) rfl rfl ?_)
    refine G.frz kS u5 9 ?_
    rcases bif_some h with ⟨hb, h⟩ | ⟨_, h⟩
    rotate_left
    · cases h
    have hb6 := of_decide_eq_true hb
    refine G.sub kS u5 0 ((IntKind.wrap .i64 ((x3.length : Int) - 1)).toNat) hb6.2.1 hb6.2.2 ?_
    intro v7 hv8
    refine Ls.cons (G.q (r_slice kS rfl .n (.s rfl hb6.1) hb6.2.1 hb6.2.2 hv8) rfl rfl ?_)
    refine Ls.cons (G.q (r_len rfl) rfl rfl ?_)
    refine Ls.cons (G.q (r_move rfl) rfl rfl ?_)
    refine Ls.nil ?_
    refine Qs.then_n ?_
    obtain ⟨x9, hx10, h11⟩ := bind_some h
    refine Ws.cutX (ε := Value) (isR x9 = true) (fun e => [(2, .pointer (some ⟨b1, 0, none⟩)), (5, .pointer (some ⟨b2, 0, none⟩)), (6, u5), (7, .int .i64 (IntKind.wrap .i64 ((x3.length : Int) - 1)))]) (fun e => Glo :: Cells b1 [.int .i64 0, .int .i64 0, .int .i64 0, .slice none 0 0] 24 :: Own (kP (kI .u8) (kP (kI .u8) (kL (kI .i64)))) e ((getR (0, 0, 0, [], 0, 0) x9).2.2.2.1) 45 :: Cells b2 [.int .i64 ((getR (0, 0, 0, [], 0, 0) x9).1), .int .i64 ((getR (0, 0, 0, [], 0, 0) x9).2.1), .int .i64 ((getR (0, 0, 0, [], 0, 0) x9).2.2.1), e, .int .i64 ((getR (0, 0, 0, [], 0, 0) x9).2.2.2.2.1), .int .i64 ((getR (0, 0, 0, [], 0, 0) x9).2.2.2.2.2)] 65 :: Frz kS u5 x3 :: L) ?_ ?_
    ·
      refine Ws.block ?_
      refine Ws.loop (ε := Value) (pla_Parse.l1 K x3) (fun s e => [(2, .pointer (some ⟨b1, 0, none⟩)), (5, .pointer (some ⟨b2, 0, none⟩)), (6, u5), (7, .int .i64 (IntKind.wrap .i64 ((x3.length : Int) - 1))), (25, v7), (26, .int .i64 (((x3.take ((IntKind.wrap .i64 ((x3.length : Int) - 1)).toNat)).drop 0).length : Int)), (27, .int .i64 s.1)]) (fun s e => Glo :: Cells b1 [.int .i64 0, .int .i64 0, .int .i64 0, .slice none 0 0] 24 :: Own (kP (kI .u8) (kP (kI .u8) (kL (kI .i64)))) e s.2.2.2.2.1 45 :: Cells b2 [.int .i64 s.2.1, .int .i64 s.2.2.1, .int .i64 s.2.2.2.1, e, .int .i64 s.2.2.2.2.2.1, .int .i64 s.2.2.2.2.2.2] 65 :: Frz kS u5 x3 :: Frz kS v7 ((x3.take ((IntKind.wrap .i64 ((x3.length : Int) - 1)).toNat)).drop 0) :: L) (.slice none 0 0) hx10 (.cons rfl (.cons rfl (.cons rfl (.cons rfl (.cons rfl (.cons rfl (.cons rfl (.nil)))))))) (fun _ H => H.to) ?_
      rintro j13 s12 e15 h14
      cases j13 with
      | zero => cases (show none = some _ from h14)
      | succ j13 =>
        rw [pla_Parse.l1] at h14
        refine Ws.seq ?_
        refine Ws.region ?_
        refine Ls.cons (G.q (r_bin rfl rfl rfl) rfl rfl ?_)
        refine Ls.nil ?_
        refine Qs.then_n ?_
        refine Ws.seq ?_
        rcases bif_some h14 with ⟨hb, h14⟩ | ⟨hb, h14⟩
        · refine Ws.cond_t rfl hb ?_
          refine Ws.skip ?_
          refine Qs.then_n ?_
          refine Ws.seq ?_
          refine Ws.block ?_
          refine Ws.seq ?_
          refine Ws.region ?_
          refine Ls.cons (G.q (r_move rfl) rfl rfl ?_)
          obtain ⟨y16, hy17, h14⟩ := bind_some h14
          have hy17 := idx_some hy17
          refine G.el (i := s12.1.toNat) kS 1 v7 rfl hy17.2 ?_
          intro b18 o19 c20
          refine G.xp_s ?_
          refine Ls.cons (G.q (r_idxN s12.1.toNat rfl rfl hy17.1 rfl) rfl rfl ?_)
          refine Ls.cons (G.q (r_load rfl rfl) rfl rfl ?_)
          refine Ls.cons (G.q (r_assign rfl) rfl rfl ?_)
          refine Ls.cons (G.q (r_assign rfl) rfl rfl ?_)
          refine Ls.nil ?_
          refine Qs.then_n ?_
          refine Ws.seq ?_
          refine Ws.seq ?_
          refine Ws.region ?_
          refine Ls.cons (G.q (r_move rfl) rfl rfl ?_)
          refine Ls.cons (G.q (r_eqS rfl rfl) rfl rfl ?_)
          refine Ls.cons (G.q (r_move rfl) rfl rfl ?_)
          obtain ⟨x21, hx22, h23⟩ := bind_some h14
          refine Ls.cutX (ε := Unit) True (fun e => [(2, .pointer (some ⟨b1, 0, none⟩)), (5, .pointer (some ⟨b2, 0, none⟩)), (6, u5), (7, .int .i64 (IntKind.wrap .i64 ((x3.length : Int) - 1))), (8, .int .i64 s12.1), (9, .string y16), (25, v7), (26, .int .i64 (((x3.take ((IntKind.wrap .i64 ((x3.length : Int) - 1)).toNat)).drop 0).length : Int)), (27, .int .i64 s12.1), (38, .bool x21)]) (fun e => Glo :: Cells b1 [.int .i64 0, .int .i64 0, .int .i64 0, .slice none 0 0] 24 :: Cells b2 [.int .i64 s12.2.1, .int .i64 s12.2.2.1, .int .i64 s12.2.2.2.1, e15, .int .i64 s12.2.2.2.2.2.1, .int .i64 s12.2.2.2.2.2.2] 65 :: Frz kS u5 x3 :: Frz kS v7 ((x3.take ((IntKind.wrap .i64 ((x3.length : Int) - 1)).toNat)).drop 0) :: Own (kP (kI .u8) (kP (kI .u8) (kL (kI .i64)))) e15 s12.2.2.2.2.1 45 :: L) ?_ ?_
          ·
            rcases bif_some hx22 with ⟨hb, hx22⟩ | ⟨hb, hx22⟩
            · refine G.fixB 34 hb rfl ?_
              refine Ls.guard_f rfl rfl rfl rfl ?_
              refine Ls.guard_f rfl rfl rfl rfl ?_
              refine Ls.guard_f rfl rfl rfl rfl ?_
              refine Ls.cons (G.q (r_pick rfl rfl rfl) rfl rfl ?_)
              refine Ls.nil ?_
              refine Qs.only ?_
              obtain rfl := Option.some.inj hx22
              exact Qs.midX () trivial (.cons rfl (.cons rfl (.cons rfl (.cons rfl (.cons rfl (.cons rfl (.cons rfl (.cons rfl (.cons rfl (.cons rfl (.nil))))))))))) (fun _ H => H.to)
            · refine G.fixB 34 hb rfl ?_
              refine Ls.guard_t rfl rfl rfl (G.q (r_move rfl) rfl rfl ?_)
              obtain ⟨y24, hy25, hx22⟩ := bind_some hx22
              have hy25 := idx_some hy25
              refine Ls.guard_t rfl rfl rfl (G.q (r_byte rfl rfl hy25.1 hy25.2) rfl rfl ?_)
              refine Ls.guard_t rfl rfl rfl (G.q (r_bin rfl rfl rfl) rfl rfl ?_)
              refine Ls.cons (G.q (r_pick rfl rfl rfl) rfl rfl ?_)
              refine Ls.nil ?_
              refine Qs.only ?_
              obtain rfl := Option.some.inj hx22
              exact Qs.midX () trivial (.cons rfl (.cons rfl (.cons rfl (.cons rfl (.cons rfl (.cons rfl (.cons rfl (.cons rfl (.cons rfl (.cons rfl (.nil))))))))))) (fun _ H => H.to)
          ·
            rintro ⟨⟩ _
            refine Qs.then_n ?_
            rcases bif_some h23 with ⟨hb, h23⟩ | ⟨hb, h23⟩
            · refine Ws.cond_t rfl hb ?_
              refine Ws.exit ?_
              refine Qs.then_e ?_
              refine Qs.block_e ?_
              refine Qs.then_n ?_
              refine Ws.region ?_
              refine Ls.cons (G.q (r_bin rfl rfl rfl) rfl rfl ?_)
              refine Ls.cons (G.q (r_move rfl) rfl rfl ?_)
              refine Ls.nil ?_
              refine Qs.then_n ?_
              exact Qs.again e15 h23 (Nat.lt_succ_self _) (.cons rfl (.cons rfl (.cons rfl (.cons rfl (.cons rfl (.cons rfl (.cons rfl (.nil)))))))) (fun _ H => H.to)
            · refine Ws.cond_f rfl hb ?_
              refine Ws.skip ?_
              refine Qs.then_n ?_
              refine Ws.seq ?_
              refine Ws.region ?_
              refine Ls.cons (G.q (r_move rfl) rfl rfl ?_)
              refine Ls.cons (G.q (r_move rfl) rfl rfl ?_)
              obtain ⟨x26, hx27, h23⟩ := bind_some h23
              refine Ls.cons (o_call Tryd.call32 rfl fun a_ w_ hK_ hS_ => pla_reader_take.ok (B0 := b2) (V1 := e15) hx27 hS_.sels fun u28 w1_ hS1_ => atRet (G.goA ?_ (hK_.put rfl _) hS1_))
              clear hS1_ w1_ hS_ hK_ w_ a_
              refine Ls.cons (G.q (r_assign rfl) rfl rfl ?_)
              refine Ls.nil ?_
              refine Qs.then_n ?_
              refine Ws.seq ?_
              refine Ws.region ?_
              refine Ls.cons (G.q (r_move rfl) rfl rfl ?_)
              refine Ls.cons (G.q (r_bin rfl rfl rfl) rfl rfl ?_)
              refine Ls.nil ?_
              refine Qs.then_n ?_
              rcases bif_some h23 with ⟨hb, h23⟩ | ⟨hb, h23⟩
              · refine Ws.cond_t rfl hb ?_
                refine Ws.seq ?_
                refine Ws.region ?_
                refine Ls.cons (G.q (r_build [.int .i64 0, .int .i64 0, .int .i64 0, .slice none 0 0] rfl (by kernel_rfl)) rfl rfl ?_)
                refine Ls.cons (G.q (r_move rfl) rfl rfl ?_)
                refine Ls.cons (G.q (r_move rfl) rfl rfl ?_)
                refine Ls.cons (o_store (vs := [.int .i64 0, .int .i64 0, .int .i64 0, .slice none 0 0]) rfl rfl rfl rfl ?_)
                refine Ls.cons (G.q (r_assign rfl) rfl rfl ?_)
                refine Ls.cons (G.q (r_assign rfl) rfl rfl ?_)
                refine Ls.nil ?_
                refine Qs.then_n ?_
                refine Ws.ret ?_
                refine Qs.block_r ?_
                refine Qs.then_r ?_
                refine Qs.then_r ?_
                refine Qs.block_r ?_
                refine Qs.then_r ?_
                obtain rfl := Option.some.inj h23
                obtain rfl := Option.some.inj h11
                exact W_end (.inl rfl) Tryd.results15 (.cellN rfl rfl (.tmp rfl (.tmp rfl .nil))) rfl fun w hS => hR (.slice none 0 0) w hS.fin
              · refine Ws.cond_f rfl hb ?_
                refine Ws.skip ?_
                refine Qs.block_n ?_
                refine Qs.then_n ?_
                refine Ws.region ?_
                refine Ls.cons (G.q (r_bin rfl rfl rfl) rfl rfl ?_)
                refine Ls.cons (G.q (r_move rfl) rfl rfl ?_)
                refine Ls.nil ?_
                refine Qs.then_n ?_
                exact Qs.again u28 h23 (Nat.lt_succ_self _) (.cons rfl (.cons rfl (.cons rfl (.cons rfl (.cons rfl (.cons rfl (.cons rfl (.nil)))))))) (fun _ H => H.to)
        · refine Ws.cond_f rfl hb ?_
          refine Ws.exit ?_
          refine Qs.then_e ?_
          refine Qs.then_e ?_
          refine Qs.block_e ?_
          refine Qs.then_n ?_
          obtain rfl := Option.some.inj h14
          exact Qs.midX e15 rfl (.cons rfl (.cons rfl (.cons rfl (.cons rfl (.nil))))) (fun _ H => H.to)
    ·
      rintro e29 hφ
      cases x9 with
      | inl _ => cases hφ
      | inr x9 =>
        refine Ws.seq ?_
        refine Ws.block ?_
        refine Ws.seq ?_
        refine Ws.region ?_
        refine Ls.cons (G.q (r_move rfl) rfl rfl ?_)
        refine Ls.cons (G.q (r_move rfl) rfl rfl ?_)
        obtain ⟨y30, hy31, h11⟩ := bind_some h11
        have hy31 := idx_some hy31
        refine G.el (i := (IntKind.wrap .i64 ((x3.length : Int) - 1)).toNat) kS 1 u5 rfl hy31.2 ?_
        intro b32 o33 c34
        refine G.xp_s ?_
        refine Ls.cons (G.q (r_idxN ((IntKind.wrap .i64 ((x3.length : Int) - 1)).toNat) rfl rfl hy31.1 rfl) rfl rfl ?_)
        refine Ls.cons (G.q (r_load rfl rfl) rfl rfl ?_)
        refine Ls.cons (G.q (r_eqSn rfl rfl) rfl rfl ?_)
        refine Ls.cons (G.q (r_assign rfl) rfl rfl ?_)
        refine Ls.nil ?_
        refine Qs.then_n ?_
        rcases bif_some h11 with ⟨hb, h11⟩ | ⟨hb, h11⟩
        · refine Ws.cond_t rfl hb ?_
          refine Ws.seq ?_
          refine Ws.region ?_
          refine Ls.cons (G.q (r_build [.int .i64 0, .int .i64 0, .int .i64 0, .slice none 0 0] rfl (by kernel_rfl)) rfl rfl ?_)
          refine Ls.cons (G.q (r_move rfl) rfl rfl ?_)
          refine Ls.cons (o_store (vs := [.int .i64 0, .int .i64 0, .int .i64 0, .slice none 0 0]) rfl rfl rfl rfl ?_)
          refine Ls.cons (G.q (r_assign rfl) rfl rfl ?_)
          refine Ls.cons (G.q (r_assign rfl) rfl rfl ?_)
          refine Ls.nil ?_
          refine Qs.then_n ?_
          refine Ws.ret ?_
          refine Qs.block_r ?_
          refine Qs.then_r ?_
          obtain rfl := Option.some.inj h11
          exact W_end (.inl rfl) Tryd.results15 (.cellN rfl rfl (.tmp rfl (.tmp rfl .nil))) rfl fun w hS => hR (.slice none 0 0) w hS.fin
        · refine Ws.cond_f rfl hb ?_
          refine Ws.seq ?_
          refine Ws.region ?_
          refine Ls.cons (G.q (r_move rfl) rfl rfl ?_)
          refine Ls.cons (G.q (r_nilCheck rfl) rfl rfl ?_)
          refine Ls.cons (G.q (r_field rfl) rfl rfl ?_)
          refine Ls.cons (G.q (r_load rfl rfl) rfl rfl ?_)
          refine Ls.cons (G.q (r_bin rfl rfl rfl) rfl rfl ?_)
          refine Ls.cons (G.q (r_assign rfl) rfl rfl ?_)
          refine Ls.nil ?_
          refine Qs.then_n ?_
          rcases bif_some h11 with ⟨hb, h11⟩ | ⟨hb, h11⟩
          · refine Ws.cond_t rfl hb ?_
            refine Ws.seq ?_
            refine Ws.region ?_
            refine Ls.cons (G.q (r_build [.int .i64 0, .int .i64 0, .int .i64 0, .slice none 0 0] rfl (by kernel_rfl)) rfl rfl ?_)
            refine Ls.cons (G.q (r_move rfl) rfl rfl ?_)
            refine Ls.cons (o_store (vs := [.int .i64 0, .int .i64 0, .int .i64 0, .slice none 0 0]) rfl rfl rfl rfl ?_)
            refine Ls.cons (G.q (r_assign rfl) rfl rfl ?_)
            refine Ls.cons (G.q (r_assign rfl) rfl rfl ?_)
            refine Ls.nil ?_
            refine Qs.then_n ?_
            refine Ws.ret ?_
            refine Qs.block_r ?_
            refine Qs.then_r ?_
            obtain rfl := Option.some.inj h11
            exact W_end (.inl rfl) Tryd.results15 (.cellN rfl rfl (.tmp rfl (.tmp rfl .nil))) rfl fun w hS => hR (.slice none 0 0) w hS.fin
          · refine Ws.cond_f rfl hb ?_
            refine Ws.skip ?_
            refine Qs.block_n ?_
            refine Qs.then_n ?_
            refine Ws.seq ?_
            refine Ws.region ?_
            refine Ls.cons (G.q (r_move rfl) rfl rfl ?_)
            refine Ls.cons (G.q (r_nilCheck rfl) rfl rfl ?_)
            refine Ls.cons (G.q (r_field rfl) rfl rfl ?_)
            refine Ls.cons (G.q (r_loadN rfl rfl) rfl rfl ?_)
            refine Ls.cons (o_store (vs := [.int .i64 x9.1, .int .i64 x9.2.1, .int .i64 x9.2.2.1, e29]) rfl rfl rfl rfl ?_)
            refine Ls.cons (G.q (r_assign rfl) rfl rfl ?_)
            refine Ls.cons (G.q (r_assign rfl) rfl rfl ?_)
            refine Ls.nil ?_
            refine Qs.then_n ?_
            refine Ws.ret ?_
            obtain rfl := Option.some.inj h11
            exact W_end (.inl rfl) Tryd.results15 (.cellN rfl rfl (.tmp rfl (.tmp rfl .nil))) rfl fun w hS => hR e29 w hS.fin

def cube_Right.f (K : Nat) (a0 : Int) (a1 : Int) (a2 : Int) : Option Bool :=
  (((bif decide ((a2 : Int) ≥ 0) then (bif decide ((a2 : Int) ≤ 8) then (bif decide (0 ≤ a2) then (bif decide ((IntKind.wrap .i64 a0 : Int) < (iSh .shl .i64 1 a2)) then some ((iBit .andNot .u8 a1 a0 : Int) == 0) else some false) else none) else some false) else some false)).bind fun x2 => some x2)

theorem cube_Right.ok {K : Nat} {a0 : Int} {a1 : Int} {a2 : Int} {r : Bool} (h : cube_Right.f K a0 a1 a2 = some r) {τ : Meta} {L : List Itm} {w : World} {R : Ending → World → Prop} (hS : St τ ([] ++ L) w)
    (hR : ∀ w', St τ ([] ++ L) w' → R (.returned (.bool r)) w') : Calls Tryd.prog 27 #[.agg #[.int .u8 a0, .int .u8 a1], .int .i64 a2] w R := by
  refine enter (vs := [_, _]) Tryd.func27 rfl Tryd.ntmps27 rfl hS.cat ?_
  unfold cube_Right.f at h
  refine Ws.seq ?_
  refine Ws.region ?_
  refine Ls.cons (o_box (cs := [.int .u8 a0, .int .u8 a1]) rfl rfl fun b1 => ?_)
  refine Ls.cons (G.q (r_assign rfl) rfl rfl ?_)
  refine Ls.nil ?_
  refine Qs.then_n ?_
  refine Ws.seq ?_
  obtain ⟨x2, hx3, h4⟩ := bind_some h
  refine Ws.cutX (ε := Unit) (True) (fun e => [(4, .bool x2)]) (fun e => L) ?_ ?_
  ·
    refine D.start [Cells b1 [.int .u8 a0, .int .u8 a1] 42] rfl ?_
    refine D.take 0 rfl (by kernel_rfl) (r_move rfl) rfl ?_
    refine D.take 1 rfl (by kernel_rfl) (r_bin rfl rfl rfl) rfl ?_
    refine D.take 2 rfl (by kernel_rfl) (r_move rfl) rfl ?_
    rcases bif_some hx3 with ⟨hb, hx3⟩ | ⟨hb, hx3⟩
    · refine G.fixB 7 hb rfl ?_
      refine D.take_t 3 rfl (by kernel_rfl) rfl rfl rfl (r_move rfl) rfl ?_
      refine D.take_t 4 rfl (by kernel_rfl) rfl rfl rfl (r_bin rfl rfl rfl) rfl ?_
      refine D.take 5 rfl (by kernel_rfl) (r_pick rfl rfl rfl) rfl ?_
      refine D.take 6 rfl (by kernel_rfl) (r_move rfl) rfl ?_
      rcases bif_some hx3 with ⟨hb, hx3⟩ | ⟨hb, hx3⟩
      · refine G.fixB 11 hb rfl ?_
        refine D.take_t 7 rfl (by kernel_rfl) rfl rfl rfl (r_field rfl) rfl ?_
        refine D.take_t 8 rfl (by kernel_rfl) rfl rfl rfl (r_load rfl rfl) rfl ?_
        refine D.take_t 9 rfl (by kernel_rfl) rfl rfl rfl (r_conv rfl) rfl ?_
        refine D.take_t 10 rfl (by kernel_rfl) rfl rfl rfl (r_move rfl) rfl ?_
        rcases bif_some hx3 with ⟨hb, hx3⟩ | ⟨_, hx3⟩
        rotate_left
        · cases hx3
        refine D.take_t 11 rfl (by kernel_rfl) rfl rfl rfl (r_sh rfl rfl rfl (of_decide_eq_true hb)) rfl ?_
        refine D.take_t 12 rfl (by kernel_rfl) rfl rfl rfl (r_bin rfl rfl rfl) rfl ?_
        refine D.take 13 rfl (by kernel_rfl) (r_pick rfl rfl rfl) rfl ?_
        refine D.take 14 rfl (by kernel_rfl) (r_move rfl) rfl ?_
        rcases bif_some hx3 with ⟨hb, hx3⟩ | ⟨hb, hx3⟩
        · refine G.fixB 19 hb rfl ?_
          refine D.take_t 15 rfl (by kernel_rfl) rfl rfl rfl (r_field rfl) rfl ?_
          refine D.take_t 16 rfl (by kernel_rfl) rfl rfl rfl (r_load rfl rfl) rfl ?_
          refine D.take_t 17 rfl (by kernel_rfl) rfl rfl rfl (r_field rfl) rfl ?_
          refine D.take_t 18 rfl (by kernel_rfl) rfl rfl rfl (r_load rfl rfl) rfl ?_
          refine D.take_t 19 rfl (by kernel_rfl) rfl rfl rfl (r_bit rfl rfl rfl) rfl ?_
          refine D.take_t 20 rfl (by kernel_rfl) rfl rfl rfl (r_bin rfl rfl rfl) rfl ?_
          refine D.take 21 rfl (by kernel_rfl) (r_pick rfl rfl rfl) rfl ?_
          refine D.tail (by kernel_rfl) ?_
          refine A.run 22 rfl (by kernel_rfl) (G.q (r_assign rfl) rfl rfl ?_)
          refine A.done (by kernel_rfl) ?_
          refine Qs.then_n ?_
          obtain rfl := Option.some.inj hx3
          exact Qs.midX () trivial (.cons rfl (.nil)) (fun _ H => H.to)
        · refine G.fixB 19 hb rfl ?_
          refine D.take_f 15 rfl (by kernel_rfl) rfl rfl rfl rfl ?_
          refine D.take_f 16 rfl (by kernel_rfl) rfl rfl rfl rfl ?_
          refine D.take_f 17 rfl (by kernel_rfl) rfl rfl rfl rfl ?_
          refine D.take_f 18 rfl (by kernel_rfl) rfl rfl rfl rfl ?_
          refine D.take_f 19 rfl (by kernel_rfl) rfl rfl rfl rfl ?_
          refine D.take_f 20 rfl (by kernel_rfl) rfl rfl rfl rfl ?_
          refine D.take 21 rfl (by kernel_rfl) (r_pick rfl rfl rfl) rfl ?_
          refine D.tail (by kernel_rfl) ?_
          refine A.run 22 rfl (by kernel_rfl) (G.q (r_assign rfl) rfl rfl ?_)
          refine A.done (by kernel_rfl) ?_
          refine Qs.then_n ?_
          obtain rfl := Option.some.inj hx3
          exact Qs.midX () trivial (.cons rfl (.nil)) (fun _ H => H.to)
      · refine G.fixB 11 hb rfl ?_
        refine D.take_f 7 rfl (by kernel_rfl) rfl rfl rfl rfl ?_
        refine D.take_f 8 rfl (by kernel_rfl) rfl rfl rfl rfl ?_
        refine D.take_f 9 rfl (by kernel_rfl) rfl rfl rfl rfl ?_
        refine D.take_f 10 rfl (by kernel_rfl) rfl rfl rfl rfl ?_
        refine D.take_f 11 rfl (by kernel_rfl) rfl rfl rfl rfl ?_
        refine D.take_f 12 rfl (by kernel_rfl) rfl rfl rfl rfl ?_
        refine D.take 13 rfl (by kernel_rfl) (r_pick rfl rfl rfl) rfl ?_
        refine D.take 14 rfl (by kernel_rfl) (r_move rfl) rfl ?_
        refine D.take_f 15 rfl (by kernel_rfl) rfl rfl rfl rfl ?_
        refine D.take_f 16 rfl (by kernel_rfl) rfl rfl rfl rfl ?_
        refine D.take_f 17 rfl (by kernel_rfl) rfl rfl rfl rfl ?_
        refine D.take_f 18 rfl (by kernel_rfl) rfl rfl rfl rfl ?_
        refine D.take_f 19 rfl (by kernel_rfl) rfl rfl rfl rfl ?_
        refine D.take_f 20 rfl (by kernel_rfl) rfl rfl rfl rfl ?_
        refine D.take 21 rfl (by kernel_rfl) (r_pick rfl rfl rfl) rfl ?_
        refine D.tail (by kernel_rfl) ?_
        refine A.run 22 rfl (by kernel_rfl) (G.q (r_assign rfl) rfl rfl ?_)
        refine A.done (by kernel_rfl) ?_
        refine Qs.then_n ?_
        obtain rfl := Option.some.inj hx3
        exact Qs.midX () trivial (.cons rfl (.nil)) (fun _ H => H.to)
    · refine G.fixB 7 hb rfl ?_
      refine D.take_f 3 rfl (by kernel_rfl) rfl rfl rfl rfl ?_
      refine D.take_f 4 rfl (by kernel_rfl) rfl rfl rfl rfl ?_
      refine D.take 5 rfl (by kernel_rfl) (r_pick rfl rfl rfl) rfl ?_
      refine D.take 6 rfl (by kernel_rfl) (r_move rfl) rfl ?_
      refine D.take_f 7 rfl (by kernel_rfl) rfl rfl rfl rfl ?_
      refine D.take_f 8 rfl (by kernel_rfl) rfl rfl rfl rfl ?_
      refine D.take_f 9 rfl (by kernel_rfl) rfl rfl rfl rfl ?_
      refine D.take_f 10 rfl (by kernel_rfl) rfl rfl rfl rfl ?_
      refine D.take_f 11 rfl (by kernel_rfl) rfl rfl rfl rfl ?_
      refine D.take_f 12 rfl (by kernel_rfl) rfl rfl rfl rfl ?_
      refine D.take 13 rfl (by kernel_rfl) (r_pick rfl rfl rfl) rfl ?_
      refine D.take 14 rfl (by kernel_rfl) (r_move rfl) rfl ?_
      refine D.take_f 15 rfl (by kernel_rfl) rfl rfl rfl rfl ?_
      refine D.take_f 16 rfl (by kernel_rfl) rfl rfl rfl rfl ?_
      refine D.take_f 17 rfl (by kernel_rfl) rfl rfl rfl rfl ?_
      refine D.take_f 18 rfl (by kernel_rfl) rfl rfl rfl rfl ?_
      refine D.take_f 19 rfl (by kernel_rfl) rfl rfl rfl rfl ?_
      refine D.take_f 20 rfl (by kernel_rfl) rfl rfl rfl rfl ?_
      refine D.take 21 rfl (by kernel_rfl) (r_pick rfl rfl rfl) rfl ?_
      refine D.tail (by kernel_rfl) ?_
      refine A.run 22 rfl (by kernel_rfl) (G.q (r_assign rfl) rfl rfl ?_)
      refine A.done (by kernel_rfl) ?_
      refine Qs.then_n ?_
      obtain rfl := Option.some.inj hx3
      exact Qs.midX () trivial (.cons rfl (.nil)) (fun _ H => H.to)
  ·
    rintro ⟨⟩ hφ
    refine Ws.ret ?_
    obtain rfl := Option.some.inj h4
    exact W_end (.inl rfl) Tryd.results27 (.tmp rfl .nil) rfl fun w hS => hR w hS.fin

def pla_Right.l2 (K : Nat) (y26 : Int × Int × (List Int)) : Nat → Int → Option (Bool ⊕ Unit)
  | 0, _ => none
  | j42 + 1, s41 =>
    (bif decide ((s41 : Int) < (y26.2.2.length : Int)) then ((idx y26.2.2 s41).bind fun y44 => (((bif decide ((y44 : Int) < 0) then some true else some (decide ((y44 : Int) ≥ 3)))).bind fun x49 => (bif x49 then some (.inl false) else pla_Right.l2 K y26 j42 (IntKind.wrap .i64 (s41 + 1))))) else some (.inr ()))

def pla_Right.l1 (K : Nat) (a3 : List (Int × Int × (List Int))) (a1 : Int) (a2 : Int) : Nat → Int → Option (Bool ⊕ Unit)
  | 0, _ => none
  | j24 + 1, s23 =>
    (bif decide ((s23 : Int) < (a3.length : Int)) then ((idx a3 s23).bind fun y26 => ((cube_Right.f K y26.1 y26.2.1 a1).bind fun x33 => (((bif !x33 then some true else some (((y26.2.2.length : Int) : Int) != a2))).bind fun x35 => (bif x35 then some (.inl false) else ((pla_Right.l2 K y26 K 0 : Option ((Bool) ⊕ (Unit))).bind fun y => match y with | .inl r => some (.inl r) | .inr x38 => pla_Right.l1 K a3 a1 a2 j24 (IntKind.wrap .i64 (s23 + 1))))))) else some (.inr ()))

def pla_Right.f (K : Nat) (a0 : Int) (a1 : Int) (a2 : Int) (a3 : List (Int × Int × (List Int))) : Option Bool :=
  (((bif decide ((a0 : Int) < 0) then some true else (((bif decide ((a0 : Int) > 3) then some true else (((bif decide ((a1 : Int) < 0) then some true else (((bif decide ((a1 : Int) > 8) then some true else (((bif decide ((a2 : Int) < 1) then some true else (((bif decide ((a2 : Int) > 4) then some true else some (decide (((a3.length : Int) : Int) > 64)))).bind fun x17 => some x17))).bind fun x14 => some x14))).bind fun x11 => some x11))).bind fun x8 => some x8))).bind fun x5 => some x5))).bind fun x2 => (bif x2 then some false else ((pla_Right.l1 K a3 a1 a2 K 0 : Option ((Bool) ⊕ (Unit))).bind fun y => match y with | .inl r => some r | .inr x20 => some true)))

theorem pla_Right.ok {K : Nat} {a0 : Int} {a1 : Int} {a2 : Int} {a3 : List (Int × Int × (List Int))} {V0 : Value} {r : Bool} (h : pla_Right.f K a0 a1 a2 a3 = some r) {τ : Meta} {L : List Itm} {w : World} {R : Ending → World → Prop} (hS : St τ ([Frz (kP (kI .u8) (kP (kI .u8) (kL (kI .i64)))) V0 a3] ++ L) w)
    (hR : ∀ w', St τ ([] ++ L) w' → R (.returned (.bool r)) w') : Calls Tryd.prog 11 #[.agg #[.int .i64 a0, .int .i64 a1, .int .i64 a2, V0]] w R := by
  refine enter (vs := [_]) Tryd.func11 rfl Tryd.ntmps11 rfl hS.cat ?_
  unfold pla_Right.f at h
  refine Ws.seq ?_
  refine Ws.region ?_
  refine Ls.cons (o_box (cs := [.int .i64 a0, .int .i64 a1, .int .i64 a2, V0]) rfl rfl fun b1 => ?_)
  refine Ls.cons (G.q (r_assign rfl) rfl rfl ?_)
  refine Ls.nil ?_
  refine Qs.then_n ?_
  refine Ws.seq ?_
  refine Ws.seq ?_
  refine Ws.region ?_
  refine Ls.cons (G.q (r_field rfl) rfl rfl ?_)
  refine Ls.cons (G.q (r_load rfl rfl) rfl rfl ?_)
  refine Ls.cons (G.q (r_bin rfl rfl rfl) rfl rfl ?_)
  refine Ls.cons (G.q (r_move rfl) rfl rfl ?_)
  obtain ⟨x2, hx3, h4⟩ := bind_some h
  refine Ls.cutX (ε := Unit) True (fun e => [(1, .pointer (some ⟨b1, 0, none⟩)), (40, .bool x2)]) (fun e => Cells b1 [.int .i64 a0, .int .i64 a1, .int .i64 a2, V0] 24 :: Frz (kP (kI .u8) (kP (kI .u8) (kL (kI .i64)))) V0 a3 :: L) ?_ ?_
  ·
    rcases bif_some hx3 with ⟨hb, hx3⟩ | ⟨hb, hx3⟩
    · refine G.fixB 10 hb rfl ?_
      refine Ls.guard_f rfl rfl rfl rfl ?_
      refine Ls.guard_f rfl rfl rfl rfl ?_
      refine Ls.guard_f rfl rfl rfl rfl ?_
      refine Ls.cons (G.q (r_pick rfl rfl rfl) rfl rfl ?_)
      refine Ls.cons (G.q (r_move rfl) rfl rfl ?_)
      refine Ls.guard_f rfl rfl rfl rfl ?_
      refine Ls.guard_f rfl rfl rfl rfl ?_
      refine Ls.guard_f rfl rfl rfl rfl ?_
      refine Ls.cons (G.q (r_pick rfl rfl rfl) rfl rfl ?_)
      refine Ls.cons (G.q (r_move rfl) rfl rfl ?_)
      refine Ls.guard_f rfl rfl rfl rfl ?_
      refine Ls.guard_f rfl rfl rfl rfl ?_
      refine Ls.guard_f rfl rfl rfl rfl ?_
      refine Ls.cons (G.q (r_pick rfl rfl rfl) rfl rfl ?_)
      refine Ls.cons (G.q (r_move rfl) rfl rfl ?_)
      refine Ls.guard_f rfl rfl rfl rfl ?_
      refine Ls.guard_f rfl rfl rfl rfl ?_
      refine Ls.guard_f rfl rfl rfl rfl ?_
      refine Ls.cons (G.q (r_pick rfl rfl rfl) rfl rfl ?_)
      refine Ls.cons (G.q (r_move rfl) rfl rfl ?_)
      refine Ls.guard_f rfl rfl rfl rfl ?_
      refine Ls.guard_f rfl rfl rfl rfl ?_
      refine Ls.guard_f rfl rfl rfl rfl ?_
      refine Ls.cons (G.q (r_pick rfl rfl rfl) rfl rfl ?_)
      refine Ls.cons (G.q (r_move rfl) rfl rfl ?_)
      refine Ls.guard_f rfl rfl rfl rfl ?_
      refine Ls.guard_f rfl rfl rfl rfl ?_
      refine Ls.guard_f rfl rfl rfl rfl ?_
      refine Ls.guard_f rfl rfl rfl rfl ?_
      refine Ls.cons (G.q (r_pick rfl rfl rfl) rfl rfl ?_)
      refine Ls.nil ?_
      refine Qs.only ?_
      obtain rfl := Option.some.inj hx3
      exact Qs.midX () trivial (.cons rfl (.cons rfl (.nil))) (fun _ H => H.to)
    · refine G.fixB 10 hb rfl ?_
      refine Ls.guard_t rfl rfl rfl (G.q (r_field rfl) rfl rfl ?_)
      refine Ls.guard_t rfl rfl rfl (G.q (r_load rfl rfl) rfl rfl ?_)
      refine Ls.guard_t rfl rfl rfl (G.q (r_bin rfl rfl rfl) rfl rfl ?_)
      refine Ls.cons (G.q (r_pick rfl rfl rfl) rfl rfl ?_)
      refine Ls.cons (G.q (r_move rfl) rfl rfl ?_)
      obtain ⟨x5, hx6, h7⟩ := bind_some hx3
      refine Ls.cutX (ε := Unit) True (fun e => [(1, .pointer (some ⟨b1, 0, none⟩)), (40, .bool x5)]) (fun e => Cells b1 [.int .i64 a0, .int .i64 a1, .int .i64 a2, V0] 24 :: Frz (kP (kI .u8) (kP (kI .u8) (kL (kI .i64)))) V0 a3 :: L) ?_ ?_
      ·
        rcases bif_some hx6 with ⟨hb, hx6⟩ | ⟨hb, hx6⟩
        · refine G.fixB 15 hb rfl ?_
          refine Ls.guard_f rfl rfl rfl rfl ?_
          refine Ls.guard_f rfl rfl rfl rfl ?_
          refine Ls.guard_f rfl rfl rfl rfl ?_
          refine Ls.cons (G.q (r_pick rfl rfl rfl) rfl rfl ?_)
          refine Ls.cons (G.q (r_move rfl) rfl rfl ?_)
          refine Ls.guard_f rfl rfl rfl rfl ?_
          refine Ls.guard_f rfl rfl rfl rfl ?_
          refine Ls.guard_f rfl rfl rfl rfl ?_
          refine Ls.cons (G.q (r_pick rfl rfl rfl) rfl rfl ?_)
          refine Ls.cons (G.q (r_move rfl) rfl rfl ?_)
          refine Ls.guard_f rfl rfl rfl rfl ?_
          refine Ls.guard_f rfl rfl rfl rfl ?_
          refine Ls.guard_f rfl rfl rfl rfl ?_
          refine Ls.cons (G.q (r_pick rfl rfl rfl) rfl rfl ?_)
          refine Ls.cons (G.q (r_move rfl) rfl rfl ?_)
          refine Ls.guard_f rfl rfl rfl rfl ?_
          refine Ls.guard_f rfl rfl rfl rfl ?_
          refine Ls.guard_f rfl rfl rfl rfl ?_
          refine Ls.cons (G.q (r_pick rfl rfl rfl) rfl rfl ?_)
          refine Ls.cons (G.q (r_move rfl) rfl rfl ?_)
          refine Ls.guard_f rfl rfl rfl rfl ?_
          refine Ls.guard_f rfl rfl rfl rfl ?_
          refine Ls.guard_f rfl rfl rfl rfl ?_
          refine Ls.guard_f rfl rfl rfl rfl ?_
          refine Ls.cons (G.q (r_pick rfl rfl rfl) rfl rfl ?_)
          refine Ls.nil ?_
          refine Qs.only ?_
          obtain rfl := Option.some.inj hx6
          exact Qs.midX () trivial (.cons rfl (.cons rfl (.nil))) (fun _ H => H.to)
        · refine G.fixB 15 hb rfl ?_
          refine Ls.guard_t rfl rfl rfl (G.q (r_field rfl) rfl rfl ?_)
          refine Ls.guard_t rfl rfl rfl (G.q (r_load rfl rfl) rfl rfl ?_)
          refine Ls.guard_t rfl rfl rfl (G.q (r_bin rfl rfl rfl) rfl rfl ?_)
          refine Ls.cons (G.q (r_pick rfl rfl rfl) rfl rfl ?_)
          refine Ls.cons (G.q (r_move rfl) rfl rfl ?_)
          obtain ⟨x8, hx9, h10⟩ := bind_some hx6
          refine Ls.cutX (ε := Unit) True (fun e => [(1, .pointer (some ⟨b1, 0, none⟩)), (40, .bool x8)]) (fun e => Cells b1 [.int .i64 a0, .int .i64 a1, .int .i64 a2, V0] 24 :: Frz (kP (kI .u8) (kP (kI .u8) (kL (kI .i64)))) V0 a3 :: L) ?_ ?_
          ·
            rcases bif_some hx9 with ⟨hb, hx9⟩ | ⟨hb, hx9⟩
            · refine G.fixB 20 hb rfl ?_
              refine Ls.guard_f rfl rfl rfl rfl ?_
              refine Ls.guard_f rfl rfl rfl rfl ?_
              refine Ls.guard_f rfl rfl rfl rfl ?_
              refine Ls.cons (G.q (r_pick rfl rfl rfl) rfl rfl ?_)
              refine Ls.cons (G.q (r_move rfl) rfl rfl ?_)
              refine Ls.guard_f rfl rfl rfl rfl ?_
              refine Ls.guard_f rfl rfl rfl rfl ?_
              refine Ls.guard_f rfl rfl rfl rfl ?_
              refine Ls.cons (G.q (r_pick rfl rfl rfl) rfl rfl ?_)
              refine Ls.cons (G.q (r_move rfl) rfl rfl ?_)
              refine Ls.guard_f rfl rfl rfl rfl ?_
              refine Ls.guard_f rfl rfl rfl rfl ?_
              refine Ls.guard_f rfl rfl rfl rfl ?_
              refine Ls.cons (G.q (r_pick rfl rfl rfl) rfl rfl ?_)
              refine Ls.cons (G.q (r_move rfl) rfl rfl ?_)
              refine Ls.guard_f rfl rfl rfl rfl ?_
              refine Ls.guard_f rfl rfl rfl rfl ?_
              refine Ls.guard_f rfl rfl rfl rfl ?_
              refine Ls.guard_f rfl rfl rfl rfl ?_
              refine Ls.cons (G.q (r_pick rfl rfl rfl) rfl rfl ?_)
              refine Ls.nil ?_
              refine Qs.only ?_
              obtain rfl := Option.some.inj hx9
              exact Qs.midX () trivial (.cons rfl (.cons rfl (.nil))) (fun _ H => H.to)
            · refine G.fixB 20 hb rfl ?_
              refine Ls.guard_t rfl rfl rfl (G.q (r_field rfl) rfl rfl ?_)
              refine Ls.guard_t rfl rfl rfl (G.q (r_load rfl rfl) rfl rfl ?_)
              refine Ls.guard_t rfl rfl rfl (G.q (r_bin rfl rfl rfl) rfl rfl ?_)
              refine Ls.cons (G.q (r_pick rfl rfl rfl) rfl rfl ?_)
              refine Ls.cons (G.q (r_move rfl) rfl rfl ?_)
              obtain ⟨x11, hx12, h13⟩ := bind_some hx9
              refine Ls.cutX (ε := Unit) True (fun e => [(1, .pointer (some ⟨b1, 0, none⟩)), (40, .bool x11)]) (fun e => Cells b1 [.int .i64 a0, .int .i64 a1, .int .i64 a2, V0] 24 :: Frz (kP (kI .u8) (kP (kI .u8) (kL (kI .i64)))) V0 a3 :: L) ?_ ?_
              ·
                rcases bif_some hx12 with ⟨hb, hx12⟩ | ⟨hb, hx12⟩
                · refine G.fixB 25 hb rfl ?_
                  refine Ls.guard_f rfl rfl rfl rfl ?_
                  refine Ls.guard_f rfl rfl rfl rfl ?_
                  refine Ls.guard_f rfl rfl rfl rfl ?_
                  refine Ls.cons (G.q (r_pick rfl rfl rfl) rfl rfl ?_)
                  refine Ls.cons (G.q (r_move rfl) rfl rfl ?_)
                  refine Ls.guard_f rfl rfl rfl rfl ?_
                  refine Ls.guard_f rfl rfl rfl rfl ?_
                  refine Ls.guard_f rfl rfl rfl rfl ?_
                  refine Ls.cons (G.q (r_pick rfl rfl rfl) rfl rfl ?_)
                  refine Ls.cons (G.q (r_move rfl) rfl rfl ?_)
                  refine Ls.guard_f rfl rfl rfl rfl ?_
                  refine Ls.guard_f rfl rfl rfl rfl ?_
                  refine Ls.guard_f rfl rfl rfl rfl ?_
                  refine Ls.guard_f rfl rfl rfl rfl ?_
                  refine Ls.cons (G.q (r_pick rfl rfl rfl) rfl rfl ?_)
                  refine Ls.nil ?_
                  refine Qs.only ?_
                  obtain rfl := Option.some.inj hx12
                  exact Qs.midX () trivial (.cons rfl (.cons rfl (.nil))) (fun _ H => H.to)
                · refine G.fixB 25 hb rfl ?_
                  refine Ls.guard_t rfl rfl rfl (G.q (r_field rfl) rfl rfl ?_)
                  refine Ls.guard_t rfl rfl rfl (G.q (r_load rfl rfl) rfl rfl ?_)
                  refine Ls.guard_t rfl rfl rfl (G.q (r_bin rfl rfl rfl) rfl rfl ?_)
                  refine Ls.cons (G.q (r_pick rfl rfl rfl) rfl rfl ?_)
                  refine Ls.cons (G.q (r_move rfl) rfl rfl ?_)
                  obtain ⟨x14, hx15, h16⟩ := bind_some hx12
                  refine Ls.cutX (ε := Unit) True (fun e => [(1, .pointer (some ⟨b1, 0, none⟩)), (40, .bool x14)]) (fun e => Cells b1 [.int .i64 a0, .int .i64 a1, .int .i64 a2, V0] 24 :: Frz (kP (kI .u8) (kP (kI .u8) (kL (kI .i64)))) V0 a3 :: L) ?_ ?_
                  ·
                    rcases bif_some hx15 with ⟨hb, hx15⟩ | ⟨hb, hx15⟩
                    · refine G.fixB 30 hb rfl ?_
                      refine Ls.guard_f rfl rfl rfl rfl ?_
                      refine Ls.guard_f rfl rfl rfl rfl ?_
                      refine Ls.guard_f rfl rfl rfl rfl ?_
                      refine Ls.cons (G.q (r_pick rfl rfl rfl) rfl rfl ?_)
                      refine Ls.cons (G.q (r_move rfl) rfl rfl ?_)
                      refine Ls.guard_f rfl rfl rfl rfl ?_
                      refine Ls.guard_f rfl rfl rfl rfl ?_
                      refine Ls.guard_f rfl rfl rfl rfl ?_
                      refine Ls.guard_f rfl rfl rfl rfl ?_
                      refine Ls.cons (G.q (r_pick rfl rfl rfl) rfl rfl ?_)
                      refine Ls.nil ?_
                      refine Qs.only ?_
                      obtain rfl := Option.some.inj hx15
                      exact Qs.midX () trivial (.cons rfl (.cons rfl (.nil))) (fun _ H => H.to)
                    · refine G.fixB 30 hb rfl ?_
                      refine Ls.guard_t rfl rfl rfl (G.q (r_field rfl) rfl rfl ?_)
                      refine Ls.guard_t rfl rfl rfl (G.q (r_load rfl rfl) rfl rfl ?_)
                      refine Ls.guard_t rfl rfl rfl (G.q (r_bin rfl rfl rfl) rfl rfl ?_)
                      refine Ls.cons (G.q (r_pick rfl rfl rfl) rfl rfl ?_)
                      refine Ls.cons (G.q (r_move rfl) rfl rfl ?_)
                      obtain ⟨x17, hx18, h19⟩ := bind_some hx15
                      refine Ls.cutX (ε := Unit) True (fun e => [(1, .pointer (some ⟨b1, 0, none⟩)), (40, .bool x17)]) (fun e => Cells b1 [.int .i64 a0, .int .i64 a1, .int .i64 a2, V0] 24 :: Frz (kP (kI .u8) (kP (kI .u8) (kL (kI .i64)))) V0 a3 :: L) ?_ ?_
                      ·
                        rcases bif_some hx18 with ⟨hb, hx18⟩ | ⟨hb, hx18⟩
                        · refine G.fixB 35 hb rfl ?_
                          refine Ls.guard_f rfl rfl rfl rfl ?_
                          refine Ls.guard_f rfl rfl rfl rfl ?_
                          refine Ls.guard_f rfl rfl rfl rfl ?_
                          refine Ls.guard_f rfl rfl rfl rfl ?_
                          refine Ls.cons (G.q (r_pick rfl rfl rfl) rfl rfl ?_)
                          refine Ls.nil ?_
                          refine Qs.only ?_
                          obtain rfl := Option.some.inj hx18
                          exact Qs.midX () trivial (.cons rfl (.cons rfl (.nil))) (fun _ H => H.to)
                        · refine G.fixB 35 hb rfl ?_
                          refine Ls.guard_t rfl rfl rfl (G.q (r_field rfl) rfl rfl ?_)
                          refine Ls.guard_t rfl rfl rfl (G.q (r_load rfl rfl) rfl rfl ?_)
                          refine Ls.guard_t rfl rfl rfl (G.q (r_len rfl) rfl rfl ?_)
                          refine Ls.guard_t rfl rfl rfl (G.q (r_bin rfl rfl rfl) rfl rfl ?_)
                          refine Ls.cons (G.q (r_pick rfl rfl rfl) rfl rfl ?_)
                          refine Ls.nil ?_
                          refine Qs.only ?_
                          obtain rfl := Option.some.inj hx18
                          exact Qs.midX () trivial (.cons rfl (.cons rfl (.nil))) (fun _ H => H.to)
                      ·
                        rintro ⟨⟩ _
                        refine Qs.only ?_
                        obtain rfl := Option.some.inj h19
                        exact Qs.midX () trivial (.cons rfl (.cons rfl (.nil))) (fun _ H => H.to)
                  ·
                    rintro ⟨⟩ _
                    refine Qs.only ?_
                    obtain rfl := Option.some.inj h16
                    exact Qs.midX () trivial (.cons rfl (.cons rfl (.nil))) (fun _ H => H.to)
              ·
                rintro ⟨⟩ _
                refine Qs.only ?_
                obtain rfl := Option.some.inj h13
                exact Qs.midX () trivial (.cons rfl (.cons rfl (.nil))) (fun _ H => H.to)
          ·
            rintro ⟨⟩ _
            refine Qs.only ?_
            obtain rfl := Option.some.inj h10
            exact Qs.midX () trivial (.cons rfl (.cons rfl (.nil))) (fun _ H => H.to)
      ·
        rintro ⟨⟩ _
        refine Qs.only ?_
        obtain rfl := Option.some.inj h7
        exact Qs.midX () trivial (.cons rfl (.cons rfl (.nil))) (fun _ H => H.to)
  ·
    rintro ⟨⟩ _
    refine Qs.then_n ?_
    rcases bif_some h4 with ⟨hb, h4⟩ | ⟨hb, h4⟩
    · refine Ws.cond_t rfl hb ?_
      refine Ws.seq ?_
      refine Ws.region ?_
      refine Ls.cons (G.q (r_assign rfl) rfl rfl ?_)
      refine Ls.nil ?_
      refine Qs.then_n ?_
      refine Ws.ret ?_
      refine Qs.then_r ?_
      obtain rfl := Option.some.inj h4
      exact W_end (.inl rfl) Tryd.results11 (.tmp rfl .nil) rfl fun w hS => hR w hS.fin
    · refine Ws.cond_f rfl hb ?_
      refine Ws.skip ?_
      refine Qs.then_n ?_
      refine Ws.seq ?_
      refine Ws.seq ?_
      refine Ws.region ?_
      refine Ls.cons (G.q (r_field rfl) rfl rfl ?_)
      refine Ls.cons (G.q (r_load rfl rfl) rfl rfl ?_)
      refine Ls.cons (G.q (r_len rfl) rfl rfl ?_)
      refine Ls.cons (G.q (r_move rfl) rfl rfl ?_)
      refine Ls.nil ?_
      refine Qs.then_n ?_
      obtain ⟨x20, hx21, h22⟩ := bind_some h4
      refine Ws.cutX (ε := Unit) (isR x20 = true) (fun e => []) (fun e => Frz (kP (kI .u8) (kP (kI .u8) (kL (kI .i64)))) V0 a3 :: L) ?_ ?_
      ·
        refine Ws.block ?_
        refine Ws.loop (ε := Unit) (pla_Right.l1 K a3 a1 a2) (fun s e => [(1, .pointer (some ⟨b1, 0, none⟩)), (42, V0), (43, .int .i64 (a3.length : Int)), (44, .int .i64 s)]) (fun s e => Cells b1 [.int .i64 a0, .int .i64 a1, .int .i64 a2, V0] 24 :: Frz (kP (kI .u8) (kP (kI .u8) (kL (kI .i64)))) V0 a3 :: L) () hx21 (.cons rfl (.cons rfl (.cons rfl (.cons rfl (.nil))))) (fun _ H => H.to) ?_
        rintro j24 s23 ⟨⟩ h25
        cases j24 with
        | zero => cases (show none = some _ from h25)
        | succ j24 =>
          rw [pla_Right.l1] at h25
          refine Ws.seq ?_
          refine Ws.region ?_
          refine Ls.cons (G.q (r_bin rfl rfl rfl) rfl rfl ?_)
          refine Ls.nil ?_
          refine Qs.then_n ?_
          refine Ws.seq ?_
          rcases bif_some h25 with ⟨hb, h25⟩ | ⟨hb, h25⟩
          · refine Ws.cond_t rfl hb ?_
            refine Ws.skip ?_
            refine Qs.then_n ?_
            refine Ws.seq ?_
            refine Ws.block ?_
            refine Ws.seq ?_
            refine Ws.region ?_
            obtain ⟨y26, hy27, h25⟩ := bind_some h25
            have hy27 := idx_some hy27
            refine G.el (i := s23.toNat) (kP (kI .u8) (kP (kI .u8) (kL (kI .i64)))) 3 V0 rfl hy27.2 ?_
            intro b28 o29 c30
            refine G.xp_u8u8l ?_
            intro u31
            refine Ls.cons (G.q (r_idxN s23.toNat rfl rfl hy27.1 rfl) rfl rfl ?_)
            refine Ls.cons (G.q (r_loadN rfl rfl) rfl rfl ?_)
            refine Ls.cons (o_alloc (cs := [.int .u8 0, .int .u8 0, .slice none 0 0]) rfl rfl fun b32 => ?_)
            refine Ls.cons (o_store (vs := [.int .u8 y26.1, .int .u8 y26.2.1, u31]) rfl rfl rfl rfl ?_)
            refine Ls.nil ?_
            refine Qs.then_n ?_
            refine Ws.seq ?_
            refine Ws.seq ?_
            refine Ws.region ?_
            refine Ls.cons (G.q (r_field rfl) rfl rfl ?_)
            refine Ls.cons (G.q (r_loadN rfl rfl) rfl rfl ?_)
            refine Ls.cons (G.q (r_field rfl) rfl rfl ?_)
            refine Ls.cons (G.q (r_load rfl rfl) rfl rfl ?_)
            obtain ⟨x33, hx34, h25⟩ := bind_some h25
            refine Ls.cons (o_call Tryd.call27 rfl fun a_ w_ hK_ hS_ => cube_Right.ok hx34 hS_.sels fun w1_ hS1_ => atRet (G.goA ?_ (hK_.put rfl _) hS1_))
            clear hS1_ w1_ hS_ hK_ w_ a_
            refine Ls.cons (G.q (r_not rfl) rfl rfl ?_)
            refine Ls.cons (G.q (r_move rfl) rfl rfl ?_)
            obtain ⟨x35, hx36, h37⟩ := bind_some h25
            refine Ls.cutX (ε := Unit) True (fun e => [(1, .pointer (some ⟨b1, 0, none⟩)), (4, .pointer (some ⟨b32, 0, none⟩)), (42, V0), (43, .int .i64 (a3.length : Int)), (44, .int .i64 s23), (61, .bool x35)]) (fun e => Cells b1 [.int .i64 a0, .int .i64 a1, .int .i64 a2, V0] 24 :: Cells b32 [.int .u8 y26.1, .int .u8 y26.2.1, u31] 45 :: Frz (kP (kI .u8) (kP (kI .u8) (kL (kI .i64)))) V0 a3 :: Frz (kI .i64) u31 y26.2.2 :: L) ?_ ?_
            ·
              rcases bif_some hx36 with ⟨hb, hx36⟩ | ⟨hb, hx36⟩
              · refine G.fixB 54 hb rfl ?_
                refine Ls.guard_f rfl rfl rfl rfl ?_
                refine Ls.guard_f rfl rfl rfl rfl ?_
                refine Ls.guard_f rfl rfl rfl rfl ?_
                refine Ls.guard_f rfl rfl rfl rfl ?_
                refine Ls.guard_f rfl rfl rfl rfl ?_
                refine Ls.guard_f rfl rfl rfl rfl ?_
                refine Ls.cons (G.q (r_pick rfl rfl rfl) rfl rfl ?_)
                refine Ls.nil ?_
                refine Qs.only ?_
                obtain rfl := Option.some.inj hx36
                exact Qs.midX () trivial (.cons rfl (.cons rfl (.cons rfl (.cons rfl (.cons rfl (.cons rfl (.nil))))))) (fun _ H => H.to)
              · refine G.fixB 54 hb rfl ?_
                refine Ls.guard_t rfl rfl rfl (G.q (r_field rfl) rfl rfl ?_)
                refine Ls.guard_t rfl rfl rfl (G.q (r_load rfl rfl) rfl rfl ?_)
                refine Ls.guard_t rfl rfl rfl (G.q (r_len rfl) rfl rfl ?_)
                refine Ls.guard_t rfl rfl rfl (G.q (r_field rfl) rfl rfl ?_)
                refine Ls.guard_t rfl rfl rfl (G.q (r_load rfl rfl) rfl rfl ?_)
                refine Ls.guard_t rfl rfl rfl (G.q (r_bin rfl rfl rfl) rfl rfl ?_)
                refine Ls.cons (G.q (r_pick rfl rfl rfl) rfl rfl ?_)
                refine Ls.nil ?_
                refine Qs.only ?_
                obtain rfl := Option.some.inj hx36
                exact Qs.midX () trivial (.cons rfl (.cons rfl (.cons rfl (.cons rfl (.cons rfl (.cons rfl (.nil))))))) (fun _ H => H.to)
            ·
              rintro ⟨⟩ _
              refine Qs.then_n ?_
              rcases bif_some h37 with ⟨hb, h37⟩ | ⟨hb, h37⟩
              · refine Ws.cond_t rfl hb ?_
                refine Ws.seq ?_
                refine Ws.region ?_
                refine Ls.cons (G.q (r_assign rfl) rfl rfl ?_)
                refine Ls.nil ?_
                refine Qs.then_n ?_
                refine Ws.ret ?_
                refine Qs.then_r ?_
                refine Qs.block_r ?_
                refine Qs.then_r ?_
                refine Qs.then_r ?_
                refine Qs.block_r ?_
                refine Qs.then_r ?_
                obtain rfl := Option.some.inj h37
                obtain rfl := Option.some.inj h22
                exact W_end (.inl rfl) Tryd.results11 (.tmp rfl .nil) rfl fun w hS => hR w hS.fin
              · refine Ws.cond_f rfl hb ?_
                refine Ws.skip ?_
                refine Qs.then_n ?_
                refine Ws.seq ?_
                refine Ws.region ?_
                refine Ls.cons (G.q (r_field rfl) rfl rfl ?_)
                refine Ls.cons (G.q (r_load rfl rfl) rfl rfl ?_)
                refine Ls.cons (G.q (r_len rfl) rfl rfl ?_)
                refine Ls.cons (G.q (r_move rfl) rfl rfl ?_)
                refine Ls.nil ?_
                refine Qs.then_n ?_
                obtain ⟨x38, hx39, h40⟩ := bind_some h37
                refine Ws.thenI ?_
                refine Ws.cutX (ε := Unit) (isR x38 = true) (fun e => [(1, .pointer (some ⟨b1, 0, none⟩)), (42, V0), (43, .int .i64 (a3.length : Int)), (44, .int .i64 s23)]) (fun e => Cells b1 [.int .i64 a0, .int .i64 a1, .int .i64 a2, V0] 24 :: Frz (kP (kI .u8) (kP (kI .u8) (kL (kI .i64)))) V0 a3 :: L) ?_ ?_
                ·
                  refine Ws.block ?_
                  refine Ws.loop (ε := Unit) (pla_Right.l2 K y26) (fun s e => [(1, .pointer (some ⟨b1, 0, none⟩)), (42, V0), (43, .int .i64 (a3.length : Int)), (44, .int .i64 s23), (63, u31), (64, .int .i64 (y26.2.2.length : Int)), (65, .int .i64 s)]) (fun s e => Cells b1 [.int .i64 a0, .int .i64 a1, .int .i64 a2, V0] 24 :: Frz (kP (kI .u8) (kP (kI .u8) (kL (kI .i64)))) V0 a3 :: Frz (kI .i64) u31 y26.2.2 :: L) () hx39 (.cons rfl (.cons rfl (.cons rfl (.cons rfl (.cons rfl (.cons rfl (.cons rfl (.nil)))))))) (fun _ H => H.to) ?_
                  rintro j42 s41 ⟨⟩ h43
                  cases j42 with
                  | zero => cases (show none = some _ from h43)
                  | succ j42 =>
                    rw [pla_Right.l2] at h43
                    refine Ws.seq ?_
                    refine Ws.region ?_
                    refine Ls.cons (G.q (r_bin rfl rfl rfl) rfl rfl ?_)
                    refine Ls.nil ?_
                    refine Qs.then_n ?_
                    refine Ws.seq ?_
                    rcases bif_some h43 with ⟨hb, h43⟩ | ⟨hb, h43⟩
                    · refine Ws.cond_t rfl hb ?_
                      refine Ws.skip ?_
                      refine Qs.then_n ?_
                      refine Ws.seq ?_
                      refine Ws.block ?_
                      refine Ws.seq ?_
                      refine Ws.region ?_
                      obtain ⟨y44, hy45, h43⟩ := bind_some h43
                      have hy45 := idx_some hy45
                      refine G.el (i := s41.toNat) (kI .i64) 1 u31 rfl hy45.2 ?_
                      intro b46 o47 c48
                      refine G.xp_i64 ?_
                      refine Ls.cons (G.q (r_idxN s41.toNat rfl rfl hy45.1 rfl) rfl rfl ?_)
                      refine Ls.cons (G.q (r_load rfl rfl) rfl rfl ?_)
                      refine Ls.cons (G.q (r_assign rfl) rfl rfl ?_)
                      refine Ls.nil ?_
                      refine Qs.then_n ?_
                      refine Ws.seq ?_
                      refine Ws.region ?_
                      refine Ls.cons (G.q (r_move rfl) rfl rfl ?_)
                      refine Ls.cons (G.q (r_bin rfl rfl rfl) rfl rfl ?_)
                      refine Ls.cons (G.q (r_move rfl) rfl rfl ?_)
                      obtain ⟨x49, hx50, h51⟩ := bind_some h43
                      refine Ls.cutX (ε := Unit) True (fun e => [(1, .pointer (some ⟨b1, 0, none⟩)), (42, V0), (43, .int .i64 (a3.length : Int)), (44, .int .i64 s23), (63, u31), (64, .int .i64 (y26.2.2.length : Int)), (65, .int .i64 s41), (74, .bool x49)]) (fun e => Cells b1 [.int .i64 a0, .int .i64 a1, .int .i64 a2, V0] 24 :: Frz (kP (kI .u8) (kP (kI .u8) (kL (kI .i64)))) V0 a3 :: Frz (kI .i64) u31 y26.2.2 :: L) ?_ ?_
                      ·
                        rcases bif_some hx50 with ⟨hb, hx50⟩ | ⟨hb, hx50⟩
                        · refine G.fixB 71 hb rfl ?_
                          refine Ls.guard_f rfl rfl rfl rfl ?_
                          refine Ls.guard_f rfl rfl rfl rfl ?_
                          refine Ls.cons (G.q (r_pick rfl rfl rfl) rfl rfl ?_)
                          refine Ls.nil ?_
                          refine Qs.only ?_
                          obtain rfl := Option.some.inj hx50
                          exact Qs.midX () trivial (.cons rfl (.cons rfl (.cons rfl (.cons rfl (.cons rfl (.cons rfl (.cons rfl (.cons rfl (.nil))))))))) (fun _ H => H.to)
                        · refine G.fixB 71 hb rfl ?_
                          refine Ls.guard_t rfl rfl rfl (G.q (r_move rfl) rfl rfl ?_)
                          refine Ls.guard_t rfl rfl rfl (G.q (r_bin rfl rfl rfl) rfl rfl ?_)
                          refine Ls.cons (G.q (r_pick rfl rfl rfl) rfl rfl ?_)
                          refine Ls.nil ?_
                          refine Qs.only ?_
                          obtain rfl := Option.some.inj hx50
                          exact Qs.midX () trivial (.cons rfl (.cons rfl (.cons rfl (.cons rfl (.cons rfl (.cons rfl (.cons rfl (.cons rfl (.nil))))))))) (fun _ H => H.to)
                      ·
                        rintro ⟨⟩ _
                        refine Qs.then_n ?_
                        rcases bif_some h51 with ⟨hb, h51⟩ | ⟨hb, h51⟩
                        · refine Ws.cond_t rfl hb ?_
                          refine Ws.seq ?_
                          refine Ws.region ?_
                          refine Ls.cons (G.q (r_assign rfl) rfl rfl ?_)
                          refine Ls.nil ?_
                          refine Qs.then_n ?_
                          refine Ws.ret ?_
                          refine Qs.block_r ?_
                          refine Qs.then_r ?_
                          refine Qs.then_r ?_
                          refine Qs.block_r ?_
                          refine Qs.then_r ?_
                          refine Qs.block_r ?_
                          refine Qs.then_r ?_
                          refine Qs.then_r ?_
                          refine Qs.block_r ?_
                          refine Qs.then_r ?_
                          obtain rfl := Option.some.inj h51
                          obtain rfl := Option.some.inj h40
                          obtain rfl := Option.some.inj h22
                          exact W_end (.inl rfl) Tryd.results11 (.tmp rfl .nil) rfl fun w hS => hR w hS.fin
                        · refine Ws.cond_f rfl hb ?_
                          refine Ws.skip ?_
                          refine Qs.block_n ?_
                          refine Qs.then_n ?_
                          refine Ws.region ?_
                          refine Ls.cons (G.q (r_bin rfl rfl rfl) rfl rfl ?_)
                          refine Ls.cons (G.q (r_move rfl) rfl rfl ?_)
                          refine Ls.nil ?_
                          refine Qs.then_n ?_
                          exact Qs.again () h51 (Nat.lt_succ_self _) (.cons rfl (.cons rfl (.cons rfl (.cons rfl (.cons rfl (.cons rfl (.cons rfl (.nil)))))))) (fun _ H => H.to)
                    · refine Ws.cond_f rfl hb ?_
                      refine Ws.exit ?_
                      refine Qs.then_e ?_
                      refine Qs.then_e ?_
                      refine Qs.block_e ?_
                      refine Qs.then_n ?_
                      obtain rfl := Option.some.inj h43
                      exact Qs.midX () rfl (.cons rfl (.cons rfl (.cons rfl (.cons rfl (.nil))))) (fun _ H => H.to)
                ·
                  rintro ⟨⟩ hφ
                  cases x38 with
                  | inl _ => cases hφ
                  | inr x38 =>
                    refine Qs.block_n ?_
                    refine Qs.then_n ?_
                    refine Ws.region ?_
                    refine Ls.cons (G.q (r_bin rfl rfl rfl) rfl rfl ?_)
                    refine Ls.cons (G.q (r_move rfl) rfl rfl ?_)
                    refine Ls.nil ?_
                    refine Qs.then_n ?_
                    exact Qs.again () h40 (Nat.lt_succ_self _) (.cons rfl (.cons rfl (.cons rfl (.cons rfl (.nil))))) (fun _ H => H.to)
          · refine Ws.cond_f rfl hb ?_
            refine Ws.exit ?_
            refine Qs.then_e ?_
            refine Qs.then_e ?_
            refine Qs.block_e ?_
            refine Qs.then_n ?_
            obtain rfl := Option.some.inj h25
            exact Qs.midX () rfl (.nil) (fun _ H => H.to)
      ·
        rintro ⟨⟩ hφ
        cases x20 with
        | inl _ => cases hφ
        | inr x20 =>
          refine Ws.seq ?_
          refine Ws.region ?_
          refine Ls.cons (G.q (r_assign rfl) rfl rfl ?_)
          refine Ls.nil ?_
          refine Qs.then_n ?_
          refine Ws.ret ?_
          obtain rfl := Option.some.inj h22
          exact W_end (.inl rfl) Tryd.results11 (.tmp rfl .nil) rfl fun w hS => hR w hS.fin

def cube_Text.l1 (K : Nat) (a2 : Int) (a0 : Int) (a1 : Int) : Nat → (Int × (List Int)) → Option (List Int)
  | 0, _ => none
  | j9 + 1, s8 =>
    (bif decide ((s8.1 : Int) < ((List.replicate a2.toNat (0 : Int)).length : Int)) then (bif decide (0 ≤ s8.1) then (bif (iBit .and .u8 (iSh .shr .u8 a0 s8.1) 1 : Int) == 0 then ((idx s8.2 s8.1).bind fun y11 => cube_Text.l1 K a2 a0 a1 j9 (IntKind.wrap .i64 (s8.1 + 1), s8.2.set s8.1.toNat 45)) else (bif decide (0 ≤ s8.1) then (bif (iBit .and .u8 (iSh .shr .u8 a1 s8.1) 1 : Int) == 0 then ((idx s8.2 s8.1).bind fun y14 => cube_Text.l1 K a2 a0 a1 j9 (IntKind.wrap .i64 (s8.1 + 1), s8.2.set s8.1.toNat 48)) else ((idx s8.2 s8.1).bind fun y17 => cube_Text.l1 K a2 a0 a1 j9 (IntKind.wrap .i64 (s8.1 + 1), s8.2.set s8.1.toNat 49))) else none)) else none) else some s8.2)

def cube_Text.f (K : Nat) (a0 : Int) (a1 : Int) (a2 : Int) : Option (ByteArray × Int) :=
  ((cube_Right.f K a0 a1 a2).bind fun x2 => (bif !x2 then some ((⟨#[]⟩ : ByteArray), 1) else (bif decide (0 ≤ a2 ∧ a2 ≤ 1099511627776) then ((cube_Text.l1 K a2 a0 a1 K (0, List.replicate a2.toNat (0 : Int))).bind fun x5 => some (b2s x5, 0)) else none)))

theorem cube_Text.ok {K : Nat} {a0 : Int} {a1 : Int} {a2 : Int} {r : ByteArray × Int} (h : cube_Text.f K a0 a1 a2 = some r) {τ : Meta} {L : List Itm} {w : World} {R : Ending → World → Prop} (hS : St τ ([] ++ L) w)
    (hR : ∀ w', St τ ([] ++ L) w' → R (.returned (.tuple #[.string r.1, .int .i64 r.2])) w') : Calls Tryd.prog 26 #[.agg #[.int .u8 a0, .int .u8 a1], .int .i64 a2] w R := by
  refine enter (vs := [_, _]) Tryd.func26 rfl Tryd.ntmps26 rfl hS.cat ?_
  unfold cube_Text.f at h
  refine Ws.seq ?_
  refine Ws.region ?_
  refine Ls.cons (o_box (cs := [.int .u8 a0, .int .u8 a1]) rfl rfl fun b1 => ?_)
  refine Ls.cons (G.q (r_assign rfl) rfl rfl ?_)
  refine Ls.cons (G.q (r_assign rfl) rfl rfl ?_)
  refine Ls.nil ?_
  refine Qs.then_n ?_
  refine Ws.seq ?_
  refine Ws.seq ?_
  refine Ws.region ?_
  refine Ls.cons (G.q (r_loadN rfl rfl) rfl rfl ?_)
  refine Ls.cons (G.q (r_move rfl) rfl rfl ?_)
  obtain ⟨x2, hx3, h⟩ := bind_some h
  refine Ls.cons (o_call Tryd.call27 rfl fun a_ w_ hK_ hS_ => cube_Right.ok hx3 hS_.sels fun w1_ hS1_ => atRet (G.goA ?_ (hK_.put rfl _) hS1_))
  clear hS1_ w1_ hS_ hK_ w_ a_
  refine Ls.cons (G.q (r_not rfl) rfl rfl ?_)
  refine Ls.nil ?_
  refine Qs.then_n ?_
  rcases bif_some h with ⟨hb, h⟩ | ⟨hb, h⟩
  · refine Ws.cond_t rfl hb ?_
    refine Ws.seq ?_
    refine Ws.region ?_
    refine Ls.cons (G.q (r_assign rfl) rfl rfl ?_)
    refine Ls.cons (G.q (r_assign rfl) rfl rfl ?_)
    refine Ls.nil ?_
    refine Qs.then_n ?_
    refine Ws.ret ?_
    refine Qs.then_r ?_
    obtain rfl := Option.some.inj h
    exact W_end (.inl rfl) Tryd.results26 (.tmp rfl (.tmp rfl .nil)) rfl fun w hS => hR w hS.fin
  · refine Ws.cond_f rfl hb ?_
    refine Ws.skip ?_
    refine Qs.then_n ?_
    refine Ws.seq ?_
    refine Ws.region ?_
    refine Ls.cons (G.q (r_move rfl) rfl rfl ?_)
    rcases bif_some h with ⟨hb, h⟩ | ⟨_, h⟩
    rotate_left
    · cases h
    have hb := of_decide_eq_true hb
    refine Ls.cons (o_makeSlice (kI .u8) (0 : Int) rfl rfl rfl rfl rfl hb.1 hb.2 rfl fun v4 => ?_)
    refine Ls.cons (G.q (r_assign rfl) rfl rfl ?_)
    refine Ls.nil ?_
    refine Qs.then_n ?_
    refine Ws.seq ?_
    refine Ws.seq ?_
    refine Ws.region ?_
    refine Ls.cons (G.q (r_move rfl) rfl rfl ?_)
    refine Ls.cons (G.q (r_len rfl) rfl rfl ?_)
    refine Ls.cons (G.q (r_move rfl) rfl rfl ?_)
    refine Ls.nil ?_
    refine Qs.then_n ?_
    obtain ⟨x5, hx6, h7⟩ := bind_some h
    refine Ws.cutX (ε := Unit) (True) (fun e => [(6, v4)]) (fun e => Own (kI .u8) v4 x5 5 :: L) ?_ ?_
    ·
      refine Ws.block ?_
      refine Ws.loop (ε := Unit) (cube_Text.l1 K a2 a0 a1) (fun s e => [(2, .pointer (some ⟨b1, 0, none⟩)), (6, v4), (15, .int .i64 ((List.replicate a2.toNat (0 : Int)).length : Int)), (16, .int .i64 s.1)]) (fun s e => Cells b1 [.int .u8 a0, .int .u8 a1] 42 :: Own (kI .u8) v4 s.2 5 :: L) () hx6 (.cons rfl (.cons rfl (.cons rfl (.cons rfl (.nil))))) (fun _ H => H.to) ?_
      rintro j9 s8 ⟨⟩ h10
      cases j9 with
      | zero => cases (show none = some _ from h10)
      | succ j9 =>
        rw [cube_Text.l1] at h10
        refine Ws.seq ?_
        refine Ws.region ?_
        refine Ls.cons (G.q (r_bin rfl rfl rfl) rfl rfl ?_)
        refine Ls.nil ?_
        refine Qs.then_n ?_
        refine Ws.seq ?_
        rcases bif_some h10 with ⟨hb, h10⟩ | ⟨hb, h10⟩
        · refine Ws.cond_t rfl hb ?_
          refine Ws.skip ?_
          refine Qs.then_n ?_
          refine Ws.seq ?_
          refine Ws.block ?_
          refine Ws.seq ?_
          refine Ws.region ?_
          refine Ls.cons (G.q (r_move rfl) rfl rfl ?_)
          refine Ls.cons (G.q (r_assign rfl) rfl rfl ?_)
          refine Ls.nil ?_
          refine Qs.then_n ?_
          refine Ws.block ?_
          refine Ws.seq ?_
          refine Ws.region ?_
          refine Ls.cons (G.q (r_field rfl) rfl rfl ?_)
          refine Ls.cons (G.q (r_load rfl rfl) rfl rfl ?_)
          refine Ls.cons (G.q (r_move rfl) rfl rfl ?_)
          rcases bif_some h10 with ⟨hb, h10⟩ | ⟨_, h10⟩
          rotate_left
          · cases h10
          refine Ls.cons (G.q (r_sh rfl rfl rfl (of_decide_eq_true hb)) rfl rfl ?_)
          refine Ls.cons (G.q (r_bit rfl rfl rfl) rfl rfl ?_)
          refine Ls.cons (G.q (r_bin rfl rfl rfl) rfl rfl ?_)
          refine Ls.cons (G.q (r_assign rfl) rfl rfl ?_)
          refine Ls.nil ?_
          refine Qs.then_n ?_
          rcases bif_some h10 with ⟨hb, h10⟩ | ⟨hb, h10⟩
          · refine Ws.cond_t rfl hb ?_
            refine Ws.region ?_
            refine Ls.cons (G.q (r_move rfl) rfl rfl ?_)
            refine Ls.cons (G.q (r_move rfl) rfl rfl ?_)
            obtain ⟨y11, hy12, h10⟩ := bind_some h10
            have hy12 := idx_some hy12
            refine G.at (kI .u8) v4 hy12.2 ?_
            intro b13
            refine Ls.cons (G.q (r_idxO (kI .u8) rfl rfl hy12.1 hy12.2) rfl rfl ?_)
            refine Ls.cons (o_storeO (kI .u8) v4 s8.1.toNat 0 45 [.int .u8 45] rfl rfl rfl rfl rfl hy12.2 rfl rfl rfl ?_)
            refine Ls.nil ?_
            refine Qs.block_n ?_
            refine Qs.block_n ?_
            refine Qs.then_n ?_
            refine Ws.region ?_
            refine Ls.cons (G.q (r_bin rfl rfl rfl) rfl rfl ?_)
            refine Ls.cons (G.q (r_move rfl) rfl rfl ?_)
            refine Ls.nil ?_
            refine Qs.then_n ?_
            exact Qs.again () h10 (Nat.lt_succ_self _) (.cons rfl (.cons rfl (.cons rfl (.cons rfl (.nil))))) (fun _ H => H.to)
          · refine Ws.cond_f rfl hb ?_
            refine Ws.seq ?_
            refine Ws.region ?_
            refine Ls.cons (G.q (r_field rfl) rfl rfl ?_)
            refine Ls.cons (G.q (r_load rfl rfl) rfl rfl ?_)
            refine Ls.cons (G.q (r_move rfl) rfl rfl ?_)
            rcases bif_some h10 with ⟨hb, h10⟩ | ⟨_, h10⟩
            rotate_left
            · cases h10
            refine Ls.cons (G.q (r_sh rfl rfl rfl (of_decide_eq_true hb)) rfl rfl ?_)
            refine Ls.cons (G.q (r_bit rfl rfl rfl) rfl rfl ?_)
            refine Ls.cons (G.q (r_bin rfl rfl rfl) rfl rfl ?_)
            refine Ls.cons (G.q (r_assign rfl) rfl rfl ?_)
            refine Ls.nil ?_
            refine Qs.then_n ?_
            rcases bif_some h10 with ⟨hb, h10⟩ | ⟨hb, h10⟩
            · refine Ws.cond_t rfl hb ?_
              refine Ws.region ?_
              refine Ls.cons (G.q (r_move rfl) rfl rfl ?_)
              refine Ls.cons (G.q (r_move rfl) rfl rfl ?_)
              obtain ⟨y14, hy15, h10⟩ := bind_some h10
              have hy15 := idx_some hy15
              refine G.at (kI .u8) v4 hy15.2 ?_
              intro b16
              refine Ls.cons (G.q (r_idxO (kI .u8) rfl rfl hy15.1 hy15.2) rfl rfl ?_)
              refine Ls.cons (o_storeO (kI .u8) v4 s8.1.toNat 0 48 [.int .u8 48] rfl rfl rfl rfl rfl hy15.2 rfl rfl rfl ?_)
              refine Ls.nil ?_
              refine Qs.block_n ?_
              refine Qs.block_n ?_
              refine Qs.then_n ?_
              refine Ws.region ?_
              refine Ls.cons (G.q (r_bin rfl rfl rfl) rfl rfl ?_)
              refine Ls.cons (G.q (r_move rfl) rfl rfl ?_)
              refine Ls.nil ?_
              refine Qs.then_n ?_
              exact Qs.again () h10 (Nat.lt_succ_self _) (.cons rfl (.cons rfl (.cons rfl (.cons rfl (.nil))))) (fun _ H => H.to)
            · refine Ws.cond_f rfl hb ?_
              refine Ws.region ?_
              refine Ls.cons (G.q (r_move rfl) rfl rfl ?_)
              refine Ls.cons (G.q (r_move rfl) rfl rfl ?_)
              obtain ⟨y17, hy18, h10⟩ := bind_some h10
              have hy18 := idx_some hy18
              refine G.at (kI .u8) v4 hy18.2 ?_
              intro b19
              refine Ls.cons (G.q (r_idxO (kI .u8) rfl rfl hy18.1 hy18.2) rfl rfl ?_)
              refine Ls.cons (o_storeO (kI .u8) v4 s8.1.toNat 0 49 [.int .u8 49] rfl rfl rfl rfl rfl hy18.2 rfl rfl rfl ?_)
              refine Ls.nil ?_
              refine Qs.block_n ?_
              refine Qs.block_n ?_
              refine Qs.then_n ?_
              refine Ws.region ?_
              refine Ls.cons (G.q (r_bin rfl rfl rfl) rfl rfl ?_)
              refine Ls.cons (G.q (r_move rfl) rfl rfl ?_)
              refine Ls.nil ?_
              refine Qs.then_n ?_
              exact Qs.again () h10 (Nat.lt_succ_self _) (.cons rfl (.cons rfl (.cons rfl (.cons rfl (.nil))))) (fun _ H => H.to)
        · refine Ws.cond_f rfl hb ?_
          refine Ws.exit ?_
          refine Qs.then_e ?_
          refine Qs.then_e ?_
          refine Qs.block_e ?_
          refine Qs.then_n ?_
          obtain rfl := Option.some.inj h10
          exact Qs.midX () trivial (.cons rfl (.nil)) (fun _ H => H.to)
    ·
      rintro ⟨⟩ hφ
      refine Ws.seq ?_
      refine Ws.region ?_
      refine Ls.cons (G.q (r_move rfl) rfl rfl ?_)
      refine Ls.cons (G.q (r_b2s rfl) rfl rfl ?_)
      refine Ls.cons (G.q (r_assign rfl) rfl rfl ?_)
      refine Ls.cons (G.q (r_assign rfl) rfl rfl ?_)
      refine Ls.nil ?_
      refine Qs.then_n ?_
      refine Ws.ret ?_
      obtain rfl := Option.some.inj h7
      exact W_end (.inl rfl) Tryd.results26 (.tmp rfl (.tmp rfl .nil)) rfl fun w hS => hR w hS.fin

def pla_Print.l2 (K : Nat) (y22 : Int × Int × (List Int)) : Nat → (ByteArray × Int) → Option ByteArray
  | 0, _ => none
  | j35 + 1, s34 =>
    (bif decide ((s34.2 : Int) < (y22.2.2.length : Int)) then ((idx y22.2.2 s34.2).bind fun y37 => (bif decide (0 ≤ y37 ∧ 0 ≤ IntKind.wrap .i64 (y37 + 1) ∧ y37.toNat ≤ (IntKind.wrap .i64 (y37 + 1)).toNat ∧ (IntKind.wrap .i64 (y37 + 1)).toNat ≤ (⟨#[48, 49, 45]⟩ : ByteArray).size) then (bif decide (s34.1.size + ((⟨#[48, 49, 45]⟩ : ByteArray).extract y37.toNat ((IntKind.wrap .i64 (y37 + 1)).toNat)).size ≤ 1099511627776) then pla_Print.l2 K y22 j35 (s34.1 ++ ((⟨#[48, 49, 45]⟩ : ByteArray).extract y37.toNat ((IntKind.wrap .i64 (y37 + 1)).toNat)), IntKind.wrap .i64 (s34.2 + 1)) else none) else none)) else some s34.1)

def pla_Print.l1 (K : Nat) (a3 : List (Int × Int × (List Int))) (a1 : Int) : Nat → (ByteArray × Int) → Option ByteArray
  | 0, _ => none
  | j20 + 1, s19 =>
    (bif decide ((s19.2 : Int) < (a3.length : Int)) then ((idx a3 s19.2).bind fun y22 => ((cube_Text.f K y22.1 y22.2.1 a1).bind fun x29 => (bif decide (x29.1.size + (⟨#[32]⟩ : ByteArray).size ≤ 1099511627776) then (bif decide (s19.1.size + (x29.1 ++ (⟨#[32]⟩ : ByteArray)).size ≤ 1099511627776) then ((pla_Print.l2 K y22 K (s19.1 ++ (x29.1 ++ (⟨#[32]⟩ : ByteArray)), 0)).bind fun x31 => (bif decide (x31.size + (⟨#[10]⟩ : ByteArray).size ≤ 1099511627776) then pla_Print.l1 K a3 a1 j20 (x31 ++ (⟨#[10]⟩ : ByteArray), IntKind.wrap .i64 (s19.2 + 1)) else none)) else none) else none))) else some s19.1)

def pla_Print.f (K : Nat) (a0 : Int) (a1 : Int) (a2 : Int) (a3 : List (Int × Int × (List Int))) : Option (ByteArray × Int) :=
  ((pla_Right.f K a0 a1 a2 a3).bind fun x2 => (bif !x2 then some ((⟨#[]⟩ : ByteArray), 1) else ((strconv_Itoa.f K a1).bind fun x4 => (bif decide ((⟨#[46, 105, 32]⟩ : ByteArray).size + x4.size ≤ 1099511627776) then (bif decide (((⟨#[46, 105, 32]⟩ : ByteArray) ++ x4).size + (⟨#[10, 46, 111, 32]⟩ : ByteArray).size ≤ 1099511627776) then ((strconv_Itoa.f K a2).bind fun x6 => (bif decide ((((⟨#[46, 105, 32]⟩ : ByteArray) ++ x4) ++ (⟨#[10, 46, 111, 32]⟩ : ByteArray)).size + x6.size ≤ 1099511627776) then (bif decide (((((⟨#[46, 105, 32]⟩ : ByteArray) ++ x4) ++ (⟨#[10, 46, 111, 32]⟩ : ByteArray)) ++ x6).size + (⟨#[10, 46, 116, 121, 112, 101, 32]⟩ : ByteArray).size ≤ 1099511627776) then ((pla_kinds.f K ).bind fun x8 => ((idx x8 a0).bind fun y11 => (bif decide ((((((⟨#[46, 105, 32]⟩ : ByteArray) ++ x4) ++ (⟨#[10, 46, 111, 32]⟩ : ByteArray)) ++ x6) ++ (⟨#[10, 46, 116, 121, 112, 101, 32]⟩ : ByteArray)).size + y11.size ≤ 1099511627776) then (bif decide (((((((⟨#[46, 105, 32]⟩ : ByteArray) ++ x4) ++ (⟨#[10, 46, 111, 32]⟩ : ByteArray)) ++ x6) ++ (⟨#[10, 46, 116, 121, 112, 101, 32]⟩ : ByteArray)) ++ y11).size + (⟨#[10, 46, 112, 32]⟩ : ByteArray).size ≤ 1099511627776) then ((strconv_Itoa.f K (a3.length : Int)).bind fun x14 => (bif decide ((((((((⟨#[46, 105, 32]⟩ : ByteArray) ++ x4) ++ (⟨#[10, 46, 111, 32]⟩ : ByteArray)) ++ x6) ++ (⟨#[10, 46, 116, 121, 112, 101, 32]⟩ : ByteArray)) ++ y11) ++ (⟨#[10, 46, 112, 32]⟩ : ByteArray)).size + x14.size ≤ 1099511627776) then (bif decide (((((((((⟨#[46, 105, 32]⟩ : ByteArray) ++ x4) ++ (⟨#[10, 46, 111, 32]⟩ : ByteArray)) ++ x6) ++ (⟨#[10, 46, 116, 121, 112, 101, 32]⟩ : ByteArray)) ++ y11) ++ (⟨#[10, 46, 112, 32]⟩ : ByteArray)) ++ x14).size + (⟨#[10]⟩ : ByteArray).size ≤ 1099511627776) then ((pla_Print.l1 K a3 a1 K (((((((((⟨#[46, 105, 32]⟩ : ByteArray) ++ x4) ++ (⟨#[10, 46, 111, 32]⟩ : ByteArray)) ++ x6) ++ (⟨#[10, 46, 116, 121, 112, 101, 32]⟩ : ByteArray)) ++ y11) ++ (⟨#[10, 46, 112, 32]⟩ : ByteArray)) ++ x14) ++ (⟨#[10]⟩ : ByteArray), 0)).bind fun x16 => (bif decide (x16.size + (⟨#[46, 101, 10]⟩ : ByteArray).size ≤ 1099511627776) then some (x16 ++ (⟨#[46, 101, 10]⟩ : ByteArray), 0) else none)) else none) else none)) else none) else none))) else none) else none)) else none) else none))))

theorem pla_Print.ok {K : Nat} {a0 : Int} {a1 : Int} {a2 : Int} {a3 : List (Int × Int × (List Int))} {V0 : Value} {r : ByteArray × Int} (h : pla_Print.f K a0 a1 a2 a3 = some r) {τ : Meta} {L : List Itm} {w : World} {R : Ending → World → Prop} (hS : St τ ([Frz (kP (kI .u8) (kP (kI .u8) (kL (kI .i64)))) V0 a3, Glo] ++ L) w)
    (hR : ∀ w', St τ ([] ++ L) w' → R (.returned (.tuple #[.string r.1, .int .i64 r.2])) w') : Calls Tryd.prog 9 #[.agg #[.int .i64 a0, .int .i64 a1, .int .i64 a2, V0]] w R := by
  refine enter (vs := [_]) Tryd.func9 rfl Tryd.ntmps9 rfl hS.cat ?_
  unfold pla_Print.f at h
  refine Ws.seq ?_
  refine Ws.region ?_
  refine Ls.cons (o_box (cs := [.int .i64 a0, .int .i64 a1, .int .i64 a2, V0]) rfl rfl fun b1 => ?_)
  refine Ls.cons (G.q (r_assign rfl) rfl rfl ?_)
  refine Ls.cons (G.q (r_assign rfl) rfl rfl ?_)
  refine Ls.nil ?_
  refine Qs.then_n ?_
  refine Ws.seq ?_
  refine Ws.seq ?_
  refine Ws.region ?_
  refine Ls.cons (G.q (r_loadN rfl rfl) rfl rfl ?_)
  obtain ⟨x2, hx3, h⟩ := bind_some h
  refine Ls.cons (o_call Tryd.call11 rfl fun a_ w_ hK_ hS_ => pla_Right.ok (V0 := V0) hx3 hS_.sels fun w1_ hS1_ => atRet (G.goA ?_ (hK_.put rfl _) hS1_))
  clear hS1_ w1_ hS_ hK_ w_ a_
  refine Ls.cons (G.q (r_not rfl) rfl rfl ?_)
  refine Ls.nil ?_
  refine Qs.then_n ?_
  rcases bif_some h with ⟨hb, h⟩ | ⟨hb, h⟩
  · refine Ws.cond_t rfl hb ?_
    refine Ws.seq ?_
    refine Ws.region ?_
    refine Ls.cons (G.q (r_assign rfl) rfl rfl ?_)
    refine Ls.cons (G.q (r_assign rfl) rfl rfl ?_)
    refine Ls.nil ?_
    refine Qs.then_n ?_
    refine Ws.ret ?_
    refine Qs.then_r ?_
    obtain rfl := Option.some.inj h
    exact W_end (.inl rfl) Tryd.results9 (.tmp rfl (.tmp rfl .nil)) rfl fun w hS => hR w hS.fin
  · refine Ws.cond_f rfl hb ?_
    refine Ws.skip ?_
    refine Qs.then_n ?_
    refine Ws.seq ?_
    refine D.start [Frz (kP (kI .u8) (kP (kI .u8) (kL (kI .i64)))) V0 a3, Glo, Cells b1 [.int .i64 a0, .int .i64 a1, .int .i64 a2, V0] 24] rfl ?_
    refine D.take 0 rfl (by kernel_rfl) (r_field rfl) rfl ?_
    refine D.take 1 rfl (by kernel_rfl) (r_load rfl rfl) rfl ?_
    refine D.take 5 rfl (by kernel_rfl) (r_field rfl) rfl ?_
    refine D.take 6 rfl (by kernel_rfl) (r_load rfl rfl) rfl ?_
    refine D.take 11 rfl (by kernel_rfl) (r_field rfl) rfl ?_
    refine D.take 12 rfl (by kernel_rfl) (r_load rfl rfl) rfl ?_
    refine D.take 17 rfl (by kernel_rfl) (r_field rfl) rfl ?_
    refine D.take 18 rfl (by kernel_rfl) (r_load rfl rfl) rfl ?_
    refine D.take 19 rfl (by kernel_rfl) (r_len rfl) rfl ?_
    obtain ⟨x4, hx5, h⟩ := bind_some h
    refine D.run 2 rfl (by kernel_rfl) (o_call Tryd.call24 rfl fun a_ w_ hK_ hS_ => strconv_Itoa.ok hx5 hS_.sels fun w1_ hS1_ => atRet (G.goA ?_ (hK_.put rfl _) hS1_))
    clear hS1_ w1_ hS_ hK_ w_ a_
    refine D.next ?_
    rcases bif_some h with ⟨hb, h⟩ | ⟨_, h⟩
    rotate_left
    · cases h
    refine D.take 3 rfl (by kernel_rfl) (r_cat rfl rfl (of_decide_eq_true hb)) rfl ?_
    rcases bif_some h with ⟨hb, h⟩ | ⟨_, h⟩
    rotate_left
    · cases h
    refine D.take 4 rfl (by kernel_rfl) (r_cat rfl rfl (of_decide_eq_true hb)) rfl ?_
    obtain ⟨x6, hx7, h⟩ := bind_some h
    refine D.run 7 rfl (by kernel_rfl) (o_call Tryd.call24 rfl fun a_ w_ hK_ hS_ => strconv_Itoa.ok hx7 hS_.sels fun w1_ hS1_ => atRet (G.goA ?_ (hK_.put rfl _) hS1_))
    clear hS1_ w1_ hS_ hK_ w_ a_
    refine D.next ?_
    rcases bif_some h with ⟨hb, h⟩ | ⟨_, h⟩
    rotate_left
    · cases h
    refine D.take 8 rfl (by kernel_rfl) (r_cat rfl rfl (of_decide_eq_true hb)) rfl ?_
    rcases bif_some h with ⟨hb, h⟩ | ⟨_, h⟩
    rotate_left
    · cases h
    refine D.take 9 rfl (by kernel_rfl) (r_cat rfl rfl (of_decide_eq_true hb)) rfl ?_
    obtain ⟨x8, hx9, h⟩ := bind_some h
    refine D.run 10 rfl (by kernel_rfl) (o_call Tryd.call25 rfl fun a_ w_ hK_ hS_ => pla_kinds.ok hx9 hS_.sels fun u10 w1_ hS1_ => atRet (G.goA ?_ (hK_.put rfl _) hS1_))
    clear hS1_ w1_ hS_ hK_ w_ a_
    refine D.next ?_
    obtain ⟨y11, hy12, h⟩ := bind_some h
    have hy12 := idx_some hy12
    refine G.at kS u10 hy12.2 ?_
    intro b13
    refine D.more [Frz (kP (kI .u8) (kP (kI .u8) (kL (kI .i64)))) V0 a3, Glo, Cells b1 [.int .i64 a0, .int .i64 a1, .int .i64 a2, V0] 24, Own kS u10 x8 9, AtB u10 b13] ?_
    refine D.take 13 rfl (by kernel_rfl) (r_idxO kS rfl rfl hy12.1 hy12.2) rfl ?_
    refine D.take 14 rfl (by kernel_rfl) (r_loadO kS u10 a0.toNat 0 rfl hy12.2 rfl rfl rfl) rfl ?_
    rcases bif_some h with ⟨hb, h⟩ | ⟨_, h⟩
    rotate_left
    · cases h
    refine D.take 15 rfl (by kernel_rfl) (r_cat rfl rfl (of_decide_eq_true hb)) rfl ?_
    rcases bif_some h with ⟨hb, h⟩ | ⟨_, h⟩
    rotate_left
    · cases h
    refine D.take 16 rfl (by kernel_rfl) (r_cat rfl rfl (of_decide_eq_true hb)) rfl ?_
    obtain ⟨x14, hx15, h⟩ := bind_some h
    refine D.run 20 rfl (by kernel_rfl) (o_call Tryd.call24 rfl fun a_ w_ hK_ hS_ => strconv_Itoa.ok hx15 hS_.sels fun w1_ hS1_ => atRet (G.goA ?_ (hK_.put rfl _) hS1_))
    clear hS1_ w1_ hS_ hK_ w_ a_
    refine D.next ?_
    rcases bif_some h with ⟨hb, h⟩ | ⟨_, h⟩
    rotate_left
    · cases h
    refine D.take 21 rfl (by kernel_rfl) (r_cat rfl rfl (of_decide_eq_true hb)) rfl ?_
    rcases bif_some h with ⟨hb, h⟩ | ⟨_, h⟩
    rotate_left
    · cases h
    refine D.take 22 rfl (by kernel_rfl) (r_cat rfl rfl (of_decide_eq_true hb)) rfl ?_
    refine D.tail (by kernel_rfl) ?_
    refine A.run 23 rfl (by kernel_rfl) (G.q (r_assign rfl) rfl rfl ?_)
    refine A.done (by kernel_rfl) ?_
    refine Qs.then_n ?_
    refine Ws.seq ?_
    refine Ws.seq ?_
    refine Ws.region ?_
    refine Ls.cons (G.q (r_field rfl) rfl rfl ?_)
    refine Ls.cons (G.q (r_load rfl rfl) rfl rfl ?_)
    refine Ls.cons (G.q (r_len rfl) rfl rfl ?_)
    refine Ls.cons (G.q (r_move rfl) rfl rfl ?_)
    refine Ls.nil ?_
    refine Qs.then_n ?_
    obtain ⟨x16, hx17, h18⟩ := bind_some h
    refine Ws.cutX (ε := Unit) (True) (fun e => [(4, .string x16)]) (fun e => Glo :: Frz (kP (kI .u8) (kP (kI .u8) (kL (kI .i64)))) V0 a3 :: L) ?_ ?_
    ·
      refine Ws.block ?_
      refine Ws.loop (ε := Unit) (pla_Print.l1 K a3 a1) (fun s e => [(1, .pointer (some ⟨b1, 0, none⟩)), (4, .string s.1), (38, V0), (39, .int .i64 (a3.length : Int)), (40, .int .i64 s.2)]) (fun s e => Glo :: Cells b1 [.int .i64 a0, .int .i64 a1, .int .i64 a2, V0] 24 :: Frz (kP (kI .u8) (kP (kI .u8) (kL (kI .i64)))) V0 a3 :: L) () hx17 (.cons rfl (.cons rfl (.cons rfl (.cons rfl (.cons rfl (.nil)))))) (fun _ H => H.to) ?_
      rintro j20 s19 ⟨⟩ h21
      cases j20 with
      | zero => cases (show none = some _ from h21)
      | succ j20 =>
        rw [pla_Print.l1] at h21
        refine Ws.seq ?_
        refine Ws.region ?_
        refine Ls.cons (G.q (r_bin rfl rfl rfl) rfl rfl ?_)
        refine Ls.nil ?_
        refine Qs.then_n ?_
        refine Ws.seq ?_
        rcases bif_some h21 with ⟨hb, h21⟩ | ⟨hb, h21⟩
        · refine Ws.cond_t rfl hb ?_
          refine Ws.skip ?_
          refine Qs.then_n ?_
          refine Ws.seq ?_
          refine Ws.block ?_
          refine Ws.seq ?_
          refine Ws.region ?_
          obtain ⟨y22, hy23, h21⟩ := bind_some h21
          have hy23 := idx_some hy23
          refine G.el (i := s19.2.toNat) (kP (kI .u8) (kP (kI .u8) (kL (kI .i64)))) 3 V0 rfl hy23.2 ?_
          intro b24 o25 c26
          refine G.xp_u8u8l ?_
          intro u27
          refine Ls.cons (G.q (r_idxN s19.2.toNat rfl rfl hy23.1 rfl) rfl rfl ?_)
          refine Ls.cons (G.q (r_loadN rfl rfl) rfl rfl ?_)
          refine Ls.cons (o_alloc (cs := [.int .u8 0, .int .u8 0, .slice none 0 0]) rfl rfl fun b28 => ?_)
          refine Ls.cons (o_store (vs := [.int .u8 y22.1, .int .u8 y22.2.1, u27]) rfl rfl rfl rfl ?_)
          refine Ls.nil ?_
          refine Qs.then_n ?_
          refine Ws.seq ?_
          refine Ws.region ?_
          refine Ls.cons (G.q (r_field rfl) rfl rfl ?_)
          refine Ls.cons (G.q (r_loadN rfl rfl) rfl rfl ?_)
          refine Ls.cons (G.q (r_field rfl) rfl rfl ?_)
          refine Ls.cons (G.q (r_load rfl rfl) rfl rfl ?_)
          obtain ⟨x29, hx30, h21⟩ := bind_some h21
          refine Ls.cons (o_call Tryd.call26 rfl fun a_ w_ hK_ hS_ => cube_Text.ok hx30 hS_.sels fun w1_ hS1_ => atRet (G.goA ?_ (hK_.put rfl _) hS1_))
          clear hS1_ w1_ hS_ hK_ w_ a_
          refine Ls.cons (G.q (r_move rfl) rfl rfl ?_)
          refine Ls.cons (G.q (r_extract rfl rfl) rfl rfl ?_)
          refine Ls.cons (G.q (r_extract rfl rfl) rfl rfl ?_)
          refine Ls.cons (G.q (r_assign rfl) rfl rfl ?_)
          refine Ls.cons (G.q (r_assign rfl) rfl rfl ?_)
          refine Ls.nil ?_
          refine Qs.then_n ?_
          refine Ws.seq ?_
          refine Ws.region ?_
          refine Ls.cons (G.q (r_move rfl) rfl rfl ?_)
          refine Ls.cons (G.q (r_move rfl) rfl rfl ?_)
          rcases bif_some h21 with ⟨hb, h21⟩ | ⟨_, h21⟩
          rotate_left
          · cases h21
          refine Ls.cons (G.q (r_cat rfl rfl (of_decide_eq_true hb)) rfl rfl ?_)
          rcases bif_some h21 with ⟨hb, h21⟩ | ⟨_, h21⟩
          rotate_left
          · cases h21
          refine Ls.cons (G.q (r_cat rfl rfl (of_decide_eq_true hb)) rfl rfl ?_)
          refine Ls.cons (G.q (r_assign rfl) rfl rfl ?_)
          refine Ls.nil ?_
          refine Qs.then_n ?_
          refine Ws.seq ?_
          refine Ws.seq ?_
          refine Ws.region ?_
          refine Ls.cons (G.q (r_field rfl) rfl rfl ?_)
          refine Ls.cons (G.q (r_load rfl rfl) rfl rfl ?_)
          refine Ls.cons (G.q (r_len rfl) rfl rfl ?_)
          refine Ls.cons (G.q (r_move rfl) rfl rfl ?_)
          refine Ls.nil ?_
          refine Qs.then_n ?_
          obtain ⟨x31, hx32, h33⟩ := bind_some h21
          refine Ws.cutX (ε := Unit) (True) (fun e => [(1, .pointer (some ⟨b1, 0, none⟩)), (4, .string x31), (38, V0), (39, .int .i64 (a3.length : Int)), (40, .int .i64 s19.2)]) (fun e => Glo :: Cells b1 [.int .i64 a0, .int .i64 a1, .int .i64 a2, V0] 24 :: Frz (kP (kI .u8) (kP (kI .u8) (kL (kI .i64)))) V0 a3 :: L) ?_ ?_
          ·
            refine Ws.block ?_
            refine Ws.loop (ε := Unit) (pla_Print.l2 K y22) (fun s e => [(1, .pointer (some ⟨b1, 0, none⟩)), (4, .string s.1), (38, V0), (39, .int .i64 (a3.length : Int)), (40, .int .i64 s19.2), (57, u27), (58, .int .i64 (y22.2.2.length : Int)), (59, .int .i64 s.2)]) (fun s e => Glo :: Cells b1 [.int .i64 a0, .int .i64 a1, .int .i64 a2, V0] 24 :: Frz (kP (kI .u8) (kP (kI .u8) (kL (kI .i64)))) V0 a3 :: Frz (kI .i64) u27 y22.2.2 :: L) () hx32 (.cons rfl (.cons rfl (.cons rfl (.cons rfl (.cons rfl (.cons rfl (.cons rfl (.cons rfl (.nil))))))))) (fun _ H => H.to) ?_
            rintro j35 s34 ⟨⟩ h36
            cases j35 with
            | zero => cases (show none = some _ from h36)
            | succ j35 =>
              rw [pla_Print.l2] at h36
              refine Ws.seq ?_
              refine Ws.region ?_
              refine Ls.cons (G.q (r_bin rfl rfl rfl) rfl rfl ?_)
              refine Ls.nil ?_
              refine Qs.then_n ?_
              refine Ws.seq ?_
              rcases bif_some h36 with ⟨hb, h36⟩ | ⟨hb, h36⟩
              · refine Ws.cond_t rfl hb ?_
                refine Ws.skip ?_
                refine Qs.then_n ?_
                refine Ws.seq ?_
                refine Ws.block ?_
                refine Ws.seq ?_
                refine Ws.region ?_
                obtain ⟨y37, hy38, h36⟩ := bind_some h36
                have hy38 := idx_some hy38
                refine G.el (i := s34.2.toNat) (kI .i64) 1 u27 rfl hy38.2 ?_
                intro b39 o40 c41
                refine G.xp_i64 ?_
                refine Ls.cons (G.q (r_idxN s34.2.toNat rfl rfl hy38.1 rfl) rfl rfl ?_)
                refine Ls.cons (G.q (r_load rfl rfl) rfl rfl ?_)
                refine Ls.cons (G.q (r_assign rfl) rfl rfl ?_)
                refine Ls.nil ?_
                refine Qs.then_n ?_
                refine Ws.region ?_
                refine Ls.cons (G.q (r_move rfl) rfl rfl ?_)
                refine Ls.cons (G.q (r_move rfl) rfl rfl ?_)
                refine Ls.cons (G.q (r_move rfl) rfl rfl ?_)
                refine Ls.cons (G.q (r_bin rfl rfl rfl) rfl rfl ?_)
                rcases bif_some h36 with ⟨hb, h36⟩ | ⟨_, h36⟩
                rotate_left
                · cases h36
                have hb := of_decide_eq_true hb
                refine Ls.cons (G.q (r_cutS rfl ⟨_, _, rfl, hb.1, rfl⟩ ⟨_, _, rfl, hb.2.1, rfl⟩ hb.2.2.1 hb.2.2.2) rfl rfl ?_)
                rcases bif_some h36 with ⟨hb, h36⟩ | ⟨_, h36⟩
                rotate_left
                · cases h36
                refine Ls.cons (G.q (r_cat rfl rfl (of_decide_eq_true hb)) rfl rfl ?_)
                refine Ls.cons (G.q (r_assign rfl) rfl rfl ?_)
                refine Ls.nil ?_
                refine Qs.block_n ?_
                refine Qs.then_n ?_
                refine Ws.region ?_
                refine Ls.cons (G.q (r_bin rfl rfl rfl) rfl rfl ?_)
                refine Ls.cons (G.q (r_move rfl) rfl rfl ?_)
                refine Ls.nil ?_
                refine Qs.then_n ?_
                exact Qs.again () h36 (Nat.lt_succ_self _) (.cons rfl (.cons rfl (.cons rfl (.cons rfl (.cons rfl (.cons rfl (.cons rfl (.cons rfl (.nil))))))))) (fun _ H => H.to)
              · refine Ws.cond_f rfl hb ?_
                refine Ws.exit ?_
                refine Qs.then_e ?_
                refine Qs.then_e ?_
                refine Qs.block_e ?_
                refine Qs.then_n ?_
                obtain rfl := Option.some.inj h36
                exact Qs.midX () trivial (.cons rfl (.cons rfl (.cons rfl (.cons rfl (.cons rfl (.nil)))))) (fun _ H => H.to)
          ·
            rintro ⟨⟩ hφ
            refine Ws.region ?_
            refine Ls.cons (G.q (r_move rfl) rfl rfl ?_)
            rcases bif_some h33 with ⟨hb, h33⟩ | ⟨_, h33⟩
            rotate_left
            · cases h33
            refine Ls.cons (G.q (r_cat rfl rfl (of_decide_eq_true hb)) rfl rfl ?_)
            refine Ls.cons (G.q (r_assign rfl) rfl rfl ?_)
            refine Ls.nil ?_
            refine Qs.block_n ?_
            refine Qs.then_n ?_
            refine Ws.region ?_
            refine Ls.cons (G.q (r_bin rfl rfl rfl) rfl rfl ?_)
            refine Ls.cons (G.q (r_move rfl) rfl rfl ?_)
            refine Ls.nil ?_
            refine Qs.then_n ?_
            exact Qs.again () h33 (Nat.lt_succ_self _) (.cons rfl (.cons rfl (.cons rfl (.cons rfl (.cons rfl (.nil)))))) (fun _ H => H.to)
        · refine Ws.cond_f rfl hb ?_
          refine Ws.exit ?_
          refine Qs.then_e ?_
          refine Qs.then_e ?_
          refine Qs.block_e ?_
          refine Qs.then_n ?_
          obtain rfl := Option.some.inj h21
          exact Qs.midX () trivial (.cons rfl (.nil)) (fun _ H => H.to)
    ·
      rintro ⟨⟩ hφ
      refine Ws.seq ?_
      refine Ws.region ?_
      refine Ls.cons (G.q (r_move rfl) rfl rfl ?_)
      rcases bif_some h18 with ⟨hb, h18⟩ | ⟨_, h18⟩
      rotate_left
      · cases h18
      refine Ls.cons (G.q (r_cat rfl rfl (of_decide_eq_true hb)) rfl rfl ?_)
      refine Ls.cons (G.q (r_assign rfl) rfl rfl ?_)
      refine Ls.cons (G.q (r_assign rfl) rfl rfl ?_)
      refine Ls.nil ?_
      refine Qs.then_n ?_
      refine Ws.ret ?_
      obtain rfl := Option.some.inj h18
      exact W_end (.inl rfl) Tryd.results9 (.tmp rfl (.tmp rfl .nil)) rfl fun w hS => hR w hS.fin

def pla_Same.l2 (K : Nat) (y18 : Int × Int × (List Int)) : Nat → Int → Option (Bool ⊕ Unit)
  | 0, _ => none
  | j33 + 1, s32 =>
    (bif decide ((s32 : Int) < (y18.2.2.length : Int)) then ((idx y18.2.2 s32).bind fun y35 => (bif (y35 : Int) != y35 then some (.inl false) else pla_Same.l2 K y18 j33 (IntKind.wrap .i64 (s32 + 1)))) else some (.inr ()))

def pla_Same.l1 (K : Nat) (a3 : List (Int × Int × (List Int))) : Nat → Int → Option (Bool ⊕ Unit)
  | 0, _ => none
  | j16 + 1, s15 =>
    (bif decide ((s15 : Int) < (a3.length : Int)) then ((idx a3 s15).bind fun y18 => (((bif !((y18.1 : Int) == y18.1 && ((y18.2.1 : Int) == y18.2.1)) then some true else some (((y18.2.2.length : Int) : Int) != (y18.2.2.length : Int)))).bind fun x26 => (bif x26 then some (.inl false) else ((pla_Same.l2 K y18 K 0 : Option ((Bool) ⊕ (Unit))).bind fun y => match y with | .inl r => some (.inl r) | .inr x29 => pla_Same.l1 K a3 j16 (IntKind.wrap .i64 (s15 + 1)))))) else some (.inr ()))

def pla_Same.f (K : Nat) (a0 : Int) (a1 : Int) (a2 : Int) (a3 : List (Int × Int × (List Int))) (a4 : Int) (a5 : Int) (a6 : Int) : Option Bool :=
  (((bif (a0 : Int) != a4 then some true else (((bif (a1 : Int) != a5 then some true else (((bif (a2 : Int) != a6 then some true else some (((a3.length : Int) : Int) != (a3.length : Int)))).bind fun x9 => some x9))).bind fun x6 => some x6))).bind fun x3 => (bif x3 then some false else ((pla_Same.l1 K a3 K 0 : Option ((Bool) ⊕ (Unit))).bind fun y => match y with | .inl r => some r | .inr x12 => some true)))

theorem pla_Same.ok {K : Nat} {a0 : Int} {a1 : Int} {a2 : Int} {a3 : List (Int × Int × (List Int))} {a4 : Int} {a5 : Int} {a6 : Int} {V0 : Value} {r : Bool} (h : pla_Same.f K a0 a1 a2 a3 a4 a5 a6 = some r) {τ : Meta} {L : List Itm} {w : World} {R : Ending → World → Prop} (hS : St τ ([Frz (kP (kI .u8) (kP (kI .u8) (kL (kI .i64)))) V0 a3] ++ L) w)
    (hR : ∀ w', St τ ([] ++ L) w' → R (.returned (.bool r)) w') : Calls Tryd.prog 12 #[.agg #[.int .i64 a0, .int .i64 a1, .int .i64 a2, V0], .agg #[.int .i64 a4, .int .i64 a5, .int .i64 a6, V0]] w R := by
  refine enter (vs := [_, _]) Tryd.func12 rfl Tryd.ntmps12 rfl hS.cat ?_
  unfold pla_Same.f at h
  refine Ws.seq ?_
  refine Ws.region ?_
  refine Ls.cons (o_box (cs := [.int .i64 a0, .int .i64 a1, .int .i64 a2, V0]) rfl rfl fun b1 => ?_)
  refine Ls.cons (o_box (cs := [.int .i64 a4, .int .i64 a5, .int .i64 a6, V0]) rfl rfl fun b2 => ?_)
  refine Ls.cons (G.q (r_assign rfl) rfl rfl ?_)
  refine Ls.nil ?_
  refine Qs.then_n ?_
  refine Ws.seq ?_
  refine Ws.seq ?_
  refine Ws.region ?_
  refine Ls.cons (G.q (r_field rfl) rfl rfl ?_)
  refine Ls.cons (G.q (r_load rfl rfl) rfl rfl ?_)
  refine Ls.cons (G.q (r_field rfl) rfl rfl ?_)
  refine Ls.cons (G.q (r_load rfl rfl) rfl rfl ?_)
  refine Ls.cons (G.q (r_bin rfl rfl rfl) rfl rfl ?_)
  refine Ls.cons (G.q (r_move rfl) rfl rfl ?_)
  obtain ⟨x3, hx4, h5⟩ := bind_some h
  refine Ls.cutX (ε := Unit) True (fun e => [(2, .pointer (some ⟨b1, 0, none⟩)), (3, .pointer (some ⟨b2, 0, none⟩)), (37, .bool x3)]) (fun e => Cells b1 [.int .i64 a0, .int .i64 a1, .int .i64 a2, V0] 24 :: Cells b2 [.int .i64 a4, .int .i64 a5, .int .i64 a6, V0] 24 :: Frz (kP (kI .u8) (kP (kI .u8) (kL (kI .i64)))) V0 a3 :: L) ?_ ?_
  ·
    rcases bif_some hx4 with ⟨hb, hx4⟩ | ⟨hb, hx4⟩
    · refine G.fixB 15 hb rfl ?_
      refine Ls.guard_f rfl rfl rfl rfl ?_
      refine Ls.guard_f rfl rfl rfl rfl ?_
      refine Ls.guard_f rfl rfl rfl rfl ?_
      refine Ls.guard_f rfl rfl rfl rfl ?_
      refine Ls.guard_f rfl rfl rfl rfl ?_
      refine Ls.cons (G.q (r_pick rfl rfl rfl) rfl rfl ?_)
      refine Ls.cons (G.q (r_move rfl) rfl rfl ?_)
      refine Ls.guard_f rfl rfl rfl rfl ?_
      refine Ls.guard_f rfl rfl rfl rfl ?_
      refine Ls.guard_f rfl rfl rfl rfl ?_
      refine Ls.guard_f rfl rfl rfl rfl ?_
      refine Ls.guard_f rfl rfl rfl rfl ?_
      refine Ls.cons (G.q (r_pick rfl rfl rfl) rfl rfl ?_)
      refine Ls.cons (G.q (r_move rfl) rfl rfl ?_)
      refine Ls.guard_f rfl rfl rfl rfl ?_
      refine Ls.guard_f rfl rfl rfl rfl ?_
      refine Ls.guard_f rfl rfl rfl rfl ?_
      refine Ls.guard_f rfl rfl rfl rfl ?_
      refine Ls.guard_f rfl rfl rfl rfl ?_
      refine Ls.guard_f rfl rfl rfl rfl ?_
      refine Ls.guard_f rfl rfl rfl rfl ?_
      refine Ls.cons (G.q (r_pick rfl rfl rfl) rfl rfl ?_)
      refine Ls.nil ?_
      refine Qs.only ?_
      obtain rfl := Option.some.inj hx4
      exact Qs.midX () trivial (.cons rfl (.cons rfl (.cons rfl (.nil)))) (fun _ H => H.to)
    · refine G.fixB 15 hb rfl ?_
      refine Ls.guard_t rfl rfl rfl (G.q (r_field rfl) rfl rfl ?_)
      refine Ls.guard_t rfl rfl rfl (G.q (r_load rfl rfl) rfl rfl ?_)
      refine Ls.guard_t rfl rfl rfl (G.q (r_field rfl) rfl rfl ?_)
      refine Ls.guard_t rfl rfl rfl (G.q (r_load rfl rfl) rfl rfl ?_)
      refine Ls.guard_t rfl rfl rfl (G.q (r_bin rfl rfl rfl) rfl rfl ?_)
      refine Ls.cons (G.q (r_pick rfl rfl rfl) rfl rfl ?_)
      refine Ls.cons (G.q (r_move rfl) rfl rfl ?_)
      obtain ⟨x6, hx7, h8⟩ := bind_some hx4
      refine Ls.cutX (ε := Unit) True (fun e => [(2, .pointer (some ⟨b1, 0, none⟩)), (3, .pointer (some ⟨b2, 0, none⟩)), (37, .bool x6)]) (fun e => Cells b1 [.int .i64 a0, .int .i64 a1, .int .i64 a2, V0] 24 :: Cells b2 [.int .i64 a4, .int .i64 a5, .int .i64 a6, V0] 24 :: Frz (kP (kI .u8) (kP (kI .u8) (kL (kI .i64)))) V0 a3 :: L) ?_ ?_
      ·
        rcases bif_some hx7 with ⟨hb, hx7⟩ | ⟨hb, hx7⟩
        · refine G.fixB 22 hb rfl ?_
          refine Ls.guard_f rfl rfl rfl rfl ?_
          refine Ls.guard_f rfl rfl rfl rfl ?_
          refine Ls.guard_f rfl rfl rfl rfl ?_
          refine Ls.guard_f rfl rfl rfl rfl ?_
          refine Ls.guard_f rfl rfl rfl rfl ?_
          refine Ls.cons (G.q (r_pick rfl rfl rfl) rfl rfl ?_)
          refine Ls.cons (G.q (r_move rfl) rfl rfl ?_)
          refine Ls.guard_f rfl rfl rfl rfl ?_
          refine Ls.guard_f rfl rfl rfl rfl ?_
          refine Ls.guard_f rfl rfl rfl rfl ?_
          refine Ls.guard_f rfl rfl rfl rfl ?_
          refine Ls.guard_f rfl rfl rfl rfl ?_
          refine Ls.guard_f rfl rfl rfl rfl ?_
          refine Ls.guard_f rfl rfl rfl rfl ?_
          refine Ls.cons (G.q (r_pick rfl rfl rfl) rfl rfl ?_)
          refine Ls.nil ?_
          refine Qs.only ?_
          obtain rfl := Option.some.inj hx7
          exact Qs.midX () trivial (.cons rfl (.cons rfl (.cons rfl (.nil)))) (fun _ H => H.to)
        · refine G.fixB 22 hb rfl ?_
          refine Ls.guard_t rfl rfl rfl (G.q (r_field rfl) rfl rfl ?_)
          refine Ls.guard_t rfl rfl rfl (G.q (r_load rfl rfl) rfl rfl ?_)
          refine Ls.guard_t rfl rfl rfl (G.q (r_field rfl) rfl rfl ?_)
          refine Ls.guard_t rfl rfl rfl (G.q (r_load rfl rfl) rfl rfl ?_)
          refine Ls.guard_t rfl rfl rfl (G.q (r_bin rfl rfl rfl) rfl rfl ?_)
          refine Ls.cons (G.q (r_pick rfl rfl rfl) rfl rfl ?_)
          refine Ls.cons (G.q (r_move rfl) rfl rfl ?_)
          obtain ⟨x9, hx10, h11⟩ := bind_some hx7
          refine Ls.cutX (ε := Unit) True (fun e => [(2, .pointer (some ⟨b1, 0, none⟩)), (3, .pointer (some ⟨b2, 0, none⟩)), (37, .bool x9)]) (fun e => Cells b1 [.int .i64 a0, .int .i64 a1, .int .i64 a2, V0] 24 :: Cells b2 [.int .i64 a4, .int .i64 a5, .int .i64 a6, V0] 24 :: Frz (kP (kI .u8) (kP (kI .u8) (kL (kI .i64)))) V0 a3 :: L) ?_ ?_
          ·
            rcases bif_some hx10 with ⟨hb, hx10⟩ | ⟨hb, hx10⟩
            · refine G.fixB 29 hb rfl ?_
              refine Ls.guard_f rfl rfl rfl rfl ?_
              refine Ls.guard_f rfl rfl rfl rfl ?_
              refine Ls.guard_f rfl rfl rfl rfl ?_
              refine Ls.guard_f rfl rfl rfl rfl ?_
              refine Ls.guard_f rfl rfl rfl rfl ?_
              refine Ls.guard_f rfl rfl rfl rfl ?_
              refine Ls.guard_f rfl rfl rfl rfl ?_
              refine Ls.cons (G.q (r_pick rfl rfl rfl) rfl rfl ?_)
              refine Ls.nil ?_
              refine Qs.only ?_
              obtain rfl := Option.some.inj hx10
              exact Qs.midX () trivial (.cons rfl (.cons rfl (.cons rfl (.nil)))) (fun _ H => H.to)
            · refine G.fixB 29 hb rfl ?_
              refine Ls.guard_t rfl rfl rfl (G.q (r_field rfl) rfl rfl ?_)
              refine Ls.guard_t rfl rfl rfl (G.q (r_load rfl rfl) rfl rfl ?_)
              refine Ls.guard_t rfl rfl rfl (G.q (r_len rfl) rfl rfl ?_)
              refine Ls.guard_t rfl rfl rfl (G.q (r_field rfl) rfl rfl ?_)
              refine Ls.guard_t rfl rfl rfl (G.q (r_load rfl rfl) rfl rfl ?_)
              refine Ls.guard_t rfl rfl rfl (G.q (r_len rfl) rfl rfl ?_)
              refine Ls.guard_t rfl rfl rfl (G.q (r_bin rfl rfl rfl) rfl rfl ?_)
              refine Ls.cons (G.q (r_pick rfl rfl rfl) rfl rfl ?_)
              refine Ls.nil ?_
              refine Qs.only ?_
              obtain rfl := Option.some.inj hx10
              exact Qs.midX () trivial (.cons rfl (.cons rfl (.cons rfl (.nil)))) (fun _ H => H.to)
          ·
            rintro ⟨⟩ _
            refine Qs.only ?_
            obtain rfl := Option.some.inj h11
            exact Qs.midX () trivial (.cons rfl (.cons rfl (.cons rfl (.nil)))) (fun _ H => H.to)
      ·
        rintro ⟨⟩ _
        refine Qs.only ?_
        obtain rfl := Option.some.inj h8
        exact Qs.midX () trivial (.cons rfl (.cons rfl (.cons rfl (.nil)))) (fun _ H => H.to)
  ·
    rintro ⟨⟩ _
    refine Qs.then_n ?_
    rcases bif_some h5 with ⟨hb, h5⟩ | ⟨hb, h5⟩
    · refine Ws.cond_t rfl hb ?_
      refine Ws.seq ?_
      refine Ws.region ?_
      refine Ls.cons (G.q (r_assign rfl) rfl rfl ?_)
      refine Ls.nil ?_
      refine Qs.then_n ?_
      refine Ws.ret ?_
      refine Qs.then_r ?_
      obtain rfl := Option.some.inj h5
      exact W_end (.inl rfl) Tryd.results12 (.tmp rfl .nil) rfl fun w hS => hR w hS.fin
    · refine Ws.cond_f rfl hb ?_
      refine Ws.skip ?_
      refine Qs.then_n ?_
      refine Ws.seq ?_
      refine Ws.seq ?_
      refine Ws.region ?_
      refine Ls.cons (G.q (r_field rfl) rfl rfl ?_)
      refine Ls.cons (G.q (r_load rfl rfl) rfl rfl ?_)
      refine Ls.cons (G.q (r_len rfl) rfl rfl ?_)
      refine Ls.cons (G.q (r_move rfl) rfl rfl ?_)
      refine Ls.nil ?_
      refine Qs.then_n ?_
      obtain ⟨x12, hx13, h14⟩ := bind_some h5
      refine Ws.cutX (ε := Unit) (isR x12 = true) (fun e => []) (fun e => Frz (kP (kI .u8) (kP (kI .u8) (kL (kI .i64)))) V0 a3 :: L) ?_ ?_
      ·
        refine Ws.block ?_
        refine Ws.loop (ε := Unit) (pla_Same.l1 K a3) (fun s e => [(3, .pointer (some ⟨b2, 0, none⟩)), (39, V0), (40, .int .i64 (a3.length : Int)), (41, .int .i64 s)]) (fun s e => Cells b2 [.int .i64 a4, .int .i64 a5, .int .i64 a6, V0] 24 :: Frz (kP (kI .u8) (kP (kI .u8) (kL (kI .i64)))) V0 a3 :: L) () hx13 (.cons rfl (.cons rfl (.cons rfl (.cons rfl (.nil))))) (fun _ H => H.to) ?_
        rintro j16 s15 ⟨⟩ h17
        cases j16 with
        | zero => cases (show none = some _ from h17)
        | succ j16 =>
          rw [pla_Same.l1] at h17
          refine Ws.seq ?_
          refine Ws.region ?_
          refine Ls.cons (G.q (r_bin rfl rfl rfl) rfl rfl ?_)
          refine Ls.nil ?_
          refine Qs.then_n ?_
          refine Ws.seq ?_
          rcases bif_some h17 with ⟨hb, h17⟩ | ⟨hb, h17⟩
          · refine Ws.cond_t rfl hb ?_
            refine Ws.skip ?_
            refine Qs.then_n ?_
            refine Ws.seq ?_
            refine Ws.block ?_
            refine Ws.seq ?_
            refine Ws.region ?_
            refine Ls.cons (G.q (r_move rfl) rfl rfl ?_)
            obtain ⟨y18, hy19, h17⟩ := bind_some h17
            have hy19 := idx_some hy19
            refine G.el (i := s15.toNat) (kP (kI .u8) (kP (kI .u8) (kL (kI .i64)))) 3 V0 rfl hy19.2 ?_
            intro b20 o21 c22
            refine G.xp_u8u8l ?_
            intro u23
            refine Ls.cons (G.q (r_idxN s15.toNat rfl rfl hy19.1 rfl) rfl rfl ?_)
            refine Ls.cons (G.q (r_loadN rfl rfl) rfl rfl ?_)
            refine Ls.cons (o_alloc (cs := [.int .u8 0, .int .u8 0, .slice none 0 0]) rfl rfl fun b24 => ?_)
            refine Ls.cons (G.q (r_assign rfl) rfl rfl ?_)
            refine Ls.cons (o_store (vs := [.int .u8 y18.1, .int .u8 y18.2.1, u23]) rfl rfl rfl rfl ?_)
            refine Ls.nil ?_
            refine Qs.then_n ?_
            refine Ws.seq ?_
            refine Ws.region ?_
            refine Ls.cons (G.q (r_field rfl) rfl rfl ?_)
            refine Ls.cons (G.q (r_load rfl rfl) rfl rfl ?_)
            refine Ls.cons (G.q (r_move rfl) rfl rfl ?_)
            refine Ls.cons (G.q (r_idxN s15.toNat rfl rfl hy19.1 rfl) rfl rfl ?_)
            refine Ls.cons (G.q (r_loadN rfl rfl) rfl rfl ?_)
            refine Ls.cons (o_alloc (cs := [.int .u8 0, .int .u8 0, .slice none 0 0]) rfl rfl fun b25 => ?_)
            refine Ls.cons (o_store (vs := [.int .u8 y18.1, .int .u8 y18.2.1, u23]) rfl rfl rfl rfl ?_)
            refine Ls.nil ?_
            refine Qs.then_n ?_
            refine Ws.seq ?_
            refine Ws.seq ?_
            refine Ws.region ?_
            refine Ls.cons (G.q (r_field rfl) rfl rfl ?_)
            refine Ls.cons (G.q (r_loadN rfl rfl) rfl rfl ?_)
            refine Ls.cons (G.q (r_field rfl) rfl rfl ?_)
            refine Ls.cons (G.q (r_loadN rfl rfl) rfl rfl ?_)
            refine Ls.cons (G.q (r_neAgg rfl rfl Tryd.eqGuardType42 (fun w => eqv42 9998 _ _ _ _ w)) rfl rfl ?_)
            refine Ls.cons (G.q (r_move rfl) rfl rfl ?_)
            obtain ⟨x26, hx27, h28⟩ := bind_some h17
            refine Ls.cutX (ε := Unit) True (fun e => [(3, .pointer (some ⟨b2, 0, none⟩)), (6, .pointer (some ⟨b24, 0, none⟩)), (7, .pointer (some ⟨b25, 0, none⟩)), (39, V0), (40, .int .i64 (a3.length : Int)), (41, .int .i64 s15), (64, .bool x26)]) (fun e => Cells b2 [.int .i64 a4, .int .i64 a5, .int .i64 a6, V0] 24 :: Cells b24 [.int .u8 y18.1, .int .u8 y18.2.1, u23] 45 :: Cells b25 [.int .u8 y18.1, .int .u8 y18.2.1, u23] 45 :: Frz (kP (kI .u8) (kP (kI .u8) (kL (kI .i64)))) V0 a3 :: Frz (kI .i64) u23 y18.2.2 :: L) ?_ ?_
            ·
              rcases bif_some hx27 with ⟨hb, hx27⟩ | ⟨hb, hx27⟩
              · refine G.fixB 56 hb rfl ?_
                refine Ls.guard_f rfl rfl rfl rfl ?_
                refine Ls.guard_f rfl rfl rfl rfl ?_
                refine Ls.guard_f rfl rfl rfl rfl ?_
                refine Ls.guard_f rfl rfl rfl rfl ?_
                refine Ls.guard_f rfl rfl rfl rfl ?_
                refine Ls.guard_f rfl rfl rfl rfl ?_
                refine Ls.guard_f rfl rfl rfl rfl ?_
                refine Ls.cons (G.q (r_pick rfl rfl rfl) rfl rfl ?_)
                refine Ls.nil ?_
                refine Qs.only ?_
                obtain rfl := Option.some.inj hx27
                exact Qs.midX () trivial (.cons rfl (.cons rfl (.cons rfl (.cons rfl (.cons rfl (.cons rfl (.cons rfl (.nil)))))))) (fun _ H => H.to)
              · refine G.fixB 56 hb rfl ?_
                refine Ls.guard_t rfl rfl rfl (G.q (r_field rfl) rfl rfl ?_)
                refine Ls.guard_t rfl rfl rfl (G.q (r_load rfl rfl) rfl rfl ?_)
                refine Ls.guard_t rfl rfl rfl (G.q (r_len rfl) rfl rfl ?_)
                refine Ls.guard_t rfl rfl rfl (G.q (r_field rfl) rfl rfl ?_)
                refine Ls.guard_t rfl rfl rfl (G.q (r_load rfl rfl) rfl rfl ?_)
                refine Ls.guard_t rfl rfl rfl (G.q (r_len rfl) rfl rfl ?_)
                refine Ls.guard_t rfl rfl rfl (G.q (r_bin rfl rfl rfl) rfl rfl ?_)
                refine Ls.cons (G.q (r_pick rfl rfl rfl) rfl rfl ?_)
                refine Ls.nil ?_
                refine Qs.only ?_
                obtain rfl := Option.some.inj hx27
                exact Qs.midX () trivial (.cons rfl (.cons rfl (.cons rfl (.cons rfl (.cons rfl (.cons rfl (.cons rfl (.nil)))))))) (fun _ H => H.to)
            ·
              rintro ⟨⟩ _
              refine Qs.then_n ?_
              rcases bif_some h28 with ⟨hb, h28⟩ | ⟨hb, h28⟩
              · refine Ws.cond_t rfl hb ?_
                refine Ws.seq ?_
                refine Ws.region ?_
                refine Ls.cons (G.q (r_assign rfl) rfl rfl ?_)
                refine Ls.nil ?_
                refine Qs.then_n ?_
                refine Ws.ret ?_
                refine Qs.then_r ?_
                refine Qs.block_r ?_
                refine Qs.then_r ?_
                refine Qs.then_r ?_
                refine Qs.block_r ?_
                refine Qs.then_r ?_
                obtain rfl := Option.some.inj h28
                obtain rfl := Option.some.inj h14
                exact W_end (.inl rfl) Tryd.results12 (.tmp rfl .nil) rfl fun w hS => hR w hS.fin
              · refine Ws.cond_f rfl hb ?_
                refine Ws.skip ?_
                refine Qs.then_n ?_
                refine Ws.seq ?_
                refine Ws.region ?_
                refine Ls.cons (G.q (r_field rfl) rfl rfl ?_)
                refine Ls.cons (G.q (r_load rfl rfl) rfl rfl ?_)
                refine Ls.cons (G.q (r_len rfl) rfl rfl ?_)
                refine Ls.cons (G.q (r_move rfl) rfl rfl ?_)
                refine Ls.nil ?_
                refine Qs.then_n ?_
                obtain ⟨x29, hx30, h31⟩ := bind_some h28
                refine Ws.thenI ?_
                refine Ws.cutX (ε := Unit) (isR x29 = true) (fun e => [(3, .pointer (some ⟨b2, 0, none⟩)), (39, V0), (40, .int .i64 (a3.length : Int)), (41, .int .i64 s15)]) (fun e => Cells b2 [.int .i64 a4, .int .i64 a5, .int .i64 a6, V0] 24 :: Frz (kP (kI .u8) (kP (kI .u8) (kL (kI .i64)))) V0 a3 :: L) ?_ ?_
                ·
                  refine Ws.block ?_
                  refine Ws.loop (ε := Unit) (pla_Same.l2 K y18) (fun s e => [(3, .pointer (some ⟨b2, 0, none⟩)), (7, .pointer (some ⟨b25, 0, none⟩)), (39, V0), (40, .int .i64 (a3.length : Int)), (41, .int .i64 s15), (66, u23), (67, .int .i64 (y18.2.2.length : Int)), (68, .int .i64 s)]) (fun s e => Cells b2 [.int .i64 a4, .int .i64 a5, .int .i64 a6, V0] 24 :: Cells b25 [.int .u8 y18.1, .int .u8 y18.2.1, u23] 45 :: Frz (kP (kI .u8) (kP (kI .u8) (kL (kI .i64)))) V0 a3 :: Frz (kI .i64) u23 y18.2.2 :: L) () hx30 (.cons rfl (.cons rfl (.cons rfl (.cons rfl (.cons rfl (.cons rfl (.cons rfl (.cons rfl (.nil))))))))) (fun _ H => H.to) ?_
                  rintro j33 s32 ⟨⟩ h34
                  cases j33 with
                  | zero => cases (show none = some _ from h34)
                  | succ j33 =>
                    rw [pla_Same.l2] at h34
                    refine Ws.seq ?_
                    refine Ws.region ?_
                    refine Ls.cons (G.q (r_bin rfl rfl rfl) rfl rfl ?_)
                    refine Ls.nil ?_
                    refine Qs.then_n ?_
                    refine Ws.seq ?_
                    rcases bif_some h34 with ⟨hb, h34⟩ | ⟨hb, h34⟩
                    · refine Ws.cond_t rfl hb ?_
                      refine Ws.skip ?_
                      refine Qs.then_n ?_
                      refine Ws.seq ?_
                      refine Ws.block ?_
                      refine Ws.seq ?_
                      refine Ws.region ?_
                      refine Ls.cons (G.q (r_move rfl) rfl rfl ?_)
                      obtain ⟨y35, hy36, h34⟩ := bind_some h34
                      have hy36 := idx_some hy36
                      refine G.el (i := s32.toNat) (kI .i64) 1 u23 rfl hy36.2 ?_
                      intro b37 o38 c39
                      refine G.xp_i64 ?_
                      refine Ls.cons (G.q (r_idxN s32.toNat rfl rfl hy36.1 rfl) rfl rfl ?_)
                      refine Ls.cons (G.q (r_load rfl rfl) rfl rfl ?_)
                      refine Ls.cons (G.q (r_assign rfl) rfl rfl ?_)
                      refine Ls.cons (G.q (r_assign rfl) rfl rfl ?_)
                      refine Ls.nil ?_
                      refine Qs.then_n ?_
                      refine Ws.seq ?_
                      refine Ws.region ?_
                      refine Ls.cons (G.q (r_move rfl) rfl rfl ?_)
                      refine Ls.cons (G.q (r_field rfl) rfl rfl ?_)
                      refine Ls.cons (G.q (r_load rfl rfl) rfl rfl ?_)
                      refine Ls.cons (G.q (r_move rfl) rfl rfl ?_)
                      refine Ls.cons (G.q (r_idxN s32.toNat rfl rfl hy36.1 rfl) rfl rfl ?_)
                      refine Ls.cons (G.q (r_load rfl rfl) rfl rfl ?_)
                      refine Ls.cons (G.q (r_bin rfl rfl rfl) rfl rfl ?_)
                      refine Ls.nil ?_
                      refine Qs.then_n ?_
                      rcases bif_some h34 with ⟨hb, h34⟩ | ⟨hb, h34⟩
                      · refine Ws.cond_t rfl hb ?_
                        refine Ws.seq ?_
                        refine Ws.region ?_
                        refine Ls.cons (G.q (r_assign rfl) rfl rfl ?_)
                        refine Ls.nil ?_
                        refine Qs.then_n ?_
                        refine Ws.ret ?_
                        refine Qs.block_r ?_
                        refine Qs.then_r ?_
                        refine Qs.then_r ?_
                        refine Qs.block_r ?_
                        refine Qs.then_r ?_
                        refine Qs.block_r ?_
                        refine Qs.then_r ?_
                        refine Qs.then_r ?_
                        refine Qs.block_r ?_
                        refine Qs.then_r ?_
                        obtain rfl := Option.some.inj h34
                        obtain rfl := Option.some.inj h31
                        obtain rfl := Option.some.inj h14
                        exact W_end (.inl rfl) Tryd.results12 (.tmp rfl .nil) rfl fun w hS => hR w hS.fin
                      · refine Ws.cond_f rfl hb ?_
                        refine Ws.skip ?_
                        refine Qs.block_n ?_
                        refine Qs.then_n ?_
                        refine Ws.region ?_
                        refine Ls.cons (G.q (r_bin rfl rfl rfl) rfl rfl ?_)
                        refine Ls.cons (G.q (r_move rfl) rfl rfl ?_)
                        refine Ls.nil ?_
                        refine Qs.then_n ?_
                        exact Qs.again () h34 (Nat.lt_succ_self _) (.cons rfl (.cons rfl (.cons rfl (.cons rfl (.cons rfl (.cons rfl (.cons rfl (.cons rfl (.nil))))))))) (fun _ H => H.to)
                    · refine Ws.cond_f rfl hb ?_
                      refine Ws.exit ?_
                      refine Qs.then_e ?_
                      refine Qs.then_e ?_
                      refine Qs.block_e ?_
                      refine Qs.then_n ?_
                      obtain rfl := Option.some.inj h34
                      exact Qs.midX () rfl (.cons rfl (.cons rfl (.cons rfl (.cons rfl (.nil))))) (fun _ H => H.to)
                ·
                  rintro ⟨⟩ hφ
                  cases x29 with
                  | inl _ => cases hφ
                  | inr x29 =>
                    refine Qs.block_n ?_
                    refine Qs.then_n ?_
                    refine Ws.region ?_
                    refine Ls.cons (G.q (r_bin rfl rfl rfl) rfl rfl ?_)
                    refine Ls.cons (G.q (r_move rfl) rfl rfl ?_)
                    refine Ls.nil ?_
                    refine Qs.then_n ?_
                    exact Qs.again () h31 (Nat.lt_succ_self _) (.cons rfl (.cons rfl (.cons rfl (.cons rfl (.nil))))) (fun _ H => H.to)
          · refine Ws.cond_f rfl hb ?_
            refine Ws.exit ?_
            refine Qs.then_e ?_
            refine Qs.then_e ?_
            refine Qs.block_e ?_
            refine Qs.then_n ?_
            obtain rfl := Option.some.inj h17
            exact Qs.midX () rfl (.nil) (fun _ H => H.to)
      ·
        rintro ⟨⟩ hφ
        cases x12 with
        | inl _ => cases hφ
        | inr x12 =>
          refine Ws.seq ?_
          refine Ws.region ?_
          refine Ls.cons (G.q (r_assign rfl) rfl rfl ?_)
          refine Ls.nil ?_
          refine Qs.then_n ?_
          refine Ws.ret ?_
          obtain rfl := Option.some.inj h14
          exact W_end (.inl rfl) Tryd.results12 (.tmp rfl .nil) rfl fun w hS => hR w hS.fin

def law03_knows.f (K : Nat)  : Option Bool :=
  ((pla_Parse.f K (⟨#[46, 105, 32, 50, 10, 46, 111, 32, 49, 10, 46, 116, 121, 112, 101, 32, 102, 100, 10, 46, 112, 32, 49, 10, 49, 45, 32, 49, 10, 46, 101, 10]⟩ : ByteArray)).bind fun x1 => ((pla_Print.f K x1.1 x1.2.1 x1.2.2.1 x1.2.2.2.1).bind fun x5 => ((pla_Parse.f K (⟨#[46, 105, 32, 50, 10, 46, 111, 32, 48, 10, 46, 101, 10]⟩ : ByteArray)).bind fun x7 => (((bif (x1.2.2.2.2.2 : Int) == 0 then (((bif (x1.2.1 : Int) == 2 then (((bif (x1.2.2.1 : Int) == 1 then (((bif (x1.1 : Int) == 1 then (((bif ((x1.2.2.2.1.length : Int) : Int) == 1 then ((idx x1.2.2.2.1 0).bind fun y26 => (((bif (y26.1 : Int) == 1 && ((y26.2.1 : Int) == 1) then (((bif (x5.1.toList == (⟨#[46, 105, 32, 50, 10, 46, 111, 32, 49, 10, 46, 116, 121, 112, 101, 32, 102, 100, 10, 46, 112, 32, 49, 10, 49, 45, 32, 49, 10, 46, 101, 10]⟩ : ByteArray).toList) then (((bif (x5.2 : Int) == 0 then (((bif (x7.2.2.2.2.1 : Int) == 1 then (((bif (x7.2.2.2.2.2 : Int) == 2 then ((pla_Right.f K x1.1 x1.2.1 x1.2.2.1 x1.2.2.2.1).bind fun x47 => (((bif x47 then ((pla_Same.f K x1.1 x1.2.1 x1.2.2.1 x1.2.2.2.1 x1.1 x1.2.1 x1.2.2.1).bind fun x52 => some x52) else some false)).bind fun x49 => some x49)) else some false)).bind fun x44 => some x44) else some false)).bind fun x41 => some x41) else some false)).bind fun x38 => some x38) else some false)).bind fun x35 => some x35) else some false)).bind fun x32 => some x32)) else some false)).bind fun x23 => some x23) else some false)).bind fun x20 => some x20) else some false)).bind fun x17 => some x17) else some false)).bind fun x14 => some x14) else some false)).bind fun x11 => some x11))))

theorem law03_knows.ok {K : Nat}  {r : Bool} (h : law03_knows.f K  = some r) {τ : Meta} {L : List Itm} {w : World} {R : Ending → World → Prop} (hS : St τ ([Glo] ++ L) w)
    (hR : ∀ w', St τ ([] ++ L) w' → R (.returned (.bool r)) w') : Calls Tryd.prog 8 #[] w R := by
  refine enter (vs := []) Tryd.func8 rfl Tryd.ntmps8 rfl hS.cat ?_
  unfold law03_knows.f at h
  refine Ws.seq ?_
  refine Ws.region ?_
  refine Ls.cons (G.q (r_assign rfl) rfl rfl ?_)
  refine Ls.nil ?_
  refine Qs.then_n ?_
  refine Ws.seq ?_
  refine Ws.region ?_
  refine Ls.cons (G.q (r_assign rfl) rfl rfl ?_)
  refine Ls.nil ?_
  refine Qs.then_n ?_
  refine Ws.seq ?_
  refine Ws.region ?_
  refine Ls.cons (G.q (r_move rfl) rfl rfl ?_)
  obtain ⟨x1, hx2, h⟩ := bind_some h
  refine Ls.cons (o_call Tryd.call15 rfl fun a_ w_ hK_ hS_ => pla_Parse.ok hx2 hS_.sels fun u3 w1_ hS1_ => atRet (G.goA ?_ (hK_.put rfl _) hS1_))
  clear hS1_ w1_ hS_ hK_ w_ a_
  refine Ls.cons (G.q (r_move rfl) rfl rfl ?_)
  refine Ls.cons (G.q (r_extract rfl rfl) rfl rfl ?_)
  refine Ls.cons (G.q (r_extract rfl rfl) rfl rfl ?_)
  refine Ls.cons (G.q (r_extract rfl rfl) rfl rfl ?_)
  refine Ls.cons (o_alloc (cs := [.int .i64 0, .int .i64 0, .int .i64 0, .slice none 0 0]) rfl rfl fun b4 => ?_)
  refine Ls.cons (o_store (vs := [.int .i64 x1.1, .int .i64 x1.2.1, .int .i64 x1.2.2.1, u3]) rfl rfl rfl rfl ?_)
  refine Ls.cons (G.q (r_assign rfl) rfl rfl ?_)
  refine Ls.cons (G.q (r_assign rfl) rfl rfl ?_)
  refine Ls.nil ?_
  refine Qs.then_n ?_
  refine Ws.seq ?_
  refine Ws.region ?_
  refine Ls.cons (G.q (r_loadN rfl rfl) rfl rfl ?_)
  refine G.frz (kP (kI .u8) (kP (kI .u8) (kL (kI .i64)))) u3 45 ?_
  obtain ⟨x5, hx6, h⟩ := bind_some h
  refine Ls.cons (o_call Tryd.call9 rfl fun a_ w_ hK_ hS_ => pla_Print.ok (V0 := u3) hx6 hS_.sels fun w1_ hS1_ => atRet (G.goA ?_ (hK_.put rfl _) hS1_))
  clear hS1_ w1_ hS_ hK_ w_ a_
  refine Ls.cons (G.q (r_move rfl) rfl rfl ?_)
  refine Ls.cons (G.q (r_extract rfl rfl) rfl rfl ?_)
  refine Ls.cons (G.q (r_extract rfl rfl) rfl rfl ?_)
  refine Ls.cons (G.q (r_assign rfl) rfl rfl ?_)
  refine Ls.cons (G.q (r_assign rfl) rfl rfl ?_)
  refine Ls.nil ?_
  refine Qs.then_n ?_
  refine Ws.seq ?_
  refine Ws.region ?_
  obtain ⟨x7, hx8, h⟩ := bind_some h
  refine Ls.cons (o_call Tryd.call15 rfl fun a_ w_ hK_ hS_ => pla_Parse.ok hx8 hS_.sels fun u9 w1_ hS1_ => atRet (G.goA ?_ (hK_.put rfl _) hS1_))
  clear hS1_ w1_ hS_ hK_ w_ a_
  refine Ls.cons (G.q (r_move rfl) rfl rfl ?_)
  refine Ls.cons (G.q (r_extract rfl rfl) rfl rfl ?_)
  refine Ls.cons (G.q (r_extract rfl rfl) rfl rfl ?_)
  refine Ls.cons (G.q (r_extract rfl rfl) rfl rfl ?_)
  refine Ls.cons (o_alloc (cs := [.int .i64 0, .int .i64 0, .int .i64 0, .slice none 0 0]) rfl rfl fun b10 => ?_)
  refine Ls.cons (o_store (vs := [.int .i64 x7.1, .int .i64 x7.2.1, .int .i64 x7.2.2.1, u9]) rfl rfl rfl rfl ?_)
  refine Ls.cons (G.q (r_assign rfl) rfl rfl ?_)
  refine Ls.cons (G.q (r_assign rfl) rfl rfl ?_)
  refine Ls.nil ?_
  refine Qs.then_n ?_
  refine Ws.seq ?_
  refine Ws.region ?_
  refine Ls.cons (G.q (r_move rfl) rfl rfl ?_)
  refine Ls.cons (G.q (r_bin rfl rfl rfl) rfl rfl ?_)
  refine Ls.cons (G.q (r_move rfl) rfl rfl ?_)
  obtain ⟨x11, hx12, h13⟩ := bind_some h
  refine Ls.cutX (ε := Unit) True (fun e => [(0, .bool x11)]) (fun e => Glo :: L) ?_ ?_
  ·
    rcases bif_some hx12 with ⟨hb, hx12⟩ | ⟨hb, hx12⟩
    · refine G.fixB 28 hb rfl ?_
      refine Ls.guard_t rfl rfl rfl (G.q (r_field rfl) rfl rfl ?_)
      refine Ls.guard_t rfl rfl rfl (G.q (r_load rfl rfl) rfl rfl ?_)
      refine Ls.guard_t rfl rfl rfl (G.q (r_bin rfl rfl rfl) rfl rfl ?_)
      refine Ls.cons (G.q (r_pick rfl rfl rfl) rfl rfl ?_)
      refine Ls.cons (G.q (r_move rfl) rfl rfl ?_)
      obtain ⟨x14, hx15, h16⟩ := bind_some hx12
      refine Ls.cutX (ε := Unit) True (fun e => [(0, .bool x14)]) (fun e => Glo :: L) ?_ ?_
      ·
        rcases bif_some hx15 with ⟨hb, hx15⟩ | ⟨hb, hx15⟩
        · refine G.fixB 33 hb rfl ?_
          refine Ls.guard_t rfl rfl rfl (G.q (r_field rfl) rfl rfl ?_)
          refine Ls.guard_t rfl rfl rfl (G.q (r_load rfl rfl) rfl rfl ?_)
          refine Ls.guard_t rfl rfl rfl (G.q (r_bin rfl rfl rfl) rfl rfl ?_)
          refine Ls.cons (G.q (r_pick rfl rfl rfl) rfl rfl ?_)
          refine Ls.cons (G.q (r_move rfl) rfl rfl ?_)
          obtain ⟨x17, hx18, h19⟩ := bind_some hx15
          refine Ls.cutX (ε := Unit) True (fun e => [(0, .bool x17)]) (fun e => Glo :: L) ?_ ?_
          ·
            rcases bif_some hx18 with ⟨hb, hx18⟩ | ⟨hb, hx18⟩
            · refine G.fixB 38 hb rfl ?_
              refine Ls.guard_t rfl rfl rfl (G.q (r_field rfl) rfl rfl ?_)
              refine Ls.guard_t rfl rfl rfl (G.q (r_load rfl rfl) rfl rfl ?_)
              refine Ls.guard_t rfl rfl rfl (G.q (r_bin rfl rfl rfl) rfl rfl ?_)
              refine Ls.cons (G.q (r_pick rfl rfl rfl) rfl rfl ?_)
              refine Ls.cons (G.q (r_move rfl) rfl rfl ?_)
              obtain ⟨x20, hx21, h22⟩ := bind_some hx18
              refine Ls.cutX (ε := Unit) True (fun e => [(0, .bool x20)]) (fun e => Glo :: L) ?_ ?_
              ·
                rcases bif_some hx21 with ⟨hb, hx21⟩ | ⟨hb, hx21⟩
                · refine G.fixB 43 hb rfl ?_
                  refine Ls.guard_t rfl rfl rfl (G.q (r_field rfl) rfl rfl ?_)
                  refine Ls.guard_t rfl rfl rfl (G.q (r_load rfl rfl) rfl rfl ?_)
                  refine Ls.guard_t rfl rfl rfl (G.q (r_len rfl) rfl rfl ?_)
                  refine Ls.guard_t rfl rfl rfl (G.q (r_bin rfl rfl rfl) rfl rfl ?_)
                  refine Ls.cons (G.q (r_pick rfl rfl rfl) rfl rfl ?_)
                  refine Ls.cons (G.q (r_move rfl) rfl rfl ?_)
                  obtain ⟨x23, hx24, h25⟩ := bind_some hx21
                  refine Ls.cutX (ε := Unit) True (fun e => [(0, .bool x23)]) (fun e => Glo :: L) ?_ ?_
                  ·
                    rcases bif_some hx24 with ⟨hb, hx24⟩ | ⟨hb, hx24⟩
                    · refine G.fixB 49 hb rfl ?_
                      refine Ls.guard_t rfl rfl rfl (G.q (r_field rfl) rfl rfl ?_)
                      refine Ls.guard_t rfl rfl rfl (G.q (r_load rfl rfl) rfl rfl ?_)
                      obtain ⟨y26, hy27, hx24⟩ := bind_some hx24
                      have hy27 := idx_some hy27
                      refine G.el (i := 0) (kP (kI .u8) (kP (kI .u8) (kL (kI .i64)))) 3 u3 rfl hy27.2 ?_
                      intro b28 o29 c30
                      refine G.xp_u8u8l ?_
                      intro u31
                      refine Ls.guard_t rfl rfl rfl (G.q (r_idxN 0 rfl rfl hy27.1 rfl) rfl rfl ?_)
                      refine Ls.guard_t rfl rfl rfl (G.q (r_field rfl) rfl rfl ?_)
                      refine Ls.guard_t rfl rfl rfl (G.q (r_loadN rfl rfl) rfl rfl ?_)
                      refine Ls.guard_t rfl rfl rfl (G.q (r_build [.int .u8 1, .int .u8 1] rfl (by kernel_rfl)) rfl rfl ?_)
                      refine Ls.guard_t rfl rfl rfl (G.q (r_eqAgg rfl rfl Tryd.eqGuardType42 (fun w => eqv42 9998 _ _ _ _ w)) rfl rfl ?_)
                      refine Ls.cons (G.q (r_pick rfl rfl rfl) rfl rfl ?_)
                      refine Ls.cons (G.q (r_move rfl) rfl rfl ?_)
                      obtain ⟨x32, hx33, h34⟩ := bind_some hx24
                      refine Ls.cutX (ε := Unit) True (fun e => [(0, .bool x32)]) (fun e => Glo :: L) ?_ ?_
                      ·
                        rcases bif_some hx33 with ⟨hb, hx33⟩ | ⟨hb, hx33⟩
                        · refine G.fixB 58 hb rfl ?_
                          refine Ls.guard_t rfl rfl rfl (G.q (r_move rfl) rfl rfl ?_)
                          refine Ls.guard_t rfl rfl rfl (G.q (r_move rfl) rfl rfl ?_)
                          refine Ls.guard_t rfl rfl rfl (G.q (r_eqS rfl rfl) rfl rfl ?_)
                          refine Ls.cons (G.q (r_pick rfl rfl rfl) rfl rfl ?_)
                          refine Ls.cons (G.q (r_move rfl) rfl rfl ?_)
                          obtain ⟨x35, hx36, h37⟩ := bind_some hx33
                          refine Ls.cutX (ε := Unit) True (fun e => [(0, .bool x35)]) (fun e => Glo :: L) ?_ ?_
                          ·
                            rcases bif_some hx36 with ⟨hb, hx36⟩ | ⟨hb, hx36⟩
                            · refine G.fixB 63 hb rfl ?_
                              refine Ls.guard_t rfl rfl rfl (G.q (r_move rfl) rfl rfl ?_)
                              refine Ls.guard_t rfl rfl rfl (G.q (r_bin rfl rfl rfl) rfl rfl ?_)
                              refine Ls.cons (G.q (r_pick rfl rfl rfl) rfl rfl ?_)
                              refine Ls.cons (G.q (r_move rfl) rfl rfl ?_)
                              obtain ⟨x38, hx39, h40⟩ := bind_some hx36
                              refine Ls.cutX (ε := Unit) True (fun e => [(0, .bool x38)]) (fun e => Glo :: L) ?_ ?_
                              ·
                                rcases bif_some hx39 with ⟨hb, hx39⟩ | ⟨hb, hx39⟩
                                · refine G.fixB 67 hb rfl ?_
                                  refine Ls.guard_t rfl rfl rfl (G.q (r_move rfl) rfl rfl ?_)
                                  refine Ls.guard_t rfl rfl rfl (G.q (r_bin rfl rfl rfl) rfl rfl ?_)
                                  refine Ls.cons (G.q (r_pick rfl rfl rfl) rfl rfl ?_)
                                  refine Ls.cons (G.q (r_move rfl) rfl rfl ?_)
                                  obtain ⟨x41, hx42, h43⟩ := bind_some hx39
                                  refine Ls.cutX (ε := Unit) True (fun e => [(0, .bool x41)]) (fun e => Glo :: L) ?_ ?_
                                  ·
                                    rcases bif_some hx42 with ⟨hb, hx42⟩ | ⟨hb, hx42⟩
                                    · refine G.fixB 71 hb rfl ?_
                                      refine Ls.guard_t rfl rfl rfl (G.q (r_move rfl) rfl rfl ?_)
                                      refine Ls.guard_t rfl rfl rfl (G.q (r_bin rfl rfl rfl) rfl rfl ?_)
                                      refine Ls.cons (G.q (r_pick rfl rfl rfl) rfl rfl ?_)
                                      refine Ls.cons (G.q (r_move rfl) rfl rfl ?_)
                                      obtain ⟨x44, hx45, h46⟩ := bind_some hx42
                                      refine Ls.cutX (ε := Unit) True (fun e => [(0, .bool x44)]) (fun e => Glo :: L) ?_ ?_
                                      ·
                                        rcases bif_some hx45 with ⟨hb, hx45⟩ | ⟨hb, hx45⟩
                                        · refine G.fixB 75 hb rfl ?_
                                          refine Ls.guard_t rfl rfl rfl (G.q (r_loadN rfl rfl) rfl rfl ?_)
                                          obtain ⟨x47, hx48, hx45⟩ := bind_some hx45
                                          refine Ls.guard_t rfl rfl rfl (o_call Tryd.call11 rfl fun a_ w_ hK_ hS_ => pla_Right.ok (V0 := u3) hx48 hS_.sels fun w1_ hS1_ => atRet (G.goA ?_ (hK_.put rfl _) hS1_))
                                          clear hS1_ w1_ hS_ hK_ w_ a_
                                          refine Ls.cons (G.q (r_pick rfl rfl rfl) rfl rfl ?_)
                                          refine Ls.cons (G.q (r_move rfl) rfl rfl ?_)
                                          obtain ⟨x49, hx50, h51⟩ := bind_some hx45
                                          refine Ls.cutX (ε := Unit) True (fun e => [(0, .bool x49)]) (fun e => Glo :: L) ?_ ?_
                                          ·
                                            rcases bif_some hx50 with ⟨hb, hx50⟩ | ⟨hb, hx50⟩
                                            · refine G.fixB 79 hb rfl ?_
                                              refine Ls.guard_t rfl rfl rfl (G.q (r_loadN rfl rfl) rfl rfl ?_)
                                              refine Ls.guard_t rfl rfl rfl (G.q (r_loadN rfl rfl) rfl rfl ?_)
                                              obtain ⟨x52, hx53, hx50⟩ := bind_some hx50
                                              refine Ls.guard_t rfl rfl rfl (o_call Tryd.call12 rfl fun a_ w_ hK_ hS_ => pla_Same.ok (V0 := u3) hx53 hS_.sels fun w1_ hS1_ => atRet (G.goA ?_ (hK_.put rfl _) hS1_))
                                              clear hS1_ w1_ hS_ hK_ w_ a_
                                              refine Ls.cons (G.q (r_pick rfl rfl rfl) rfl rfl ?_)
                                              refine Ls.cons (G.q (r_assign rfl) rfl rfl ?_)
                                              refine Ls.nil ?_
                                              refine Qs.only ?_
                                              obtain rfl := Option.some.inj hx50
                                              exact Qs.midX () trivial (.cons rfl (.nil)) (fun _ H => H.to)
                                            · refine G.fixB 79 hb rfl ?_
                                              refine Ls.guard_f rfl rfl rfl rfl ?_
                                              refine Ls.guard_f rfl rfl rfl rfl ?_
                                              refine Ls.guard_f rfl rfl rfl rfl ?_
                                              refine Ls.cons (G.q (r_pick rfl rfl rfl) rfl rfl ?_)
                                              refine Ls.cons (G.q (r_assign rfl) rfl rfl ?_)
                                              refine Ls.nil ?_
                                              refine Qs.only ?_
                                              obtain rfl := Option.some.inj hx50
                                              exact Qs.midX () trivial (.cons rfl (.nil)) (fun _ H => H.to)
                                          ·
                                            rintro ⟨⟩ _
                                            refine Qs.only ?_
                                            obtain rfl := Option.some.inj h51
                                            exact Qs.midX () trivial (.cons rfl (.nil)) (fun _ H => H.to)
                                        · refine G.fixB 75 hb rfl ?_
                                          refine Ls.guard_f rfl rfl rfl rfl ?_
                                          refine Ls.guard_f rfl rfl rfl rfl ?_
                                          refine Ls.cons (G.q (r_pick rfl rfl rfl) rfl rfl ?_)
                                          refine Ls.cons (G.q (r_move rfl) rfl rfl ?_)
                                          refine Ls.guard_f rfl rfl rfl rfl ?_
                                          refine Ls.guard_f rfl rfl rfl rfl ?_
                                          refine Ls.guard_f rfl rfl rfl rfl ?_
                                          refine Ls.cons (G.q (r_pick rfl rfl rfl) rfl rfl ?_)
                                          refine Ls.cons (G.q (r_assign rfl) rfl rfl ?_)
                                          refine Ls.nil ?_
                                          refine Qs.only ?_
                                          obtain rfl := Option.some.inj hx45
                                          exact Qs.midX () trivial (.cons rfl (.nil)) (fun _ H => H.to)
                                      ·
                                        rintro ⟨⟩ _
                                        refine Qs.only ?_
                                        obtain rfl := Option.some.inj h46
                                        exact Qs.midX () trivial (.cons rfl (.nil)) (fun _ H => H.to)
                                    · refine G.fixB 71 hb rfl ?_
                                      refine Ls.guard_f rfl rfl rfl rfl ?_
                                      refine Ls.guard_f rfl rfl rfl rfl ?_
                                      refine Ls.cons (G.q (r_pick rfl rfl rfl) rfl rfl ?_)
                                      refine Ls.cons (G.q (r_move rfl) rfl rfl ?_)
                                      refine Ls.guard_f rfl rfl rfl rfl ?_
                                      refine Ls.guard_f rfl rfl rfl rfl ?_
                                      refine Ls.cons (G.q (r_pick rfl rfl rfl) rfl rfl ?_)
                                      refine Ls.cons (G.q (r_move rfl) rfl rfl ?_)
                                      refine Ls.guard_f rfl rfl rfl rfl ?_
                                      refine Ls.guard_f rfl rfl rfl rfl ?_
                                      refine Ls.guard_f rfl rfl rfl rfl ?_
                                      refine Ls.cons (G.q (r_pick rfl rfl rfl) rfl rfl ?_)
                                      refine Ls.cons (G.q (r_assign rfl) rfl rfl ?_)
                                      refine Ls.nil ?_
                                      refine Qs.only ?_
                                      obtain rfl := Option.some.inj hx42
                                      exact Qs.midX () trivial (.cons rfl (.nil)) (fun _ H => H.to)
                                  ·
                                    rintro ⟨⟩ _
                                    refine Qs.only ?_
                                    obtain rfl := Option.some.inj h43
                                    exact Qs.midX () trivial (.cons rfl (.nil)) (fun _ H => H.to)
                                · refine G.fixB 67 hb rfl ?_
                                  refine Ls.guard_f rfl rfl rfl rfl ?_
                                  refine Ls.guard_f rfl rfl rfl rfl ?_
                                  refine Ls.cons (G.q (r_pick rfl rfl rfl) rfl rfl ?_)
                                  refine Ls.cons (G.q (r_move rfl) rfl rfl ?_)
                                  refine Ls.guard_f rfl rfl rfl rfl ?_
                                  refine Ls.guard_f rfl rfl rfl rfl ?_
                                  refine Ls.cons (G.q (r_pick rfl rfl rfl) rfl rfl ?_)
                                  refine Ls.cons (G.q (r_move rfl) rfl rfl ?_)
                                  refine Ls.guard_f rfl rfl rfl rfl ?_
                                  refine Ls.guard_f rfl rfl rfl rfl ?_
                                  refine Ls.cons (G.q (r_pick rfl rfl rfl) rfl rfl ?_)
                                  refine Ls.cons (G.q (r_move rfl) rfl rfl ?_)
                                  refine Ls.guard_f rfl rfl rfl rfl ?_
                                  refine Ls.guard_f rfl rfl rfl rfl ?_
                                  refine Ls.guard_f rfl rfl rfl rfl ?_
                                  refine Ls.cons (G.q (r_pick rfl rfl rfl) rfl rfl ?_)
                                  refine Ls.cons (G.q (r_assign rfl) rfl rfl ?_)
                                  refine Ls.nil ?_
                                  refine Qs.only ?_
                                  obtain rfl := Option.some.inj hx39
                                  exact Qs.midX () trivial (.cons rfl (.nil)) (fun _ H => H.to)
                              ·
                                rintro ⟨⟩ _
                                refine Qs.only ?_
                                obtain rfl := Option.some.inj h40
                                exact Qs.midX () trivial (.cons rfl (.nil)) (fun _ H => H.to)
                            · refine G.fixB 63 hb rfl ?_
                              refine Ls.guard_f rfl rfl rfl rfl ?_
                              refine Ls.guard_f rfl rfl rfl rfl ?_
                              refine Ls.cons (G.q (r_pick rfl rfl rfl) rfl rfl ?_)
                              refine Ls.cons (G.q (r_move rfl) rfl rfl ?_)
                              refine Ls.guard_f rfl rfl rfl rfl ?_
                              refine Ls.guard_f rfl rfl rfl rfl ?_
                              refine Ls.cons (G.q (r_pick rfl rfl rfl) rfl rfl ?_)
                              refine Ls.cons (G.q (r_move rfl) rfl rfl ?_)
                              refine Ls.guard_f rfl rfl rfl rfl ?_
                              refine Ls.guard_f rfl rfl rfl rfl ?_
                              refine Ls.cons (G.q (r_pick rfl rfl rfl) rfl rfl ?_)
                              refine Ls.cons (G.q (r_move rfl) rfl rfl ?_)
                              refine Ls.guard_f rfl rfl rfl rfl ?_
                              refine Ls.guard_f rfl rfl rfl rfl ?_
                              refine Ls.cons (G.q (r_pick rfl rfl rfl) rfl rfl ?_)
                              refine Ls.cons (G.q (r_move rfl) rfl rfl ?_)
                              refine Ls.guard_f rfl rfl rfl rfl ?_
                              refine Ls.guard_f rfl rfl rfl rfl ?_
                              refine Ls.guard_f rfl rfl rfl rfl ?_
                              refine Ls.cons (G.q (r_pick rfl rfl rfl) rfl rfl ?_)
                              refine Ls.cons (G.q (r_assign rfl) rfl rfl ?_)
                              refine Ls.nil ?_
                              refine Qs.only ?_
                              obtain rfl := Option.some.inj hx36
                              exact Qs.midX () trivial (.cons rfl (.nil)) (fun _ H => H.to)
                          ·
                            rintro ⟨⟩ _
                            refine Qs.only ?_
                            obtain rfl := Option.some.inj h37
                            exact Qs.midX () trivial (.cons rfl (.nil)) (fun _ H => H.to)
                        · refine G.fixB 58 hb rfl ?_
                          refine Ls.guard_f rfl rfl rfl rfl ?_
                          refine Ls.guard_f rfl rfl rfl rfl ?_
                          refine Ls.guard_f rfl rfl rfl rfl ?_
                          refine Ls.cons (G.q (r_pick rfl rfl rfl) rfl rfl ?_)
                          refine Ls.cons (G.q (r_move rfl) rfl rfl ?_)
                          refine Ls.guard_f rfl rfl rfl rfl ?_
                          refine Ls.guard_f rfl rfl rfl rfl ?_
                          refine Ls.cons (G.q (r_pick rfl rfl rfl) rfl rfl ?_)
                          refine Ls.cons (G.q (r_move rfl) rfl rfl ?_)
                          refine Ls.guard_f rfl rfl rfl rfl ?_
                          refine Ls.guard_f rfl rfl rfl rfl ?_
                          refine Ls.cons (G.q (r_pick rfl rfl rfl) rfl rfl ?_)
                          refine Ls.cons (G.q (r_move rfl) rfl rfl ?_)
                          refine Ls.guard_f rfl rfl rfl rfl ?_
                          refine Ls.guard_f rfl rfl rfl rfl ?_
                          refine Ls.cons (G.q (r_pick rfl rfl rfl) rfl rfl ?_)
                          refine Ls.cons (G.q (r_move rfl) rfl rfl ?_)
                          refine Ls.guard_f rfl rfl rfl rfl ?_
                          refine Ls.guard_f rfl rfl rfl rfl ?_
                          refine Ls.cons (G.q (r_pick rfl rfl rfl) rfl rfl ?_)
                          refine Ls.cons (G.q (r_move rfl) rfl rfl ?_)
                          refine Ls.guard_f rfl rfl rfl rfl ?_
                          refine Ls.guard_f rfl rfl rfl rfl ?_
                          refine Ls.guard_f rfl rfl rfl rfl ?_
                          refine Ls.cons (G.q (r_pick rfl rfl rfl) rfl rfl ?_)
                          refine Ls.cons (G.q (r_assign rfl) rfl rfl ?_)
                          refine Ls.nil ?_
                          refine Qs.only ?_
                          obtain rfl := Option.some.inj hx33
                          exact Qs.midX () trivial (.cons rfl (.nil)) (fun _ H => H.to)
                      ·
                        rintro ⟨⟩ _
                        refine Qs.only ?_
                        obtain rfl := Option.some.inj h34
                        exact Qs.midX () trivial (.cons rfl (.nil)) (fun _ H => H.to)
                    · refine G.fixB 49 hb rfl ?_
                      refine Ls.guard_f rfl rfl rfl rfl ?_
                      refine Ls.guard_f rfl rfl rfl rfl ?_
                      refine Ls.guard_f rfl rfl rfl rfl ?_
                      refine Ls.guard_f rfl rfl rfl rfl ?_
                      refine Ls.guard_f rfl rfl rfl rfl ?_
                      refine Ls.guard_f rfl rfl rfl rfl ?_
                      refine Ls.guard_f rfl rfl rfl rfl ?_
                      refine Ls.cons (G.q (r_pick rfl rfl rfl) rfl rfl ?_)
                      refine Ls.cons (G.q (r_move rfl) rfl rfl ?_)
                      refine Ls.guard_f rfl rfl rfl rfl ?_
                      refine Ls.guard_f rfl rfl rfl rfl ?_
                      refine Ls.guard_f rfl rfl rfl rfl ?_
                      refine Ls.cons (G.q (r_pick rfl rfl rfl) rfl rfl ?_)
                      refine Ls.cons (G.q (r_move rfl) rfl rfl ?_)
                      refine Ls.guard_f rfl rfl rfl rfl ?_
                      refine Ls.guard_f rfl rfl rfl rfl ?_
                      refine Ls.cons (G.q (r_pick rfl rfl rfl) rfl rfl ?_)
                      refine Ls.cons (G.q (r_move rfl) rfl rfl ?_)
                      refine Ls.guard_f rfl rfl rfl rfl ?_
                      refine Ls.guard_f rfl rfl rfl rfl ?_
                      refine Ls.cons (G.q (r_pick rfl rfl rfl) rfl rfl ?_)
                      refine Ls.cons (G.q (r_move rfl) rfl rfl ?_)
                      refine Ls.guard_f rfl rfl rfl rfl ?_
                      refine Ls.guard_f rfl rfl rfl rfl ?_
                      refine Ls.cons (G.q (r_pick rfl rfl rfl) rfl rfl ?_)
                      refine Ls.cons (G.q (r_move rfl) rfl rfl ?_)
                      refine Ls.guard_f rfl rfl rfl rfl ?_
                      refine Ls.guard_f rfl rfl rfl rfl ?_
                      refine Ls.cons (G.q (r_pick rfl rfl rfl) rfl rfl ?_)
                      refine Ls.cons (G.q (r_move rfl) rfl rfl ?_)
                      refine Ls.guard_f rfl rfl rfl rfl ?_
                      refine Ls.guard_f rfl rfl rfl rfl ?_
                      refine Ls.guard_f rfl rfl rfl rfl ?_
                      refine Ls.cons (G.q (r_pick rfl rfl rfl) rfl rfl ?_)
                      refine Ls.cons (G.q (r_assign rfl) rfl rfl ?_)
                      refine Ls.nil ?_
                      refine Qs.only ?_
                      obtain rfl := Option.some.inj hx24
                      exact Qs.midX () trivial (.cons rfl (.nil)) (fun _ H => H.to)
                  ·
                    rintro ⟨⟩ _
                    refine Qs.only ?_
                    obtain rfl := Option.some.inj h25
                    exact Qs.midX () trivial (.cons rfl (.nil)) (fun _ H => H.to)
                · refine G.fixB 43 hb rfl ?_
                  refine Ls.guard_f rfl rfl rfl rfl ?_
                  refine Ls.guard_f rfl rfl rfl rfl ?_
                  refine Ls.guard_f rfl rfl rfl rfl ?_
                  refine Ls.guard_f rfl rfl rfl rfl ?_
                  refine Ls.cons (G.q (r_pick rfl rfl rfl) rfl rfl ?_)
                  refine Ls.cons (G.q (r_move rfl) rfl rfl ?_)
                  refine Ls.guard_f rfl rfl rfl rfl ?_
                  refine Ls.guard_f rfl rfl rfl rfl ?_
                  refine Ls.guard_f rfl rfl rfl rfl ?_
                  refine Ls.guard_f rfl rfl rfl rfl ?_
                  refine Ls.guard_f rfl rfl rfl rfl ?_
                  refine Ls.guard_f rfl rfl rfl rfl ?_
                  refine Ls.guard_f rfl rfl rfl rfl ?_
                  refine Ls.cons (G.q (r_pick rfl rfl rfl) rfl rfl ?_)
                  refine Ls.cons (G.q (r_move rfl) rfl rfl ?_)
                  refine Ls.guard_f rfl rfl rfl rfl ?_
                  refine Ls.guard_f rfl rfl rfl rfl ?_
                  refine Ls.guard_f rfl rfl rfl rfl ?_
                  refine Ls.cons (G.q (r_pick rfl rfl rfl) rfl rfl ?_)
                  refine Ls.cons (G.q (r_move rfl) rfl rfl ?_)
                  refine Ls.guard_f rfl rfl rfl rfl ?_
                  refine Ls.guard_f rfl rfl rfl rfl ?_
                  refine Ls.cons (G.q (r_pick rfl rfl rfl) rfl rfl ?_)
                  refine Ls.cons (G.q (r_move rfl) rfl rfl ?_)
                  refine Ls.guard_f rfl rfl rfl rfl ?_
                  refine Ls.guard_f rfl rfl rfl rfl ?_
                  refine Ls.cons (G.q (r_pick rfl rfl rfl) rfl rfl ?_)
                  refine Ls.cons (G.q (r_move rfl) rfl rfl ?_)
                  refine Ls.guard_f rfl rfl rfl rfl ?_
                  refine Ls.guard_f rfl rfl rfl rfl ?_
                  refine Ls.cons (G.q (r_pick rfl rfl rfl) rfl rfl ?_)
                  refine Ls.cons (G.q (r_move rfl) rfl rfl ?_)
                  refine Ls.guard_f rfl rfl rfl rfl ?_
                  refine Ls.guard_f rfl rfl rfl rfl ?_
                  refine Ls.cons (G.q (r_pick rfl rfl rfl) rfl rfl ?_)
                  refine Ls.cons (G.q (r_move rfl) rfl rfl ?_)
                  refine Ls.guard_f rfl rfl rfl rfl ?_
                  refine Ls.guard_f rfl rfl rfl rfl ?_
                  refine Ls.guard_f rfl rfl rfl rfl ?_
                  refine Ls.cons (G.q (r_pick rfl rfl rfl) rfl rfl ?_)
                  refine Ls.cons (G.q (r_assign rfl) rfl rfl ?_)
                  refine Ls.nil ?_
                  refine Qs.only ?_
                  obtain rfl := Option.some.inj hx21
                  exact Qs.midX () trivial (.cons rfl (.nil)) (fun _ H => H.to)
              ·
                rintro ⟨⟩ _
                refine Qs.only ?_
                obtain rfl := Option.some.inj h22
                exact Qs.midX () trivial (.cons rfl (.nil)) (fun _ H => H.to)
            · refine G.fixB 38 hb rfl ?_
              refine Ls.guard_f rfl rfl rfl rfl ?_
              refine Ls.guard_f rfl rfl rfl rfl ?_
              refine Ls.guard_f rfl rfl rfl rfl ?_
              refine Ls.cons (G.q (r_pick rfl rfl rfl) rfl rfl ?_)
              refine Ls.cons (G.q (r_move rfl) rfl rfl ?_)
              refine Ls.guard_f rfl rfl rfl rfl ?_
              refine Ls.guard_f rfl rfl rfl rfl ?_
              refine Ls.guard_f rfl rfl rfl rfl ?_
              refine Ls.guard_f rfl rfl rfl rfl ?_
              refine Ls.cons (G.q (r_pick rfl rfl rfl) rfl rfl ?_)
              refine Ls.cons (G.q (r_move rfl) rfl rfl ?_)
              refine Ls.guard_f rfl rfl rfl rfl ?_
              refine Ls.guard_f rfl rfl rfl rfl ?_
              refine Ls.guard_f rfl rfl rfl rfl ?_
              refine Ls.guard_f rfl rfl rfl rfl ?_
              refine Ls.guard_f rfl rfl rfl rfl ?_
              refine Ls.guard_f rfl rfl rfl rfl ?_
              refine Ls.guard_f rfl rfl rfl rfl ?_
              refine Ls.cons (G.q (r_pick rfl rfl rfl) rfl rfl ?_)
              refine Ls.cons (G.q (r_move rfl) rfl rfl ?_)
              refine Ls.guard_f rfl rfl rfl rfl ?_
              refine Ls.guard_f rfl rfl rfl rfl ?_
              refine Ls.guard_f rfl rfl rfl rfl ?_
              refine Ls.cons (G.q (r_pick rfl rfl rfl) rfl rfl ?_)
              refine Ls.cons (G.q (r_move rfl) rfl rfl ?_)
              refine Ls.guard_f rfl rfl rfl rfl ?_
              refine Ls.guard_f rfl rfl rfl rfl ?_
              refine Ls.cons (G.q (r_pick rfl rfl rfl) rfl rfl ?_)
              refine Ls.cons (G.q (r_move rfl) rfl rfl ?_)
              refine Ls.guard_f rfl rfl rfl rfl ?_
              refine Ls.guard_f rfl rfl rfl rfl ?_
              refine Ls.cons (G.q (r_pick rfl rfl rfl) rfl rfl ?_)
              refine Ls.cons (G.q (r_move rfl) rfl rfl ?_)
              refine Ls.guard_f rfl rfl rfl rfl ?_
              refine Ls.guard_f rfl rfl rfl rfl ?_
              refine Ls.cons (G.q (r_pick rfl rfl rfl) rfl rfl ?_)
              refine Ls.cons (G.q (r_move rfl) rfl rfl ?_)
              refine Ls.guard_f rfl rfl rfl rfl ?_
              refine Ls.guard_f rfl rfl rfl rfl ?_
              refine Ls.cons (G.q (r_pick rfl rfl rfl) rfl rfl ?_)
              refine Ls.cons (G.q (r_move rfl) rfl rfl ?_)
              refine Ls.guard_f rfl rfl rfl rfl ?_
              refine Ls.guard_f rfl rfl rfl rfl ?_
              refine Ls.guard_f rfl rfl rfl rfl ?_
              refine Ls.cons (G.q (r_pick rfl rfl rfl) rfl rfl ?_)
              refine Ls.cons (G.q (r_assign rfl) rfl rfl ?_)
              refine Ls.nil ?_
              refine Qs.only ?_
              obtain rfl := Option.some.inj hx18
              exact Qs.midX () trivial (.cons rfl (.nil)) (fun _ H => H.to)
          ·
            rintro ⟨⟩ _
            refine Qs.only ?_
            obtain rfl := Option.some.inj h19
            exact Qs.midX () trivial (.cons rfl (.nil)) (fun _ H => H.to)
        · refine G.fixB 33 hb rfl ?_
          refine Ls.guard_f rfl rfl rfl rfl ?_
          refine Ls.guard_f rfl rfl rfl rfl ?_
          refine Ls.guard_f rfl rfl rfl rfl ?_
          refine Ls.cons (G.q (r_pick rfl rfl rfl) rfl rfl ?_)
          refine Ls.cons (G.q (r_move rfl) rfl rfl ?_)
          refine Ls.guard_f rfl rfl rfl rfl ?_
          refine Ls.guard_f rfl rfl rfl rfl ?_
          refine Ls.guard_f rfl rfl rfl rfl ?_
          refine Ls.cons (G.q (r_pick rfl rfl rfl) rfl rfl ?_)
          refine Ls.cons (G.q (r_move rfl) rfl rfl ?_)
          refine Ls.guard_f rfl rfl rfl rfl ?_
          refine Ls.guard_f rfl rfl rfl rfl ?_
          refine Ls.guard_f rfl rfl rfl rfl ?_
          refine Ls.guard_f rfl rfl rfl rfl ?_
          refine Ls.cons (G.q (r_pick rfl rfl rfl) rfl rfl ?_)
          refine Ls.cons (G.q (r_move rfl) rfl rfl ?_)
          refine Ls.guard_f rfl rfl rfl rfl ?_
          refine Ls.guard_f rfl rfl rfl rfl ?_
          refine Ls.guard_f rfl rfl rfl rfl ?_
          refine Ls.guard_f rfl rfl rfl rfl ?_
          refine Ls.guard_f rfl rfl rfl rfl ?_
          refine Ls.guard_f rfl rfl rfl rfl ?_
          refine Ls.guard_f rfl rfl rfl rfl ?_
          refine Ls.cons (G.q (r_pick rfl rfl rfl) rfl rfl ?_)
          refine Ls.cons (G.q (r_move rfl) rfl rfl ?_)
          refine Ls.guard_f rfl rfl rfl rfl ?_
          refine Ls.guard_f rfl rfl rfl rfl ?_
          refine Ls.guard_f rfl rfl rfl rfl ?_
          refine Ls.cons (G.q (r_pick rfl rfl rfl) rfl rfl ?_)
          refine Ls.cons (G.q (r_move rfl) rfl rfl ?_)
          refine Ls.guard_f rfl rfl rfl rfl ?_
          refine Ls.guard_f rfl rfl rfl rfl ?_
          refine Ls.cons (G.q (r_pick rfl rfl rfl) rfl rfl ?_)
          refine Ls.cons (G.q (r_move rfl) rfl rfl ?_)
          refine Ls.guard_f rfl rfl rfl rfl ?_
          refine Ls.guard_f rfl rfl rfl rfl ?_
          refine Ls.cons (G.q (r_pick rfl rfl rfl) rfl rfl ?_)
          refine Ls.cons (G.q (r_move rfl) rfl rfl ?_)
          refine Ls.guard_f rfl rfl rfl rfl ?_
          refine Ls.guard_f rfl rfl rfl rfl ?_
          refine Ls.cons (G.q (r_pick rfl rfl rfl) rfl rfl ?_)
          refine Ls.cons (G.q (r_move rfl) rfl rfl ?_)
          refine Ls.guard_f rfl rfl rfl rfl ?_
          refine Ls.guard_f rfl rfl rfl rfl ?_
          refine Ls.cons (G.q (r_pick rfl rfl rfl) rfl rfl ?_)
          refine Ls.cons (G.q (r_move rfl) rfl rfl ?_)
          refine Ls.guard_f rfl rfl rfl rfl ?_
          refine Ls.guard_f rfl rfl rfl rfl ?_
          refine Ls.guard_f rfl rfl rfl rfl ?_
          refine Ls.cons (G.q (r_pick rfl rfl rfl) rfl rfl ?_)
          refine Ls.cons (G.q (r_assign rfl) rfl rfl ?_)
          refine Ls.nil ?_
          refine Qs.only ?_
          obtain rfl := Option.some.inj hx15
          exact Qs.midX () trivial (.cons rfl (.nil)) (fun _ H => H.to)
      ·
        rintro ⟨⟩ _
        refine Qs.only ?_
        obtain rfl := Option.some.inj h16
        exact Qs.midX () trivial (.cons rfl (.nil)) (fun _ H => H.to)
    · refine G.fixB 28 hb rfl ?_
      refine Ls.guard_f rfl rfl rfl rfl ?_
      refine Ls.guard_f rfl rfl rfl rfl ?_
      refine Ls.guard_f rfl rfl rfl rfl ?_
      refine Ls.cons (G.q (r_pick rfl rfl rfl) rfl rfl ?_)
      refine Ls.cons (G.q (r_move rfl) rfl rfl ?_)
      refine Ls.guard_f rfl rfl rfl rfl ?_
      refine Ls.guard_f rfl rfl rfl rfl ?_
      refine Ls.guard_f rfl rfl rfl rfl ?_
      refine Ls.cons (G.q (r_pick rfl rfl rfl) rfl rfl ?_)
      refine Ls.cons (G.q (r_move rfl) rfl rfl ?_)
      refine Ls.guard_f rfl rfl rfl rfl ?_
      refine Ls.guard_f rfl rfl rfl rfl ?_
      refine Ls.guard_f rfl rfl rfl rfl ?_
      refine Ls.cons (G.q (r_pick rfl rfl rfl) rfl rfl ?_)
      refine Ls.cons (G.q (r_move rfl) rfl rfl ?_)
      refine Ls.guard_f rfl rfl rfl rfl ?_
      refine Ls.guard_f rfl rfl rfl rfl ?_
      refine Ls.guard_f rfl rfl rfl rfl ?_
      refine Ls.guard_f rfl rfl rfl rfl ?_
      refine Ls.cons (G.q (r_pick rfl rfl rfl) rfl rfl ?_)
      refine Ls.cons (G.q (r_move rfl) rfl rfl ?_)
      refine Ls.guard_f rfl rfl rfl rfl ?_
      refine Ls.guard_f rfl rfl rfl rfl ?_
      refine Ls.guard_f rfl rfl rfl rfl ?_
      refine Ls.guard_f rfl rfl rfl rfl ?_
      refine Ls.guard_f rfl rfl rfl rfl ?_
      refine Ls.guard_f rfl rfl rfl rfl ?_
      refine Ls.guard_f rfl rfl rfl rfl ?_
      refine Ls.cons (G.q (r_pick rfl rfl rfl) rfl rfl ?_)
      refine Ls.cons (G.q (r_move rfl) rfl rfl ?_)
      refine Ls.guard_f rfl rfl rfl rfl ?_
      refine Ls.guard_f rfl rfl rfl rfl ?_
      refine Ls.guard_f rfl rfl rfl rfl ?_
      refine Ls.cons (G.q (r_pick rfl rfl rfl) rfl rfl ?_)
      refine Ls.cons (G.q (r_move rfl) rfl rfl ?_)
      refine Ls.guard_f rfl rfl rfl rfl ?_
      refine Ls.guard_f rfl rfl rfl rfl ?_
      refine Ls.cons (G.q (r_pick rfl rfl rfl) rfl rfl ?_)
      refine Ls.cons (G.q (r_move rfl) rfl rfl ?_)
      refine Ls.guard_f rfl rfl rfl rfl ?_
      refine Ls.guard_f rfl rfl rfl rfl ?_
      refine Ls.cons (G.q (r_pick rfl rfl rfl) rfl rfl ?_)
      refine Ls.cons (G.q (r_move rfl) rfl rfl ?_)
      refine Ls.guard_f rfl rfl rfl rfl ?_
      refine Ls.guard_f rfl rfl rfl rfl ?_
      refine Ls.cons (G.q (r_pick rfl rfl rfl) rfl rfl ?_)
      refine Ls.cons (G.q (r_move rfl) rfl rfl ?_)
      refine Ls.guard_f rfl rfl rfl rfl ?_
      refine Ls.guard_f rfl rfl rfl rfl ?_
      refine Ls.cons (G.q (r_pick rfl rfl rfl) rfl rfl ?_)
      refine Ls.cons (G.q (r_move rfl) rfl rfl ?_)
      refine Ls.guard_f rfl rfl rfl rfl ?_
      refine Ls.guard_f rfl rfl rfl rfl ?_
      refine Ls.guard_f rfl rfl rfl rfl ?_
      refine Ls.cons (G.q (r_pick rfl rfl rfl) rfl rfl ?_)
      refine Ls.cons (G.q (r_assign rfl) rfl rfl ?_)
      refine Ls.nil ?_
      refine Qs.only ?_
      obtain rfl := Option.some.inj hx12
      exact Qs.midX () trivial (.cons rfl (.nil)) (fun _ H => H.to)
  ·
    rintro ⟨⟩ _
    refine Qs.then_n ?_
    refine Ws.ret ?_
    obtain rfl := Option.some.inj h13
    exact W_end (.inl rfl) Tryd.results8 (.tmp rfl .nil) rfl fun w hS => hR w hS.fin

def ref02_Literals.l1 (K : Nat) : Nat → ((List Int) × Int × Int × Int) → Option (List Int)
  | 0, _ => none
  | j6 + 1, s5 =>
    (bif decide ((s5.2.2.2 : Int) < 8) then (((bif (iDiv .rem .u8 s5.2.1 2 : Int) == 0 then (bif decide (s5.1.length + [2].length ≤ 1099511627776) then some (s5.1 ++ [2]) else none) else (bif decide (s5.1.length + [IntKind.wrap .i64 (iDiv .rem .u8 s5.2.2.1 2)].length ≤ 1099511627776) then some (s5.1 ++ [IntKind.wrap .i64 (iDiv .rem .u8 s5.2.2.1 2)]) else none))).bind fun x9 => ref02_Literals.l1 K j6 (x9, iDiv .quo .u8 s5.2.1 2, iDiv .quo .u8 s5.2.2.1 2, IntKind.wrap .i64 (s5.2.2.2 + 1))) else some s5.1)

def ref02_Literals.f (K : Nat) (a0 : Int) (a1 : Int) : Option (List Int) :=
  ((ref02_Literals.l1 K K ([], a0, a1, 0)).bind fun x2 => some x2)

theorem ref02_Literals.ok {K : Nat} {a0 : Int} {a1 : Int} {r : (List Int)} (h : ref02_Literals.f K a0 a1 = some r) {τ : Meta} {L : List Itm} {w : World} {R : Ending → World → Prop} (hS : St τ ([] ++ L) w)
    (hR : ∀ (w0 : Value) w', St τ ([Own (kI .i64) w0 r 3] ++ L) w' → R (.returned (w0)) w') : Calls Tryd.prog 41 #[.agg #[.int .u8 a0, .int .u8 a1]] w R := by
  refine enter (vs := [_]) Tryd.func41 rfl Tryd.ntmps41 rfl hS.cat ?_
  unfold ref02_Literals.f at h
  refine Ws.seq ?_
  refine Ws.region ?_
  refine Ls.cons (o_box (cs := [.int .u8 a0, .int .u8 a1]) rfl rfl fun b1 => ?_)
  refine Ls.cons (G.q (r_assign rfl) rfl rfl ?_)
  refine Ls.nil ?_
  refine Qs.then_n ?_
  refine Ws.seq ?_
  refine Ws.region ?_
  refine Ls.cons (G.q (r_assign rfl) rfl rfl ?_)
  refine Ls.nil ?_
  refine Qs.then_n ?_
  refine Ws.seq ?_
  refine D.start [Cells b1 [.int .u8 a0, .int .u8 a1] 42] rfl ?_
  refine D.take 0 rfl (by kernel_rfl) (r_field rfl) rfl ?_
  refine D.take 1 rfl (by kernel_rfl) (r_load rfl rfl) rfl ?_
  refine D.take 2 rfl (by kernel_rfl) (r_field rfl) rfl ?_
  refine D.take 3 rfl (by kernel_rfl) (r_load rfl rfl) rfl ?_
  refine D.take 4 rfl (by kernel_rfl) (r_assign rfl) rfl ?_
  refine D.tail (by kernel_rfl) ?_
  refine A.run 5 rfl (by kernel_rfl) (G.q (r_assign rfl) rfl rfl ?_)
  refine A.done (by kernel_rfl) ?_
  refine Qs.then_n ?_
  refine Ws.seq ?_
  refine Ws.seq ?_
  refine Ws.region ?_
  refine Ls.cons (G.q (r_assign rfl) rfl rfl ?_)
  refine Ls.nil ?_
  refine Qs.then_n ?_
  obtain ⟨x2, hx3, h4⟩ := bind_some h
  refine Ws.cutX (ε := Value) (True) (fun e => [(3, e)]) (fun e => Own (kI .i64) e x2 3 :: L) ?_ ?_
  ·
    refine Ws.block ?_
    refine Ws.loop (ε := Value) (ref02_Literals.l1 K) (fun s e => [(3, e), (4, .int .u8 s.2.1), (5, .int .u8 s.2.2.1), (6, .int .i64 s.2.2.2)]) (fun s e => Own (kI .i64) e s.1 3 :: L) (.slice none 0 0) hx3 (.cons rfl (.cons rfl (.cons rfl (.cons rfl (.nil))))) (fun _ H => H.to) ?_
    rintro j6 s5 e8 h7
    cases j6 with
    | zero => cases (show none = some _ from h7)
    | succ j6 =>
      rw [ref02_Literals.l1] at h7
      refine Ws.seq ?_
      refine Ws.seq ?_
      refine Ws.region ?_
      refine Ls.cons (G.q (r_move rfl) rfl rfl ?_)
      refine Ls.cons (G.q (r_bin rfl rfl rfl) rfl rfl ?_)
      refine Ls.nil ?_
      refine Qs.then_n ?_
      rcases bif_some h7 with ⟨hb, h7⟩ | ⟨hb, h7⟩
      · refine Ws.cond_t rfl hb ?_
        refine Ws.skip ?_
        refine Qs.then_n ?_
        refine Ws.seq ?_
        refine Ws.block ?_
        refine Ws.seq ?_
        refine Ws.seq ?_
        refine Ws.region ?_
        refine Ls.cons (G.q (r_move rfl) rfl rfl ?_)
        refine Ls.cons (G.q (r_dv rfl rfl rfl (by decide)) rfl rfl ?_)
        refine Ls.cons (G.q (r_bin rfl rfl rfl) rfl rfl ?_)
        refine Ls.nil ?_
        refine Qs.then_n ?_
        obtain ⟨x9, hx10, h11⟩ := bind_some h7
        refine Ws.cutX (ε := Value) (True) (fun e => [(3, e), (4, .int .u8 s5.2.1), (5, .int .u8 s5.2.2.1), (6, .int .i64 s5.2.2.2)]) (fun e => Own (kI .i64) e x9 3 :: L) ?_ ?_
        ·
          rcases bif_some hx10 with ⟨hb, hx10⟩ | ⟨hb, hx10⟩
          · refine Ws.cond_t rfl hb ?_
            refine Ws.region ?_
            refine Ls.cons (G.q (r_move rfl) rfl rfl ?_)
            refine Ls.cons (o_lit (kI .i64) [2] [.int .i64 2] rfl rfl rfl rfl (by kernel_rfl) (.cons (c := [.int .i64 2]) inferInstance .nil rfl) rfl fun v12 => ?_)
            rcases bif_some hx10 with ⟨hb, hx10⟩ | ⟨_, hx10⟩
            rotate_left
            · cases hx10
            refine Ls.cons (o_append (kI .i64) rfl rfl rfl rfl (of_decide_eq_true hb) rfl fun v13 => ?_)
            refine Ls.cons (G.q (r_assign rfl) rfl rfl ?_)
            refine Ls.nil ?_
            refine Qs.then_n ?_
            obtain rfl := Option.some.inj hx10
            exact Qs.midX v13 trivial (.cons rfl (.cons rfl (.cons rfl (.cons rfl (.nil))))) (fun _ H => H.to)
          · refine Ws.cond_f rfl hb ?_
            refine Ws.region ?_
            refine Ls.cons (G.q (r_move rfl) rfl rfl ?_)
            refine Ls.cons (G.q (r_move rfl) rfl rfl ?_)
            refine Ls.cons (G.q (r_dv rfl rfl rfl (by decide)) rfl rfl ?_)
            refine Ls.cons (G.q (r_conv rfl) rfl rfl ?_)
            refine Ls.cons (o_lit (kI .i64) [IntKind.wrap .i64 (iDiv .rem .u8 s5.2.2.1 2)] [.int .i64 (IntKind.wrap .i64 (iDiv .rem .u8 s5.2.2.1 2))] rfl rfl rfl rfl (by kernel_rfl) (.cons (c := [.int .i64 (IntKind.wrap .i64 (iDiv .rem .u8 s5.2.2.1 2))]) inferInstance .nil rfl) rfl fun v14 => ?_)
            rcases bif_some hx10 with ⟨hb, hx10⟩ | ⟨_, hx10⟩
            rotate_left
            · cases hx10
            refine Ls.cons (o_append (kI .i64) rfl rfl rfl rfl (of_decide_eq_true hb) rfl fun v15 => ?_)
            refine Ls.cons (G.q (r_assign rfl) rfl rfl ?_)
            refine Ls.nil ?_
            refine Qs.then_n ?_
            obtain rfl := Option.some.inj hx10
            exact Qs.midX v15 trivial (.cons rfl (.cons rfl (.cons rfl (.cons rfl (.nil))))) (fun _ H => H.to)
        ·
          rintro e16 hφ
          refine Ws.seq ?_
          refine Ws.region ?_
          refine Ls.cons (G.q (r_move rfl) rfl rfl ?_)
          refine Ls.cons (G.q (r_dv rfl rfl rfl (by decide)) rfl rfl ?_)
          refine Ls.cons (G.q (r_assign rfl) rfl rfl ?_)
          refine Ls.nil ?_
          refine Qs.then_n ?_
          refine Ws.region ?_
          refine Ls.cons (G.q (r_move rfl) rfl rfl ?_)
          refine Ls.cons (G.q (r_dv rfl rfl rfl (by decide)) rfl rfl ?_)
          refine Ls.cons (G.q (r_assign rfl) rfl rfl ?_)
          refine Ls.nil ?_
          refine Qs.block_n ?_
          refine Qs.then_n ?_
          refine Ws.region ?_
          refine Ls.cons (G.q (r_move rfl) rfl rfl ?_)
          refine Ls.cons (G.q (r_bin rfl rfl rfl) rfl rfl ?_)
          refine Ls.cons (G.q (r_assign rfl) rfl rfl ?_)
          refine Ls.nil ?_
          refine Qs.then_n ?_
          exact Qs.again e16 h11 (Nat.lt_succ_self _) (.cons rfl (.cons rfl (.cons rfl (.cons rfl (.nil))))) (fun _ H => H.to)
      · refine Ws.cond_f rfl hb ?_
        refine Ws.exit ?_
        refine Qs.then_e ?_
        refine Qs.then_e ?_
        refine Qs.block_e ?_
        refine Qs.then_n ?_
        obtain rfl := Option.some.inj h7
        exact Qs.midX e8 trivial (.cons rfl (.nil)) (fun _ H => H.to)
  ·
    rintro e17 hφ
    refine Ws.seq ?_
    refine Ws.region ?_
    refine Ls.cons (G.q (r_move rfl) rfl rfl ?_)
    refine Ls.cons (G.q (r_assign rfl) rfl rfl ?_)
    refine Ls.nil ?_
    refine Qs.then_n ?_
    refine Ws.ret ?_
    obtain rfl := Option.some.inj h4
    exact W_end (.inl rfl) Tryd.results41 (.tmp rfl .nil) rfl fun w hS => hR e17 w hS.fin

def ref02_Cube.l1 (K : Nat) (a0 : List Int) : Nat → (Int × Int × Int × Int) → Option (Int × Int)
  | 0, _ => none
  | j7 + 1, s6 =>
    (bif decide ((s6.2.1 : Int) < (a0.length : Int)) then ((idx a0 s6.2.1).bind fun y9 => (((bif decide ((y9 : Int) < 2) then some (IntKind.wrap .u8 (s6.2.2.1 + s6.1), IntKind.wrap .u8 (s6.2.2.2 + (IntKind.wrap .u8 (s6.1 * (IntKind.wrap .u8 y9))))) else some (s6.2.2.1, s6.2.2.2))).bind fun x14 => ref02_Cube.l1 K a0 j7 (IntKind.wrap .u8 (s6.1 * 2), IntKind.wrap .i64 (s6.2.1 + 1), x14.1, x14.2))) else some (s6.2.2.1, s6.2.2.2))

def ref02_Cube.f (K : Nat) (a0 : List Int) : Option (Int × Int) :=
  ((ref02_Cube.l1 K a0 K (1, 0, 0, 0)).bind fun x3 => some (x3.1, x3.2))

theorem ref02_Cube.ok {K : Nat} {a0 : List Int} {V0 : Value} {r : Int × Int} (h : ref02_Cube.f K a0 = some r) {τ : Meta} {L : List Itm} {w : World} {R : Ending → World → Prop} (hS : St τ ([Frz (kI .i64) V0 a0] ++ L) w)
    (hR : ∀ w', St τ ([] ++ L) w' → R (.returned (.agg #[.int .u8 r.1, .int .u8 r.2])) w') : Calls Tryd.prog 42 #[V0] w R := by
  refine enter (vs := [_]) Tryd.func42 rfl Tryd.ntmps42 rfl hS.cat ?_
  unfold ref02_Cube.f at h
  refine Ws.seq ?_
  refine Ws.region ?_
  refine Ls.cons (o_alloc (cs := [.int .u8 0, .int .u8 0]) rfl rfl fun b1 => ?_)
  refine Ls.nil ?_
  refine Qs.then_n ?_
  refine Ws.seq ?_
  refine Ws.region ?_
  refine Ls.cons (o_alloc (cs := [.int .u8 0, .int .u8 0]) rfl rfl fun b2 => ?_)
  refine Ls.nil ?_
  refine Qs.then_n ?_
  refine Ws.seq ?_
  refine Ws.region ?_
  refine Ls.cons (G.q (r_assign rfl) rfl rfl ?_)
  refine Ls.nil ?_
  refine Qs.then_n ?_
  refine Ws.seq ?_
  refine Ws.seq ?_
  refine Ws.region ?_
  refine Ls.cons (G.q (r_assign rfl) rfl rfl ?_)
  refine Ls.nil ?_
  refine Qs.then_n ?_
  obtain ⟨x3, hx4, h5⟩ := bind_some h
  refine Ws.cutX (ε := Unit) (True) (fun e => [(2, .pointer (some ⟨b1, 0, none⟩)), (3, .pointer (some ⟨b2, 0, none⟩))]) (fun e => Cells b1 [.int .u8 0, .int .u8 0] 42 :: Cells b2 [.int .u8 x3.1, .int .u8 x3.2] 42 :: Frz (kI .i64) V0 a0 :: L) ?_ ?_
  ·
    refine Ws.block ?_
    refine Ws.loop (ε := Unit) (ref02_Cube.l1 K a0) (fun s e => [(0, V0), (2, .pointer (some ⟨b1, 0, none⟩)), (3, .pointer (some ⟨b2, 0, none⟩)), (4, .int .u8 s.1), (5, .int .i64 s.2.1)]) (fun s e => Frz (kI .i64) V0 a0 :: Cells b1 [.int .u8 0, .int .u8 0] 42 :: Cells b2 [.int .u8 s.2.2.1, .int .u8 s.2.2.2] 42 :: L) () hx4 (.cons rfl (.cons rfl (.cons rfl (.cons rfl (.cons rfl (.nil)))))) (fun _ H => H.to) ?_
    rintro j7 s6 ⟨⟩ h8
    cases j7 with
    | zero => cases (show none = some _ from h8)
    | succ j7 =>
      rw [ref02_Cube.l1] at h8
      refine Ws.seq ?_
      refine Ws.seq ?_
      refine Ws.region ?_
      refine Ls.cons (G.q (r_move rfl) rfl rfl ?_)
      refine Ls.cons (G.q (r_move rfl) rfl rfl ?_)
      refine Ls.cons (G.q (r_len rfl) rfl rfl ?_)
      refine Ls.cons (G.q (r_bin rfl rfl rfl) rfl rfl ?_)
      refine Ls.nil ?_
      refine Qs.then_n ?_
      rcases bif_some h8 with ⟨hb, h8⟩ | ⟨hb, h8⟩
      · refine Ws.cond_t rfl hb ?_
        refine Ws.skip ?_
        refine Qs.then_n ?_
        refine Ws.seq ?_
        refine Ws.block ?_
        refine Ws.seq ?_
        refine Ws.seq ?_
        refine Ws.region ?_
        refine Ls.cons (G.q (r_move rfl) rfl rfl ?_)
        refine Ls.cons (G.q (r_move rfl) rfl rfl ?_)
        obtain ⟨y9, hy10, h8⟩ := bind_some h8
        have hy10 := idx_some hy10
        refine G.el (i := s6.2.1.toNat) (kI .i64) 1 V0 rfl hy10.2 ?_
        intro b11 o12 c13
        refine G.xp_i64 ?_
        refine Ls.cons (G.q (r_idxN s6.2.1.toNat rfl rfl hy10.1 rfl) rfl rfl ?_)
        refine Ls.cons (G.q (r_load rfl rfl) rfl rfl ?_)
        refine Ls.cons (G.q (r_bin rfl rfl rfl) rfl rfl ?_)
        refine Ls.nil ?_
        refine Qs.then_n ?_
        obtain ⟨x14, hx15, h16⟩ := bind_some h8
        refine Ws.cutX (ε := Unit) (True) (fun e => [(0, V0), (2, .pointer (some ⟨b1, 0, none⟩)), (3, .pointer (some ⟨b2, 0, none⟩)), (4, .int .u8 s6.1), (5, .int .i64 s6.2.1)]) (fun e => Frz (kI .i64) V0 a0 :: Cells b1 [.int .u8 0, .int .u8 0] 42 :: Cells b2 [.int .u8 x14.1, .int .u8 x14.2] 42 :: L) ?_ ?_
        ·
          rcases bif_some hx15 with ⟨hb, hx15⟩ | ⟨hb, hx15⟩
          · refine Ws.cond_t rfl hb ?_
            refine Ws.seq ?_
            refine Ws.region ?_
            refine Ls.cons (G.q (r_field rfl) rfl rfl ?_)
            refine Ls.cons (G.q (r_load rfl rfl) rfl rfl ?_)
            refine Ls.cons (G.q (r_move rfl) rfl rfl ?_)
            refine Ls.cons (G.q (r_bin rfl rfl rfl) rfl rfl ?_)
            refine Ls.cons (G.q (r_field rfl) rfl rfl ?_)
            refine Ls.cons (o_store (vs := [.int .u8 (IntKind.wrap .u8 (s6.2.2.1 + s6.1))]) rfl rfl rfl rfl ?_)
            refine Ls.nil ?_
            refine Qs.then_n ?_
            refine D.start [Frz (kI .i64) V0 a0, Cells b1 [.int .u8 0, .int .u8 0] 42, Cells b2 [.int .u8 (IntKind.wrap .u8 (s6.2.2.1 + s6.1)), .int .u8 s6.2.2.2] 42, CellsP b11 o12 [.int .i64 y9], ElP V0 s6.2.1.toNat 1 b11 o12] rfl ?_
            refine D.take 0 rfl (by kernel_rfl) (r_field rfl) rfl ?_
            refine D.take 1 rfl (by kernel_rfl) (r_load rfl rfl) rfl ?_
            refine D.take 2 rfl (by kernel_rfl) (r_move rfl) rfl ?_
            refine D.take 3 rfl (by kernel_rfl) (r_move rfl) rfl ?_
            refine D.take 4 rfl (by kernel_rfl) (r_move rfl) rfl ?_
            refine D.take 5 rfl (by kernel_rfl) (r_idxN s6.2.1.toNat rfl rfl hy10.1 rfl) rfl ?_
            refine D.take 6 rfl (by kernel_rfl) (r_load rfl rfl) rfl ?_
            refine D.take 7 rfl (by kernel_rfl) (r_conv rfl) rfl ?_
            refine D.take 8 rfl (by kernel_rfl) (r_bin rfl rfl rfl) rfl ?_
            refine D.take 9 rfl (by kernel_rfl) (r_bin rfl rfl rfl) rfl ?_
            refine D.tail (by kernel_rfl) ?_
            refine A.run 10 rfl (by kernel_rfl) (G.q (r_field rfl) rfl rfl ?_)
            refine A.run 11 rfl (by kernel_rfl) (o_store (vs := [.int .u8 (IntKind.wrap .u8 (s6.2.2.2 + (IntKind.wrap .u8 (s6.1 * (IntKind.wrap .u8 y9)))))]) rfl rfl rfl rfl ?_)
            refine A.done (by kernel_rfl) ?_
            refine Qs.then_n ?_
            obtain rfl := Option.some.inj hx15
            exact Qs.midX () trivial (.cons rfl (.cons rfl (.cons rfl (.cons rfl (.cons rfl (.nil)))))) (fun _ H => H.to)
          · refine Ws.cond_f rfl hb ?_
            refine Ws.skip ?_
            refine Qs.then_n ?_
            obtain rfl := Option.some.inj hx15
            exact Qs.midX () trivial (.cons rfl (.cons rfl (.cons rfl (.cons rfl (.cons rfl (.nil)))))) (fun _ H => H.to)
        ·
          rintro ⟨⟩ hφ
          refine Ws.region ?_
          refine Ls.cons (G.q (r_move rfl) rfl rfl ?_)
          refine Ls.cons (G.q (r_bin rfl rfl rfl) rfl rfl ?_)
          refine Ls.cons (G.q (r_assign rfl) rfl rfl ?_)
          refine Ls.nil ?_
          refine Qs.block_n ?_
          refine Qs.then_n ?_
          refine Ws.region ?_
          refine Ls.cons (G.q (r_move rfl) rfl rfl ?_)
          refine Ls.cons (G.q (r_bin rfl rfl rfl) rfl rfl ?_)
          refine Ls.cons (G.q (r_assign rfl) rfl rfl ?_)
          refine Ls.nil ?_
          refine Qs.then_n ?_
          exact Qs.again () h16 (Nat.lt_succ_self _) (.cons rfl (.cons rfl (.cons rfl (.cons rfl (.cons rfl (.nil)))))) (fun _ H => H.to)
      · refine Ws.cond_f rfl hb ?_
        refine Ws.exit ?_
        refine Qs.then_e ?_
        refine Qs.then_e ?_
        refine Qs.block_e ?_
        refine Qs.then_n ?_
        obtain rfl := Option.some.inj h8
        exact Qs.midX () trivial (.cons rfl (.cons rfl (.nil))) (fun _ H => H.to)
  ·
    rintro ⟨⟩ hφ
    refine Ws.seq ?_
    refine Ws.region ?_
    refine Ls.cons (G.q (r_loadN rfl rfl) rfl rfl ?_)
    refine Ls.cons (o_store (vs := [.int .u8 x3.1, .int .u8 x3.2]) rfl rfl rfl rfl ?_)
    refine Ls.nil ?_
    refine Qs.then_n ?_
    refine Ws.ret ?_
    obtain rfl := Option.some.inj h5
    exact W_end (.inl rfl) Tryd.results42 (.cellN rfl rfl .nil) rfl fun w hS => hR w hS.fin

def ref02_Right.l1 (K : Nat) (x5 : (List Int)) : Nat → Int → Option (Bool ⊕ Unit)
  | 0, _ => none
  | j12 + 1, s11 =>
    (bif decide ((s11 : Int) < 8) then ((idx x5 s11).bind fun y14 => (bif (y14 : Int) != 2 then some (.inl false) else ref02_Right.l1 K x5 j12 (IntKind.wrap .i64 (s11 + 1)))) else some (.inr ()))

end Go.Proofs.YtbkojmcppeflbaaDoor
