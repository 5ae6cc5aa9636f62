/- What the row's condition and the world's shape give of package variables. -/
import Derived.Test.YtbkojmcppeflbaaDoorLb
import Derived.Test.YtbkojmcppeflbaaDoorSlRow
import Derived.Handed
import Derived.Lib.LaidU8
import Derived.Stop.LaidErr
import Derived.Shelf.Vars
namespace Go.Proofs.YtbkojmcppeflbaaDoor
open Go Go.RowKit
set_option linter.unusedVariables false
set_option linter.unusedSimpArgs false
set_option linter.unusedSectionVars false
set_option linter.unnecessarySimpa false
theorem ifc_of {P : Program} {H : Type} {enc : TypeId × Value → H} {w : World} {base : Nat} {spare : Nat → Bool} {held : Bool} {fuel : Nat} {t : TypeId} {ms : Array (String × TypeId)} {cs : List Value} {d : DataW H} {ps : List MemPlace} (hu : P.underlying t = some (.interface ms))
    (h : DataW.trod enc P w base spare held fuel t cs = some (d, ps)) : ∃ v, cs = [v] ∧ IfcV v := by
  cases fuel with
  | zero => cases h
  | succ f =>
    unfold DataW.trod at h
    rw [hu] at h
    rcases cs with _ | ⟨v, _ | ⟨u, r⟩⟩
    · simp at h
    · refine ⟨v, rfl, ?_⟩
      cases v <;> first | exact .inl rfl | exact .inr ⟨_, _, rfl⟩ | (simp at h; done)
    · simp at h
theorem glo_of {W : World} {n : String} {d : DataW Unit} {g t : Nat} {ms : Array (String × TypeId)} (hg : Tryd.prog.globalNamed n = some g) (ht : (Tryd.prog.globals[g]?).map (·.type) = some t) (hu : Tryd.prog.underlying t = some (.interface ms))
    (h : Lib.VarReads Tryd.prog W n d) : ∃ ev, W.cell? ⟨g, 0, none⟩ = some ev ∧ IfcV ev := by
  obtain ⟨g', t', cs, fuel, p, hg', ht', hv, hd⟩ := h
  obtain rfl := Option.some.inj (hg.symm.trans hg')
  obtain rfl := Option.some.inj (ht.symm.trans ht')
  obtain ⟨v, e, hi⟩ := ifc_of hu hd
  refine ⟨v, ?_, hi⟩
  unfold World.var? at hv
  rw [hg] at hv
  simp only [Option.bind_some] at hv
  split at hv
  · rename_i c tb fz hh
    cases hv
    have e' : cs = #[v] := Array.toList_inj.1 e
    subst e'
    rw [hp_cells hh]; rfl
  · cases hv
theorem cell_up {W w : World} (h : PH.le (hp W) (hp w)) {g : Nat} {v : Value} (hc : W.cell? ⟨g, 0, none⟩ = some v) : w.cell? ⟨g, 0, none⟩ = some v := by
  unfold World.cell? at hc
  split at hc
  · rename_i c tb fz hh
    rw [hp_cells (h g _ hh)]; simpa using hc
  · cases hc
theorem var_up {W w : World} (h : PH.le (hp W) (hp w)) {n : String} {cs : Array Value} (hc : W.var? Tryd.prog n = some cs) : w.var? Tryd.prog n = some cs := by
  unfold World.var? at hc ⊢
  cases hg : Tryd.prog.globalNamed n with
  | none => rw [hg] at hc; cases hc
  | some g =>
    rw [hg] at hc
    simp only [Option.bind_some] at hc ⊢
    split at hc
    · rename_i c tb fz hh
      have : w.heap[g]? = some (.cells c tb fz) := h g _ hh
      rw [this]; exact hc
    · cases hc
theorem GloW.up {W : World} (h : GloW W) : ∀ w, PH.le (hp W) (hp w) → GloW w := fun w l => by
  obtain ⟨⟨m, h1⟩, ⟨e1, h2, i2⟩, ⟨e2, h3, i3⟩, h4⟩ := h
  exact ⟨⟨m, cell_up l h1⟩, ⟨e1, cell_up l h2, i2⟩, ⟨e2, cell_up l h3, i3⟩, var_up l h4⟩
variable {H : Type} {enc : TypeId × Value → H}
/-- The kit's wrap for a row with a condition, with the world's shape handed on. -/
theorem wrap_and_shaped {a : Assume} {C : Checked} {os : Os} {f : FuncId} {fn : Func} {s : ChangeSpec} {conds : List PathCond} {apart fresh handsOn again : Bool} {X : World → Array Value → Prop}
    (hX : ∀ (w w' : World) (args : Array Value), w.heap = w'.heap → X w args → X w' args)
    (own : ownKnob C.prog.godebug = none) (started : os.Started) (noInit : C.prog.inits.idxOf? f = none) (hfn : C.prog.funcs[f]? = some fn)
    (witness : ∃ (w : World) (tape : Tape) (i : Input), w.os = os ∧ (w.forCall tape i).Shaped C.prog ∧ i.vars = [] ∧ Input.okWide C.prog (w.forCall tape i) .any w.heap.size f i ∧
      ((s.pre enc C.prog fn conds apart (w.forCall tape i).memory i.args ∧ X (w.forCall tape i).memory i.args) ∧ sizedMet enc C.prog fn (OpenSpec.ofChange s) apart (w.forCall tape i).memory i.args) ∧ a.holds C.prog (lone (Frame.enter C.prog f i.args .normal) [] (w.forCall tape i)))
    (contract : ∀ (W : World) (base : Nat) (args : Array Value) (ds gs : List (DataW H)) (before : List MemPlace),
      (∀ (j : Nat) t v, fn.params[j]? = some t → args[j]? = some v → Value.okWide C.prog W .any base t v) →
      DataW.Whole enc C.prog fn.params.toList s.vars apart W args.toList ds gs before →
      X W args → W.ShapedOpen C.prog →
      Calls C.prog f args W fun e W' => ∃ v, e = .returned v ∧ s.post enc C.prog fn apart fresh handsOn again W args v W') :
    ReturnsInHanded a C os f .any (fun w args => (s.pre enc C.prog fn conds apart w args ∧ X w args) ∧ sizedMet enc C.prog fn (OpenSpec.ofChange s) apart w args) (s.post enc C.prog fn apart fresh handsOn again) := by
  refine returnsInHanded_of_calls own started noInit witness ?_
  intro w tape i _ hsh _ hok hpre hholds
  obtain ⟨_, _, _, fn', hfn', _, _, _, _, hval⟩ := hok
  have e : fn' = fn := Option.some.inj (hfn'.symm.trans hfn)
  subst e
  obtain ⟨⟨⟨ds, gs, before, hw, hc⟩, hx⟩, hz⟩ := hpre
  have hw' := DataW.Whole.of_heap (w' := w.forCall tape i) (by rfl) hw
  refine (contract (w.forCall tape i) w.heap.size i.args ds gs before hval hw' (hX _ _ _ (by rfl) hx) hsh).mono fun e W' ⟨v, he, hp⟩ => ?_
  subst he
  exact ChangeSpec.post_blind hp
end Go.Proofs.YtbkojmcppeflbaaDoor
