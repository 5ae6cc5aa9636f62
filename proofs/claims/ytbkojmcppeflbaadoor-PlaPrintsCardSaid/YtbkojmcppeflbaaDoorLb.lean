/- The library's functions that the program calls, told as pure functions over the kit's own contracts. -/
import Derived.Test.YtbkojmcppeflbaaDoorTy
import Derived.Test.YtbkojmcppeflbaaDoorShelf
namespace Go.Proofs.YtbkojmcppeflbaaDoor
open Go
set_option linter.unusedVariables false
set_option linter.unusedSimpArgs false
set_option linter.unusedSectionVars false
set_option linter.unnecessarySimpa false
open Go.RowKit
variable {τ : Meta} {N : Nat} {m : List (Nat × Value)} {L : List Itm}
/-! ## What is known of package variables -/
def IfcV (v : Value) : Prop := v = .nilIface ∨ ∃ t p, v = .iface t p
def GloW (w : World) : Prop := (∃ m : Int, w.cell? ⟨1, 0, none⟩ = some (.int .i64 m)) ∧ (∃ ev, w.cell? ⟨4, 0, none⟩ = some ev ∧ IfcV ev) ∧ (∃ ev, w.cell? ⟨5, 0, none⟩ = some ev ∧ IfcV ev) ∧ Lib.TabIs Tryd.prog w "internal/strconv.uint64pow10" .u64 Lib.pow10Tab
def Glo : Itm := ⟨true, fun F h => h = PH.nil ∧ ∀ w, PH.le F (hp w) → GloW w, fun hF h => ⟨h.1, fun w l => h.2 w (PH.le_trans hF l)⟩, fun _ _ _ h => h.1⟩
instance : Pers Glo := ⟨rfl⟩
theorem St.glo {w : World} (H : St τ (Glo :: L) w) : GloW w := by
  obtain ⟨F, h, lF, _, _, e⟩ := H.get
  exact e w lF
theorem St.below {w w' : World} (H : St τ L w) (b : Below w.heap.size w w') : St τ L w' := by
  refine H.world (by simp [metaOf, b.os, b.tape, b.output]) fun c hc => ?_
  have : c < w.heap.size := by
    rcases Nat.lt_or_ge c w.heap.size with h | h
    · exact h
    · simp [hp, Array.getElem?_eq_none h] at hc
  exact b.block c this
theorem St.ifc {w : World} {v : Value} {b : Bool} (H : St τ L w) (h : (b = true ∧ v = .nilIface) ∨ (b = false ∧ ∃ t p, v = .iface t p)) : St τ (IfcP v b :: L) w := H.add fun _ _ _ => ⟨rfl, h⟩
/-! ## strings -/
def strings_Cut.f (_K : Nat) (a0 a1 : ByteArray) : Option (ByteArray × ByteArray × Bool) :=
  bif decide (a0.size < 4294967281) then some (⟨(Lib.cut a0.data.toList a1.data.toList).1.toArray⟩, ⟨(Lib.cut a0.data.toList a1.data.toList).2.1.toArray⟩, (Lib.cut a0.data.toList a1.data.toList).2.2) else none
theorem strings_Cut.ok {K : Nat} {a0 a1 : ByteArray} {r : ByteArray × ByteArray × Bool} (h : strings_Cut.f K a0 a1 = some r) {τ : Meta} {L : List Itm} {w : World} {R : Ending → World → Prop} (hS : St τ ([Glo] ++ L) w)
    (hR : ∀ w', St τ ([] ++ L) w' → R (.returned (.tuple #[.string r.1, .string r.2.1, .bool r.2.2])) w') : Calls Tryd.prog 69 #[.string a0, .string a1] w R := by
  unfold strings_Cut.f at h
  rcases bif_some h with ⟨hb, h⟩ | ⟨_, h⟩
  · obtain rfl := Option.some.inj h
    obtain ⟨⟨m, hm⟩, _⟩ := hS.glo
    refine (Tryd.strings_Cut a0 a1 m w (of_decide_eq_true hb) hm).mono ?_
    rintro e w' ⟨rfl, n, rfl⟩
    exact hR _ (hS.drop.world rfl fun _ _ => rfl)
  · cases h
def strings_Split.f (_K : Nat) (a0 a1 : ByteArray) : Option (List ByteArray) :=
  bif decide (a0.size < 4294967281 ∧ 1 ≤ a1.size) then some (Lib.splitB a1 0 (Lib.countB a0 a1) a0) else none
theorem strings_Split.ok {K : Nat} {a0 a1 : ByteArray} {r : List ByteArray} (h : strings_Split.f K a0 a1 = some r) {τ : Meta} {L : List Itm} {w : World} {R : Ending → World → Prop} (hS : St τ ([Glo] ++ L) w)
    (hR : ∀ (w0 : Value) w', St τ ([Own kS w0 r 9] ++ L) w' → R (.returned w0) w') : Calls Tryd.prog 31 #[.string a0, .string a1] w R := by
  unfold strings_Split.f at h
  rcases bif_some h with ⟨hb, h⟩ | ⟨_, h⟩
  · obtain rfl := Option.some.inj h
    have hb := of_decide_eq_true hb
    obtain ⟨⟨m, hm⟩, _⟩ := hS.glo
    refine (Tryd.strings_Split a0 a1 m w hb.1 hm hb.2).mono ?_
    rintro e w' ⟨rfl, rfl⟩
    have hl : (Lib.splitB a1 0 (Lib.countB a0 a1) a0).length = Lib.countB a0 a1 + 1 := Lib.splitB_all a1 hb.2 0 _ a0 rfl
    have := hS.drop.newOwn (k := kS) (xs := Lib.splitB a1 0 (Lib.countB a0 a1) a0) (cs := (Lib.splitB a1 0 (Lib.countB a0 a1) a0).map Value.string) (e := 9) (w' := w.alloc (.cells ((Lib.splitB a1 0 (Lib.countB a0 a1) a0).map Value.string).toArray 9)) rfl rfl (fun F h K => ⟨by simp [kS], fun i x hx => ⟨[.string x], rfl, fun j v hj => by
      cases j with
      | zero => simp at hj; subst hj; simp [kS, hx]
      | succ j => simp at hj⟩⟩)
    rw [hl] at this
    exact hR _ _ this
  · cases h
/-! ## strconv -/
def strconv_Itoa.f (_K : Nat) (a0 : Int) : Option ByteArray :=
  bif decide (-9223372036854775808 ≤ a0 ∧ a0 ≤ 9223372036854775807) then some ⟨(Lib.itoa a0).toArray⟩ else none
theorem strconv_Itoa.ok {K : Nat} {a0 : Int} {r : ByteArray} (h : strconv_Itoa.f K a0 = some r) {τ : Meta} {L : List Itm} {w : World} {R : Ending → World → Prop} (hS : St τ ([Glo] ++ L) w)
    (hR : ∀ w', St τ ([] ++ L) w' → R (.returned (.string r)) w') : Calls Tryd.prog 24 #[.int .i64 a0] w R := by
  unfold strconv_Itoa.f at h
  rcases bif_some h with ⟨hb, h⟩ | ⟨_, h⟩
  · obtain rfl := Option.some.inj h
    have hb := of_decide_eq_true hb
    obtain ⟨_, _, _, ht⟩ := hS.glo
    refine (Tryd.strconv_Itoa a0 hb.1 hb.2 w ht).mono ?_
    rintro e w' ⟨rfl, k, os, rfl⟩
    refine hR _ (hS.drop.world rfl fun c hc => ?_)
    have hlt : c < w.heap.size := by
      rcases Nat.lt_or_ge c w.heap.size with h | h
      · exact h
      · simp [hp, Array.getElem?_eq_none h] at hc
    simp only [hp, Go.Sort.grow, World.drewN]
    rw [Array.getElem?_append_left hlt]
  · cases h
def strconv_Atoi.f (_K : Nat) (a0 : ByteArray) : Option (Int × Bool) :=
  bif decide (a0.size ≤ 281474976710656) then (match Lib.atoiAll a0.data.toList with
    | .ok v => some (v, true)
    | .range => some (Lib.atoiSat a0.data.toList, false)
    | _ => some (0, false)) else none
theorem strconv_Atoi.ok {K : Nat} {a0 : ByteArray} {r : Int × Bool} (h : strconv_Atoi.f K a0 = some r) {τ : Meta} {L : List Itm} {w : World} {R : Ending → World → Prop} (hS : St τ ([Glo] ++ L) w)
    (hR : ∀ (w0 : Value) w', St τ ([IfcP w0 r.2] ++ L) w' → R (.returned (.tuple #[.int .i64 r.1, w0])) w') : Calls Tryd.prog 67 #[.string a0] w R := by
  unfold strconv_Atoi.f at h
  rcases bif_some h with ⟨hb, h⟩ | ⟨_, h⟩
  · have hb := of_decide_eq_true hb
    obtain ⟨_, ⟨e1, h1, i1⟩, ⟨e2, h2, i2⟩, _⟩ := hS.glo
    rcases hc : Lib.atoiAll a0.data.toList with v | _ | _
    · rw [hc] at h; obtain rfl := Option.some.inj h
      refine (Tryd.strconv_Atoi_ok a0 (by omega) v hc w).mono ?_
      rintro e w' ⟨rfl, hw⟩
      refine hR _ _ (St.ifc ?_ (.inl ⟨rfl, rfl⟩))
      rcases hw with rfl | ⟨t, rfl⟩
      · exact hS.drop
      · exact hS.drop.below (Lib.bytesWorld_below _ _ _)
    · rw [hc] at h; obtain rfl := Option.some.inj h
      refine (Any.strconv_Atoi_syntax Tryd.laysC172 a0 hb hc e1 w h1 i1).mono ?_
      rintro e w' ⟨n, rfl, _, _, hbl⟩
      exact hR _ _ ((hS.drop.below hbl).ifc (.inr ⟨rfl, _, _, rfl⟩))
    · rw [hc] at h; obtain rfl := Option.some.inj h
      refine (Tryd.strconv_Atoi_range a0 hb hc e2 w h2 i2).mono ?_
      rintro e w' ⟨n, rfl, _, _, hbl⟩
      exact hR _ _ ((hS.drop.below hbl).ifc (.inr ⟨rfl, _, _, rfl⟩))
  · cases h
end Go.Proofs.YtbkojmcppeflbaaDoor
