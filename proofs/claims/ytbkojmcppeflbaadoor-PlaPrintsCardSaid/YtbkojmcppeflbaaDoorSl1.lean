/- A symbolic layer over the kit's wp: a world described by a list of items (frozen data, owned blocks). -/
import Derived.Calls
import Derived.KernelRfl
import Derived.Laws.Sem
namespace Go.Proofs.YtbkojmcppeflbaaDoor
open Go
set_option linter.unusedVariables false
set_option linter.unusedSimpArgs false
set_option linter.unusedSectionVars false
set_option linter.unnecessarySimpa false

/-! ## Heaps -/
abbrev PH := Nat → Option Obj
def PH.le (f g : PH) : Prop := ∀ b o, f b = some o → g b = some o
def PH.dj (f g : PH) : Prop := ∀ b, f b = none ∨ g b = none
def PH.un (f g : PH) : PH := fun b => match f b with | some o => some o | none => g b
def PH.nil : PH := fun _ => none
def PH.one (b : Nat) (o : Obj) : PH := fun c => if c = b then some o else none
def hp (w : World) : PH := fun b => w.heap[b]?

theorem PH.le_refl (f : PH) : PH.le f f := fun _ _ h => h
theorem PH.le_trans {f g h : PH} (a : PH.le f g) (b : PH.le g h) : PH.le f h := fun _ _ x => b _ _ (a _ _ x)
theorem PH.nil_le (f : PH) : PH.le PH.nil f := fun _ _ h => by simp [PH.nil] at h
theorem PH.dj_symm {f g : PH} (h : PH.dj f g) : PH.dj g f := fun b => (h b).symm
theorem PH.dj_nil (f : PH) : PH.dj f PH.nil := fun _ => .inr rfl
theorem PH.nil_dj (f : PH) : PH.dj PH.nil f := fun _ => .inl rfl
theorem PH.un_nil (f : PH) : PH.un f PH.nil = f := by funext b; simp only [PH.un, PH.nil]; cases f b <;> rfl
theorem PH.nil_un (f : PH) : PH.un PH.nil f = f := by funext b; rfl
theorem PH.un_assoc (f g h : PH) : PH.un (PH.un f g) h = PH.un f (PH.un g h) := by
  funext b; simp only [PH.un]; cases f b <;> rfl
theorem PH.un_comm {f g : PH} (h : PH.dj f g) : PH.un f g = PH.un g f := by
  funext b; simp only [PH.un]; rcases h b with h | h <;> rw [h]
  · cases g b <;> rfl
  · cases f b <;> rfl
theorem PH.le_un_left (f g : PH) : PH.le f (PH.un f g) := fun b o h => by simp only [PH.un, h]
theorem PH.le_un_right {f g : PH} (d : PH.dj f g) : PH.le g (PH.un f g) := by rw [PH.un_comm d]; exact PH.le_un_left _ _
theorem PH.un_le {f g h : PH} (a : PH.le f h) (b : PH.le g h) : PH.le (PH.un f g) h := by
  intro c o hc; simp only [PH.un] at hc
  cases hf : f c with
  | none => rw [hf] at hc; exact b _ _ hc
  | some x => rw [hf] at hc; exact a _ _ (by rw [hf]; exact hc)
theorem PH.dj_un {f g h : PH} : PH.dj (PH.un f g) h ↔ PH.dj f h ∧ PH.dj g h := by
  constructor
  · intro k
    refine ⟨fun b => ?_, fun b => ?_⟩ <;> rcases k b with e | e
    · left; simp only [PH.un] at e; cases hf : f b with
      | none => rfl
      | some x => rw [hf] at e; cases e
    · exact .inr e
    · left; simp only [PH.un] at e; cases hf : f b with
      | none => rw [hf] at e; exact e
      | some x => rw [hf] at e; cases e
    · exact .inr e
  · rintro ⟨a, c⟩ b
    rcases a b with e | e
    · rcases c b with e' | e'
      · left; simp only [PH.un, e, e']
      · exact .inr e'
    · exact .inr e
theorem PH.dj_un' {f g h : PH} : PH.dj h (PH.un f g) ↔ PH.dj h f ∧ PH.dj h g := by
  constructor
  · intro k; have := PH.dj_un.1 (PH.dj_symm k); exact ⟨PH.dj_symm this.1, PH.dj_symm this.2⟩
  · rintro ⟨a, b⟩; exact PH.dj_symm (PH.dj_un.2 ⟨PH.dj_symm a, PH.dj_symm b⟩)
theorem PH.dj_le {f g g' : PH} (d : PH.dj f g) (h : PH.le g' g) : PH.dj f g' := fun b => by
  rcases d b with e | e
  · exact .inl e
  · right; cases hg : g' b with
    | none => rfl
    | some x => rw [h _ _ hg] at e; cases e
theorem PH.one_at (b : Nat) (o : Obj) : PH.one b o b = some o := by simp [PH.one]
theorem PH.dj_one {f : PH} {b : Nat} {o : Obj} : PH.dj f (PH.one b o) ↔ f b = none := by
  constructor
  · intro h; rcases h b with e | e
    · exact e
    · simp [PH.one] at e
  · intro h c; by_cases hc : c = b
    · subst hc; exact .inl h
    · right; simp [PH.one, hc]

/-! ## Items -/
structure Itm where
  pers : Bool
  hold : PH → PH → Prop
  mono : ∀ {F F' h : PH}, PH.le F F' → hold F h → hold F' h
  emp : pers = true → ∀ {F h : PH}, hold F h → h = PH.nil

def SepL (F : PH) : List Itm → PH → Prop
  | [], h => h = PH.nil
  | it :: L, h => ∃ h1 h2, it.hold F h1 ∧ SepL F L h2 ∧ PH.dj h1 h2 ∧ h = PH.un h1 h2

theorem SepL.mono {F F' : PH} (hF : PH.le F F') : ∀ {L : List Itm} {h : PH}, SepL F L h → SepL F' L h
  | [], _, e => e
  | it :: _, _, ⟨h1, h2, a, b, d, e⟩ => ⟨h1, h2, it.mono hF a, SepL.mono hF b, d, e⟩

structure Meta where
  tape : Nat → Question → Nat
  os : Os
  output : Array (Nat × ByteArray)
def metaOf (w : World) : Meta := ⟨w.tape, w.os, w.output⟩

/-- The world w is described by the items L. -/
def St (τ : Meta) (L : List Itm) (w : World) : Prop :=
  ∃ F h : PH, PH.le F (hp w) ∧ PH.le h (hp w) ∧ PH.dj F h ∧ SepL F L h ∧ metaOf w = τ

theorem SepL.swap {F : PH} {x y : Itm} {L : List Itm} {h : PH} (H : SepL F (x :: y :: L) h) : SepL F (y :: x :: L) h := by
  obtain ⟨h1, h2, a, ⟨h3, h4, b, c, d, rfl⟩, e, rfl⟩ := H
  have e' := PH.dj_un'.1 e
  refine ⟨h3, PH.un h1 h4, b, ⟨h1, h4, a, c, e'.2, rfl⟩, PH.dj_un'.2 ⟨PH.dj_symm e'.1, d⟩, ?_⟩
  rw [← PH.un_assoc, ← PH.un_assoc, PH.un_comm e'.1]
theorem SepL.perm {F : PH} {L L' : List Itm} (p : L.Perm L') : ∀ {h : PH}, SepL F L h → SepL F L' h := by
  induction p with
  | nil => exact fun h => h
  | cons x _ ih => rintro h ⟨h1, h2, a, b, d, e⟩; exact ⟨h1, h2, a, ih b, d, e⟩
  | swap x y L => exact fun H => H.swap
  | trans _ _ i j => exact fun H => j (i H)
theorem St.perm {τ : Meta} {L L' : List Itm} {w : World} (p : L.Perm L') (H : St τ L w) : St τ L' w :=
  let ⟨F, h, a, b, c, d, e⟩ := H; ⟨F, h, a, b, c, d.perm p, e⟩
theorem St.drop {τ : Meta} {x : Itm} {L : List Itm} {w : World} (H : St τ (x :: L) w) : St τ L w := by
  obtain ⟨F, h, a, b, c, ⟨h1, h2, i, s, d, rfl⟩, e⟩ := H
  exact ⟨F, h2, a, PH.le_trans (PH.le_un_right d) b, (PH.dj_un'.1 c).2, s, e⟩
theorem SepL.dup {F : PH} {x : Itm} {L : List Itm} {h : PH} (hx : x.pers = true) (H : SepL F (x :: L) h) : SepL F (x :: x :: L) h := by
  obtain ⟨h1, h2, i, s, d, rfl⟩ := H
  have := x.emp hx i; subst this
  refine ⟨PH.nil, PH.un PH.nil h2, i, ⟨PH.nil, h2, i, s, d, rfl⟩, PH.nil_dj _, ?_⟩
  simp only [PH.nil_un]
theorem St.dup {τ : Meta} {x : Itm} {L : List Itm} {w : World} (hx : x.pers = true) (H : St τ (x :: L) w) : St τ (x :: x :: L) w :=
  let ⟨F, h, a, b, c, d, e⟩ := H; ⟨F, h, a, b, c, d.dup hx, e⟩
theorem SepL.append {F : PH} {L : List Itm} {h2 : PH} (s : SepL F L h2) : ∀ {L' : List Itm} {h1 : PH}, SepL F L' h1 → PH.dj h1 h2 → SepL F (L' ++ L) (PH.un h1 h2)
  | [], h1, k, _ => by simp only [SepL] at k; subst k; simpa [PH.nil_un] using s
  | y :: L', h1, k, d => by
    obtain ⟨k1, k2, u, v, dk, rfl⟩ := k
    have d' := PH.dj_un.1 d
    exact ⟨k1, PH.un k2 h2, u, SepL.append s v d'.2, PH.dj_un'.2 ⟨dk, d'.1⟩, by rw [PH.un_assoc]⟩
/-- One item turned into others, at the same heap. -/
theorem St.conv {τ : Meta} {x : Itm} {L : List Itm} {w : World} {G : List Itm → Prop}
    (H : St τ (x :: L) w) (hx : ∀ F h, x.hold F h → ∃ L', G L' ∧ SepL F L' h) : ∃ L', G L' ∧ St τ (L' ++ L) w := by
  obtain ⟨F, h, a, b, c, ⟨h1, h2, i, s, d, rfl⟩, e⟩ := H
  obtain ⟨L', g, k⟩ := hx F h1 i
  exact ⟨L', g, F, _, a, b, c, s.append k d, e⟩
theorem St.conv1 {τ : Meta} {x y : Itm} {L : List Itm} {w : World}
    (H : St τ (x :: L) w) (hx : ∀ F h, x.hold F h → y.hold F h) : St τ (y :: L) w := by
  obtain ⟨F, h, a, b, c, ⟨h1, h2, i, s, d, e0⟩, e⟩ := H
  exact ⟨F, h, a, b, c, ⟨h1, h2, hx _ _ i, s, d, e0⟩, e⟩
/-- A persistent fact is read off, and the item stays. -/
theorem St.get {τ : Meta} {x : Itm} {L : List Itm} {w : World} (H : St τ (x :: L) w) :
    ∃ F h, PH.le F (hp w) ∧ PH.le h (hp w) ∧ x.hold F h := by
  obtain ⟨F, h, a, b, c, ⟨h1, h2, i, s, d, rfl⟩, e⟩ := H
  exact ⟨F, h1, a, PH.le_trans (PH.le_un_left _ _) b, i⟩
/-- A persistent item that follows from the frozen part is added. -/
theorem St.add {τ : Meta} {y : Itm} {L : List Itm} {w : World} (H : St τ L w) (hy : ∀ F h, SepL F L h → y.hold F PH.nil) : St τ (y :: L) w := by
  obtain ⟨F, h, a, b, c, s, e⟩ := H
  exact ⟨F, h, a, b, c, ⟨PH.nil, h, hy F h s, s, PH.nil_dj _, (PH.nil_un h).symm⟩, e⟩
theorem St.add_of {τ : Meta} {x y : Itm} {L : List Itm} {w : World} (H : St τ (x :: L) w) (hy : ∀ F h, x.hold F h → y.hold F PH.nil) : St τ (y :: x :: L) w :=
  H.add fun F _ ⟨_, _, i, _⟩ => hy F _ i
/-- The item at the head is replaced together with its part of the heap. -/
theorem St.update {τ : Meta} {x y : Itm} {L : List Itm} {w w' : World} (H : St τ (x :: L) w)
    (hm : metaOf w' = metaOf w)
    (hx : ∀ F h, x.hold F h → PH.le h (hp w) → ∃ h', y.hold F h' ∧ PH.le h' (hp w') ∧
      (∀ b, h b = none → hp w b ≠ none → hp w' b = hp w b ∧ h' b = none)) : St τ (y :: L) w' := by
  obtain ⟨F, h, a, b, c, ⟨h1, h2, i, s, d, rfl⟩, e⟩ := H
  have c' := PH.dj_un'.1 c
  obtain ⟨h', j, k, l⟩ := hx F h1 i (PH.le_trans (PH.le_un_left _ _) b)
  have keep : ∀ g : PH, PH.dj g h1 → PH.le g (hp w) → PH.le g (hp w') ∧ PH.dj g h' := by
    intro g dg lg
    have key : ∀ b o, g b = some o → hp w' b = hp w b ∧ h' b = none := by
      intro b o hb
      refine l b ?_ ?_
      · rcases dg b with e | e
        · rw [e] at hb; cases hb
        · exact e
      · rw [lg _ _ hb]; simp
    refine ⟨fun b o hb => ?_, fun b => ?_⟩
    · rw [(key b o hb).1]; exact lg _ _ hb
    · cases hg : g b with
      | none => exact .inl rfl
      | some o => exact .inr (key b o hg).2
  have kF := keep F c'.1 a
  have k2 := keep h2 (PH.dj_symm d) (PH.le_trans (PH.le_un_right d) b)
  exact ⟨F, PH.un h' h2, kF.1, PH.un_le k k2.1, PH.dj_un'.2 ⟨kF.2, c'.2⟩, ⟨h', h2, j, s, PH.dj_symm k2.2, rfl⟩, hm.trans e⟩
/-- A new item in new memory. -/
theorem St.fresh {τ : Meta} {y : Itm} {L : List Itm} {w w' : World} (H : St τ L w) (hm : metaOf w' = metaOf w)
    (hold : ∀ b, hp w b ≠ none → hp w' b = hp w b)
    (hy : ∀ F : PH, PH.le F (hp w') → ∃ h', y.hold F h' ∧ PH.le h' (hp w') ∧ ∀ b, h' b ≠ none → hp w b = none) : St τ (y :: L) w' := by
  obtain ⟨F, h, a, b, c, s, e⟩ := H
  have up : ∀ g : PH, PH.le g (hp w) → PH.le g (hp w') := fun g lg b o hb => by
    rw [hold b (by rw [lg _ _ hb]; simp)]; exact lg _ _ hb
  obtain ⟨h', j, k, l⟩ := hy F (up F a)
  have dd : ∀ g : PH, PH.le g (hp w) → PH.dj g h' := fun g lg b => by
    cases hg : g b with
    | none => exact .inl rfl
    | some o =>
      right
      cases hh : h' b with
      | none => rfl
      | some x => have := l b (by rw [hh]; simp); rw [lg _ _ hg] at this; cases this
  exact ⟨F, PH.un h' h, up F a, PH.un_le k (up h b), PH.dj_un'.2 ⟨dd F a, c⟩, ⟨h', h, j, s, PH.dj_symm (dd h b), rfl⟩, hm.trans e⟩
/-- The owned memory of an item is frozen. -/
theorem St.freeze {τ : Meta} {x y : Itm} {L : List Itm} {w : World} (H : St τ (x :: L) w)
    (hx : ∀ F h, x.hold F h → ∀ F' : PH, PH.le F F' → PH.le h F' → y.hold F' PH.nil) : St τ (y :: L) w := by
  obtain ⟨F, h, a, b, c, ⟨h1, h2, i, s, d, rfl⟩, e⟩ := H
  have c' := PH.dj_un'.1 c
  have hle : PH.le F (PH.un F h1) := PH.le_un_left _ _
  refine ⟨PH.un F h1, h2, PH.un_le a (PH.le_trans (PH.le_un_left _ _) b), PH.le_trans (PH.le_un_right d) b, PH.dj_un.2 ⟨c'.2, d⟩, ⟨PH.nil, h2, hx F h1 i _ hle (PH.le_un_right c'.1), s.mono hle, PH.nil_dj _, (PH.nil_un _).symm⟩, e⟩
/-- The world is changed where no item looks. -/
theorem St.world {τ : Meta} {L : List Itm} {w w' : World} (H : St τ L w) (hm : metaOf w' = metaOf w)
    (hold : ∀ b, hp w b ≠ none → hp w' b = hp w b) : St τ L w' := by
  obtain ⟨F, h, a, b, c, s, e⟩ := H
  have up : ∀ g : PH, PH.le g (hp w) → PH.le g (hp w') := fun g lg b o hb => by
    rw [hold b (by rw [lg _ _ hb]; simp)]; exact lg _ _ hb
  exact ⟨F, h, up F a, up h b, c, s, hm.trans e⟩
theorem St.drew {τ : Meta} {L : List Itm} {w : World} (H : St τ L w) (n : Nat) : St τ L { w with drawn := n } := H.world rfl fun _ _ => rfl

/-! ## Selecting an item -/
/-- x stands in L; L' is what stays (x too, if it is persistent). -/
class Sel (L : List Itm) (x : Itm) (L' : outParam (List Itm)) : Prop where
  out : ∀ {F h : PH}, SepL F L h → SepL F (x :: L') h
class Pers (x : Itm) : Prop where
  out : x.pers = true
instance (priority := 900) Sel.here {x : Itm} {L : List Itm} : Sel (x :: L) x L := ⟨fun H => H⟩
instance (priority := 1000) Sel.dup {x : Itm} {L : List Itm} [p : Pers x] : Sel (x :: L) x (x :: L) := ⟨fun H => H.dup p.out⟩
instance (priority := 100) Sel.there {x y : Itm} {L L' : List Itm} [s : Sel L x L'] : Sel (y :: L) x (y :: L') :=
  ⟨fun ⟨h1, h2, i, k, d, e⟩ => SepL.swap ⟨h1, h2, i, s.out k, d, e⟩⟩
theorem St.sel {τ : Meta} {L L' : List Itm} (x : Itm) {w : World} [s : Sel L x L'] (H : St τ L w) : St τ (x :: L') w :=
  let ⟨F, h, a, b, c, d, e⟩ := H; ⟨F, h, a, b, c, s.out d, e⟩

/-! ## Kinds of data -/
/-- How data of a type lie in cells. -/
structure Kd (α : Type) where
  sz : Nat
  rep : PH → α → List Value → Prop
  len : ∀ {F : PH} {x : α} {cs : List Value}, rep F x cs → cs.length = sz
  mono : ∀ {F F' : PH} {x : α} {cs : List Value}, PH.le F F' → rep F x cs → rep F' x cs
  one : ∀ {F : PH} {x : α} {cs : List Value}, rep F x cs → cs.all Value.oneCell' = true
def kI (k : IntKind) : Kd Int := ⟨1, fun _ n cs => cs = [.int k n], fun h => by subst h; rfl, fun _ h => h, fun h => by subst h; rfl⟩
def kB : Kd Bool := ⟨1, fun _ b cs => cs = [.bool b], fun h => by subst h; rfl, fun _ h => h, fun h => by subst h; rfl⟩
def kS : Kd ByteArray := ⟨1, fun _ s cs => cs = [.string s], fun h => by subst h; rfl, fun _ h => h, fun h => by subst h; rfl⟩
def kP {α β : Type} (k : Kd α) (l : Kd β) : Kd (α × β) :=
  ⟨k.sz + l.sz, fun F x cs => ∃ c d, cs = c ++ d ∧ k.rep F x.1 c ∧ l.rep F x.2 d,
   fun ⟨_, _, e, a, b⟩ => by subst e; simp [k.len a, l.len b], fun hF ⟨c, d, e, a, b⟩ => ⟨c, d, e, k.mono hF a, l.mono hF b⟩,
   fun ⟨_, _, e, a, b⟩ => by subst e; simp only [List.all_append, k.one a, l.one b]; rfl⟩
/-- Rows of cells from a place on. -/
def rows {α : Type} (k : Kd α) (F : PH) (blk : Array Value) (o : Nat) (xs : List α) : Prop :=
  ∀ i x, xs[i]? = some x → ∃ cs, k.rep F x cs ∧ ∀ j v, cs[j]? = some v → blk[o + i * k.sz + j]? = some v
theorem rows.mono {α : Type} {k : Kd α} {F F' : PH} {blk : Array Value} {o : Nat} {xs : List α} (hF : PH.le F F') (h : rows k F blk o xs) : rows k F' blk o xs :=
  fun i x hx => let ⟨cs, a, b⟩ := h i x hx; ⟨cs, k.mono hF a, b⟩
/-- A slice whose memory is frozen. -/
def slRep {α : Type} (k : Kd α) (F : PH) (xs : List α) (v : Value) : Prop :=
  ∃ A c, v = .slice A xs.length c ∧ xs.length ≤ c ∧ (xs = [] ∨ ∃ b o blk ty fz, A = some ⟨b, o, none⟩ ∧ F b = some (.cells blk ty fz) ∧ rows k F blk o xs)
theorem slRep.mono {α : Type} {k : Kd α} {F F' : PH} {xs : List α} {v : Value} (hF : PH.le F F') (h : slRep k F xs v) : slRep k F' xs v := by
  obtain ⟨A, c, e, l, h⟩ := h
  refine ⟨A, c, e, l, h.imp id ?_⟩
  rintro ⟨b, o, blk, ty, fz, e1, e2, e3⟩
  exact ⟨b, o, blk, ty, fz, e1, hF _ _ e2, e3.mono hF⟩
def kL {α : Type} (k : Kd α) : Kd (List α) :=
  ⟨1, fun F xs cs => ∃ v, cs = [v] ∧ slRep k F xs v, fun ⟨_, e, _⟩ => by subst e; rfl, fun hF ⟨v, e, h⟩ => ⟨v, e, h.mono hF⟩,
   fun ⟨v, e, A, c, e', _⟩ => by subst e; subst e'; rfl⟩

/-! ## The items that are used -/
/-- An owned block with these cells. -/
def Cells (b : Nat) (cs : List Value) (ty : TypeId) : Itm :=
  ⟨false, fun _ h => h = PH.one b (.cells cs.toArray ty (0, 0)), fun _ h => h, fun e => by cases e⟩
/-- Frozen cells from a place on. -/
def CellsP (b o : Nat) (cs : List Value) : Itm :=
  ⟨true, fun F h => h = PH.nil ∧ ∃ c ty fz, F b = some (.cells c ty fz) ∧ ∀ j v, cs[j]? = some v → c[o + j]? = some v,
   fun hF ⟨e, c, ty, fz, a, b⟩ => ⟨e, c, ty, fz, hF _ _ a, b⟩, fun _ _ _ h => h.1⟩
/-- A frozen slice reads as xs. -/
def Frz {α : Type} (k : Kd α) (v : Value) (xs : List α) : Itm :=
  ⟨true, fun F h => h = PH.nil ∧ slRep k F xs v, fun hF ⟨e, a⟩ => ⟨e, a.mono hF⟩, fun _ _ _ h => h.1⟩
/-- Cells that are the data x. -/
def Rp {α : Type} (k : Kd α) (cs : List Value) (x : α) : Itm :=
  ⟨true, fun F h => h = PH.nil ∧ k.rep F x cs, fun hF ⟨e, a⟩ => ⟨e, k.mono hF a⟩, fun _ _ _ h => h.1⟩
/-- A slice of the call's own: nobody else looks at its block. -/
def Own {α : Type} (k : Kd α) (v : Value) (xs : List α) (ty : TypeId) : Itm :=
  ⟨false, fun F h => (v = .slice none 0 0 ∧ xs = [] ∧ h = PH.nil) ∨
      ∃ b c blk, v = .slice (some ⟨b, 0, none⟩) xs.length c ∧ xs.length ≤ c ∧ blk.size = c * k.sz ∧ h = PH.one b (.cells blk ty (0, 0)) ∧ rows k F blk 0 xs,
   fun hF h => h.imp id fun ⟨b, c, blk, e1, e2, e3, e4, e5⟩ => ⟨b, c, blk, e1, e2, e3, e4, e5.mono hF⟩, fun e => by cases e⟩
/-- The world as it was when the call began. -/
def Old (w0 : World) : Itm :=
  ⟨true, fun F h => h = PH.nil ∧ ∀ b, b < w0.heap.size → F b = w0.heap[b]?,
   fun hF ⟨e, a⟩ => ⟨e, fun b hb => by
      have := a b hb
      cases hw : w0.heap[b]? with
      | none => rw [Array.getElem?_eq_getElem hb] at hw; cases hw
      | some o => rw [hw] at this; exact hF _ _ this⟩, fun _ _ _ h => h.1⟩
instance {b o : Nat} {cs : List Value} : Pers (CellsP b o cs) := ⟨rfl⟩
instance {α : Type} {k : Kd α} {v : Value} {xs : List α} : Pers (Frz k v xs) := ⟨rfl⟩
instance {α : Type} {k : Kd α} {cs : List Value} {x : α} : Pers (Rp k cs x) := ⟨rfl⟩
instance {w0 : World} : Pers (Old w0) := ⟨rfl⟩

/-- The owned block of an address. -/
class SelC (L : List Itm) (b : Nat) (cs : outParam (List Value)) (ty : outParam TypeId) (L' : outParam (List Itm)) : Prop where
  out : ∀ {F h : PH}, SepL F L h → SepL F (Cells b cs ty :: L') h
instance (priority := 1000) SelC.here {b : Nat} {cs : List Value} {ty : TypeId} {L : List Itm} : SelC (Cells b cs ty :: L) b cs ty L := ⟨fun H => H⟩
instance (priority := 100) SelC.there {b : Nat} {cs : List Value} {ty : TypeId} {y : Itm} {L L' : List Itm} [s : SelC L b cs ty L'] : SelC (y :: L) b cs ty (y :: L') :=
  ⟨fun ⟨h1, h2, i, k, d, e⟩ => SepL.swap ⟨h1, h2, i, s.out k, d, e⟩⟩
theorem St.selC {τ : Meta} {L L' : List Itm} (b : Nat) {cs : List Value} {ty : TypeId} {w : World} [s : SelC L b cs ty L'] (H : St τ L w) : St τ (Cells b cs ty :: L') w :=
  let ⟨F, h, a, b', c, d, e⟩ := H; ⟨F, h, a, b', c, s.out d, e⟩
/-- The owned block of an address, and the list with other cells in its place. -/
class UpdC (L : List Itm) (b : Nat) (cs : outParam (List Value)) (ty : outParam TypeId) (cs' : List Value) (L' : outParam (List Itm)) : Prop where
  out : ∀ {F h : PH}, SepL F L h → ∃ L0, SepL F (Cells b cs ty :: L0) h ∧ ∀ {F h : PH}, SepL F (Cells b cs' ty :: L0) h → SepL F L' h
instance (priority := 1000) UpdC.here {b : Nat} {cs cs' : List Value} {ty : TypeId} {L : List Itm} : UpdC (Cells b cs ty :: L) b cs ty cs' (Cells b cs' ty :: L) :=
  ⟨fun H => ⟨L, H, fun K => K⟩⟩
instance (priority := 100) UpdC.there {b : Nat} {cs cs' : List Value} {ty : TypeId} {y : Itm} {L L' : List Itm} [s : UpdC L b cs ty cs' L'] : UpdC (y :: L) b cs ty cs' (y :: L') :=
  ⟨fun ⟨h1, h2, i, k, d, e⟩ => by
    obtain ⟨L0, H, B⟩ := s.out k
    exact ⟨y :: L0, SepL.swap ⟨h1, h2, i, H, d, e⟩, fun K => by
      obtain ⟨k1, k2, u, v, d', e'⟩ := K.swap
      exact ⟨k1, k2, u, B v, d', e'⟩⟩⟩
/-- Something else in the place of an item. -/
class Upd (L : List Itm) (x y : Itm) (L' : outParam (List Itm)) : Prop where
  out : ∀ {F h : PH}, SepL F L h → ∃ L0, SepL F (x :: L0) h ∧ ∀ {F h : PH}, SepL F (y :: L0) h → SepL F L' h
instance (priority := 1000) Upd.here {x y : Itm} {L : List Itm} : Upd (x :: L) x y (y :: L) := ⟨fun H => ⟨L, H, fun K => K⟩⟩
instance (priority := 100) Upd.there {x y z : Itm} {L L' : List Itm} [s : Upd L x y L'] : Upd (z :: L) x y (z :: L') :=
  ⟨fun ⟨h1, h2, i, k, d, e⟩ => by
    obtain ⟨L0, H, B⟩ := s.out k
    exact ⟨z :: L0, SepL.swap ⟨h1, h2, i, H, d, e⟩, fun K => by
      obtain ⟨k1, k2, u, v, d', e'⟩ := K.swap
      exact ⟨k1, k2, u, B v, d', e'⟩⟩⟩

/-! ## What is read and written -/
theorem SepL.of_cons {F h : PH} {x : Itm} {L : List Itm} (H : SepL F (x :: L) h) : ∃ h1, x.hold F h1 ∧ PH.le h1 h :=
  let ⟨h1, h2, i, _, _, e⟩ := H; ⟨h1, i, by rw [e]; exact PH.le_un_left _ _⟩
theorem hp_cells {w : World} {b : Nat} {c : Array Value} {ty : TypeId} {fz : Nat × Nat} (h : hp w b = some (.cells c ty fz)) (o : Nat) : w.cell? ⟨b, o, none⟩ = c[o]? := by
  simp only [hp] at h
  simp [World.cell?, h]
theorem St.cell_own {τ : Meta} {L L' : List Itm} {b : Nat} {cs : List Value} {ty : TypeId} {w : World} [s : SelC L b cs ty L'] (H : St τ L w) :
    w.heap[b]? = some (.cells cs.toArray ty (0, 0)) := by
  obtain ⟨F, h, _, lh, _, k, _⟩ := H
  obtain ⟨h1, i, l⟩ := (s.out k).of_cons
  have i' : h1 = PH.one b _ := i
  subst i'
  exact lh _ _ (l _ _ (PH.one_at _ _))
/-- Frozen cells at an address. -/
class SelP (L : List Itm) (b o : Nat) (cs : outParam (List Value)) : Prop where
  out : ∀ {F h : PH}, SepL F L h → ∃ c ty fz, F b = some (.cells c ty fz) ∧ ∀ j v, cs[j]? = some v → c[o + j]? = some v
instance (priority := 1000) SelP.here {b o : Nat} {cs : List Value} {L : List Itm} : SelP (CellsP b o cs :: L) b o cs :=
  ⟨fun ⟨_, _, i, _⟩ => i.2⟩
instance (priority := 100) SelP.there {b o : Nat} {cs : List Value} {y : Itm} {L : List Itm} [s : SelP L b o cs] : SelP (y :: L) b o cs :=
  ⟨fun ⟨_, _, _, k, _⟩ => s.out k⟩
theorem St.cell_frz {τ : Meta} {L : List Itm} {b o : Nat} {cs : List Value} {w : World} [s : SelP L b o cs] (H : St τ L w) :
    ∃ c ty fz, w.heap[b]? = some (.cells c ty fz) ∧ ∀ j v, cs[j]? = some v → c[o + j]? = some v := by
  obtain ⟨F, h, lF, _, _, k, _⟩ := H
  obtain ⟨c, ty, fz, e, a⟩ := s.out k
  exact ⟨c, ty, fz, lF _ _ e, a⟩
theorem setCell_heap (w : World) (b o : Nat) (v : Value) (cs : List Value) (ty : TypeId) (h : w.heap[b]? = some (.cells cs.toArray ty (0, 0))) :
    (w.setCell ⟨b, o, none⟩ v).heap[b]? = some (.cells (cs.set o v).toArray ty (0, 0)) := by
  simp [World.setCell, Array.getElem?_modify, h]
theorem setCell_far (w : World) (b o c : Nat) (v : Value) (h : c ≠ b) : (w.setCell ⟨b, o, none⟩ v).heap[c]? = w.heap[c]? := by
  simp [World.setCell, Array.getElem?_modify, Ne.symm h]
theorem St.setCell_head {τ : Meta} {L : List Itm} {b : Nat} {cs : List Value} {ty : TypeId} {w : World} (H : St τ (Cells b cs ty :: L) w) (o : Nat) (v : Value) :
    St τ (Cells b (cs.set o v) ty :: L) (w.setCell ⟨b, o, none⟩ v) := by
  refine H.update rfl ?_
  intro F h i l
  have i' : h = PH.one b _ := i
  subst i'
  refine ⟨PH.one b _, rfl, ?_, ?_⟩
  · intro c x hc
    by_cases e : c = b
    · subst e; rw [PH.one_at] at hc; cases hc
      exact setCell_heap w c o v cs ty (l _ _ (PH.one_at _ _))
    · simp [PH.one, e] at hc
  · intro c hc _
    have e : c ≠ b := fun e => by subst e; rw [PH.one_at] at hc; cases hc
    exact ⟨setCell_far w b o c v e, by simp [PH.one, e]⟩
theorem St.setCell {τ : Meta} {L L' : List Itm} {b o : Nat} {v : Value} {cs : List Value} {ty : TypeId} {w : World} [s : UpdC L b cs ty (cs.set o v) L'] (H : St τ L w) :
    St τ L' (w.setCell ⟨b, o, none⟩ v) := by
  obtain ⟨F, h, a, b', c, d, e⟩ := H
  obtain ⟨L0, K, B⟩ := s.out d
  have := St.setCell_head (L := L0) ⟨F, h, a, b', c, K, e⟩ o v
  obtain ⟨F', h', a', b'', c', d', e'⟩ := this
  exact ⟨F', h', a', b'', c', B d', e'⟩
/-- A new block. -/
theorem St.push {τ : Meta} {L : List Itm} {w : World} (H : St τ L w) (cs : List Value) (ty : TypeId) :
    St τ (Cells w.heap.size cs ty :: L) { w with heap := w.heap.push (.cells cs.toArray ty (0, 0)) } := by
  refine H.fresh rfl ?_ ?_
  · intro b hb
    simp only [hp] at *
    have : b < w.heap.size := by
      rcases Nat.lt_or_ge b w.heap.size with h | h
      · exact h
      · simp [Array.getElem?_eq_none h] at hb
    rw [Array.getElem?_push, if_neg (by omega)]
  · intro F _
    refine ⟨PH.one w.heap.size _, rfl, ?_, ?_⟩
    · intro c x hc
      by_cases e : c = w.heap.size
      · subst e; rw [PH.one_at] at hc; cases hc; simp [hp]
      · simp [PH.one, e] at hc
    · intro c hc
      have e : c = w.heap.size := by
        by_cases e : c = w.heap.size
        · exact e
        · simp [PH.one, e] at hc
      subst e; simp [hp]
end Go.Proofs.YtbkojmcppeflbaaDoor
