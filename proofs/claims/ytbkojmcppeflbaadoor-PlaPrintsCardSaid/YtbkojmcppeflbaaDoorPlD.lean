import Derived.Test.YtbkojmcppeflbaaDoorPlC
namespace Go.Proofs.YtbkojmcppeflbaaDoor
open Go
set_option linter.unusedVariables false
set_option linter.unusedSimpArgs false
set_option linter.unusedSectionVars false
set_option linter.unnecessarySimpa false
set_option maxRecDepth 100000
set_option linter.unusedVariables false
set_option linter.unusedSimpArgs false
/-! Plain law, fourth part: Print. -/
theorem fold_of {α β : Type} {L : Nat → (β × Int) → Option β} {xs : List α} {f : β → α → β} {I : Nat → β → Prop}
    (hs : ∀ j (i : Nat) x s, xs[i]? = some x → I i s → L (j + 1) (s, (i : Int)) = L j (f s x, ((i + 1 : Nat) : Int)) ∧ I (i + 1) (f s x))
    (he : ∀ j s, L (j + 1) (s, (xs.length : Int)) = some s) : ∀ (d i j : Nat) (s : β), i + d = xs.length → d < j → I i s → L j (s, (i : Int)) = some ((xs.drop i).foldl f s)
  | 0, i, j + 1, s, h, _, _ => by
    have : i = xs.length := by omega
    subst this
    rw [he, List.drop_length, List.foldl_nil]
  | d + 1, i, j + 1, s, h, hj, hI => by
    have hi : i < xs.length := by omega
    obtain ⟨a, b⟩ := hs j i xs[i] s (List.getElem?_eq_getElem hi) hI
    rw [a, List.drop_eq_getElem_cons hi, List.foldl_cons]
    exact fold_of hs he d (i + 1) j _ (by omega) (by omega) b
theorem fold_start {α β : Type} {L : Nat → (β × Int) → Option β} {xs : List α} {f : β → α → β} {I : Nat → β → Prop} {K : Nat} {s : β} (hK : xs.length < K) (h0 : I 0 s)
    (hs : ∀ j (i : Nat) x s, xs[i]? = some x → I i s → L (j + 1) (s, (i : Int)) = L j (f s x, ((i + 1 : Nat) : Int)) ∧ I (i + 1) (f s x))
    (he : ∀ j s, L (j + 1) (s, (xs.length : Int)) = some s) : L K (s, 0) = some (xs.foldl f s) := by
  have := fold_of hs he xs.length 0 K s (by omega) hK h0
  simpa using this
theorem b2s_append (xs ys : List Int) : b2s (xs ++ ys) = b2s xs ++ b2s ys := by
  apply ByteArray.ext; simp [b2s, ByteArray.data_append]
theorem b2s_size (xs : List Int) : (b2s xs).size = xs.length := by simp [b2s, ByteArray.size]
theorem fold_text {α : Type} (g : α → Int) : ∀ (xs : List α) (s : ByteArray), xs.foldl (fun s x => s ++ b2s [g x]) s = s ++ b2s (xs.map g)
  | [], s => by
    have : b2s ([] : List Int) = ByteArray.empty := by apply ByteArray.ext; simp [b2s]
    simp [this]
  | x :: xs, s => by
    rw [List.foldl_cons, fold_text g xs, List.map_cons, ByteArray.append_assoc, ← b2s_append]; rfl
theorem leT {n : Nat} (h : n ≤ 1099511627776) : decide (n ≤ 1099511627776) = true := decide_eq_true h
/-! ### a cube's text -/
def chr (m v i : Nat) : Int := if m / 2 ^ i % 2 = 0 then 45 else if v / 2 ^ i % 2 = 0 then 48 else 49
theorem bit_at {m i : Nat} (hi : i < 8) : iBit .and .u8 (iSh .shr .u8 (m : Int) (i : Int)) 1 = ((m / 2 ^ i % 2 : Nat) : Int) := by
  have e : iSh .shr .u8 (m : Int) (i : Int) = ((m / 2 ^ i : Nat) : Int) := by
    show (m : Int).fdiv (2 ^ (min (i : Int).toNat 8)) = _
    rw [Int.toNat_natCast, Nat.min_eq_left (by omega), Int.fdiv_eq_ediv_of_nonneg _ (by exact_mod_cast Nat.zero_le _)]
    push_cast; rfl
  rw [e]
  show IntKind.wrap .u8 (((BitVec.ofInt 8 ((m / 2 ^ i : Nat) : Int) &&& BitVec.ofInt 8 ((1 : Nat) : Int)).toNat : Nat) : Int) = _
  rw [BitVec.ofInt_natCast, BitVec.ofInt_natCast, BitVec.toNat_and, BitVec.toNat_ofNat, BitVec.toNat_ofNat, IntKind.wrap_u8]
  have : m / 2 ^ i % 2 ^ 8 &&& 1 % 2 ^ 8 = m / 2 ^ i % 2 := by
    rw [show 1 % 2 ^ 8 = 1 by rfl, Nat.and_one_is_mod]; omega
  rw [this]; omega
def chrs (m v n : Nat) : List Int := (List.range n).map (chr m v)
theorem ct_loop {K m v n : Nat} (hn : n ≤ 8) : ∀ (d i j : Nat) (A : List Int), i + d = n → A.length = i → d < j →
    cube_Text.l1 K (n : Int) (m : Int) (v : Int) j ((i : Int), A ++ List.replicate d 0) = some (A ++ ((List.range n).drop i).map (chr m v))
  | 0, i, j + 1, A, h, hA, _ => by
    have : i = n := by omega
    subst this
    rw [cube_Text.l1, Int.toNat_natCast, List.length_replicate, geN, List.drop_of_length_le (by simp)]
    simp
  | d + 1, i, j + 1, A, h, hA, hj => by
    have hi : i < n := by omega
    rw [cube_Text.l1, Int.toNat_natCast, List.length_replicate, ltN hi, cond_true]
    have e0 : decide (0 ≤ (i : Int)) = true := decide_eq_true (by omega)
    have ed : (List.range n).drop i = i :: (List.range n).drop (i + 1) := by
      rw [List.drop_eq_getElem_cons (by simpa using hi)]; simp
    have eset : ∀ c : Int, (A ++ List.replicate (d + 1) 0).set (i : Int).toNat c = (A ++ [c]) ++ List.replicate d 0 := by
      intro c
      rw [Int.toNat_natCast, List.replicate_succ, List.set_append_right _ _ (by omega)]
      simp [hA]
    have eidx : idx (A ++ List.replicate (d + 1) 0) (i : Int) = some 0 := by
      rw [idxN, List.getElem?_append_right (by omega)]; simp [hA]
    have ih := fun c => ct_loop (K := K) (m := m) (v := v) hn d (i + 1) j (A ++ [c]) (by omega) (by simp [hA]) (by omega)
    simp only [e0, cond_true, bit_at (show i < 8 by omega), eidx, Option.bind_some, eset, wrapN (show i < 9223372036854775807 by omega), ih, ed, List.map_cons]
    unfold chr
    by_cases c : m / 2 ^ i % 2 = 0
    · have : (((m / 2 ^ i % 2 : Nat) : Int) == 0) = true := by rw [c]; rfl
      simp [this, c]
    · have : (((m / 2 ^ i % 2 : Nat) : Int) == 0) = false := by rw [show m / 2 ^ i % 2 = 1 by omega]; rfl
      by_cases c' : v / 2 ^ i % 2 = 0
      · have : (((v / 2 ^ i % 2 : Nat) : Int) == 0) = true := by rw [c']; rfl
        simp only [*, cond_true, cond_false, if_true, if_false]; simp
      · have : (((v / 2 ^ i % 2 : Nat) : Int) == 0) = false := by rw [show v / 2 ^ i % 2 = 1 by omega]; rfl
        simp only [*, cond_true, cond_false, if_true, if_false]; simp
theorem cube_text {K m v : Nat} {n : Int} (hK : 20 < K) (hm : m < 256) (hn : n.toNat = n) (hr : right m v n.toNat = true) : cube_Text.f K (m : Int) (v : Int) n = some (b2s (chrs m v n.toNat), 0) := by
  unfold cube_Text.f
  rw [cube_right hm hn, hr]
  generalize hk : n.toNat = k at hn hr; subst hn
  have h8 : k ≤ 8 := (of_decide_eq_true hr).1
  have e : decide (0 ≤ (k : Int) ∧ (k : Int) ≤ 1099511627776) = true := decide_eq_true (by omega)
  have := ct_loop (K := K) (m := m) (v := v) h8 k 0 K [] (by omega) rfl (by omega)
  simp only [List.nil_append, List.drop_zero] at this
  simp only [Option.bind_some, Bool.not_true, cond_false, e, cond_true, Int.toNat_natCast]
  erw [this]; rfl
theorem ref_text {K m v : Nat} {n : Int} (hK : 20 < K) (hm : m < 256) (hv : v < 256) (hn : n.toNat = n) (h8 : n.toNat ≤ 8) : ref02_Text.f K (m : Int) (v : Int) n = some (b2s (chrs m v n.toNat)) := by
  unfold ref02_Text.f
  rw [lits_ok hK hm hv]
  generalize hk : n.toNat = k at hn h8; subst hn
  have := fold_start (L := ref02_Text.l1 K (k : Int) (lits m v)) (xs := List.range k) (f := fun s i => s ++ b2s [chr m v i]) (I := fun i s => s.size = i) (K := K) (s := (⟨#[]⟩ : ByteArray)) (by simp; omega) rfl (fun j i x s hx hI => by
    have hi : i < k := by simpa using (List.getElem?_eq_some_iff.1 hx).1
    have : x = i := by rw [List.getElem?_range hi] at hx; exact (Option.some.inj hx).symm
    subst this
    refine ⟨?_, by simp [ByteArray.size_append, b2s_size, hI]⟩
    rw [ref02_Text.l1, ltN hi, cond_true, idxN, lits_at (by omega), Option.bind_some, wrapN (by omega)]
    have e : idx [(⟨#[48]⟩ : ByteArray), (⟨#[49]⟩ : ByteArray), (⟨#[45]⟩ : ByteArray)] (lit (m / 2 ^ x) (v / 2 ^ x)) = some (b2s [chr m v x]) := by
      unfold lit chr
      by_cases c : m / 2 ^ x % 2 = 0
      · rw [if_pos c, if_pos c]; rfl
      · rw [if_neg c, if_neg c]
        by_cases c' : v / 2 ^ x % 2 = 0
        · rw [c']; rfl
        · rw [show v / 2 ^ x % 2 = 1 by omega]; rfl
    rw [e, Option.bind_some, leT (by rw [b2s_size]; simp only [List.length_cons, List.length_nil]; omega), cond_true]) (fun j s => by rw [ref02_Text.l1, List.length_range, geN]; rfl)
  simp only [Option.bind_some]
  rw [this, fold_text]
  simp only [Option.bind_some]
  congr 1
/-! ### a row, a cover -/
def och (v : Int) : Int := if v = 0 then 48 else if v = 1 then 49 else 45
def nl : ByteArray := ⟨#[10]⟩
def blank : ByteArray := ⟨#[32]⟩
def lineT (a1 : Int) (y : Rw) : ByteArray := (b2s (chrs y.1.toNat y.2.1.toNat a1.toNat) ++ blank) ++ b2s (y.2.2.map och)
theorem out_cases {v : Int} (h : inOut v = true) : v = 0 ∨ v = 1 ∨ v = 2 := by have := of_decide_eq_true h; omega
theorem pp_l2 {K : Nat} {y : Rw} {s : ByteArray} (hK : 200 < K) (hl : y.2.2.length ≤ 20) (ho : y.2.2.all inOut = true) (hs : s.size ≤ 100000) :
    pla_Print.l2 K y K (s, 0) = some (s ++ b2s (y.2.2.map och)) := by
  rw [← fold_text och]
  refine fold_start (I := fun i t => t.size = s.size + i) (by omega) rfl (fun j i x t hx hI => ?_) (fun j t => by rw [pla_Print.l2, geN]; rfl)
  have hi := (List.getElem?_eq_some_iff.1 hx).1
  refine ⟨?_, by rw [ByteArray.size_append, b2s_size, hI]; simp only [List.length_cons, List.length_nil]; omega⟩
  rw [pla_Print.l2, ltN hi, cond_true, idxN, hx, Option.bind_some, wrapN (by omega)]
  have hx3 := out_cases (List.all_eq_true.1 ho x (List.mem_of_getElem? hx))
  have e : (⟨#[48, 49, 45]⟩ : ByteArray).extract x.toNat (IntKind.wrap .i64 (x + 1)).toNat = b2s [och x] := by rcases hx3 with rfl | rfl | rfl <;> rfl
  have g : decide (0 ≤ x ∧ 0 ≤ IntKind.wrap .i64 (x + 1) ∧ x.toNat ≤ (IntKind.wrap .i64 (x + 1)).toNat ∧ (IntKind.wrap .i64 (x + 1)).toNat ≤ (⟨#[48, 49, 45]⟩ : ByteArray).size) = true := by rcases hx3 with rfl | rfl | rfl <;> rfl
  rw [g, cond_true, e, leT (by rw [b2s_size, hI]; simp only [List.length_cons, List.length_nil]; omega), cond_true]
theorem rl_l1 {K : Nat} {os : List Int} {s : ByteArray} (hK : 200 < K) (hl : os.length ≤ 20) (ho : os.all inOut = true) (hs : s.size ≤ 100000) :
    ref03_Line.l1 K os K (s, 0) = some (s ++ b2s (os.map och)) := by
  rw [← fold_text och]
  refine fold_start (I := fun i t => t.size = s.size + i) (by omega) rfl (fun j i x t hx hI => ?_) (fun j t => by rw [ref03_Line.l1, geN]; rfl)
  have hi := (List.getElem?_eq_some_iff.1 hx).1
  refine ⟨?_, by rw [ByteArray.size_append, b2s_size, hI]; simp only [List.length_cons, List.length_nil]; omega⟩
  rw [ref03_Line.l1, ltN hi, cond_true, idxN, hx, Option.bind_some, wrapN (by omega)]
  have hx3 := out_cases (List.all_eq_true.1 ho x (List.mem_of_getElem? hx))
  have e : idx [(⟨#[48]⟩ : ByteArray), (⟨#[49]⟩ : ByteArray), (⟨#[45]⟩ : ByteArray)] x = some (b2s [och x]) := by rcases hx3 with rfl | rfl | rfl <;> rfl
  rw [e, Option.bind_some, leT (by rw [b2s_size, hI]; simp only [List.length_cons, List.length_nil]; omega), cond_true]
theorem lineT_size {a1 : Int} {y : Rw} (h8 : a1.toNat ≤ 8) (hl : y.2.2.length ≤ 20) : (lineT a1 y).size ≤ 30 := by
  unfold lineT chrs
  rw [ByteArray.size_append, ByteArray.size_append, b2s_size, b2s_size]
  simp only [List.length_map, List.length_range]
  have : blank.size = 1 := rfl
  omega
theorem good_row {a1 a2 : Int} {y : Rw} (h : goodRow a1 a2 y = true) : right y.1.toNat y.2.1.toNat a1.toNat = true ∧ (y.2.2.length : Int) = a2 ∧ y.2.2.all inOut = true := by
  unfold goodRow at h
  simp only [Bool.and_eq_true, decide_eq_true_eq] at h
  exact ⟨h.1.1, h.1.2, h.2⟩
theorem right_8 {m v n : Nat} (h : right m v n = true) : n ≤ 8 := (of_decide_eq_true h).1
def rowsT (a1 : Int) (s : ByteArray) (a3 : List Rw) : ByteArray := a3.foldl (fun s y => (s ++ lineT a1 y) ++ nl) s
theorem pp_l1 {K : Nat} {a1 a2 : Int} {a3 : List Rw} {s : ByteArray} (hn : a1.toNat = a1) (hK : 200 < K) (hl : a3.length ≤ 100) (hr : ∀ y ∈ a3, okRow y ∧ y.2.2.length ≤ 20) (hg : a3.all (goodRow a1 a2) = true) (hs : s.size ≤ 1000) :
    pla_Print.l1 K a3 a1 K (s, 0) = some (rowsT a1 s a3) := by
  refine fold_start (I := fun i t => t.size ≤ 1000 + 40 * i) (by omega) (by omega) (fun j i x t hx hI => ?_) (fun j t => by rw [pla_Print.l1, geN]; rfl)
  have hi := (List.getElem?_eq_some_iff.1 hx).1
  obtain ⟨⟨m, v, hm, hv, e1, e2⟩, hlen⟩ := hr x (List.mem_of_getElem? hx)
  obtain ⟨g1, g2, g3⟩ := good_row (List.all_eq_true.1 hg x (List.mem_of_getElem? hx))
  have h8 := right_8 g1
  have hT := lineT_size h8 hlen
  have hN : nl.size = 1 := rfl
  have hI' : t.size ≤ 1000 + 40 * i := hI
  refine ⟨?_, by show ((t ++ lineT a1 x) ++ nl).size ≤ _; rw [ByteArray.size_append, ByteArray.size_append]; omega⟩
  rw [pla_Print.l1, ltN hi, cond_true, idxN, hx, Option.bind_some, wrapN (by omega), e1, e2, cube_text (by omega) hm hn (by rw [e1, e2] at g1; exact g1), Option.bind_some]
  have hc : b2s (chrs m v a1.toNat) = b2s (chrs x.1.toNat x.2.1.toNat a1.toNat) := by rw [e1, e2]; rfl
  have hcs : (b2s (chrs m v a1.toNat)).size ≤ 8 := by rw [b2s_size]; simp only [chrs, List.length_map, List.length_range]; omega
  have hB : (⟨#[32]⟩ : ByteArray).size = 1 := rfl
  have hN' : (⟨#[10]⟩ : ByteArray).size = 1 := rfl
  have hw : ((t ++ (b2s (chrs m v a1.toNat) ++ (⟨#[32]⟩ : ByteArray))) ++ b2s (x.2.2.map och)) = t ++ lineT a1 x := by rw [ByteArray.append_assoc, hc]; rfl
  rw [leT (by simp only []; omega), cond_true, leT (by rw [ByteArray.size_append]; simp only []; omega), cond_true, pp_l2 hK hlen g3 (by simp only [ByteArray.size_append]; omega), Option.bind_some]
  simp only []
  rw [hw, leT (by rw [ByteArray.size_append]; omega), cond_true]
  rfl
theorem rp_l1 {K : Nat} {a1 a2 : Int} {a3 : List Rw} {s : ByteArray} (hn : a1.toNat = a1) (hK : 200 < K) (hl : a3.length ≤ 100) (hr : ∀ y ∈ a3, okRow y ∧ y.2.2.length ≤ 20) (hg : a3.all (goodRow a1 a2) = true) (hs : s.size ≤ 1000) :
    ref03_Print.l1 K a3 a1 K (s, 0) = some (rowsT a1 s a3) := by
  refine fold_start (I := fun i t => t.size ≤ 1000 + 40 * i) (by omega) (by omega) (fun j i x t hx hI => ?_) (fun j t => by rw [ref03_Print.l1, geN]; rfl)
  have hi := (List.getElem?_eq_some_iff.1 hx).1
  obtain ⟨⟨m, v, hm, hv, e1, e2⟩, hlen⟩ := hr x (List.mem_of_getElem? hx)
  obtain ⟨g1, g2, g3⟩ := good_row (List.all_eq_true.1 hg x (List.mem_of_getElem? hx))
  have h8 := right_8 g1
  have hT := lineT_size h8 hlen
  have hN : nl.size = 1 := rfl
  have hI' : t.size ≤ 1000 + 40 * i := hI
  refine ⟨?_, by show ((t ++ lineT a1 x) ++ nl).size ≤ _; rw [ByteArray.size_append, ByteArray.size_append]; omega⟩
  have hL : ref03_Line.f K x.1 x.2.1 x.2.2 a1 = some (lineT a1 x) := by
    unfold ref03_Line.f
    rw [e1, e2, ref_text (by omega) hm hv hn h8, Option.bind_some]
    have hc : b2s (chrs m v a1.toNat) = b2s (chrs x.1.toNat x.2.1.toNat a1.toNat) := by rw [e1, e2]; rfl
    have hcs : (b2s (chrs m v a1.toNat)).size ≤ 8 := by rw [b2s_size]; simp only [chrs, List.length_map, List.length_range]; omega
    have hB : (⟨#[32]⟩ : ByteArray).size = 1 := rfl
    rw [leT (by omega), cond_true, rl_l1 hK hlen g3 (by rw [ByteArray.size_append]; omega), hc]
    rfl
  have hN' : (⟨#[10]⟩ : ByteArray).size = 1 := rfl
  rw [ref03_Print.l1, ltN hi, cond_true, idxN, hx, Option.bind_some, wrapN (by omega), hL, Option.bind_some, leT (by simp only []; omega), cond_true, leT (by simp only [ByteArray.size_append]; omega), cond_true]
  rfl
/-! ### numbers -/
def num (n : Int) : ByteArray := ⟨(Lib.itoa n).toArray⟩
theorem itoa_ok {K : Nat} {n : Int} (h0 : 0 ≤ n) (h1 : n < 100) : strconv_Itoa.f K n = some (num n) := by
  unfold strconv_Itoa.f
  rw [decide_eq_true (by omega), cond_true]; rfl
theorem digits_ok {K : Nat} {n : Int} (h0 : 0 ≤ n) (h1 : n < 100) : ref03_Digits.f K n = some (num n) := by
  obtain ⟨k, rfl⟩ : ∃ k : Nat, n = k := ⟨n.toNat, by omega⟩
  unfold ref03_Digits.f num Lib.itoa
  rw [if_neg (by omega), Int.toNat_natCast]
  have er : iDiv .rem .i64 (k : Int) 10 = ((k % 10 : Nat) : Int) := by
    show (k : Int).tmod 10 = _
    rw [Int.tmod_eq_emod_of_nonneg (by omega)]; omega
  have eq : iDiv .quo .i64 (k : Int) 10 = ((k / 10 : Nat) : Int) := by
    show IntKind.wrap .i64 ((k : Int).tdiv 10) = _
    rw [IntKind.wrap_i64, Int.tdiv_eq_ediv_of_nonneg (by omega)]; omega
  have w : ∀ d : Nat, d < 10 → b2s [IntKind.wrap .u8 (IntKind.wrap .i64 (48 + (d : Int)))] = ⟨#[UInt8.ofNat (48 + d)]⟩ := by
    intro d hd
    rw [show IntKind.wrap .u8 (IntKind.wrap .i64 (48 + (d : Int))) = ((48 + d : Nat) : Int) by rw [IntKind.wrap_u8, IntKind.wrap_i64]; omega]
    rfl
  rw [er, eq, w _ (by omega), w _ (by omega)]
  by_cases h : k < 10
  · rw [decide_eq_true (by omega), cond_true, Lib.decDigits, dif_pos h, Nat.mod_eq_of_lt h]
  · rw [decide_eq_false (by omega), cond_false, leT (by show 1 + 1 ≤ _; omega), cond_true, Lib.decDigits, dif_neg h, Lib.decDigits, dif_pos (by omega)]
    rfl
theorem num_size {n : Int} (h0 : 0 ≤ n) (h1 : n < 100) : (num n).size ≤ 2 := by
  obtain ⟨k, rfl⟩ : ∃ k : Nat, n = k := ⟨n.toNat, by omega⟩
  unfold num Lib.itoa
  rw [if_neg (by omega), Int.toNat_natCast]
  by_cases h : k < 10
  · rw [Lib.decDigits, dif_pos h]; exact (by decide : 1 ≤ 2)
  · rw [Lib.decDigits, dif_neg h, Lib.decDigits, dif_pos (by omega)]; exact (by decide : 2 ≤ 2)
def kinds : List ByteArray := [(⟨#[102]⟩ : ByteArray), (⟨#[102, 100]⟩ : ByteArray), (⟨#[102, 114]⟩ : ByteArray), (⟨#[102, 100, 114]⟩ : ByteArray)]
theorem kind_at {a0 : Int} (h0 : 0 ≤ a0) (h1 : a0 ≤ 3) : ∃ k, idx kinds a0 = some k ∧ k.size ≤ 3 := by
  rcases (show a0 = 0 ∨ a0 = 1 ∨ a0 = 2 ∨ a0 = 3 by omega) with rfl | rfl | rfl | rfl
  · exact ⟨_, rfl, by decide⟩
  · exact ⟨_, rfl, by decide⟩
  · exact ⟨_, rfl, by decide⟩
  · exact ⟨_, rfl, by decide⟩
theorem rowsT_size {a1 a2 : Int} : ∀ {a3 : List Rw} {s : ByteArray}, a1.toNat ≤ 8 → (∀ y ∈ a3, y.2.2.length ≤ 20) → (rowsT a1 s a3).size ≤ s.size + 31 * a3.length
  | [], s, _, _ => by simp [rowsT]
  | y :: ys, s, h8, hr => by
    have := lineT_size h8 (hr y (List.mem_cons_self ..))
    have ih := rowsT_size (a1 := a1) (a2 := a2) (a3 := ys) (s := (s ++ lineT a1 y) ++ nl) h8 fun z hz => hr z (List.mem_cons_of_mem _ hz)
    have e : rowsT a1 s (y :: ys) = rowsT a1 ((s ++ lineT a1 y) ++ nl) ys := rfl
    have hN : nl.size = 1 := rfl
    rw [e]
    rw [ByteArray.size_append, ByteArray.size_append] at ih
    simp only [List.length_cons]; omega
/-- The head of a text: numbers of inputs and outputs, the kind, the number of rows. -/
def headT (k : ByteArray) (a1 a2 : Int) (n : Nat) : ByteArray := ((((((((⟨#[46, 105, 32]⟩ : ByteArray) ++ num a1) ++ (⟨#[10, 46, 111, 32]⟩ : ByteArray)) ++ num a2) ++ (⟨#[10, 46, 116, 121, 112, 101, 32]⟩ : ByteArray)) ++ k) ++ (⟨#[10, 46, 112, 32]⟩ : ByteArray)) ++ num n) ++ (⟨#[10]⟩ : ByteArray)
def endT : ByteArray := ⟨#[46, 101, 10]⟩
def printT (a0 a1 a2 : Int) (a3 : List Rw) : ByteArray := rowsT a1 (headT ((idx kinds a0).getD ⟨#[]⟩) a1 a2 a3.length) a3 ++ endT
theorem print_ok {K : Nat} {a0 a1 a2 : Int} {a3 : List Rw} (hK : 200 < K) (hl : a3.length ≤ 100) (hr : ∀ y ∈ a3, okRow y ∧ y.2.2.length ≤ 20) (hg : good a0 a1 a2 a3 = true) :
    pla_Print.f K a0 a1 a2 a3 = some (printT a0 a1 a2 a3, 0) ∧ ref03_Print.f K a0 a1 a2 a3 = some (printT a0 a1 a2 a3) := by
  have hg' := hg
  unfold good at hg'
  simp only [Bool.and_eq_true, decide_eq_true_eq] at hg'
  obtain ⟨⟨h1, h2, h3, h4, h5, h6, h7⟩, hrows⟩ := hg'
  obtain ⟨k, hk, hks⟩ := kind_at h1 h2
  have n1 := num_size h3 (by omega)
  have n2 := num_size (n := a2) (by omega) (by omega)
  have n3 := num_size (n := (a3.length : Int)) (by omega) (by omega)
  have z1 : (⟨#[46, 105, 32]⟩ : ByteArray).size = 3 := rfl
  have z2 : (⟨#[10, 46, 111, 32]⟩ : ByteArray).size = 4 := rfl
  have z3 : (⟨#[10, 46, 116, 121, 112, 101, 32]⟩ : ByteArray).size = 7 := rfl
  have z4 : (⟨#[10, 46, 112, 32]⟩ : ByteArray).size = 4 := rfl
  have z5 : (⟨#[10]⟩ : ByteArray).size = 1 := rfl
  have z6 : (⟨#[46, 101, 10]⟩ : ByteArray).size = 3 := rfl
  have hh : (headT k a1 a2 a3.length).size ≤ 100 := by unfold headT; simp only [ByteArray.size_append]; omega
  have hrs := rowsT_size (a1 := a1) (a2 := a2) (a3 := a3) (s := headT k a1 a2 a3.length) (by omega) fun y hy => (hr y hy).2
  have e1 := pp_l1 (K := K) (s := headT k a1 a2 a3.length) (by omega) hK hl hr hrows (by omega)
  have e2 := rp_l1 (K := K) (s := headT k a1 a2 a3.length) (by omega) hK hl hr hrows (by omega)
  unfold headT at e1 e2 hrs hh
  constructor
  · unfold pla_Print.f pla_kinds.f printT headT
    rw [plr_ok hK hl hr, hg, Option.bind_some, Bool.not_true, cond_false, itoa_ok h3 (by omega), Option.bind_some, leT (by omega), cond_true, leT (by simp only [ByteArray.size_append]; omega), cond_true,
      itoa_ok (n := a2) (by omega) (by omega), Option.bind_some, leT (by simp only [ByteArray.size_append]; omega), cond_true, leT (by simp only [ByteArray.size_append]; omega), cond_true, Option.bind_some]
    unfold kinds at hk ⊢
    rw [hk, Option.bind_some, leT (by simp only [ByteArray.size_append]; omega), cond_true, leT (by simp only [ByteArray.size_append]; omega), cond_true,
      itoa_ok (n := (a3.length : Int)) (by omega) (by omega), Option.bind_some, leT (by simp only [ByteArray.size_append]; omega), cond_true, leT (by simp only [ByteArray.size_append]; omega), cond_true,
      e1, Option.bind_some, leT (by omega), cond_true]
    rfl
  · unfold ref03_Print.f ref03_Kinds.f printT headT
    rw [digits_ok h3 (by omega), Option.bind_some, leT (by omega), cond_true, leT (by simp only [ByteArray.size_append]; omega), cond_true,
      digits_ok (n := a2) (by omega) (by omega), Option.bind_some, leT (by simp only [ByteArray.size_append]; omega), cond_true, leT (by simp only [ByteArray.size_append]; omega), cond_true, Option.bind_some]
    unfold kinds at hk ⊢
    rw [hk, Option.bind_some, leT (by simp only [ByteArray.size_append]; omega), cond_true, leT (by simp only [ByteArray.size_append]; omega), cond_true,
      digits_ok (n := (a3.length : Int)) (by omega) (by omega), Option.bind_some, leT (by simp only [ByteArray.size_append]; omega), cond_true, leT (by simp only [ByteArray.size_append]; omega), cond_true,
      e2, Option.bind_some, leT (by omega), cond_true]
    rfl
end Go.Proofs.YtbkojmcppeflbaaDoor
