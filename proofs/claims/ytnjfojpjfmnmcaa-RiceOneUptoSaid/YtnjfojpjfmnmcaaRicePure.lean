import Derived.Test.YtnjfojpjfmnmcaaRiceRef
import Derived.Test.YtnjfojpjfmnmcaaBitsPure2
/-! The reckoning of package rice and of its reference, in plain words: what the printed functions come to. -/
namespace Go.Proofs.Ytnjfojpjfmnmcaa.Rice
open Go.RowKit Go.Proofs.Ytnjfojpjfmnmcaa.BP Go.Proofs.Ytnjfojpjfmnmcaa.PRiceStates Go.Proofs.YtnjfojpjfmnmcaaW.PrintWords Go.Proofs.YtnjfojpjfmnmcaaW.PrintLast Go.Proofs.YtnjfojpjfmnmcaaW.PrintMore
set_option linter.unusedVariables false
set_option linter.unusedSimpArgs false

def MayP (n s : Int) : Prop := 1 ≤ n ∧ n < 32 ∧ 0 ≤ s ∧ s ≤ 4194304
instance (n s : Int) : Decidable (MayP n s) := by unfold MayP; infer_instance
def FitsP (n s depth u : Int) : Prop := MayP n s ∧ 1 ≤ depth ∧ depth ≤ 16 ∧ 0 ≤ u ∧ u / 2 ^ depth.toNat = 0
instance (n s depth u : Int) : Decidable (FitsP n s depth u) := by unfold FitsP; infer_instance
/-- The first k, from a given one on, at which n * 2^k reaches s; the depth at the most. -/
def pk (n s : Int) : Nat → Nat → Nat
  | 0, k => k
  | f + 1, k => if n * 2 ^ k < s then pk n s f (k + 1) else k
def paramK (n s : Int) (depth : Nat) : Nat := pk n s depth 0
theorem pk_le (n s : Int) : ∀ f k, k ≤ pk n s f k ∧ pk n s f k ≤ k + f
  | 0, k => by simp [pk]
  | f + 1, k => by
    simp only [pk]
    split
    · have := pk_le n s f (k + 1); omega
    · omega
theorem paramK_le (n s : Int) (d : Nat) : paramK n s d ≤ d := by have := pk_le n s d 0; unfold paramK; omega
/-- A symbol's bits. -/
def symL (k d : Nat) (u : Int) : List Int :=
  if 20 ≤ u / 2 ^ k then List.replicate 20 1 ++ numBits u d else List.replicate (u / 2 ^ k).toNat 1 ++ [0] ++ numBits (u % 2 ^ k) k
def codeL (n s d u : Int) : List Int × Int := if FitsP n s d u then (symL (paramK n s d.toNat) d.toNat u, 0) else ([], 1)
def paramL (n s d : Int) : Int × Int := if FitsP n s d 0 then ((paramK n s d.toNat : Int), 0) else (0, 1)
def nextL (n s u : Int) : Int × Int × Int :=
  if FitsP n s 16 u then (if n = 31 then (16, (if s + u > 4194304 then 4194304 else s + u) / 2, 0) else (n + 1, (if s + u > 4194304 then 4194304 else s + u), 0)) else (0, 0, 1)
def startL (d : Int) : Int × Int := if d < 1 ∨ 16 < d then (0, 0) else (1, 2 ^ (d / 2).toNat)

theorem pow16 {k : Nat} (h : k ≤ 16) : (1 : Int) ≤ 2 ^ k ∧ (2 : Int) ^ k ≤ 65536 := by
  have h2 := Nat.pow_le_pow_right (n := 2) (by decide) h
  have h1 := Nat.one_le_two_pow (n := k)
  constructor
  · exact_mod_cast h1
  · have : ((2 ^ k : Nat) : Int) ≤ ((65536 : Nat) : Int) := Int.ofNat_le.mpr h2
    simpa using this
theorem w64 {x : Int} (h0 : -9223372036854775808 ≤ x) (h1 : x < 9223372036854775808) : wrap64 x = x := by unfold wrap64; omega
theorem div0 {u : Int} {k : Nat} (h0 : 0 ≤ u) : u / 2 ^ k = 0 ↔ u < 2 ^ k := by
  have hp : (0 : Int) < 2 ^ k := Int.pow_pos (by decide)
  constructor
  · intro h
    have := Int.emod_add_mul_ediv u (2 ^ k)
    have := Int.emod_lt_of_pos u hp
    rw [h] at *
    omega
  · intro h; exact Int.ediv_eq_zero_of_lt h0 h

theorem may_eq (n s : Int) : rice_May.f n s = some (decide (MayP n s)) := by
  unfold rice_May.f MayP
  by_cases h0 : 1 ≤ n <;> by_cases h1 : n < 32 <;> by_cases h2 : 0 ≤ s <;> simp [h0, h1, h2]
theorem refmay_eq (n s : Int) : damaskref25_May.f n s = some (decide (MayP n s)) := by
  unfold damaskref25_May.f MayP
  by_cases h0 : 1 ≤ n <;> by_cases h1 : n < 32 <;> by_cases h2 : 0 ≤ s <;> simp [h0, h1, h2, show n > 0 ↔ 1 ≤ n by omega]
theorem fits_eq (n s d u : Int) : rice_fits.f n s d u = some (decide (FitsP n s d u)) := by
  unfold rice_fits.f FitsP
  rw [may_eq]
  simp only [Option.bind_some]
  by_cases h0 : MayP n s <;> simp only [h0, decide_true, decide_false, if_true, true_and, false_and, Bool.false_eq_true, if_false]
  by_cases h1 : 1 ≤ d <;> simp [h1]
  by_cases h2 : d ≤ 16 <;> simp [h2]
  by_cases h3 : 0 ≤ u <;> simp [h3]
  refine ⟨by omega, ?_⟩
  rw [shr, show min d.toNat IntKind.i64.bits = d.toNat from Nat.min_eq_left (show d.toNat ≤ 64 by omega)]
  rfl
theorem param_l0 (n s : Int) (hm : MayP n s) : ∀ (f k : Nat), k + f ≤ 16 → rice_Param.l0 (f + 1) ((k + f : Nat) : Int) k n s = some ((pk n s f k : Int), 0)
  | 0, k, h => by simp [rice_Param.l0, pk]
  | f + 1, k, h => by
    have hp := pow16 (k := k) (by omega)
    have hm' := hm
    unfold MayP at hm'
    have hmul : n * 2 ^ k ≤ 32 * 65536 := by
      calc n * 2 ^ k ≤ 32 * 2 ^ k := Int.mul_le_mul_of_nonneg_right (by omega) (by omega)
        _ ≤ 32 * 65536 := Int.mul_le_mul_of_nonneg_left (by omega) (by omega)
    have hmul0 : 0 ≤ n * 2 ^ k := Int.mul_nonneg (by omega) (by omega)
    have hs : shl .i64 n (k : Int) = n * 2 ^ k := by
      unfold shl
      rw [show min ((k : Int)).toNat IntKind.i64.bits = k from Nat.min_eq_left (show k ≤ 64 by omega)]
      exact (i64_w _).trans (w64 (x := n * 2 ^ k) (by omega) (by omega))
    unfold rice_Param.l0
    rw [if_pos (by omega), if_pos (by omega), hs]
    simp only [pk]
    split
    · have := param_l0 n s hm f (k + 1) (by omega)
      rw [w64 (by omega) (by omega)]
      rw [show ((k + (f + 1) : Nat) : Int) = ((k + 1 + f : Nat) : Int) by omega, show (k : Int) + 1 = ((k + 1 : Nat) : Int) by omega]
      exact this
    · rfl
theorem fits_zero {n s d u : Int} (h : FitsP n s d u) : FitsP n s d 0 := ⟨h.1, h.2.1, h.2.2.1, Int.le_refl _, by simp⟩
theorem param_eq (n s d : Int) : rice_Param.f (d.toNat + 1) n s d = some (paramL n s d) := by
  unfold rice_Param.f paramL
  rw [fits_eq]
  simp only [Option.bind_some]
  by_cases h : FitsP n s d 0
  · rw [if_pos (by simpa using h), if_pos h]
    have := param_l0 n s h.1 d.toNat 0 (by have := h.2.2.1; omega)
    have h1 := h.2.1
    simp only [Nat.zero_add] at this
    rw [Int.toNat_of_nonneg (by omega)] at this
    exact this
  · rw [if_neg (by simpa using h), if_neg h]

theorem power_l0 (k : Nat) (hk : k ≤ 60) : ∀ (f F i : Nat), f + i = k → f + 1 ≤ F → damaskref04_Power.l0 F k (2 ^ i) i = some (2 ^ k)
  | 0, F, i, h, hF => by
    obtain ⟨F, rfl⟩ : ∃ G, F = G + 1 := ⟨F - 1, by omega⟩
    unfold damaskref04_Power.l0
    rw [if_neg (by omega), show i = k by omega]
  | f + 1, F, i, h, hF => by
    obtain ⟨F, rfl⟩ : ∃ G, F = G + 1 := ⟨F - 1, by omega⟩
    unfold damaskref04_Power.l0
    rw [if_pos (by omega)]
    have hp : (2 : Nat) ^ i ≤ 2 ^ 60 := Nat.pow_le_pow_right (by decide) (by omega)
    have hp1 : (2 : Int) ^ i ≤ 1152921504606846976 := by
      have : ((2 ^ i : Nat) : Int) ≤ ((1152921504606846976 : Nat) : Int) := Int.ofNat_le.mpr hp
      simpa using this
    have hp0 : (0 : Int) < 2 ^ i := Int.pow_pos (by decide)
    rw [w64 (by omega) (by omega), w64 (by omega) (by omega), show (2 : Int) * 2 ^ i = 2 ^ (i + 1) by rw [Int.pow_succ]; omega, show (i : Int) + 1 = ((i + 1 : Nat) : Int) by omega]
    exact power_l0 k hk f F (i + 1) (by omega) (by omega)
theorem power_eq {k : Int} {F : Nat} (h0 : 0 ≤ k) (h1 : k ≤ 60) (hF : k.toNat + 1 ≤ F) : damaskref04_Power.f F k = some (2 ^ k.toNat) := by
  unfold damaskref04_Power.f
  have := power_l0 k.toNat (by omega) k.toNat F 0 (by omega) (by omega)
  simpa [Int.toNat_of_nonneg h0] using this

theorem refparam_l0 (n s : Int) (hm : MayP n s) : ∀ (f k F : Nat), k + f ≤ 16 → f + 20 ≤ F → damaskref25_Param.l0 F ((k + f : Nat) : Int) k n s = some ((pk n s f k : Int), 0)
  | 0, k, F, h, hF => by
    obtain ⟨F, rfl⟩ : ∃ G, F = G + 1 := ⟨F - 1, by omega⟩
    unfold damaskref25_Param.l0
    rw [if_neg (by omega)]
    simp [pk]
  | f + 1, k, F, h, hF => by
    obtain ⟨F, rfl⟩ : ∃ G, F = G + 1 := ⟨F - 1, by omega⟩
    have hp := pow16 (k := k) (by omega)
    have hm' := hm
    unfold MayP at hm'
    have hmul : n * 2 ^ k ≤ 32 * 65536 := by
      calc n * 2 ^ k ≤ 32 * 2 ^ k := Int.mul_le_mul_of_nonneg_right (by omega) (by omega)
        _ ≤ 32 * 65536 := Int.mul_le_mul_of_nonneg_left (by omega) (by omega)
    have hmul0 : 0 ≤ n * 2 ^ k := Int.mul_nonneg (by omega) (by omega)
    unfold damaskref25_Param.l0
    rw [if_pos (by omega), power_eq (by omega) (by omega) (by omega)]
    simp only [Option.bind_some, Int.toNat_natCast]
    rw [w64 (by omega) (by omega)]
    simp only [pk]
    by_cases hc : n * 2 ^ k < s
    · rw [if_neg (by omega), if_pos hc]
      have := refparam_l0 n s hm f (k + 1) F (by omega) (by omega)
      rw [w64 (by omega) (by omega)]
      rw [show ((k + (f + 1) : Nat) : Int) = ((k + 1 + f : Nat) : Int) by omega, show (k : Int) + 1 = ((k + 1 : Nat) : Int) by omega]
      exact this
    · rw [if_pos (by omega), if_neg hc]
theorem refparam_j0 (n s d : Int) (b : Bool) (F : Nat) (hF : 40 ≤ F) (hb : b = !decide (FitsP n s d 0)) : damaskref25_Param.j0 F d b n s = some (paramL n s d) := by
  obtain ⟨F, rfl⟩ : ∃ G, F = G + 1 := ⟨F - 1, by omega⟩
  rw [damaskref25_Param.j0]
  unfold paramL
  by_cases h : FitsP n s d 0
  · have h1 := h.2.1
    have h2 := h.2.2.1
    rw [if_neg (by rw [hb]; simpa using h), if_pos h]
    have := refparam_l0 n s h.1 d.toNat 0 F (by omega) (by omega)
    simp only [Nat.zero_add] at this
    rw [Int.toNat_of_nonneg (by omega)] at this
    exact this
  · rw [if_pos (by rw [hb]; simpa using h), if_neg h]
theorem refparam_eq (n s d : Int) {F : Nat} (hF : 40 ≤ F) : damaskref25_Param.f F n s d = some (paramL n s d) := by
  unfold damaskref25_Param.f
  rw [refmay_eq]
  simp only [Option.bind_some]
  by_cases h0 : MayP n s
  · rw [if_pos (by simpa using h0)]
    by_cases h1 : d < 1
    · rw [if_pos h1]
      exact refparam_j0 n s d _ F hF (by simp [FitsP, h0]; omega)
    · rw [if_neg h1]
      exact refparam_j0 n s d _ F hF (by
        have h1' : 1 ≤ d := by omega
        by_cases h2 : d ≤ 16
        · simp [FitsP, h0, h1', h2]
        · simp [FitsP, h0, h1', h2]; omega)
  · rw [if_neg (by simpa using h0)]
    exact refparam_j0 n s d _ F hF (by simp [FitsP, h0])

theorem ones_l0 (n m : Nat) (hm : m ≤ 64) (hn : n ≤ m) : ∀ (f i F : Nat), f + i = n → f + 1 ≤ F → damaskref02_Ones.l0 F n m (List.replicate i 1) i = some (List.replicate n 1 ++ (if n < m then [0] else []), true)
  | 0, i, F, h, hF => by
    obtain ⟨F, rfl⟩ : ∃ G, F = G + 1 := ⟨F - 1, by omega⟩
    have hi : i = n := by omega
    subst hi
    unfold damaskref02_Ones.l0
    rw [if_neg (by omega)]
    by_cases hc : i < m
    · rw [if_pos (by omega), if_pos (by simp; omega), if_pos hc]
    · rw [if_neg (by omega), if_neg hc, List.append_nil]
  | f + 1, i, F, h, hF => by
    obtain ⟨F, rfl⟩ : ∃ G, F = G + 1 := ⟨F - 1, by omega⟩
    unfold damaskref02_Ones.l0
    rw [if_pos (by omega), if_pos (by simp; omega), w64 (by omega) (by omega), show (i : Int) + 1 = ((i + 1 : Nat) : Int) by omega, show List.replicate i (1 : Int) ++ [1] = List.replicate (i + 1) 1 from List.replicate_succ'.symm]
    exact ones_l0 n m hm hn f (i + 1) F (by omega) (by omega)
theorem ones_eq {n m : Int} {F : Nat} (hn0 : 0 ≤ n) (hnm : n ≤ m) (hm : m ≤ 64) (hF : n.toNat + 2 ≤ F) : damaskref02_Ones.f F n m = some (List.replicate n.toNat 1 ++ (if n < m then [0] else []), true) := by
  obtain ⟨F, rfl⟩ : ∃ G, F = G + 1 := ⟨F - 1, by omega⟩
  unfold damaskref02_Ones.f
  rw [if_neg (by omega), if_neg (by omega), if_neg (by omega), show decide (n > m) = false from decide_eq_false (by omega)]
  rw [damaskref02_Ones.j0, if_neg (by decide)]
  have := ones_l0 n.toNat m.toNat (by omega) (by omega) n.toNat 0 F (by omega) (by omega)
  rw [show ((n.toNat : Nat) : Int) = n by omega, show ((m.toNat : Nat) : Int) = m by omega] at this
  have e : (if n.toNat < m.toNat then [(0 : Int)] else []) = (if n < m then [0] else []) := by
    by_cases hc : n < m
    · rw [if_pos hc, if_pos (by omega)]
    · rw [if_neg hc, if_neg (by omega)]
  rw [e] at this
  exact this

def partN (n : Int) (w j : Nat) : List Int := List.replicate j 0 ++ (numBits n w).drop j
theorem partN_len {n : Int} {w j : Nat} (h : j ≤ w) : (partN n w j).length = w := by simp [partN, numBits_len]; omega
theorem partN_set {n : Int} {w j : Nat} (h : j < w) : (partN n w (j + 1)).set j (n / 2 ^ (w - 1 - j) % 2) = partN n w j := by
  unfold partN
  rw [List.replicate_succ', List.append_assoc, List.set_append_right _ _ (by simp)]
  simp only [List.length_replicate, Nat.sub_self, List.singleton_append, List.set_cons_zero]
  congr 1
  have hl : j < (numBits n w).length := by rw [numBits_len]; exact h
  rw [List.drop_eq_getElem_cons hl]
  congr 1
  have := numBits_get (n := n) h
  rw [List.getElem?_eq_getElem hl] at this
  exact (Option.some.inj this).symm
theorem plain_l0 (n : Int) (w : Nat) (hw : w ≤ 32) (h0 : 0 ≤ n) (h1 : n < 9223372036854775808) : ∀ (j F : Nat), j ≤ w → j + 1 ≤ F →
    damaskref02_Plain.l0 F (n / 2 ^ (w - j)) (partN n w j) ((j : Int) - 1) = some (numBits n w, n / 2 ^ w == 0)
  | 0, F, h, hF => by
    obtain ⟨F, rfl⟩ : ∃ G, F = G + 1 := ⟨F - 1, by omega⟩
    rw [damaskref02_Plain.l0, if_neg (by omega)]
    simp [partN]
  | j + 1, F, h, hF => by
    obtain ⟨F, rfl⟩ : ∃ G, F = G + 1 := ⟨F - 1, by omega⟩
    have hp : (0 : Int) < 2 ^ (w - (j + 1)) := Int.pow_pos (by decide)
    have hx0 : 0 ≤ n / 2 ^ (w - (j + 1)) := Int.ediv_nonneg h0 (by omega)
    have hx1 : n / 2 ^ (w - (j + 1)) ≤ n := Int.ediv_le_self _ h0
    have e : (((j + 1 : Nat) : Int) - 1) = (j : Int) := by omega
    rw [damaskref02_Plain.l0, e, if_pos (by omega), if_pos (by omega), if_pos (by rw [partN_len h]; omega)]
    rw [Int.tdiv_eq_ediv_of_nonneg hx0, Int.tmod_eq_emod_of_nonneg hx0, w64 (by omega) (by omega), w64 (by omega) (by omega), Int.toNat_natCast]
    have e1 : n / 2 ^ (w - (j + 1)) / 2 = n / 2 ^ (w - j) := by
      rw [Int.ediv_ediv_of_nonneg (by omega), show w - j = (w - (j + 1)) + 1 by omega, Int.pow_succ]
    have e2 : w - (j + 1) = w - 1 - j := by omega
    rw [e1]
    have e3 : n / 2 ^ (w - (j + 1)) % 2 = n / 2 ^ (w - 1 - j) % 2 := by rw [e2]
    rw [e3, partN_set (by omega)]
    exact plain_l0 n w hw h0 h1 j F (by omega) (by omega)
theorem plain_eq {n w : Int} {F : Nat} (h0 : 0 ≤ n) (h1 : n < 9223372036854775808) (hw0 : 0 ≤ w) (hw1 : w ≤ 32) (hF : w.toNat + 2 ≤ F) : damaskref02_Plain.f F n w = some (numBits n w.toNat, n / 2 ^ w.toNat == 0) := by
  obtain ⟨F, rfl⟩ : ∃ G, F = G + 1 := ⟨F - 1, by omega⟩
  unfold damaskref02_Plain.f
  rw [if_neg (by omega), if_neg (by omega), show decide (n < 0) = false from decide_eq_false (by omega), damaskref02_Plain.j0, if_neg (by decide), if_pos hw0, if_pos (by omega), w64 (by omega) (by omega)]
  have := plain_l0 n w.toNat (by omega) h0 h1 w.toNat F (by omega) (by omega)
  rw [Nat.sub_self, Int.pow_zero, Int.ediv_one, Int.toNat_of_nonneg hw0] at this
  have e : partN n w.toNat w.toNat = List.replicate w.toNat 0 := by
    unfold partN
    rw [List.drop_eq_nil_of_le (by rw [numBits_len]; exact Nat.le_refl _), List.append_nil]
  rw [e] at this
  exact this

theorem fits_lt {n s d u : Int} (h : FitsP n s d u) : 0 ≤ u ∧ u < 2 ^ d.toNat ∧ u < 65536 := by
  have h4 := (div0 h.2.2.2.1).mp h.2.2.2.2
  have := (pow16 (k := d.toNat) (by have := h.2.2.1; omega)).2
  exact ⟨h.2.2.2.1, h4, by omega⟩
theorem paramK_16 {n s d u : Int} (h : FitsP n s d u) : paramK n s d.toNat ≤ 16 := by
  have := paramK_le n s d.toNat
  have := h.2.2.1
  omega
theorem symL_len (k d : Nat) (u : Int) : (symL k d u).length = if 20 ≤ u / 2 ^ k then 20 + d else (u / 2 ^ k).toNat + 1 + k := by
  unfold symL
  split <;> simp only [List.length_append, List.length_replicate, numBits_len, List.length_singleton]
theorem code_j0 (n s d u : Int) (b : Bool) (F : Nat) (hF : 60 ≤ F) (h : FitsP n s d 0) (hb : b = !decide (FitsP n s d u)) : damaskref25_Code.j0 F d u (paramK n s d.toNat) b = some (codeL n s d u) := by
  obtain ⟨F, rfl⟩ : ∃ G, F = G + 1 := ⟨F - 1, by omega⟩
  rw [damaskref25_Code.j0]
  unfold codeL
  by_cases hf : FitsP n s d u
  · rw [if_neg (by rw [hb]; simpa using hf), if_pos hf]
    have hu := fits_lt hf
    have hd0 := hf.2.1
    have hd1 := hf.2.2.1
    have hk := paramK_16 hf
    generalize paramK n s d.toNat = k at hk
    have hp := pow16 hk
    have hx0 : 0 ≤ u / 2 ^ k := Int.ediv_nonneg hu.1 (by omega)
    have hx1 : u / 2 ^ k ≤ u := Int.ediv_le_self _ hu.1
    have hy0 := Int.emod_nonneg u (show (2 : Int) ^ k ≠ 0 by omega)
    have hy1 := Int.emod_lt_of_pos u (show (0 : Int) < 2 ^ k by omega)
    rw [power_eq (by omega) (by omega) (by omega)]
    simp only [Option.bind_some, Int.toNat_natCast]
    rw [if_neg (by omega), Int.tdiv_eq_ediv_of_nonneg hu.1, w64 (by omega) (by omega)]
    unfold symL
    by_cases hq : 20 ≤ u / 2 ^ k
    · rw [if_pos (by omega), ones_eq (by omega) (by omega) (by omega) (by simp; omega), plain_eq (by omega) (by omega) (by omega) (by omega) (by omega), if_pos hq]
      simp only [Option.bind_some]
      rw [if_pos (by simp [numBits_len]; omega)]
      rfl
    · rw [if_neg (by omega), ones_eq (by omega) (by omega) (by omega) (by omega)]
      simp only [Option.bind_some]
      rw [if_neg (by omega), Int.tmod_eq_emod_of_nonneg hu.1, plain_eq (by omega) (by omega) (by omega) (by omega) (by omega), if_neg hq, if_pos (by omega)]
      simp only [Option.bind_some, Int.toNat_natCast]
      rw [if_pos (by simp [numBits_len]; omega)]
  · rw [if_pos (by rw [hb]; simpa using hf), if_neg hf]
theorem code_eq (n s d u : Int) {F : Nat} (hF : 60 ≤ F) : damaskref25_Code.f F n s d u = some (codeL n s d u) := by
  unfold damaskref25_Code.f
  rw [refparam_eq n s d (by omega)]
  simp only [Option.bind_some]
  unfold paramL
  by_cases h : FitsP n s d 0
  · have hd0 := h.2.1
    have hd1 := h.2.2.1
    rw [if_pos h, if_pos rfl]
    by_cases hu : u < 0
    · rw [if_pos hu]
      exact code_j0 n s d u true F hF h (by simp [FitsP, show ¬ 0 ≤ u by omega])
    · rw [if_neg hu, power_eq (by omega) (by omega) (by omega)]
      simp only [Option.bind_some]
      refine code_j0 n s d u _ F hF h ?_
      have h3 : 0 ≤ u := by omega
      have := div0 (k := d.toNat) h3
      simp only [FitsP, h.1, hd0, hd1, h3, this, true_and]
      by_cases hc : u < 2 ^ d.toNat <;> simp [hc]
      omega
  · rw [if_neg h, if_neg (by decide)]
    obtain ⟨F, rfl⟩ : ∃ G, F = G + 1 := ⟨F - 1, by omega⟩
    rw [damaskref25_Code.j0, if_pos rfl]
    unfold codeL
    rw [if_neg (fun hf => h (fits_zero hf))]

def bitsL (n s d u : Int) : Int × Int := (((codeL n s d u).1.length : Int), (codeL n s d u).2)
theorem bits_eq (n s d u : Int) : rice_Bits.f (d.toNat + 1) n s d u = some (bitsL n s d u) := by
  unfold rice_Bits.f
  rw [param_eq]
  simp only [Option.bind_some]
  unfold paramL bitsL codeL
  by_cases h : FitsP n s d 0
  · have hd0 := h.2.1
    have hd1 := h.2.2.1
    rw [if_pos h, if_pos rfl, fits_eq]
    simp only [Option.bind_some]
    rw [rice_Bits.j0]
    by_cases hf : FitsP n s d u
    · have hu := fits_lt hf
      have hk := paramK_16 hf
      generalize paramK n s d.toNat = k at hk
      have hp := pow16 hk
      have hx0 : 0 ≤ u / 2 ^ k := Int.ediv_nonneg hu.1 (by omega)
      have hx1 : u / 2 ^ k ≤ u := Int.ediv_le_self _ hu.1
      have hs : shr .i64 u (k : Int) = u / 2 ^ k := by
        unfold shr
        rw [show min ((k : Int)).toNat IntKind.i64.bits = k from Nat.min_eq_left (show k ≤ 64 by omega)]
      rw [if_neg (by simpa using hf), if_pos (by omega), hs, if_pos hf]
      simp only [symL_len]
      by_cases hq : 20 ≤ u / 2 ^ k
      · rw [if_pos (by omega), if_pos hq, w64 (by omega) (by omega)]
        congr 2
        omega
      · rw [if_neg (by omega), if_neg hq, w64 (x := u / 2 ^ k + 1) (by omega) (by omega), w64 (by omega) (by omega)]
        congr 2
        omega
    · rw [if_pos (by simpa using hf), if_neg hf]
      rfl
  · rw [if_neg h, if_neg (by decide), rice_Bits.j0, if_pos rfl, if_neg (fun hf => h (fits_zero hf))]
    rfl
theorem next_eq (n s u : Int) : rice_Next.f n s u = some (nextL n s u) := by
  unfold rice_Next.f nextL
  rw [fits_eq]
  simp only [Option.bind_some]
  by_cases hf : FitsP n s 16 u
  · have hu := fits_lt hf
    have hm := hf.1
    unfold MayP at hm
    rw [if_pos (by simpa using hf), if_pos hf, w64 (x := n + 1) (by omega) (by omega), w64 (x := s + u) (by omega) (by omega)]
    have e : mn (s + u) 4194304 = if s + u > 4194304 then 4194304 else s + u := rfl
    rw [e]
    by_cases hn : n = 31
    · subst hn
      rw [if_pos (by omega), if_pos rfl]
      rfl
    · rw [if_neg (by omega), if_neg hn]
  · rw [if_neg (by simpa using hf), if_neg hf]
theorem refnext_j0 (n s u : Int) (b : Bool) (F : Nat) (hF : 1 ≤ F) (hb : b = !decide (FitsP n s 16 u)) : damaskref25_Next.j0 F u b n s = some (nextL n s u) := by
  obtain ⟨F, rfl⟩ : ∃ G, F = G + 1 := ⟨F - 1, by omega⟩
  rw [damaskref25_Next.j0]
  unfold nextL
  by_cases hf : FitsP n s 16 u
  · have hu := fits_lt hf
    have hm := hf.1
    unfold MayP at hm
    rw [if_neg (by rw [hb]; simpa using hf), if_pos hf, w64 (x := s + u) (by omega) (by omega)]
    by_cases hn : n = 31
    · subst hn
      simp only [if_true]
      split
      · rfl
      · rw [Int.tdiv_eq_ediv_of_nonneg (by omega), w64 (by omega) (by omega)]
    · rw [if_neg hn, if_neg hn, if_neg hn, w64 (by omega) (by omega)]
      split <;> rfl
  · rw [if_pos (by rw [hb]; simpa using hf), if_neg hf]
theorem refnext_eq (n s u : Int) : damaskref25_Next.f 1 n s u = some (nextL n s u) := by
  unfold damaskref25_Next.f
  rw [refmay_eq]
  simp only [Option.bind_some]
  by_cases h0 : MayP n s
  · rw [if_pos (by simpa using h0)]
    by_cases h1 : u < 0
    · rw [if_pos h1]
      exact refnext_j0 n s u _ 1 (by omega) (by simp [FitsP, h0]; omega)
    · rw [if_neg h1]
      refine refnext_j0 n s u _ 1 (by omega) ?_
      have h3 : 0 ≤ u := by omega
      have := div0 (k := (16 : Int).toNat) h3
      simp only [FitsP, h0, h3, this, true_and]
      by_cases hc : u < 65536
      · simp [show ¬ u > 65535 by omega, hc]
      · simp [show u > 65535 by omega]
        omega
  · rw [if_neg (by simpa using h0)]
    exact refnext_j0 n s u _ 1 (by omega) (by simp [FitsP, h0])
theorem start_eq (d : Int) : rice_Start.f d = some (startL d) := by
  unfold rice_Start.f startL
  by_cases h0 : d < 1
  · rw [if_pos h0, if_pos (Or.inl h0)]
  · by_cases h1 : 16 < d
    · rw [if_neg h0, if_pos h1, if_pos (Or.inr h1)]
    · rw [if_neg h0, if_neg h1, if_neg (show ¬ (d < 1 ∨ 16 < d) by omega), Int.tdiv_eq_ediv_of_nonneg (by omega), w64 (by omega) (by omega), if_pos (by omega)]
      have hp := pow16 (k := (d / 2).toNat) (by omega)
      have e : shl .i64 1 (d / 2) = 2 ^ (d / 2).toNat := by
        unfold shl
        rw [show min (d / 2).toNat IntKind.i64.bits = (d / 2).toNat from Nat.min_eq_left (show (d / 2).toNat ≤ 64 by omega), Int.one_mul]
        exact (i64_w _).trans (w64 (by omega) (by omega))
      rw [e]
theorem refstart_eq (d : Int) : damaskref25_Start.f 60 d = some (startL d) := by
  unfold damaskref25_Start.f startL
  by_cases h0 : d < 1
  · rw [if_pos h0, if_pos (Or.inl h0)]
  · by_cases h1 : 16 < d
    · rw [if_neg h0, if_pos h1, if_pos (Or.inr h1)]
    · rw [if_neg h0, if_neg h1, if_neg (show ¬ (d < 1 ∨ 16 < d) by omega), Int.tdiv_eq_ediv_of_nonneg (by omega), w64 (by omega) (by omega), power_eq (by omega) (by omega) (by omega)]
      rfl
end Go.Proofs.Ytnjfojpjfmnmcaa.Rice
