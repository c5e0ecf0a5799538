/- The reckoning of package rice and of its reference in plain words: parameters, codes, states; plain laws on them. No program in sight. -/
import Derived.Test.YtghhfendjkocmaaBitsPure2
namespace Go.Proofs.Ytghhfendjkocmaa.Rice
open Go.RowKit Go.Proofs.Ytghhfendjkocmaa.BP
set_option linter.unusedVariables false
set_option linter.unusedSimpArgs false

def MayP (n s : Int) : Prop := 1 ≤ n ∧ n < 32 ∧ 0 ≤ s ∧ s ≤ 4194304
instance (n s : Int) : Decidable (MayP n s) := by unfold MayP; infer_instance
def FitsP (n s depth u : Int) : Prop := MayP n s ∧ 1 ≤ depth ∧ depth ≤ 16 ∧ 0 ≤ u ∧ u / 2 ^ depth.toNat = 0
instance (n s depth u : Int) : Decidable (FitsP n s depth u) := by unfold FitsP; infer_instance
/-- The first k, from a given one on, at which n * 2^k reaches s; the depth at the most. -/
def pk (n s : Int) : Nat → Nat → Nat
  | 0, k => k
  | f + 1, k => if n * 2 ^ k < s then pk n s f (k + 1) else k
def paramK (n s : Int) (depth : Nat) : Nat := pk n s depth 0
theorem pk_le (n s : Int) : ∀ f k, k ≤ pk n s f k ∧ pk n s f k ≤ k + f
  | 0, k => by simp [pk]
  | f + 1, k => by
    simp only [pk]
    split
    · have := pk_le n s f (k + 1); omega
    · omega
theorem paramK_le (n s : Int) (d : Nat) : paramK n s d ≤ d := by have := pk_le n s d 0; unfold paramK; omega
/-- A symbol's bits. -/
def symL (k d : Nat) (u : Int) : List Int :=
  if 20 ≤ u / 2 ^ k then List.replicate 20 1 ++ numBits u d else List.replicate (u / 2 ^ k).toNat 1 ++ [0] ++ numBits (u % 2 ^ k) k
def codeL (n s d u : Int) : List Int × Int := if FitsP n s d u then (symL (paramK n s d.toNat) d.toNat u, 0) else ([], 1)
def paramL (n s d : Int) : Int × Int := if FitsP n s d 0 then ((paramK n s d.toNat : Int), 0) else (0, 1)
def nextL (n s u : Int) : Int × Int × Int :=
  if FitsP n s 16 u then (if n = 31 then (16, (if s + u > 4194304 then 4194304 else s + u) / 2, 0) else (n + 1, (if s + u > 4194304 then 4194304 else s + u), 0)) else (0, 0, 1)
def startL (d : Int) : Int × Int := if d < 1 ∨ 16 < d then (0, 0) else (1, 2 ^ (d / 2).toNat)
def bitsL (n s d u : Int) : Int × Int := (((codeL n s d u).1.length : Int), (codeL n s d u).2)
/-- The symbol of the first bits of a list; how many they are; the error. -/
def takeS (l : List Int) (n s d : Int) : Int × Int × Int :=
  if ¬ FitsP n s d 0 then (0, 0, 1)
  else if (onesL l 20).2.1 ≠ 0 then (0, 0, (onesL l 20).2.1)
  else if (takeL (l.drop (onesL l 20).2.2.toNat) (if (onesL l 20).1 = 20 then d else paramK n s d.toNat)).2 ≠ 0 then (0, 0, (takeL (l.drop (onesL l 20).2.2.toNat) (if (onesL l 20).1 = 20 then d else paramK n s d.toNat)).2)
  else if (onesL l 20).1 = 20 then
    (if (takeL (l.drop (onesL l 20).2.2.toNat) d).1 / 2 ^ paramK n s d.toNat < 20 then (0, 0, 3) else ((takeL (l.drop (onesL l 20).2.2.toNat) d).1, (onesL l 20).2.2 + d, 0))
  else (if ((onesL l 20).1 * 2 ^ paramK n s d.toNat + (takeL (l.drop (onesL l 20).2.2.toNat) (paramK n s d.toNat)).1) / 2 ^ d.toNat ≠ 0 then (0, 0, 3)
    else ((onesL l 20).1 * 2 ^ paramK n s d.toNat + (takeL (l.drop (onesL l 20).2.2.toNat) (paramK n s d.toNat)).1, (onesL l 20).2.2 + paramK n s d.toNat, 0))

theorem pow16 {k : Nat} (h : k ≤ 16) : (1 : Int) ≤ 2 ^ k ∧ (2 : Int) ^ k ≤ 65536 := by
  have h2 := Nat.pow_le_pow_right (n := 2) (by decide) h
  have h1 := Nat.one_le_two_pow (n := k)
  constructor
  · exact_mod_cast h1
  · have : ((2 ^ k : Nat) : Int) ≤ ((65536 : Nat) : Int) := Int.ofNat_le.mpr h2
    simpa using this
theorem w64 {x : Int} (h0 : -9223372036854775808 ≤ x) (h1 : x < 9223372036854775808) : wrap64 x = x := by unfold wrap64; omega
theorem div0 {u : Int} {k : Nat} (h0 : 0 ≤ u) : u / 2 ^ k = 0 ↔ u < 2 ^ k := by
  have hp : (0 : Int) < 2 ^ k := Int.pow_pos (by decide)
  constructor
  · intro h
    have := Int.emod_add_mul_ediv u (2 ^ k)
    have := Int.emod_lt_of_pos u hp
    rw [h] at *
    omega
  · intro h; exact Int.ediv_eq_zero_of_lt h0 h
theorem fits_zero {n s d u : Int} (h : FitsP n s d u) : FitsP n s d 0 := ⟨h.1, h.2.1, h.2.2.1, Int.le_refl _, by simp⟩
theorem fits_lt {n s d u : Int} (h : FitsP n s d u) : 0 ≤ u ∧ u < 2 ^ d.toNat ∧ u < 65536 := by
  have h4 := (div0 h.2.2.2.1).mp h.2.2.2.2
  have := (pow16 (k := d.toNat) (by have := h.2.2.1; omega)).2
  exact ⟨h.2.2.2.1, h4, by omega⟩
theorem paramK_16 {n s d u : Int} (h : FitsP n s d u) : paramK n s d.toNat ≤ 16 := by
  have := paramK_le n s d.toNat
  have := h.2.2.1
  omega
theorem symL_len (k d : Nat) (u : Int) : (symL k d u).length = if 20 ≤ u / 2 ^ k then 20 + d else (u / 2 ^ k).toNat + 1 + k := by
  unfold symL
  split <;> simp only [List.length_append, List.length_replicate, numBits_len, List.length_singleton]
/-- One round of the search for k. -/
theorem pk_step {n s : Int} {f k : Nat} (h : n * 2 ^ k < s) : pk n s (f + 1) k = pk n s f (k + 1) := by rw [pk, if_pos h]
theorem pk_stop {n s : Int} {f k : Nat} (h : ¬ n * 2 ^ k < s) : pk n s f k = k := by
  cases f with
  | zero => rfl
  | succ f => rw [pk, if_neg h]
theorem may_mul {n s : Int} (hm : MayP n s) {k : Nat} (hk : k ≤ 16) : 0 ≤ n * 2 ^ k ∧ n * 2 ^ k ≤ 2097152 := by
  have hp := pow16 hk
  unfold MayP at hm
  refine ⟨Int.mul_nonneg (by omega) (by omega), ?_⟩
  calc n * 2 ^ k ≤ 32 * 2 ^ k := Int.mul_le_mul_of_nonneg_right (by omega) (by omega)
    _ ≤ 32 * 65536 := Int.mul_le_mul_of_nonneg_left (by omega) (by omega)
theorem onesL_20 (l : List Int) : (onesL l 20).2.1 = 0 ∧ (onesL l 20).1 = 20 ∧ (onesL l 20).2.2 = 20 ∧ 20 ≤ l.length ∨ (onesL l 20).2.1 = 0 ∧ 0 ≤ (onesL l 20).1 ∧ (onesL l 20).1 < 20 ∧ (onesL l 20).2.2 = (onesL l 20).1 + 1 ∧ (onesL l 20).1 + 1 ≤ l.length ∨ (onesL l 20).2.1 = 2 := by
  have h := ones_le l (20 : Int).toNat
  have e : (20 : Int).toNat = 20 := rfl
  unfold onesL
  rw [if_neg (by decide)]
  rw [e] at h ⊢
  by_cases c1 : ones l 20 = 20
  · rw [if_pos (by omega)]
    left
    exact ⟨rfl, rfl, rfl, by omega⟩
  · rw [if_neg (by omega)]
    by_cases c2 : ones l 20 = l.length
    · rw [if_pos c2]; right; right; rfl
    · rw [if_neg c2]
      right; left
      refine ⟨rfl, ?_, ?_, rfl, ?_⟩ <;> simp only <;> omega
theorem takeL_bd {l : List Int} (h01 : B01 l) {w : Int} (h : (takeL l w).2 = 0) : 0 ≤ w ∧ w ≤ 32 ∧ 0 ≤ (takeL l w).1 ∧ (takeL l w).1 < 2 ^ w.toNat ∧ w ≤ l.length := by
  unfold takeL at h ⊢
  by_cases c0 : w < 0 ∨ 32 < w
  · rw [if_pos c0] at h; simp at h
  · rw [if_neg c0] at h ⊢
    by_cases c2 : (l.length : Int) < w
    · rw [if_pos c2] at h; simp at h
    · rw [if_neg c2]
      have hb := bval_bd (h01.take w.toNat)
      have hlen : (l.take w.toNat).length = w.toNat := by rw [List.length_take]; omega
      rw [hlen] at hb
      exact ⟨by omega, by omega, hb.1, hb.2, by omega⟩
theorem pow_mono {a b : Nat} (h : a ≤ b) : (2 : Int) ^ a ≤ 2 ^ b := by
  have := Nat.pow_le_pow_right (n := 2) (by decide) h
  exact_mod_cast this
theorem codeL_fits {n s d u : Int} (h : FitsP n s d 0) (hu : 0 ≤ u) : FitsP n s d u ↔ u / 2 ^ d.toNat = 0 := by
  unfold FitsP at h ⊢
  simp only [h.1, h.2.1, h.2.2.1, hu, true_and]
theorem codeL_two (n s d u : Int) : (FitsP n s d u ∧ codeL n s d u = (symL (paramK n s d.toNat) d.toNat u, 0)) ∨ (¬ FitsP n s d u ∧ codeL n s d u = ([], 1)) := by
  unfold codeL
  by_cases h : FitsP n s d u
  · left; exact ⟨h, by rw [if_pos h]⟩
  · right; exact ⟨h, by rw [if_neg h]⟩
end Go.Proofs.Ytghhfendjkocmaa.Rice
