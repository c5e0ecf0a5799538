/- Plain laws on bits: what was packed comes back. No program in sight. -/
import Derived.Test.YtghhfendjkocmaaBitsPure
namespace Go.Proofs.Ytghhfendjkocmaa.BP
set_option linter.unusedVariables false

theorem numBits_snoc (n : Int) (w : Nat) : numBits n (w + 1) = numBits (n / 2) w ++ [n % 2] := by
  unfold numBits
  rw [List.range_succ, List.map_append]
  congr 1
  · refine List.map_congr_left fun i hi => ?_
    have := List.mem_range.mp hi
    rw [show w + 1 - 1 - i = (w - 1 - i) + 1 from by omega, Int.pow_succ, Int.mul_comm, ← Int.ediv_ediv_of_nonneg (by decide)]
  · simp
theorem bval_numBits : ∀ (w : Nat) (n : Int), bval (numBits n w) = n % 2 ^ w
  | 0, n => by simp [numBits, bval, Int.emod_one]
  | w + 1, n => by
    rw [numBits_snoc, bval_snoc, bval_numBits w (n / 2), Int.pow_succ]
    have hp : (0 : Int) < 2 ^ w := Int.pow_pos (by decide)
    have h1 := Int.mul_ediv_add_emod (n / 2) (2 ^ w)
    have h2 := Int.emod_nonneg (n / 2) (show (2 : Int) ^ w ≠ 0 by omega)
    have h3 := Int.emod_lt_of_pos (n / 2) hp
    have h4 := Int.mul_ediv_add_emod n 2
    have h5 : n = (2 ^ w * 2) * (n / 2 / 2 ^ w) + (2 * (n / 2 % 2 ^ w) + n % 2) := by
      have : (2 ^ w * 2) * (n / 2 / 2 ^ w) = 2 * (2 ^ w * (n / 2 / 2 ^ w)) := by rw [Int.mul_comm (2 ^ w) 2, Int.mul_assoc]
      omega
    have h6 : n % (2 ^ w * 2) = 2 * (n / 2 % 2 ^ w) + n % 2 := by
      conv => lhs; rw [h5]
      rw [Int.mul_add_emod_self_left]
      exact Int.emod_eq_of_lt (by omega) (by omega)
    omega
theorem bval_numBits_eq {n : Int} {w : Nat} (h0 : 0 ≤ n) (hq : n / 2 ^ w = 0) : bval (numBits n w) = n := by
  rw [bval_numBits]
  have := Int.mul_ediv_add_emod n (2 ^ w)
  rw [hq] at this
  omega
theorem bits_byteAt {l : List Int} (h : B01 l) (q j : Nat) (hj : j < 8) : byteAt l q / 2 ^ (7 - j) % 2 = l.getD (8 * q + j) 0 := by
  have h0 := h.getD (8 * q + 0); have h1 := h.getD (8 * q + 1); have h2 := h.getD (8 * q + 2); have h3 := h.getD (8 * q + 3)
  have h4 := h.getD (8 * q + 4); have h5 := h.getD (8 * q + 5); have h6 := h.getD (8 * q + 6); have h7 := h.getD (8 * q + 7)
  unfold byteAt
  rcases (by omega : j = 0 ∨ j = 1 ∨ j = 2 ∨ j = 3 ∨ j = 4 ∨ j = 5 ∨ j = 6 ∨ j = 7) with e | e | e | e | e | e | e | e <;> subst e <;> simp only [Nat.reduceSub, Int.reducePow] <;> omega
/-- The bits of the packed bytes are the bits, with noughts behind them. -/
theorem bitsOf_packB {l : List Int} (h : B01 l) : bitsOf (packB l) = l ++ List.replicate (8 * ((l.length + 7) / 8) - l.length) 0 := by
  refine List.ext_getElem? fun i => ?_
  rcases Nat.lt_or_ge i (8 * ((l.length + 7) / 8)) with hi | hi
  · rw [bitsOf_get (by rw [packB_len]; exact hi), bitAt]
    have hp : (packB l).getD (i / 8) 0 = byteAt l (i / 8) := by
      have : (packB l)[i / 8]? = some (byteAt l (i / 8)) := by
        unfold packB
        rw [List.getElem?_map, List.getElem?_range (by omega)]; rfl
      rw [List.getD_eq_getElem?_getD, this]; rfl
    rw [hp, bits_byteAt h _ _ (Nat.mod_lt _ (by decide)), show 8 * (i / 8) + i % 8 = i from by omega]
    rcases Nat.lt_or_ge i l.length with hl | hl
    · rw [List.getElem?_append_left hl, List.getD_eq_getElem?_getD, List.getElem?_eq_getElem hl]; rfl
    · rw [List.getElem?_append_right hl, getD_of_len hl, List.getElem?_replicate, if_pos (by omega)]
  · rw [List.getElem?_eq_none (by rw [bitsOf_len, packB_len]; exact hi), List.getElem?_eq_none (by rw [List.length_append, List.length_replicate]; omega)]
theorem takeL_num {n w : Int} {r : List Int} {l : List Int} (h : putL n w = some l) : takeL (l ++ r) w = (n, 0) ∧ (l.length : Int) = w := by
  unfold putL at h
  split at h
  · cases h
  · next hc =>
    cases h
    have hl : (numBits n w.toNat).length = w.toNat := numBits_len _ _
    refine ⟨?_, by omega⟩
    unfold takeL
    rw [if_neg (by omega), if_neg (by rw [List.length_append, hl]; omega), List.take_append_of_le_length (by omega), List.take_of_length_le (by omega), bval_numBits_eq (by omega) (by
      rcases Classical.em (n / 2 ^ w.toNat = 0) with e | e
      · exact e
      · exact absurd (Or.inr (Or.inr (Or.inr e))) hc)]
theorem onesL_num {n m : Int} {r : List Int} {l : List Int} (h : onesW n m = some l) : onesL (l ++ r) m = (n, 0, (l.length : Int)) := by
  unfold onesW at h
  split at h
  · cases h
  · next hc =>
    cases h
    have ho : ones (List.replicate n.toNat 1 ++ (if n < m then [0] else []) ++ r) m.toNat = n.toNat := by
      refine ones_at _ _ _ (fun i hi => ?_) (by omega) (by simp) ?_
      · rw [List.append_assoc, getD_app_lt (by simpa using hi), List.getD_eq_getElem?_getD, List.getElem?_replicate, if_pos hi]; rfl
      · by_cases hm : n < m
        · refine .inr (.inr ?_)
          rw [if_pos hm, List.append_assoc, List.getD_eq_getElem?_getD, List.getElem?_append_right (by simp)]
          simp
        · exact .inl (by omega)
    unfold onesL
    rw [if_neg (by omega), ho]
    by_cases hm : n < m
    · rw [if_neg (by omega), if_neg (by rw [if_pos hm]; simp), if_pos hm]
      simp; omega
    · rw [if_pos (by omega), if_neg hm]
      simp; omega
theorem endL_pad {l : List Int} {k : Nat} (hk : k < 8) : endL ((l ++ List.replicate k 0).drop l.length) = 0 := by
  rw [List.drop_left]
  unfold endL
  rw [if_neg (by simp; omega), if_pos (by simp)]
end Go.Proofs.Ytghhfendjkocmaa.BP
