import Derived.Test.YtnjfojpjfmnmcaaRiceReadRef
import Derived.Test.YtnjfojpjfmnmcaaRicePure
/-! What Read comes to. -/
namespace Go.Proofs.Ytnjfojpjfmnmcaa.Rice
open Go.RowKit Go.Proofs.Ytnjfojpjfmnmcaa.BP Go.Proofs.Ytnjfojpjfmnmcaa.PRiceStates Go.Proofs.YtnjfojpjfmnmcaaW.PrintWords Go.Proofs.YtnjfojpjfmnmcaaW.PrintLast Go.Proofs.YtnjfojpjfmnmcaaW.PrintMore
set_option linter.unusedVariables false
set_option linter.unusedSimpArgs false

/-- The symbol of the first bits of a list; how many they are; the error. -/
def takeS (l : List Int) (n s d : Int) : Int × Int × Int :=
  if ¬ FitsP n s d 0 then (0, 0, 1)
  else if (onesL l 20).2.1 ≠ 0 then (0, 0, (onesL l 20).2.1)
  else if (takeL (l.drop (onesL l 20).2.2.toNat) (if (onesL l 20).1 = 20 then d else paramK n s d.toNat)).2 ≠ 0 then (0, 0, (takeL (l.drop (onesL l 20).2.2.toNat) (if (onesL l 20).1 = 20 then d else paramK n s d.toNat)).2)
  else if (onesL l 20).1 = 20 then
    (if (takeL (l.drop (onesL l 20).2.2.toNat) d).1 / 2 ^ paramK n s d.toNat < 20 then (0, 0, 3) else ((takeL (l.drop (onesL l 20).2.2.toNat) d).1, (onesL l 20).2.2 + d, 0))
  else (if ((onesL l 20).1 * 2 ^ paramK n s d.toNat + (takeL (l.drop (onesL l 20).2.2.toNat) (paramK n s d.toNat)).1) / 2 ^ d.toNat ≠ 0 then (0, 0, 3)
    else ((onesL l 20).1 * 2 ^ paramK n s d.toNat + (takeL (l.drop (onesL l 20).2.2.toNat) (paramK n s d.toNat)).1, (onesL l 20).2.2 + paramK n s d.toNat, 0))

theorem count_j2 (l : List Int) (m i F : Nat) (hm : m ≤ 64) (hF : 1 ≤ F) (hl : l.length < 140737488355328) (h1 : ∀ j, j < i → l.getD j 0 = 1) (hi : i ≤ m) (hil : i ≤ l.length) (hs : i = m ∨ i = l.length ∨ l.getD i 0 ≠ 1) :
    damaskref02_Count.j2 F l m i = some ((onesL l m).1, (onesL l m).2.2, (onesL l m).2.1) := by
  obtain ⟨F, rfl⟩ : ∃ G, F = G + 1 := ⟨F - 1, by omega⟩
  have ho : ones l m = i := ones_at l i m h1 hi hil hs
  rw [damaskref02_Count.j2]
  unfold onesL
  rw [if_neg (show ¬ ((m : Int) < 0 ∨ 64 < (m : Int)) by omega), Int.toNat_natCast, ho]
  by_cases c1 : (i : Int) = (m : Int)
  · rw [if_pos c1, if_pos c1, c1]
  · rw [if_neg c1, if_neg c1]
    by_cases c2 : i = l.length
    · rw [if_pos (show (i : Int) = (l.length : Int) by omega), if_pos c2]
    · rw [if_neg (show ¬ (i : Int) = (l.length : Int) by omega), if_neg c2, w64 (by omega) (by omega)]
theorem count_l0 (l : List Int) (m : Nat) (hm : m ≤ 64) (hl : l.length < 140737488355328) : ∀ (f i F : Nat), f + i = m → f + 2 ≤ F → (∀ j, j < i → l.getD j 0 = 1) → i ≤ l.length →
    damaskref02_Count.l0 F l m i = some ((onesL l m).1, (onesL l m).2.2, (onesL l m).2.1)
  | 0, i, F, h, hF, h1, hil => by
    obtain ⟨F, rfl⟩ : ∃ G, F = G + 1 := ⟨F - 1, by omega⟩
    rw [damaskref02_Count.l0, if_neg (by omega)]
    exact count_j2 l m i F hm (by omega) hl h1 (by omega) hil (.inl (by omega))
  | f + 1, i, F, h, hF, h1, hil => by
    obtain ⟨F, rfl⟩ : ∃ G, F = G + 1 := ⟨F - 1, by omega⟩
    rw [damaskref02_Count.l0, if_pos (by omega)]
    by_cases c1 : i < l.length
    · rw [if_pos (by omega), if_pos (by omega)]
      by_cases c2 : l.getD i 0 = 1
      · rw [if_pos (by unfold rd; rw [Int.toNat_natCast]; exact c2), w64 (by omega) (by omega), show (i : Int) + 1 = ((i + 1 : Nat) : Int) by omega]
        exact count_l0 l m hm hl f (i + 1) F (by omega) (by omega) (fun j hj => if e : j = i then by rw [e]; exact c2 else h1 j (by omega)) (by omega)
      · rw [if_neg (by unfold rd; rw [Int.toNat_natCast]; exact c2)]
        exact count_j2 l m i F hm (by omega) hl h1 (by omega) hil (.inr (.inr c2))
    · rw [if_neg (by omega)]
      exact count_j2 l m i F hm (by omega) hl h1 (by omega) hil (.inr (.inl (by omega)))
theorem count_eq (l : List Int) {F : Nat} (hF : 23 ≤ F) (hl : l.length < 140737488355328) : damaskref02_Count.f F l 20 = some ((onesL l 20).1, (onesL l 20).2.2, (onesL l 20).2.1) := by
  obtain ⟨F, rfl⟩ : ∃ G, F = G + 1 := ⟨F - 1, by omega⟩
  unfold damaskref02_Count.f
  rw [if_neg (by decide), show decide ((20 : Int) > 64) = false by decide, damaskref02_Count.j0, if_neg (by decide)]
  exact count_l0 l 20 (by decide) hl 20 0 F (by decide) (by omega) (fun j hj => absurd hj (by omega)) (by omega)
theorem take_l0 (l : List Int) (h01 : B01 l) (w : Nat) (hw : w ≤ 32) (hwl : w ≤ l.length) : ∀ (f i F : Nat), f + i = w → f + 1 ≤ F →
    damaskref02_Take.l0 F l w (bval (l.take i)) i = some (bval (l.take w), 0)
  | 0, i, F, h, hF => by
    obtain ⟨F, rfl⟩ : ∃ G, F = G + 1 := ⟨F - 1, by omega⟩
    rw [damaskref02_Take.l0, if_neg (by omega), show i = w by omega]
  | f + 1, i, F, h, hF => by
    obtain ⟨F, rfl⟩ : ∃ G, F = G + 1 := ⟨F - 1, by omega⟩
    have hb := bval_bd (h01.take i)
    have hlen : (l.take i).length = i := by rw [List.length_take]; omega
    rw [hlen] at hb
    have hp := Nat.pow_le_pow_right (n := 2) (by decide) (show i ≤ 32 by omega)
    have hp1 : (2 : Int) ^ i ≤ 4294967296 := by
      have : ((2 ^ i : Nat) : Int) ≤ ((4294967296 : Nat) : Int) := Int.ofNat_le.mpr hp
      simpa using this
    have hr := h01.getD i
    rw [damaskref02_Take.l0, if_pos (by omega), if_pos (by omega), if_pos (by omega)]
    have e : rd l (i : Int) = l.getD i 0 := by unfold rd; rw [Int.toNat_natCast]
    rw [e, w64 (x := 2 * bval (l.take i)) (by omega) (by omega), w64 (by omega) (by omega), w64 (by omega) (by omega), show (i : Int) + 1 = ((i + 1 : Nat) : Int) by omega]
    have e2 : 2 * bval (l.take i) + l.getD i 0 = bval (l.take (i + 1)) := by
      rw [List.take_add_one, List.getElem?_eq_getElem (by omega), Option.toList_some, bval_snoc, List.getD_eq_getElem?_getD, List.getElem?_eq_getElem (by omega)]
      rfl
    rw [e2]
    exact take_l0 l h01 w hw hwl f (i + 1) F (by omega) (by omega)
theorem take_eq (l : List Int) (h01 : B01 l) (w : Int) {F : Nat} (hF : 40 ≤ F) : damaskref02_Take.f F l w = some (takeL l w) := by
  obtain ⟨F, rfl⟩ : ∃ G, F = G + 1 := ⟨F - 1, by omega⟩
  unfold damaskref02_Take.f takeL
  by_cases c0 : w < 0
  · rw [if_pos c0, damaskref02_Take.j0, if_pos rfl, if_pos (.inl c0)]
  · rw [if_neg c0, damaskref02_Take.j0]
    by_cases c1 : 32 < w
    · rw [if_pos (by simpa using c1), if_pos (.inr c1)]
    · rw [if_neg (by simpa using c1), if_neg (show ¬ (w < 0 ∨ 32 < w) by omega)]
      by_cases c2 : (l.length : Int) < w
      · rw [if_pos (show w > (l.length : Int) from c2), if_pos c2]
      · rw [if_neg (show ¬ w > (l.length : Int) from c2), if_neg c2]
        have := take_l0 l h01 w.toNat (by omega) (by omega) w.toNat 0 F (by omega) (by omega)
        rw [Int.toNat_of_nonneg (by omega)] at this
        simpa [bval] using this

theorem onesL_20 (l : List Int) : (onesL l 20).2.1 = 0 ∧ (onesL l 20).1 = 20 ∧ (onesL l 20).2.2 = 20 ∧ 20 ≤ l.length ∨ (onesL l 20).2.1 = 0 ∧ 0 ≤ (onesL l 20).1 ∧ (onesL l 20).1 < 20 ∧ (onesL l 20).2.2 = (onesL l 20).1 + 1 ∧ (onesL l 20).1 + 1 ≤ l.length ∨ (onesL l 20).2.1 = 2 := by
  have h := ones_le l (20 : Int).toNat
  have e : (20 : Int).toNat = 20 := rfl
  unfold onesL
  rw [if_neg (by decide)]
  rw [e] at h ⊢
  by_cases c1 : ones l 20 = 20
  · rw [if_pos (by omega)]
    left
    exact ⟨rfl, rfl, rfl, by omega⟩
  · rw [if_neg (by omega)]
    by_cases c2 : ones l 20 = l.length
    · rw [if_pos c2]; right; right; rfl
    · rw [if_neg c2]
      right; left
      refine ⟨rfl, ?_, ?_, rfl, ?_⟩ <;> simp only <;> omega
theorem takeL_bd {l : List Int} (h01 : B01 l) {w : Int} (h : (takeL l w).2 = 0) : 0 ≤ w ∧ w ≤ 32 ∧ 0 ≤ (takeL l w).1 ∧ (takeL l w).1 < 2 ^ w.toNat ∧ w ≤ l.length := by
  unfold takeL at h ⊢
  by_cases c0 : w < 0 ∨ 32 < w
  · rw [if_pos c0] at h; simp at h
  · rw [if_neg c0] at h ⊢
    by_cases c2 : (l.length : Int) < w
    · rw [if_pos c2] at h; simp at h
    · rw [if_neg c2]
      have hb := bval_bd (h01.take w.toNat)
      have hlen : (l.take w.toNat).length = w.toNat := by rw [List.length_take]; omega
      rw [hlen] at hb
      exact ⟨by omega, by omega, hb.1, hb.2, by omega⟩
theorem pow_mono {a b : Nat} (h : a ≤ b) : (2 : Int) ^ a ≤ 2 ^ b := by
  have := Nat.pow_le_pow_right (n := 2) (by decide) h
  exact_mod_cast this
theorem codeL_fits {n s d u : Int} (h : FitsP n s d 0) (hu : 0 ≤ u) : FitsP n s d u ↔ u / 2 ^ d.toNat = 0 := by
  unfold FitsP at h ⊢
  simp only [h.1, h.2.1, h.2.2.1, hu, true_and]
theorem codeL_two (n s d u : Int) : (FitsP n s d u ∧ codeL n s d u = (symL (paramK n s d.toNat) d.toNat u, 0)) ∨ (¬ FitsP n s d u ∧ codeL n s d u = ([], 1)) := by
  unfold codeL
  by_cases h : FitsP n s d u
  · left; exact ⟨h, by rw [if_pos h]⟩
  · right; exact ⟨h, by rw [if_neg h]⟩
theorem read_eq (l : List Int) (h01 : B01 l) (hl : l.length < 140737488355328) (n s d : Int) : damaskref25_Read.f 100 l n s d = some (takeS l n s d) := by
  unfold damaskref25_Read.f takeS
  rw [refparam_eq n s d (by decide)]
  simp only [Option.bind_some]
  unfold paramL
  by_cases h : FitsP n s d 0
  · have hd0 := h.2.1
    have hd1 := h.2.2.1
    have hk := paramK_16 h
    have hkd := paramK_le n s d.toNat
    rw [if_pos h, if_neg (show ¬ ¬ FitsP n s d 0 from fun q => q h)]
    simp only [if_true]
    rw [count_eq l (by decide) hl]
    simp only [Option.bind_some]
    generalize hK : paramK n s d.toNat = k at hk hkd ⊢
    have hO := onesL_20 l
    generalize onesL l 20 = o at hO ⊢
    obtain ⟨q, e1, c⟩ := o
    simp only at hO ⊢
    have hp := pow16 hk
    have hpd := pow16 (k := d.toNat) (by omega)
    rcases hO with ⟨rfl, rfl, rfl, hlen⟩ | ⟨rfl, hq0, hq1, rfl, hlen⟩ | rfl
    · simp only [if_true, ne_eq, not_true_eq_false, if_false]
      rw [damaskref25_Read.j0, if_pos (by decide), if_pos (by omega), take_eq _ (h01.drop _) d (by decide)]
      simp only [Option.bind_some]
      have hT := takeL_bd (w := d) (h01.drop ((20 : Int).toNat))
      generalize takeL (l.drop (20 : Int).toNat) d = x at hT ⊢
      obtain ⟨x, e2⟩ := x
      simp only at hT ⊢
      by_cases c2 : e2 = 0
      · subst c2
        have hT := hT rfl
        have hxf : FitsP n s d x := (codeL_fits h hT.2.2.1).mpr ((div0 hT.2.2.1).mpr hT.2.2.2.1)
        have hcode : codeL n s d x = (symL k d.toNat x, 0) := by unfold codeL; rw [if_pos hxf, hK]
        rw [code_eq n s d x (by decide), hcode]
        simp only [Option.bind_some, if_true, not_true_eq_false, if_false, show ¬ (20 : Int) < 20 by decide]
        rw [w64 (by omega) (by omega), symL_len]
        have hxk0 : 0 ≤ x / 2 ^ k := Int.ediv_nonneg hT.2.2.1 (by omega)
        by_cases c3 : 20 ≤ x / 2 ^ k
        · rw [if_pos c3, if_pos (show ((20 + d.toNat : Nat) : Int) = 20 + d by omega), if_neg (show ¬ x / 2 ^ k < 20 by omega)]
        · have c4 : ¬ (((x / 2 ^ k).toNat + 1 + k : Nat) : Int) = 20 + d := by
            intro hh
            have hkd2 : k = d.toNat := by omega
            have : x / 2 ^ k = 0 := by rw [hkd2]; exact (div0 hT.2.2.1).mpr hT.2.2.2.1
            omega
          rw [if_neg c3, if_neg c4, if_pos (show x / 2 ^ k < 20 by omega)]
      · simp only [c2, not_false_eq_true, if_true, if_false]
    · have hq20 : ¬ q = 20 := by omega
      simp only [if_true, ne_eq, not_true_eq_false, if_false, hq20]
      rw [damaskref25_Read.j0, if_pos (show 0 ≤ q + 1 by omega), if_pos (by omega), take_eq _ (h01.drop _) k (by decide)]
      simp only [Option.bind_some]
      have hT := takeL_bd (w := (k : Int)) (h01.drop (q + 1).toNat)
      generalize takeL (l.drop (q + 1).toNat) (k : Int) = x at hT ⊢
      obtain ⟨x, e2⟩ := x
      simp only at hT ⊢
      by_cases c2 : e2 = 0
      · subst c2
        have hT := hT rfl
        rw [Int.toNat_natCast] at hT
        have hm0 : 0 ≤ q * 2 ^ k := Int.mul_nonneg hq0 (by omega)
        have hm1 : q * 2 ^ k ≤ 20 * 65536 := Int.le_trans (Int.mul_le_mul_of_nonneg_right (show q ≤ 20 by omega) (by omega)) (Int.mul_le_mul_of_nonneg_left hp.2 (by omega))
        have hdiv : (q * 2 ^ k + x) / 2 ^ k = q := by
          rw [Int.add_comm, Int.add_mul_ediv_right _ _ (by omega), (div0 hT.2.2.1).mpr hT.2.2.2.1, Int.zero_add]
        rw [power_eq (by omega) (by omega) (by simp; omega)]
        simp only [Option.bind_some, if_true, not_true_eq_false, if_false, hq1, Int.toNat_natCast]
        rw [w64 (x := q * 2 ^ k) (by omega) (by omega), w64 (x := q * 2 ^ k + x) (by omega) (by omega), code_eq n s d _ (by decide)]
        simp only [Option.bind_some]
        generalize hu : q * 2 ^ k + x = u at hdiv ⊢
        have hu0 : 0 ≤ u := by omega
        have hcf := codeL_fits h hu0
        by_cases c3 : u / 2 ^ d.toNat = 0
        · have hcode : codeL n s d u = (symL k d.toNat u, 0) := by unfold codeL; rw [if_pos (hcf.mpr c3), hK]
          rw [hcode]
          simp only [if_true, c3, not_true_eq_false, if_false]
          rw [w64 (by omega) (by omega), symL_len, hdiv, if_neg (show ¬ 20 ≤ q by omega), if_pos (show ((q.toNat + 1 + k : Nat) : Int) = q + 1 + k by omega)]
        · have hcode : codeL n s d u = ([], 1) := by unfold codeL; rw [if_neg (fun q => c3 (hcf.mp q))]
          rw [hcode]
          simp only [c3, not_false_eq_true, if_true, show ¬ (1 : Int) = 0 by decide, if_false]
      · simp only [c2, not_false_eq_true, if_true, if_false]
    · rfl
  · rw [if_neg h, if_pos h, if_neg (by decide)]
end Go.Proofs.Ytnjfojpjfmnmcaa.Rice
