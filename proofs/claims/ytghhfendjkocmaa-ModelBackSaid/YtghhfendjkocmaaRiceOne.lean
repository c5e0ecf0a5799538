/- RiceOne: the law and the walk. -/
import Derived.Test.YtghhfendjkocmaaRiceTakes
namespace Go.Proofs.Ytghhfendjkocmaa.Rice
open Go.RowKit Go.Proofs.Ytghhfendjkocmaa.Bits Go.Proofs.YtghhfendjkocmaaW.PrintWords Go.Proofs.YtghhfendjkocmaaW.PrintMore Go.Proofs.Ytghhfendjkocmaa.BP
set_option linter.unusedVariables false
set_option linter.unusedSimpArgs false


theorem blk_lt {w : World} {g : Nat} {o : Obj} (h : w.heap[g]? = some o) : g < w.heap.size := (Array.getElem?_eq_some_iff.mp h).1
theorem ones_stop (l : List Int) : ∀ m, ones l m < m → ones l m < l.length → l.getD (ones l m) 0 ≠ 1 := by
  induction l with
  | nil => intro m h h2; simp at h2
  | cons b t ih =>
    intro m h h2
    cases m with
    | zero => simp [ones] at h
    | succ m =>
      by_cases c : b = 1
      · simp only [ones, c, if_true] at h h2 ⊢
        simpa using ih m (by omega) (by simpa using h2)
      · simp only [ones, c, if_false] at h h2 ⊢
        simpa using c
theorem list_ext {a b : List Int} (hl : a.length = b.length) (h : ∀ i, i < a.length → a.getD i 0 = b.getD i 0) : a = b := eq_of_getD hl h
theorem numBits_bval : ∀ (w : Nat) (l : List Int), l.length = w → B01 l → numBits (bval l) w = l
  | 0, l, h, _ => by
    have : l = [] := List.length_eq_zero_iff.mp h
    subst this; simp [numBits]
  | w + 1, l, h, h01 => by
    have hne : l ≠ [] := by intro e; subst e; simp at h
    have e := List.dropLast_concat_getLast hne
    have hd : (l.dropLast).length = w := by rw [List.length_dropLast]; omega
    have hd01 : B01 l.dropLast := fun b hb => h01 b ((List.dropLast_sublist l).mem hb)
    have hx := h01 (l.getLast hne) (List.getLast_mem hne)
    rw [← e, bval_snoc, numBits_snoc]
    have e1 : (2 * bval l.dropLast + l.getLast hne) / 2 = bval l.dropLast := by omega
    have e2 : (2 * bval l.dropLast + l.getLast hne) % 2 = l.getLast hne := by omega
    rw [e1, e2, numBits_bval w _ hd hd01]
theorem take_ones (l : List Int) (h01 : B01 l) {q e c : Int} (h : onesL l 20 = (q, e, c)) (he : e = 0) : l.take c.toNat = if q = 20 then List.replicate 20 1 else List.replicate q.toNat 1 ++ [0] := by
  have hle := ones_le l (20 : Int).toNat
  have hall := ones_all l (20 : Int).toNat
  have hstop := ones_stop l (20 : Int).toNat
  have e20 : (20 : Int).toNat = 20 := rfl
  rw [e20] at hle hall hstop
  unfold onesL at h
  rw [if_neg (by decide), e20] at h
  by_cases c1 : ((ones l 20 : Nat) : Int) = 20
  · rw [if_pos c1] at h
    simp only [Prod.mk.injEq] at h
    obtain ⟨rfl, _, rfl⟩ := h
    rw [if_pos rfl]
    have h20 : ones l 20 = 20 := by omega
    refine list_ext (by rw [List.length_take, List.length_replicate]; omega) (fun i hi => ?_)
    rw [List.length_take] at hi
    have := hall 20 |> fun _ => hall i
    have hv := ones_all l 20 i (by omega)
    rw [List.getD_eq_getElem?_getD, List.getElem?_take, if_pos (by omega), ← List.getD_eq_getElem?_getD, hv]
    rw [List.getD_eq_getElem?_getD, List.getElem?_replicate, if_pos (by omega)]; rfl
  · rw [if_neg c1] at h
    by_cases c2 : ones l 20 = l.length
    · rw [if_pos c2] at h
      simp only [Prod.mk.injEq] at h
      omega
    · rw [if_neg c2] at h
      simp only [Prod.mk.injEq] at h
      obtain ⟨rfl, _, rfl⟩ := h
      rw [if_neg (by omega), Int.toNat_natCast]
      have hz : l.getD (ones l 20) 0 = 0 := by
        have h1 := hstop (by omega) (by omega)
        have := h01.getD (ones l 20)
        omega
      have ec : ((ones l 20 : Nat) + 1 : Int).toNat = ones l 20 + 1 := by omega
      rw [ec]
      refine list_ext (by rw [List.length_take, List.length_append, List.length_replicate, List.length_singleton]; omega) (fun i hi => ?_)
      rw [List.length_take] at hi
      rw [List.getD_eq_getElem?_getD, List.getElem?_take, if_pos (by omega), ← List.getD_eq_getElem?_getD]
      by_cases ci : i < ones l 20
      · rw [ones_all l 20 i ci, List.getD_eq_getElem?_getD, List.getElem?_append_left (by rw [List.length_replicate]; exact ci), List.getElem?_replicate, if_pos ci]; rfl
      · have : i = ones l 20 := by omega
        rw [this, hz, List.getD_eq_getElem?_getD, List.getElem?_append_right (by rw [List.length_replicate]; exact Nat.le_refl _)]
        simp
theorem takeL_bits {l : List Int} (h01 : B01 l) {w x : Int} (h : takeL l w = (x, 0)) : numBits x w.toNat = l.take w.toNat := by
  have hb := takeL_bd (w := w) h01 (by rw [h])
  unfold takeL at h
  rw [if_neg (by omega), if_neg (by omega)] at h
  have hx := (Prod.mk.inj h).1
  rw [← hx]
  exact numBits_bval w.toNat _ (by rw [List.length_take]; omega) (h01.take _)
theorem takeS_code {l : List Int} (h01 : B01 l) {n s d u c : Int} (h : takeS l n s d = (u, c, 0)) : codeL n s d u = (l.take c.toNat, 0) ∧ 1 ≤ c ∧ c ≤ 36 ∧ c ≤ l.length := by
  have hbd := takeS_bd h01 (n := n) (s := s) (d := d) (by rw [h])
  rw [h] at hbd
  simp only at hbd
  by_cases hf : FitsP n s d 0
  · have hO := onesL_20 l
    have hd0 := hf.2.1
    have hd1 := hf.2.2.1
    have hk := paramK_16 hf
    have hkd := paramK_le n s d.toNat
    obtain ⟨o, ho⟩ : ∃ o, onesL l 20 = o := ⟨_, rfl⟩
    rw [ho] at hO
    obtain ⟨q, e, cc⟩ := o
    simp only at hO
    rcases hO with ⟨rfl, rfl, rfl, hlen⟩ | ⟨rfl, hq0, hq1, rfl, hlen⟩ | rfl
    · have hb := takeL_bd (w := d) (h01.drop 20)
      obtain ⟨x, hx⟩ : ∃ x, takeL (l.drop 20) d = x := ⟨_, rfl⟩
      rw [hx] at hb
      obtain ⟨x, e2⟩ := x
      rw [takeS_20 (x := x) (e := e2) hf ho hx] at h
      by_cases c1 : e2 = 0
      · subst c1
        have hb := hb rfl
        rw [if_neg (by simp)] at h
        by_cases c2 : x / 2 ^ paramK n s d.toNat < 20
        · rw [if_pos c2] at h; simp at h
        · rw [if_neg c2] at h
          simp only [Prod.mk.injEq] at h
          obtain ⟨rfl, rfl, _⟩ := h
          have hxf : FitsP n s d x := (codeL_fits hf hb.2.2.1).mpr ((div0 hb.2.2.1).mpr hb.2.2.2.1)
          refine ⟨?_, by omega, by omega, by omega⟩
          unfold codeL
          rw [if_pos hxf]
          unfold symL
          rw [if_pos (by omega), takeL_bits (h01.drop 20) hx]
          have h1 := take_ones l h01 ho rfl
          rw [if_pos rfl, show (20 : Int).toNat = 20 from rfl] at h1
          rw [← h1, show (20 + d).toNat = 20 + d.toNat by omega, List.take_add]
      · rw [if_pos c1] at h
        simp only [Prod.mk.injEq] at h
        exact absurd h.2.2 c1
    · have hb := takeL_bd (w := (paramK n s d.toNat : Int)) (h01.drop (q + 1).toNat)
      obtain ⟨x, hx⟩ : ∃ x, takeL (l.drop (q + 1).toNat) (paramK n s d.toNat : Int) = x := ⟨_, rfl⟩
      rw [hx] at hb
      obtain ⟨x, e2⟩ := x
      rw [takeS_lt (x := x) (e := e2) hf ho hq1 hx] at h
      by_cases c1 : e2 = 0
      · subst c1
        have hb := hb rfl
        rw [Int.toNat_natCast] at hb
        rw [if_neg (by simp)] at h
        have h1 := take_ones l h01 ho rfl
        rw [if_neg (by omega)] at h1
        have h2 := takeL_bits (h01.drop (q + 1).toNat) hx
        rw [Int.toNat_natCast] at h2
        obtain ⟨k, hK⟩ : ∃ k, paramK n s d.toNat = k := ⟨_, rfl⟩
        rw [hK] at h h2 hb hk hkd
        have hp := pow16 hk
        have hm0 : 0 ≤ q * 2 ^ k := Int.mul_nonneg hq0 (by omega)
        have hdiv : (q * 2 ^ k + x) / 2 ^ k = q := by
          rw [Int.add_comm, Int.add_mul_ediv_right _ _ (by omega), (div0 hb.2.2.1).mpr hb.2.2.2.1, Int.zero_add]
        have hmod : (q * 2 ^ k + x) % 2 ^ k = x := by
          rw [Int.add_comm, Int.add_mul_emod_self_right]
          exact Int.emod_eq_of_lt hb.2.2.1 hb.2.2.2.1
        by_cases c2 : (q * 2 ^ k + x) / 2 ^ d.toNat = 0
        · rw [if_neg (fun z => z c2)] at h
          simp only [Prod.mk.injEq] at h
          obtain ⟨hu, rfl, _⟩ := h
          rw [hu] at hdiv hmod c2
          have hxf : FitsP n s d u := (codeL_fits hf (by omega)).mpr c2
          refine ⟨?_, by omega, by omega, by omega⟩
          unfold codeL
          rw [if_pos hxf, hK]
          unfold symL
          rw [hdiv, hmod, if_neg (by omega), h2, ← h1, show (q + 1 + (k : Int)).toNat = (q + 1).toNat + k by omega, List.take_add]
        · rw [if_pos c2] at h
          simp only [Prod.mk.injEq] at h
          omega
      · rw [if_pos c1] at h
        simp only [Prod.mk.injEq] at h
        exact absurd h.2.2 c1
    · rw [takeS_ones hf ho (by decide)] at h; simp at h
  · rw [takeS_bad hf] at h; simp at h
theorem takeS_err {l : List Int} {n s d u c f : Int} (h : takeS l n s d = (u, c, f)) (hf : f ≠ 0) : u = 0 := by
  unfold takeS at h
  (repeat' split at h) <;> (simp only [Prod.mk.injEq] at h; omega)
theorem take_one_app {ys r : List Int} {i : Nat} (h : i < ys.length) : ((ys ++ r).drop i).take 1 = (ys.drop i).take 1 := by
  rw [List.drop_append_of_le_length (by omega), List.take_append_of_le_length (by rw [List.length_drop]; omega)]

end Go.Proofs.Ytghhfendjkocmaa.Rice
