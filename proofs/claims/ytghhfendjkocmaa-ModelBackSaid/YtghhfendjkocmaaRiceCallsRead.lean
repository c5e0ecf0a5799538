/- The reference's Read, walked once. -/
import Derived.Test.YtghhfendjkocmaaRiceCalls
namespace Go.Proofs.Ytghhfendjkocmaa.Rice
open Go.RowKit Go.Proofs.Ytghhfendjkocmaa.Bits Go.Proofs.YtghhfendjkocmaaW.PrintWords Go.Proofs.YtghhfendjkocmaaW.PrintMore Go.Proofs.Ytghhfendjkocmaa.BP
set_option linter.unusedVariables false
set_option linter.unusedSimpArgs false

theorem takeS_bad {l : List Int} {n s d : Int} (h : ¬ FitsP n s d 0) : takeS l n s d = (0, 0, 1) := by unfold takeS; rw [if_pos h]
theorem takeS_ones {l : List Int} {n s d q e c : Int} (h : FitsP n s d 0) (ho : onesL l 20 = (q, e, c)) (he : e ≠ 0) : takeS l n s d = (0, 0, e) := by
  unfold takeS; rw [if_neg (fun x => x h), ho]; exact if_pos he
theorem takeS_20 {l : List Int} {n s d x e : Int} (h : FitsP n s d 0) (ho : onesL l 20 = (20, 0, 20)) (ht : takeL (l.drop 20) d = (x, e)) :
    takeS l n s d = if e ≠ 0 then (0, 0, e) else if x / 2 ^ paramK n s d.toNat < 20 then (0, 0, 3) else (x, 20 + d, 0) := by
  unfold takeS
  rw [if_neg (fun x => x h), ho]
  simp only [ne_eq, not_true_eq_false, if_false, if_true]
  rw [show (20 : Int).toNat = 20 from rfl, ht]
theorem takeS_lt {l : List Int} {n s d q x e : Int} (h : FitsP n s d 0) (ho : onesL l 20 = (q, 0, q + 1)) (hq : q < 20) (ht : takeL (l.drop (q + 1).toNat) (paramK n s d.toNat) = (x, e)) :
    takeS l n s d = if e ≠ 0 then (0, 0, e) else if (q * 2 ^ paramK n s d.toNat + x) / 2 ^ d.toNat ≠ 0 then (0, 0, 3) else (q * 2 ^ paramK n s d.toNat + x, q + 1 + paramK n s d.toNat, 0) := by
  have hq20 : ¬ q = 20 := by omega
  unfold takeS
  rw [if_neg (fun x => x h), ho]
  simp only [ne_eq, not_true_eq_false, if_false, hq20, ht]
/-- Behind twenty ones: how long the symbol's code would be. -/
theorem len_20 {n s d x : Int} (h : FitsP n s d 0) (h0 : 0 ≤ x) (h1 : x < 2 ^ d.toNat) : ∃ ys, codeL n s d x = (ys, 0) ∧ (((ys.length : Int) = 20 + d) ↔ ¬ x / 2 ^ paramK n s d.toNat < 20) := by
  have hf : FitsP n s d x := (codeL_fits h h0).mpr ((div0 h0).mpr h1)
  refine ⟨symL (paramK n s d.toNat) d.toNat x, by unfold codeL; rw [if_pos hf], ?_⟩
  have hd := hf.2.1
  have hkd := paramK_le n s d.toNat
  rw [symL_len]
  generalize paramK n s d.toNat = k at hkd
  have hx0 : 0 ≤ x / 2 ^ k := Int.ediv_nonneg h0 (Int.le_of_lt (Int.pow_pos (by decide)))
  by_cases c : 20 ≤ x / 2 ^ k
  · rw [if_pos c]; constructor <;> intro _ <;> omega
  · rw [if_neg c]
    constructor
    · intro hh
      have hk : k = d.toNat := by omega
      have : x / 2 ^ k = 0 := by rw [hk]; exact (div0 h0).mpr h1
      omega
    · intro hh; omega
/-- Behind fewer ones. -/
theorem len_lt {n s d q x : Int} (h : FitsP n s d 0) (hq0 : 0 ≤ q) (hq : q < 20) (h0 : 0 ≤ x) (h1 : x < 2 ^ paramK n s d.toNat) :
    (0 ≤ q * 2 ^ paramK n s d.toNat ∧ q * 2 ^ paramK n s d.toNat ≤ 1310720) ∧ (((q * 2 ^ paramK n s d.toNat + x) / 2 ^ d.toNat ≠ 0 ∧ codeL n s d (q * 2 ^ paramK n s d.toNat + x) = ([], 1)) ∨
      ((q * 2 ^ paramK n s d.toNat + x) / 2 ^ d.toNat = 0 ∧ ∃ ys, codeL n s d (q * 2 ^ paramK n s d.toNat + x) = (ys, 0) ∧ (ys.length : Int) = q + 1 + paramK n s d.toNat)) := by
  have hk := paramK_16 h
  have hp := pow16 hk
  have hm0 : 0 ≤ q * 2 ^ paramK n s d.toNat := Int.mul_nonneg hq0 (by omega)
  have hm1 : q * 2 ^ paramK n s d.toNat ≤ 20 * 65536 := Int.le_trans (Int.mul_le_mul_of_nonneg_right (show q ≤ 20 by omega) (by omega)) (Int.mul_le_mul_of_nonneg_left hp.2 (by omega))
  have hdiv : (q * 2 ^ paramK n s d.toNat + x) / 2 ^ paramK n s d.toNat = q := by
    rw [Int.add_comm, Int.add_mul_ediv_right _ _ (by omega), (div0 h0).mpr h1, Int.zero_add]
  refine ⟨⟨hm0, by omega⟩, ?_⟩
  have hcf := codeL_fits h (show 0 ≤ q * 2 ^ paramK n s d.toNat + x by omega)
  by_cases c : (q * 2 ^ paramK n s d.toNat + x) / 2 ^ d.toNat = 0
  · right
    refine ⟨c, symL (paramK n s d.toNat) d.toNat (q * 2 ^ paramK n s d.toNat + x), by unfold codeL; rw [if_pos (hcf.mpr c)], ?_⟩
    rw [symL_len, hdiv, if_neg (show ¬ 20 ≤ q by omega)]
    omega
  · left
    exact ⟨c, by unfold codeL; rw [if_neg (fun q => c (hcf.mp q))]⟩
theorem ret_tri {p q : Int × Int × Int} (h : p = q) : Ending.returned (.tuple #[.int .i64 q.1, .int .i64 q.2.1, .int .i64 q.2.2]) = Ending.returned (.tuple #[.int .i64 p.1, .int .i64 p.2.1, .int .i64 p.2.2]) := by rw [h]
/-- Code's contract, its answer under names. -/
def CodeIs (n s d u : Int) (ys : List Int) (f : Int) : Prop := ∀ W : World, Calls Try.prog 13 #[.agg #[.int .i64 n, .int .i64 s], .int .i64 d, .int .i64 u] W fun e w' =>
  ∃ A c, e = .returned (.tuple #[.slice A ys.length c, .int .i64 f]) ∧ Below W.heap.size W w'
theorem codeIs {n s d u : Int} {ys : List Int} {f : Int} (h : codeL n s d u = (ys, f)) : CodeIs n s d u ys f := fun W => by
  refine (code_calls n s d u W).mono ?_
  rintro e w' ⟨v, rfl, hR, hB⟩
  rw [h] at hR ⊢
  obtain ⟨A, c, rfl⟩ := Kd.R_slice hR
  exact ⟨A, c, rfl, hB⟩
set_option maxHeartbeats 1000000 in
theorem read_calls (A : Option Addr) (c : Nat) (l : List Int) (n s d : Int) (w : World) (hC : Kd.C (Kd.int .i64) w A l.length l) (hc : l.length ≤ c) (h01 : B01 l) (hl : l.length < 140737488355328) :
    Calls Try.prog 23 #[.slice A l.length c, .agg #[.int .i64 n, .int .i64 s], .int .i64 d] w fun e w' => e = .returned (.tuple #[.int .i64 (takeS l n s d).1, .int .i64 (takeS l n s d).2.1, .int .i64 (takeS l n s d).2.2]) ∧ Below w.heap.size w w' := by
  have hu := Try.underlying36
  have HB := Aside0.mk (below_alloc (Below.refl w.heap.size w) (.cells #[.int .i64 n, .int .i64 s] 36))
  have HC := Aside0.mk hC
  have H01 := Aside0.mk h01
  clear hC
  by_cases c0 : FitsP n s d 0
  case neg =>
    have HP : Aside0 (paramL n s d = (0, 1)) := ⟨by unfold paramL; rw [if_neg c0]⟩
    have HR := Aside0.mk (takeS_bad (l := l) c0)
    clear c0 h01
    go_enter Try.func23, Try.ntmps23
    go_wp2_with fail
    refine (refparam_calls n s d _).mono ?_
    rintro e w1 ⟨rfl, hB⟩
    have HB1 := Aside0.mk (below_step HB.out hB)
    have hb : w1.heap[w.heap.size]? = some (.cells #[.int .i64 n, .int .i64 s] 36 (0, 0)) := (hB.block _ (by simp)).trans (heap_alloc_new w _)
    have HK := Aside0.mk hb
    have hc0 : w1.cell? ⟨w.heap.size, 0, none⟩ = some (.int .i64 n) := (blk_cell HK.out 0).trans rfl
    have hc1 : w1.cell? ⟨w.heap.size, 1, none⟩ = some (.int .i64 s) := (blk_cell HK.out 1).trans rfl
    clear hB hb
    rw [HP.out]
    go_wp2
    go_ret3
    exact ⟨ret_tri HR.out, HB1.out⟩
  have HP : Aside0 (paramL n s d = ((paramK n s d.toNat : Int), 0)) := ⟨by unfold paramL; rw [if_pos c0]⟩
  have hd0 := c0.2.1
  have hd1 := c0.2.2.1
  have hk := paramK_16 c0
  have hpd := pow16 (k := d.toNat) (by omega)
  rcases onesL_20 l with ho | ho | ho
  · have hO : onesL l 20 = (20, 0, 20) := by generalize onesL l 20 = o at ho ⊢; obtain ⟨a, b, c⟩ := o; simp only at ho; rw [ho.1, ho.2.1, ho.2.2.1]
    have HO := Aside0.mk hO
    have hlen := ho.2.2.2
    obtain ⟨i022, hi022, _, hsz22, _⟩ := info_parts infoI
    obtain ⟨m, hm⟩ : ∃ m : Nat, (m : Int) = 20 := ⟨(20 : Int).toNat, by omega⟩
    have hml : m ≤ l.length := by omega
    obtain ⟨A9, hcut, hA9, hC9⟩ := print_drop_of (P := Try.prog) (Value.int .i64) 0 32 3 .i64 Try.underlying32 hi022 hsz22 A c l (m : Int) (by omega) (by omega) hc
    simp only [Int.toNat_natCast] at hcut hA9 hC9
    rw [hm] at hcut
    obtain ⟨D, hD⟩ : ∃ D, l.drop m = D := ⟨_, rfl⟩
    rw [hD] at hcut hA9 hC9
    have HA9 : Aside0 (∀ w', Kd.C (Kd.int .i64) w' A l.length l → Kd.C (Kd.int .i64) w' A9 D.length D) := ⟨fun w' h => Kd.C_of_reads (h1 := fun _ => rfl) (hA9 _ (Kd.reads_of_C h))⟩
    have HD01 : Aside0 (B01 D) := ⟨by rw [← hD]; exact h01.drop _⟩
    have HDl : Aside0 (D.length < 140737488355328) := ⟨by rw [← hD, List.length_drop]; omega⟩
    have hdm : l.drop (20 : Int).toNat = D := (congrArg (fun i : Int => l.drop i.toNat) hm).symm.trans hD
    clear hi022 hsz22 hA9 hC9
    obtain ⟨x, e2, hT⟩ : ∃ x e2, takeL D d = (x, e2) := ⟨_, _, rfl⟩
    have HT := Aside0.mk hT
    have hR := takeS_20 (l := l) (x := x) (e := e2) c0 hO ((congrArg (fun D => takeL D d) hdm).trans hT)
    by_cases ce : e2 = 0
    case neg =>
      have HR : Aside0 (takeS l n s d = (0, 0, e2)) := ⟨by rw [hR, if_pos ce]⟩
      have b1 : (e2 != 0) = true := bne_iff_ne.mpr ce
      generalize paramK n s d.toNat = k at hk HP
      clear c0 ho hO hD hdm hT hR ce h01
      go_enter Try.func23, Try.ntmps23
      go_wp2_with fail
      refine (refparam_calls n s d _).mono ?_
      rintro e w1 ⟨rfl, hB⟩
      have HB1 := Aside0.mk (below_step HB.out hB)
      have hb : w1.heap[w.heap.size]? = some (.cells #[.int .i64 n, .int .i64 s] 36 (0, 0)) := (hB.block _ (by simp)).trans (heap_alloc_new w _)
      have HK := Aside0.mk hb
      have hc0 : w1.cell? ⟨w.heap.size, 0, none⟩ = some (.int .i64 n) := (blk_cell HK.out 0).trans rfl
      have hc1 : w1.cell? ⟨w.heap.size, 1, none⟩ = some (.int .i64 s) := (blk_cell HK.out 1).trans rfl
      clear hB hb
      rw [HP.out]
      go_wp2_with fail
      refine (refcount_calls A c l 20 _ (Kd.C_below HC.out HB1.out) hl).mono ?_
      rintro e w9 ⟨rfl, hw⟩
      replace hw := hw.symm
      subst hw
      rw [HO.out]
      go_wp2_with fail
      refine (reftake_calls A9 (c - m) D d _ (HA9.out _ (Kd.C_below HC.out HB1.out)) HD01.out HDl.out).mono ?_
      rintro e w9 ⟨rfl, hw⟩
      replace hw := hw.symm
      subst hw
      rw [HT.out]
      go_wp2
      go_ret3
      exact ⟨ret_tri HR.out, HB1.out⟩
    subst ce
    have hbd := takeL_bd HD01.out (w := d) (by rw [hT])
    rw [hT] at hbd
    obtain ⟨ys, hcode, hlen2⟩ := len_20 c0 hbd.2.2.1 hbd.2.2.2.1
    have HCode := Aside0.mk (codeIs hcode)
    rw [if_neg (by decide)] at hR
    by_cases cx : x / 2 ^ paramK n s d.toNat < 20
    case pos =>
      have HR : Aside0 (takeS l n s d = (0, 0, 3)) := ⟨by rw [hR, if_pos cx]⟩
      have b2 : ((ys.length : Int) != 20 + d) = true := bne_iff_ne.mpr (fun h => hlen2.mp h cx)
      generalize paramK n s d.toNat = k at hk HP
      clear c0 ho hO hD hdm hT hR h01 hbd hcode hlen2 cx
      go_enter Try.func23, Try.ntmps23
      go_wp2_with fail
      refine (refparam_calls n s d _).mono ?_
      rintro e w1 ⟨rfl, hB⟩
      have HB1 := Aside0.mk (below_step HB.out hB)
      have hb : w1.heap[w.heap.size]? = some (.cells #[.int .i64 n, .int .i64 s] 36 (0, 0)) := (hB.block _ (by simp)).trans (heap_alloc_new w _)
      have HK := Aside0.mk hb
      have hc0 : w1.cell? ⟨w.heap.size, 0, none⟩ = some (.int .i64 n) := (blk_cell HK.out 0).trans rfl
      have hc1 : w1.cell? ⟨w.heap.size, 1, none⟩ = some (.int .i64 s) := (blk_cell HK.out 1).trans rfl
      clear hB hb
      rw [HP.out]
      go_wp2_with fail
      refine (refcount_calls A c l 20 _ (Kd.C_below HC.out HB1.out) hl).mono ?_
      rintro e w9 ⟨rfl, hw⟩
      replace hw := hw.symm
      subst hw
      rw [HO.out]
      go_wp2_with fail
      refine (reftake_calls A9 (c - m) D d _ (HA9.out _ (Kd.C_below HC.out HB1.out)) HD01.out HDl.out).mono ?_
      rintro e w9 ⟨rfl, hw⟩
      replace hw := hw.symm
      subst hw
      rw [HT.out]
      go_wp2_with fail
      refine (HCode.out _).mono ?_
      rintro e w2 ⟨A5, c5, rfl, hB⟩
      have HB2 := Aside0.mk (below_step HB1.out hB)
      clear hB
      go_wp2
      go_ret3
      exact ⟨ret_tri HR.out, HB2.out⟩
    have HR : Aside0 (takeS l n s d = (x, 20 + d, 0)) := ⟨by rw [hR, if_neg cx]⟩
    have b2 : ((ys.length : Int) != 20 + d) = false := bne_eq_false_iff_eq.mpr (hlen2.mpr cx)
    generalize paramK n s d.toNat = k at hk HP
    clear c0 ho hO hD hdm hT hR h01 hbd hcode hlen2 cx
    go_enter Try.func23, Try.ntmps23
    go_wp2_with fail
    refine (refparam_calls n s d _).mono ?_
    rintro e w1 ⟨rfl, hB⟩
    have HB1 := Aside0.mk (below_step HB.out hB)
    have hb : w1.heap[w.heap.size]? = some (.cells #[.int .i64 n, .int .i64 s] 36 (0, 0)) := (hB.block _ (by simp)).trans (heap_alloc_new w _)
    have HK := Aside0.mk hb
    have hc0 : w1.cell? ⟨w.heap.size, 0, none⟩ = some (.int .i64 n) := (blk_cell HK.out 0).trans rfl
    have hc1 : w1.cell? ⟨w.heap.size, 1, none⟩ = some (.int .i64 s) := (blk_cell HK.out 1).trans rfl
    clear hB hb
    rw [HP.out]
    go_wp2_with fail
    refine (refcount_calls A c l 20 _ (Kd.C_below HC.out HB1.out) hl).mono ?_
    rintro e w9 ⟨rfl, hw⟩
    replace hw := hw.symm
    subst hw
    rw [HO.out]
    go_wp2_with fail
    refine (reftake_calls A9 (c - m) D d _ (HA9.out _ (Kd.C_below HC.out HB1.out)) HD01.out HDl.out).mono ?_
    rintro e w9 ⟨rfl, hw⟩
    replace hw := hw.symm
    subst hw
    rw [HT.out]
    go_wp2_with fail
    refine (HCode.out _).mono ?_
    rintro e w2 ⟨A5, c5, rfl, hB⟩
    have HB2 := Aside0.mk (below_step HB1.out hB)
    clear hB
    go_wp2
    go_ret3
    exact ⟨ret_tri HR.out, HB2.out⟩
  · obtain ⟨q, hq⟩ : ∃ q, q = (onesL l 20).1 := ⟨_, rfl⟩
    have hO : onesL l 20 = (q, 0, q + 1) := by rw [hq]; generalize onesL l 20 = o at ho ⊢; obtain ⟨a, b, c⟩ := o; simp only at ho ⊢; rw [ho.1, ho.2.2.2.1]
    have HO := Aside0.mk hO
    have hq0 : 0 ≤ q := by rw [hq]; exact ho.2.1
    have hq1 : q < 20 := by rw [hq]; exact ho.2.2.1
    have hlen : q + 1 ≤ l.length := by rw [hq]; exact ho.2.2.2.2
    have b0 : (q == 20) = false := beq_eq_false_iff_ne.mpr (by omega)
    have b01 : decide (q < 20) = true := decide_eq_true hq1
    clear ho hq
    obtain ⟨i022, hi022, _, hsz22, _⟩ := info_parts infoI
    obtain ⟨m, hm⟩ : ∃ m : Nat, (m : Int) = (q + 1) := ⟨((q + 1) : Int).toNat, by omega⟩
    have hml : m ≤ l.length := by omega
    obtain ⟨A9, hcut, hA9, hC9⟩ := print_drop_of (P := Try.prog) (Value.int .i64) 0 32 3 .i64 Try.underlying32 hi022 hsz22 A c l (m : Int) (by omega) (by omega) hc
    simp only [Int.toNat_natCast] at hcut hA9 hC9
    rw [hm] at hcut
    obtain ⟨D, hD⟩ : ∃ D, l.drop m = D := ⟨_, rfl⟩
    rw [hD] at hcut hA9 hC9
    have HA9 : Aside0 (∀ w', Kd.C (Kd.int .i64) w' A l.length l → Kd.C (Kd.int .i64) w' A9 D.length D) := ⟨fun w' h => Kd.C_of_reads (h1 := fun _ => rfl) (hA9 _ (Kd.reads_of_C h))⟩
    have HD01 : Aside0 (B01 D) := ⟨by rw [← hD]; exact h01.drop _⟩
    have HDl : Aside0 (D.length < 140737488355328) := ⟨by rw [← hD, List.length_drop]; omega⟩
    have hdm : l.drop ((q + 1) : Int).toNat = D := (congrArg (fun i : Int => l.drop i.toNat) hm).symm.trans hD
    clear hi022 hsz22 hA9 hC9
    obtain ⟨x, e2, hT⟩ : ∃ x e2, takeL D (paramK n s d.toNat) = (x, e2) := ⟨_, _, rfl⟩
    have hR := takeS_lt (l := l) (x := x) (e := e2) c0 hO hq1 ((congrArg (fun D => takeL D _) hdm).trans hT)
    by_cases ce : e2 = 0
    case neg =>
      have HR : Aside0 (takeS l n s d = (0, 0, e2)) := ⟨by rw [hR, if_pos ce]⟩
      have b1 : (e2 != 0) = true := bne_iff_ne.mpr ce
      generalize paramK n s d.toNat = k at hk HP hT
      have HT := Aside0.mk hT
      clear c0 hO hD hdm hT hR ce h01
      go_enter Try.func23, Try.ntmps23
      go_wp2_with fail
      refine (refparam_calls n s d _).mono ?_
      rintro e w1 ⟨rfl, hB⟩
      have HB1 := Aside0.mk (below_step HB.out hB)
      have hb : w1.heap[w.heap.size]? = some (.cells #[.int .i64 n, .int .i64 s] 36 (0, 0)) := (hB.block _ (by simp)).trans (heap_alloc_new w _)
      have HK := Aside0.mk hb
      have hc0 : w1.cell? ⟨w.heap.size, 0, none⟩ = some (.int .i64 n) := (blk_cell HK.out 0).trans rfl
      have hc1 : w1.cell? ⟨w.heap.size, 1, none⟩ = some (.int .i64 s) := (blk_cell HK.out 1).trans rfl
      clear hB hb
      rw [HP.out]
      go_wp2_with fail
      refine (refcount_calls A c l 20 _ (Kd.C_below HC.out HB1.out) hl).mono ?_
      rintro e w9 ⟨rfl, hw⟩
      replace hw := hw.symm
      subst hw
      rw [HO.out]
      go_wp2_with fail
      refine (reftake_calls A9 (c - m) D k _ (HA9.out _ (Kd.C_below HC.out HB1.out)) HD01.out HDl.out).mono ?_
      rintro e w9 ⟨rfl, hw⟩
      replace hw := hw.symm
      subst hw
      rw [HT.out]
      go_wp2
      go_ret3
      exact ⟨ret_tri HR.out, HB1.out⟩
    subst ce
    have hbd := takeL_bd HD01.out (w := (paramK n s d.toNat : Int)) (by rw [hT])
    rw [hT, Int.toNat_natCast] at hbd
    have hx0 := hbd.2.2.1
    have hL := len_lt c0 hq0 hq1 hbd.2.2.1 hbd.2.2.2.1
    have hx1 : x < 65536 := by have := hbd.2.2.2.1; have := (pow16 hk).2; simp only at *; omega
    rw [if_neg (by decide)] at hR
    have HPK : Aside0 (PowIs (paramK n s d.toNat) (2 ^ paramK n s d.toNat)) := ⟨by have h := powIs (n := (paramK n s d.toNat : Int)) (by omega) (by omega); rwa [Int.toNat_natCast] at h⟩
    generalize paramK n s d.toNat = k at hk HP hT hL hR HPK
    generalize (2 : Int) ^ k = z at hL hR HPK
    have HT := Aside0.mk hT
    obtain ⟨⟨hm0, hm1⟩, hL⟩ := hL
    generalize hy : q * z = y at hm0 hm1 hL hR
    rcases hL with ⟨cd, hcode⟩ | ⟨cd, ys, hcode, hlen2⟩
    · have HR : Aside0 (takeS l n s d = (0, 0, 3)) := ⟨by rw [hR, if_pos cd]⟩
      have HCode := Aside0.mk (codeIs hcode)
      clear c0 hO hD hdm hT hR h01 hbd hcode cd
      go_enter Try.func23, Try.ntmps23
      go_wp2_with fail
      refine (refparam_calls n s d _).mono ?_
      rintro e w1 ⟨rfl, hB⟩
      have HB1 := Aside0.mk (below_step HB.out hB)
      have hb : w1.heap[w.heap.size]? = some (.cells #[.int .i64 n, .int .i64 s] 36 (0, 0)) := (hB.block _ (by simp)).trans (heap_alloc_new w _)
      have HK := Aside0.mk hb
      have hc0 : w1.cell? ⟨w.heap.size, 0, none⟩ = some (.int .i64 n) := (blk_cell HK.out 0).trans rfl
      have hc1 : w1.cell? ⟨w.heap.size, 1, none⟩ = some (.int .i64 s) := (blk_cell HK.out 1).trans rfl
      clear hB hb
      rw [HP.out]
      go_wp2_with fail
      refine (refcount_calls A c l 20 _ (Kd.C_below HC.out HB1.out) hl).mono ?_
      rintro e w9 ⟨rfl, hw⟩
      replace hw := hw.symm
      subst hw
      rw [HO.out]
      go_wp2_with fail
      refine (reftake_calls A9 (c - m) D k _ (HA9.out _ (Kd.C_below HC.out HB1.out)) HD01.out HDl.out).mono ?_
      rintro e w9 ⟨rfl, hw⟩
      replace hw := hw.symm
      subst hw
      rw [HT.out]
      go_wp2_with fail
      refine (HPK.out _).mono ?_
      rintro e w9 ⟨rfl, hw⟩
      replace hw := hw.symm
      subst hw
      go_wp2_with fail
      refine (HCode.out _).mono ?_
      rintro e w2 ⟨A5, c5, rfl, hB⟩
      have HB2 := Aside0.mk (below_step HB1.out hB)
      clear hB
      go_wp2
      go_ret3
      exact ⟨ret_tri HR.out, HB2.out⟩
    have HR : Aside0 (takeS l n s d = (y + x, q + 1 + k, 0)) := ⟨by rw [hR, if_neg (fun h => h cd)]⟩
    have HCode := Aside0.mk (codeIs hcode)
    have b2 : ((ys.length : Int) != q + 1 + k) = false := bne_eq_false_iff_eq.mpr hlen2
    clear c0 hO hD hdm hT hR h01 hbd hcode cd hlen2
    go_enter Try.func23, Try.ntmps23
    go_wp2_with fail
    refine (refparam_calls n s d _).mono ?_
    rintro e w1 ⟨rfl, hB⟩
    have HB1 := Aside0.mk (below_step HB.out hB)
    have hb : w1.heap[w.heap.size]? = some (.cells #[.int .i64 n, .int .i64 s] 36 (0, 0)) := (hB.block _ (by simp)).trans (heap_alloc_new w _)
    have HK := Aside0.mk hb
    have hc0 : w1.cell? ⟨w.heap.size, 0, none⟩ = some (.int .i64 n) := (blk_cell HK.out 0).trans rfl
    have hc1 : w1.cell? ⟨w.heap.size, 1, none⟩ = some (.int .i64 s) := (blk_cell HK.out 1).trans rfl
    clear hB hb
    rw [HP.out]
    go_wp2_with fail
    refine (refcount_calls A c l 20 _ (Kd.C_below HC.out HB1.out) hl).mono ?_
    rintro e w9 ⟨rfl, hw⟩
    replace hw := hw.symm
    subst hw
    rw [HO.out]
    go_wp2_with fail
    refine (reftake_calls A9 (c - m) D k _ (HA9.out _ (Kd.C_below HC.out HB1.out)) HD01.out HDl.out).mono ?_
    rintro e w9 ⟨rfl, hw⟩
    replace hw := hw.symm
    subst hw
    rw [HT.out]
    go_wp2_with fail
    refine (HPK.out _).mono ?_
    rintro e w9 ⟨rfl, hw⟩
    replace hw := hw.symm
    subst hw
    go_wp2_with fail
    refine (HCode.out _).mono ?_
    rintro e w2 ⟨A5, c5, rfl, hB⟩
    have HB2 := Aside0.mk (below_step HB1.out hB)
    clear hB
    go_wp2
    go_ret3
    exact ⟨ret_tri HR.out, HB2.out⟩
  · obtain ⟨q, e, cc, hO⟩ : ∃ q e cc, onesL l 20 = (q, e, cc) := ⟨_, _, _, rfl⟩
    have he : e = 2 := by rw [hO] at ho; exact ho
    subst he
    have HO := Aside0.mk hO
    have HR := Aside0.mk (takeS_ones (l := l) c0 hO (by decide))
    generalize paramK n s d.toNat = k at hk HP
    clear c0 ho hO h01
    go_enter Try.func23, Try.ntmps23
    go_wp2_with fail
    refine (refparam_calls n s d _).mono ?_
    rintro e w1 ⟨rfl, hB⟩
    have HB1 := Aside0.mk (below_step HB.out hB)
    have hb : w1.heap[w.heap.size]? = some (.cells #[.int .i64 n, .int .i64 s] 36 (0, 0)) := (hB.block _ (by simp)).trans (heap_alloc_new w _)
    have HK := Aside0.mk hb
    have hc0 : w1.cell? ⟨w.heap.size, 0, none⟩ = some (.int .i64 n) := (blk_cell HK.out 0).trans rfl
    have hc1 : w1.cell? ⟨w.heap.size, 1, none⟩ = some (.int .i64 s) := (blk_cell HK.out 1).trans rfl
    clear hB hb
    rw [HP.out]
    go_wp2_with fail
    refine (refcount_calls A c l 20 _ (Kd.C_below HC.out HB1.out) hl).mono ?_
    rintro e w9 ⟨rfl, hw⟩
    replace hw := hw.symm
    subst hw
    rw [HO.out]
    go_wp2
    go_ret3
    exact ⟨ret_tri HR.out, HB1.out⟩

end Go.Proofs.Ytghhfendjkocmaa.Rice
