/- The walks of BitsNil and BitsSplit. -/
import Derived.Test.YthplmngignmieaaBitsAwake
namespace Go.Proofs.Ythplmngignmieaa.Bits
open Go.RowKit Go.Proofs.YthplmngignmieaaW.PrintWords Go.Proofs.YthplmngignmieaaW.PrintMore Go.Proofs.Ythplmngignmieaa.BP
set_option linter.unusedVariables false
set_option linter.unusedSimpArgs false

set_option maxHeartbeats 800000 in
theorem nil_walk (n width : Int) (w : World) : Calls Try.prog 5 #[.int .i64 n, .int .i64 width] w fun e w' => e = .returned (.bool true) ∧ Below w.heap.size w w' := by
  go_enter Try.func5, Try.ntmps5
  go_wp2_with fail
  refine (take_nil _ _).mono ?_
  rintro e w' ⟨rfl, rfl⟩
  go_wp2_with fail
  refine (rones_nil _ _).mono ?_
  rintro e w' ⟨rfl, rfl⟩
  go_wp2_with fail
  refine (awake_calls _).mono ?_
  rintro e w1 ⟨rfl, hB⟩
  have HB := Aside0.mk hB
  clear hB
  go_wp2_with fail
  refine (put_nil _ _ _).mono ?_
  rintro e w' ⟨rfl, rfl⟩
  go_wp2_with fail
  refine (ones_nil _ _ _).mono ?_
  rintro e w' ⟨rfl, rfl⟩
  go_wp2_with fail
  refine (len_nil _).mono ?_
  rintro e w' ⟨rfl, rfl⟩
  go_wp2_with fail
  refine (bytes_nil _).mono ?_
  rintro e w' ⟨rfl, rfl⟩
  go_wp2_with fail
  refine (at_nil _).mono ?_
  rintro e w' ⟨rfl, rfl⟩
  go_wp2_with fail
  refine (left_nil _).mono ?_
  rintro e w' ⟨rfl, rfl⟩
  go_wp2_with fail
  refine (end_nil _).mono ?_
  rintro e w' ⟨rfl, rfl⟩
  go_wp2
  go_ret
  exact ⟨rfl, HB.out⟩

theorem testBit_mod {x : Nat} {c m : Nat} (h : m < c) : x % 2 ^ c / 2 ^ m % 2 = x / 2 ^ m % 2 := by
  have h1 := Nat.testBit_mod_two_pow x c m
  rw [decide_eq_true h, Bool.true_and] at h1
  have e1 := Nat.toNat_testBit (x % 2 ^ c) m
  have e2 := Nat.toNat_testBit x m
  rw [← e1, ← e2, h1]
theorem testBit_modI {x : Int} {c m : Nat} (h0 : 0 ≤ x) (h : m < c) : x % 2 ^ c / 2 ^ m % 2 = x / 2 ^ m % 2 := by
  obtain ⟨y, rfl⟩ := Int.eq_ofNat_of_zero_le h0
  have := testBit_mod (x := y) h
  exact_mod_cast this
/-- The upper bits ahead of the lower ones. -/
theorem numBits_split {x : Int} {w c : Nat} (h0 : 0 ≤ x) (hc : c ≤ w) : numBits x w = numBits (x / 2 ^ c) (w - c) ++ numBits (x % 2 ^ c) c := by
  refine List.ext_getElem? fun i => ?_
  rcases Nat.lt_or_ge i w with hi | hi
  · rw [numBits_get hi]
    rcases Nat.lt_or_ge i (w - c) with hj | hj
    · rw [List.getElem?_append_left (by rw [numBits_len]; exact hj), numBits_get hj, Int.ediv_ediv_of_nonneg (Int.le_of_lt (Int.pow_pos (by decide))), ← Int.pow_add, show c + (w - c - 1 - i) = w - 1 - i from by omega]
    · rw [List.getElem?_append_right (by rw [numBits_len]; exact hj), numBits_len, numBits_get (by omega), testBit_modI h0 (by omega), show c - 1 - (i - (w - c)) = w - 1 - i from by omega]
  · rw [List.getElem?_eq_none (by rw [numBits_len]; exact hi), List.getElem?_eq_none (by rw [List.length_append, numBits_len, numBits_len]; omega)]

theorem split_bad (n width cut : Int) (w : World) (h : width < 0 ∨ 32 < width ∨ cut < 0 ∨ width < cut) :
    Calls Try.prog 4 #[.int .u32 n, .int .i64 width, .int .i64 cut] w fun e w' => e = .returned (.bool true) ∧ Below w.heap.size w w' := by
  by_cases c0 : width < 0
  · have b : decide (width < 0) = true := decide_eq_true c0
    clear h
    go_enter Try.func4, Try.ntmps4
    go_wp2_with fail
    refine (awake_calls _).mono ?_
    rintro e w1 ⟨rfl, hB⟩
    go_wp2
    go_ret
    exact ⟨rfl, hB⟩
  have b0 : decide (width < 0) = false := decide_eq_false c0
  by_cases c1 : 32 < width
  · have b : decide (32 < width) = true := decide_eq_true c1
    clear h
    go_enter Try.func4, Try.ntmps4
    go_wp2_with fail
    refine (awake_calls _).mono ?_
    rintro e w1 ⟨rfl, hB⟩
    go_wp2
    go_ret
    exact ⟨rfl, hB⟩
  have b1 : decide (32 < width) = false := decide_eq_false c1
  by_cases c2 : cut < 0
  · have b : decide (cut < 0) = true := decide_eq_true c2
    clear h
    go_enter Try.func4, Try.ntmps4
    go_wp2_with fail
    refine (awake_calls _).mono ?_
    rintro e w1 ⟨rfl, hB⟩
    go_wp2
    go_ret
    exact ⟨rfl, hB⟩
  have b2 : decide (cut < 0) = false := decide_eq_false c2
  have b : decide (width < cut) = true := decide_eq_true (by omega)
  clear h
  go_enter Try.func4, Try.ntmps4
  go_wp2_with fail
  refine (awake_calls _).mono ?_
  rintro e w1 ⟨rfl, hB⟩
  go_wp2
  go_ret
  exact ⟨rfl, hB⟩

set_option maxHeartbeats 800000 in
theorem split_good (n width cut : Int) (w : World) (hn0 : 0 ≤ n) (hn1 : n < 4294967296) (hw0 : 0 ≤ width) (hw1 : width ≤ 32) (hc0 : 0 ≤ cut) (hc1 : cut ≤ width) :
    Calls Try.prog 4 #[.int .u32 n, .int .i64 width, .int .i64 cut] w fun e w' => e = .returned (.bool true) ∧ Below w.heap.size w w' := by
  have b0 : decide (width < 0) = false := decide_eq_false (by omega)
  have b1 : decide (32 < width) = false := decide_eq_false (by omega)
  have b2 : decide (cut < 0) = false := decide_eq_false (by omega)
  have b3 : decide (width < cut) = false := decide_eq_false (by omega)
  have hwc : width - cut ≤ 32 := by omega
  obtain ⟨x, hx⟩ : ∃ x, x = n / 2 ^ (32 - width).toNat := ⟨_, rfl⟩
  have hx0 : 0 ≤ x := by rw [hx]; exact Int.ediv_nonneg hn0 (Int.le_of_lt (Int.pow_pos (by decide)))
  have hxq : x / 2 ^ width.toNat = 0 := by
    rw [hx, Int.ediv_ediv_of_nonneg (Int.le_of_lt (Int.pow_pos (by decide))), ← Int.pow_add, show (32 - width).toNat + width.toNat = 32 from by omega]
    omega
  have hx1 : x ≤ n := by rw [hx]; exact Int.ediv_le_self _ hn0
  have hpc : (0 : Int) < 2 ^ cut.toNat := Int.pow_pos (by decide)
  have hy0 : 0 ≤ x / 2 ^ cut.toNat := Int.ediv_nonneg hx0 (Int.le_of_lt hpc)
  have hz0 : 0 ≤ x / 2 ^ cut.toNat * 2 ^ cut.toNat := Int.mul_nonneg hy0 (Int.le_of_lt hpc)
  have hz1 : x / 2 ^ cut.toNat * 2 ^ cut.toNat ≤ x := Int.ediv_mul_le _ (by omega)
  have hyq : x / 2 ^ cut.toNat / 2 ^ (width - cut).toNat = 0 := by
    rw [Int.ediv_ediv_of_nonneg (Int.le_of_lt hpc), ← Int.pow_add, show cut.toNat + (width - cut).toNat = width.toNat from by omega]
    exact hxq
  have hm : x - x / 2 ^ cut.toNat * 2 ^ cut.toNat = x % 2 ^ cut.toNat := by
    have := Int.mul_ediv_add_emod x (2 ^ cut.toNat)
    rw [Int.mul_comm] at this
    omega
  have hr0 : 0 ≤ x - x / 2 ^ cut.toNat * 2 ^ cut.toNat := by omega
  have hrq : (x - x / 2 ^ cut.toNat * 2 ^ cut.toNat) / 2 ^ cut.toNat = 0 := by
    rw [hm]
    exact Int.ediv_eq_zero_of_lt (Int.emod_nonneg _ (by omega)) (Int.emod_lt_of_pos _ hpc)
  have HXQ := Aside0.mk hxq
  have HYQ := Aside0.mk hyq
  have HRQ := Aside0.mk hrq
  have HM := Aside0.mk hm
  have HX := Aside0.mk hx
  clear hxq hyq hrq hm hpc hx
  go_enter Try.func4, Try.ntmps4
  go_wp2_with fail
  refine (new_calls _).mono ?_
  rintro e w1 ⟨g, rfl, hW, hB⟩
  have HG : Aside0 (IsW w1 g (fun k => w.heap.size ≤ k ∧ k < w1.heap.size) []) := ⟨hW.bound⟩
  have HB := Aside0.mk hB
  clear hW hB
  go_wp2_with fail
  refine (new_calls _).mono ?_
  rintro e w2 ⟨g2, rfl, hW, hB⟩
  have HG2 : Aside0 (IsW w2 g (fun k => w.heap.size ≤ k ∧ k < w1.heap.size) []) := ⟨HG.out.below hB⟩
  have HH2 : Aside0 (IsW w2 g2 (fun k => w1.heap.size ≤ k) []) := ⟨hW⟩
  have HB2 : Aside0 (Below w.heap.size w w2) := ⟨below_step HB.out hB⟩
  have HS12 : Aside0 (w1.heap.size ≤ w2.heap.size) := ⟨hB.size⟩
  have HS01 : Aside0 (w.heap.size ≤ w1.heap.size) := ⟨HB.out.size⟩
  clear hW hB HG HB
  go_wp2_with fail
  refine (awake_calls _).mono ?_
  rintro e w3 ⟨rfl, hB⟩
  have HG3 : Aside0 (IsW w3 g (fun k => w.heap.size ≤ k ∧ k < w1.heap.size) []) := ⟨HG2.out.below hB⟩
  have HH3 : Aside0 (IsW w3 g2 (fun k => w1.heap.size ≤ k ∧ k < w2.heap.size) []) := ⟨(HH2.out.bound).below hB⟩
  have HB3 : Aside0 (Below w.heap.size w w3) := ⟨below_step HB2.out hB⟩
  have HS23 : Aside0 (w2.heap.size ≤ w3.heap.size) := ⟨hB.size⟩
  clear hB HG2 HH2 HB2
  go_wp2_with fail
  rw [← HX.out]
  refine (put_ok g _ _ x width w3 HG3.out hw0 hw1 hx0 HXQ.out (by decide)).mono ?_
  rintro e w4 ⟨rfl, hW, hK⟩
  have HG4 : Aside0 (IsW w4 g (fun k => (w.heap.size ≤ k ∧ k < w1.heap.size) ∨ (w3.heap.size ≤ k ∧ k < w4.heap.size)) (numBits x width.toNat)) := ⟨hW.bound.mono (fun k hk => hk.1.elim .inl (fun h => .inr ⟨h, hk.2⟩))⟩
  have HH4 : Aside0 (IsW w4 g2 (fun k => w1.heap.size ≤ k ∧ k < w2.heap.size) []) := ⟨HH3.out.kept hK.1 (fun k hk h => by omega)⟩
  have HB4 : Aside0 (Below w.heap.size w w4) := ⟨below_kp HB3.out hK (fun k hk => hk.1) (Nat.le_refl _)⟩
  have HS34 : Aside0 (w3.heap.size ≤ w4.heap.size) := ⟨hK.size⟩
  clear hW hK HG3 HH3 HB3
  go_wp2_with fail
  refine (put_ok g2 _ _ _ _ w4 HH4.out (by omega) hwc hy0 HYQ.out (by decide)).mono ?_
  rintro e w5 ⟨rfl, hW, hK⟩
  have HG5 : Aside0 (IsW w5 g (fun k => (w.heap.size ≤ k ∧ k < w1.heap.size) ∨ (w3.heap.size ≤ k ∧ k < w4.heap.size)) (numBits x width.toNat)) := ⟨HG4.out.kept hK.1 (fun k hk h => by have := HS23.out; omega)⟩
  have HH5 : Aside0 (IsW w5 g2 (fun k => (w1.heap.size ≤ k ∧ k < w2.heap.size) ∨ w4.heap.size ≤ k) (numBits (x / 2 ^ cut.toNat) (width - cut).toNat)) := ⟨hW⟩
  have HB5 : Aside0 (Below w.heap.size w w5) := ⟨below_kp HB4.out hK (fun k hk => Nat.le_trans HS01.out hk.1) (Nat.le_refl _)⟩
  have HS45 : Aside0 (w4.heap.size ≤ w5.heap.size) := ⟨hK.size⟩
  clear hW hK HG4 HH4 HB4
  go_wp2_with fail
  refine (put_ok g2 _ _ _ _ w5 HH5.out hc0 (by omega) hr0 HRQ.out (by rw [numBits_len]; omega)).mono ?_
  rintro e w6 ⟨rfl, hW, hK⟩
  have HG6 : Aside0 (IsW w6 g (fun k => (w.heap.size ≤ k ∧ k < w1.heap.size) ∨ (w3.heap.size ≤ k ∧ k < w4.heap.size)) (numBits x width.toNat)) := ⟨HG5.out.kept hK.1 (fun k hk h => by have := HS23.out; have := HS12.out; have := HS34.out; omega)⟩
  have HH6 : Aside0 (IsW w6 g2 (fun _ => True) (numBits x width.toNat)) := ⟨by
    rw [numBits_split hx0 (c := cut.toNat) (by omega), ← HM.out, show width.toNat - cut.toNat = (width - cut).toNat from by omega]
    exact hW.mono (fun _ _ => trivial)⟩
  have HB6 : Aside0 (Below w.heap.size w w6) := ⟨below_kp HB5.out hK (fun k hk => by have := HS01.out; have := HS12.out; have := HS23.out; have := HS34.out; omega) (Nat.le_refl _)⟩
  clear hW hK HG5 HH5 HB5
  have hnl := numBits_len x width.toNat
  have HNL := Aside0.mk hnl
  generalize hbs : numBits x width.toNat = bs at HG6 HH6 hnl
  have t9 : ((bs.length : Int) == width) = true := by rw [hnl]; simp; omega
  have hbl : bs.length < 1099511627776 := by omega
  clear hnl hbs
  go_wp2_with fail
  refine (len_calls g _ _ w6 HG6.out hbl).mono ?_
  rintro e w7 ⟨rfl, ⟨m, rfl⟩⟩
  have HG7 : Aside0 (IsW (w6.drewN m) g (fun k => (w.heap.size ≤ k ∧ k < w1.heap.size) ∨ (w3.heap.size ≤ k ∧ k < w4.heap.size)) bs) := HG6
  have HH7 : Aside0 (IsW (w6.drewN m) g2 (fun _ => True) bs) := HH6
  have HB7 : Aside0 (Below w.heap.size w (w6.drewN m)) := ⟨pw_below_drewN HB6.out m⟩
  generalize w6.drewN m = w7 at HG7 HH7 HB7 ⊢
  clear HG6 HH6 HB6
  go_wp2_with fail
  refine (bytes_calls g _ _ w7 HG7.out hbl).mono ?_
  rintro e w8 ⟨v, rfl, hR, hB⟩
  obtain ⟨A, c, rfl⟩ := Kd.R_slice hR
  have HC : Aside0 (Kd.C (Kd.int .u8) w8 A (packB bs).length (packB bs)) := ⟨(Kd.R_reads' hR).2.2⟩
  have HH8 : Aside0 (IsW w8 g2 (fun _ => True) bs) := ⟨HH7.out.below hB⟩
  have HB8 : Aside0 (Below w.heap.size w w8) := ⟨below_step HB7.out hB⟩
  clear hR hB HG7 HH7 HB7
  go_wp2_with fail
  refine (bytes_calls g2 _ _ w8 HH8.out hbl).mono ?_
  rintro e w9 ⟨v, rfl, hR, hB⟩
  obtain ⟨A2, c2, rfl⟩ := Kd.R_slice hR
  have HC2 : Aside0 (Kd.C (Kd.int .u8) w9 A2 (packB bs).length (packB bs)) := ⟨(Kd.R_reads' hR).2.2⟩
  have HC1 : Aside0 (Kd.C (Kd.int .u8) w9 A (packB bs).length (packB bs)) := ⟨Kd.C_below HC.out hB⟩
  have HB9 : Aside0 (Below w.heap.size w w9) := ⟨below_step HB8.out hB⟩
  have hpl : (packB bs).length < 1099511627776 := by rw [packB_len]; omega
  clear hR hB HC HH8 HB8
  go_wp2_with fail
  refine (same_calls A A2 c c2 _ _ _ HC1.out HC2.out hpl hpl).mono ?_
  rintro e w10 ⟨rfl, ⟨m2, rfl⟩⟩
  go_wp2
  go_ret
  exact ⟨by simp, pw_below_drewN HB9.out _⟩

theorem split_walk (n width cut : Int) (w : World) (hn0 : 0 ≤ n) (hn1 : n < 4294967296) :
    Calls Try.prog 4 #[.int .u32 n, .int .i64 width, .int .i64 cut] w fun e w' => e = .returned (.bool true) ∧ Below w.heap.size w w' := by
  by_cases h : width < 0 ∨ 32 < width ∨ cut < 0 ∨ width < cut
  · exact split_bad n width cut w h
  · exact split_good n width cut w hn0 hn1 (by omega) (by omega) (by omega) (by omega)
end Go.Proofs.Ythplmngignmieaa.Bits
