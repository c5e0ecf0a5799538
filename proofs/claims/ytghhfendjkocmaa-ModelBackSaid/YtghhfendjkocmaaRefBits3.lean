/- The references of layer 2 walked: Bits, Take, Count, End. -/
import Derived.Test.YtghhfendjkocmaaRefBits2
namespace Go.Proofs.Ytghhfendjkocmaa.Bits
open Go.RowKit Go.Proofs.YtghhfendjkocmaaW.PrintWords Go.Proofs.YtghhfendjkocmaaW.PrintMore Go.Proofs.Ytghhfendjkocmaa.BP
set_option linter.unusedVariables false
set_option linter.unusedSimpArgs false

theorem bitsOf_step (b : List Int) {k : Nat} (hk : k < b.length) : (bitsOf b).take (8 * (k + 1)) = (bitsOf b).take (8 * k) ++ numBits (b.getD k 0) 8 := by
  refine List.ext_getElem? fun i => ?_
  have hl : ((bitsOf b).take (8 * k)).length = 8 * k := by rw [List.length_take, bitsOf_len]; omega
  rcases Nat.lt_or_ge i (8 * k) with h | h
  · rw [List.getElem?_append_left (by omega), List.getElem?_take_of_lt (by omega), List.getElem?_take_of_lt h]
  · rw [List.getElem?_append_right (by omega), hl]
    rcases Nat.lt_or_ge i (8 * (k + 1)) with h2 | h2
    · rw [List.getElem?_take_of_lt h2, bitsOf_get (by omega), numBits_get (by omega), bitAt, show i / 8 = k from by omega, show 7 - i % 8 = 8 - 1 - (i - 8 * k) from by omega]
    · rw [List.getElem?_eq_none (by rw [List.length_take]; omega), List.getElem?_eq_none (by rw [numBits_len]; omega)]

set_option maxHeartbeats 800000 in
theorem refbits_calls (A : Option Addr) (c : Nat) (b : List Int) (w : World) (hC : Kd.C (Kd.int .u8) w A b.length b) (h8 : B8 b) (hl : b.length < 1099511627776) :
    Calls Try.prog 22 #[.slice A b.length c] w fun e w' => ∃ v, e = .returned v ∧ Kd.R (Kd.int .i64) 3 w' w.heap.size (fun _ => True) v (bitsOf b) ∧ Below w.heap.size w w' := by
  have HC := Aside0.mk hC
  clear hC
  go_enter Try.func22, Try.ntmps22
  go_wp2_with fail
  go_loopw [3, 4] (fun v3 v4 wr => ∃ (k : Nat) (xs : List Int), k ≤ b.length ∧ v4 = .int .i64 k ∧ Aside0 (xs = (bitsOf b).take (8 * k)) ∧ Aside0 (Kd.R (Kd.int .i64) 3 wr w.heap.size (fun _ => True) v3 xs) ∧ Aside0 (Below w.heap.size w wr))
    (fun _ v4 _ => ((b.length : Int) - intOf v4).toNat)
  case atStart => exact ⟨0, [], by omega, rfl, ⟨by simp⟩, ⟨Kd.R_nil _ _ _ _ _⟩, ⟨Below.refl _ _⟩⟩
  case round =>
    obtain ⟨k, xs, hk, rfl, HX, HO, HB⟩ := hrel
    obtain ⟨A1, c1, rfl⟩ := Kd.R_slice HO.out
    have HXL : Aside0 (xs.length = 8 * k) := ⟨by rw [HX.out, List.length_take, bitsOf_len]; omega⟩
    by_cases hlt : k < b.length
    · have t1 : decide ((k : Int) < (b.length : Int)) = true := decide_eq_true (by omega)
      have t2 : decide (k < b.length) = true := decide_eq_true hlt
      obtain ⟨ad, e1, hx⟩ := Kd.at_int HC.out (k : Int) (by omega) (by omega)
      cases e1
      have hxe : rd b (k : Int) = b.getD k 0 := rfl
      simp only [Int.toNat_natCast, hxe] at hx
      replace hx := (HB.out.cell (World.block_lt_of_cell? w _ hx)).trans hx
      have hbd := h8.getD k
      have HS := Aside0.mk (bitsOf_step b hlt)
      generalize hy : b.getD k 0 = y at hx hbd HS
      have hy0 : 0 ≤ y := hbd.1
      have hy1 : y < 256 := hbd.2
      clear hbd hxe hy
      go_wp2_with fail
      refine (plain_ok y 8 _ (by decide) (by decide) hy0 (by omega)).mono ?_
      rintro e w1 ⟨v, rfl, hR, hB⟩
      obtain ⟨A2, c2, rfl⟩ := Kd.R_slice hR
      have hN : (numBits y (8 : Int).toNat).length = 8 := by rw [numBits_len]; rfl
      have HR : Aside0 (Kd.C (Kd.int .i64) w1 A2 (numBits y (8 : Int).toNat).length (numBits y (8 : Int).toNat)) := ⟨(Kd.R_reads' hR).2.2⟩
      have HO1 : Aside0 (Kd.R (Kd.int .i64) 3 w1 w.heap.size (fun _ => True) (.slice A1 xs.length c1) xs) := ⟨Kd.R_below HO.out hB⟩
      have HB1 : Aside0 (Below w.heap.size w w1) := ⟨below_step HB.out hB⟩
      have hz := Aside0.mk HB1.out.size
      have hZ : Aside0 ((xs.length + (numBits y (8 : Int).toNat).length) * 8 ≤ 140737488355328) := ⟨by rw [hN, HXL.out]; omega⟩
      clear hR hB hN
      generalize hys : numBits y (8 : Int).toNat = ys at HR hZ ⊢
      have HYS := Aside0.mk hys
      clear hys
      go_wp2_with ((with_reducible refine gate_builtin (b := .append) (xs := #[.tmp 22, .tmp 23]) rfl ?_); at_builtin; refine Kd.R_append_row (Value.int .i64) 0 (w0 := w) (W := w1) w.heap.size rfl (.tmp 22) (.tmp 23) 32 3 (.int .i64 0) 8 rfl Try.underlying32 infoI rfl (by decide) (.slice A1 xs.length c1) xs ys A2 ys.length c2 (fun _ => True) rfl rfl (fun _ _ => trivial) HO1.out HR.out HB1.out hz.out hZ.out ?_; intro v1 w1 ho hb hg hat; have HO2 := Aside0.mk ho; have HB2 := Aside0.mk hb; clear ho hb hg hat)
      go_roundw
      case rel =>
        exact ⟨k + 1, xs ++ ys, by omega, by first | (simp; done) | (congr 1; omega), ⟨by rw [HS.out, HX.out, ← HYS.out]; rfl⟩, HO2, HB2⟩
      case measure => simp [intOf]; omega
    · have t1 : decide ((k : Int) < (b.length : Int)) = false := decide_eq_false (by omega)
      have t2 : decide (k < b.length) = false := decide_eq_false hlt
      go_wp2
      go_ret
      refine ⟨_, rfl, ?_, HB.out⟩
      have e : xs = bitsOf b := by rw [HX.out, List.take_of_length_le (by rw [bitsOf_len]; omega)]
      rw [← e]
      exact HO.out

theorem reftake_calls (A : Option Addr) (c : Nat) (l : List Int) (width : Int) (w : World) (hC : Kd.C (Kd.int .i64) w A l.length l) (h1 : B01 l) (hl : l.length < 140737488355328) :
    Calls Try.prog 37 #[.slice A l.length c, .int .i64 width] w fun e w' => e = .returned (.tuple #[.int .i64 (takeL l width).1, .int .i64 (takeL l width).2]) ∧ w' = w := by
  generalize hr : takeL l width = r
  have HR := Aside0.mk hr
  have HC := Aside0.mk hC
  unfold takeL at hr
  clear hC
  by_cases c1 : width < 0
  · rw [if_pos (.inl c1)] at hr
    subst hr
    have b1 : decide (width < 0) = true := decide_eq_true c1
    go_enter Try.func37, Try.ntmps37
    go_wp2
    go_ret2
    exact ⟨rfl, rfl⟩
  have b1 : decide (width < 0) = false := decide_eq_false c1
  by_cases c2 : 32 < width
  · rw [if_pos (.inr c2)] at hr
    subst hr
    have b2 : decide (32 < width) = true := decide_eq_true c2
    go_enter Try.func37, Try.ntmps37
    go_wp2
    go_ret2
    exact ⟨rfl, rfl⟩
  have b2 : decide (32 < width) = false := decide_eq_false c2
  rw [if_neg (by omega)] at hr
  by_cases c3 : (l.length : Int) < width
  · rw [if_pos c3] at hr
    subst hr
    have b3 : decide ((l.length : Int) < width) = true := decide_eq_true c3
    go_enter Try.func37, Try.ntmps37
    go_wp2
    go_ret2
    exact ⟨rfl, rfl⟩
  have b3 : decide ((l.length : Int) < width) = false := decide_eq_false c3
  rw [if_neg c3] at hr
  have HRR := Aside0.mk hr
  clear hr
  go_enter Try.func37, Try.ntmps37
  go_wp2_with fail
  go_loop [6, 7] (fun v6 v7 => ∃ k : Nat, (k : Int) ≤ width ∧ v6 = .int .i64 (bval (l.take k)) ∧ v7 = .int .i64 k) (fun _ v7 => (width - intOf v7).toNat)
  case atStart => exact ⟨0, by omega, rfl, rfl⟩
  case round =>
    obtain ⟨k, hk, rfl, rfl⟩ := hrel
    have hbb := bval_bd (h1.take k)
    have hlk : (l.take k).length ≤ k := List.length_take_le _ _
    have hpw : (2 : Int) ^ (l.take k).length ≤ 2 ^ 32 := pow_le32 (by omega)
    by_cases hlt : (k : Int) < width
    · have t1 : decide ((k : Int) < width) = true := decide_eq_true hlt
      have hkl : k < l.length := by omega
      obtain ⟨ad, e1, hx⟩ := Kd.at_int HC.out (k : Int) (by omega) (by omega)
      cases e1
      have hxe : rd l (k : Int) = l.getD k 0 := rfl
      simp only [Int.toNat_natCast, hxe] at hx
      have hbd := h1.getD k
      have hsu : bval (l.take (k + 1)) = 2 * bval (l.take k) + l.getD k 0 := by
        rw [List.take_add_one, List.getElem?_eq_getElem hkl, Option.toList_some, bval_snoc, List.getD_eq_getElem?_getD, List.getElem?_eq_getElem hkl]; rfl
      generalize hy : l.getD k 0 = y at hx hbd hsu
      generalize hn : bval (l.take k) = n at hbb hsu ⊢
      have HS := Aside0.mk hsu
      have hn0 : 0 ≤ n := hbb.1
      have hn1 : n < 4294967296 := by omega
      have hy0 : 0 ≤ y := hbd.1
      have hy1 : y ≤ 1 := hbd.2
      clear hbd hxe hy hbb hlk hpw hn hsu
      go_wp2_with fail
      go_round
      case rel => exact ⟨k + 1, by omega, by rw [HS.out], by first | (simp; done) | (congr 1; omega)⟩
      case measure => simp [intOf]; omega
    · have t1 : decide ((k : Int) < width) = false := decide_eq_false (by omega)
      obtain rfl : k = width.toNat := by omega
      generalize hn : bval (l.take width.toNat) = n at hbb ⊢
      have hn0 : 0 ≤ n := hbb.1
      have hn1 : n < 4294967296 := by omega
      have HN := Aside0.mk hn
      clear hbb hlk hpw hn
      go_wp2
      go_ret2
      refine ⟨?_, rfl⟩
      rw [← HRR.out, HN.out]
      rfl

theorem refcount_calls (A : Option Addr) (c : Nat) (l : List Int) (most : Int) (w : World) (hC : Kd.C (Kd.int .i64) w A l.length l) (hl : l.length < 140737488355328) :
    Calls Try.prog 36 #[.slice A l.length c, .int .i64 most] w fun e w' => e = .returned (.tuple #[.int .i64 (onesL l most).1, .int .i64 (onesL l most).2.2, .int .i64 (onesL l most).2.1]) ∧ w' = w := by
  generalize hr : onesL l most = r
  have HR := Aside0.mk hr
  have HC := Aside0.mk hC
  unfold onesL at hr
  clear hC
  by_cases c1 : most < 0
  · rw [if_pos (.inl c1)] at hr
    subst hr
    have b1 : decide (most < 0) = true := decide_eq_true c1
    go_enter Try.func36, Try.ntmps36
    go_wp2
    go_ret3
    exact ⟨rfl, rfl⟩
  have b1 : decide (most < 0) = false := decide_eq_false c1
  by_cases c2 : 64 < most
  · rw [if_pos (.inr c2)] at hr
    subst hr
    have b2 : decide (64 < most) = true := decide_eq_true c2
    go_enter Try.func36, Try.ntmps36
    go_wp2
    go_ret3
    exact ⟨rfl, rfl⟩
  have b2 : decide (64 < most) = false := decide_eq_false c2
  rw [if_neg (by omega)] at hr
  have HRR := Aside0.mk hr
  clear hr
  go_enter Try.func36, Try.ntmps36
  go_wp2_with fail
  go_loop [7] (fun v7 => ∃ k : Nat, (k : Int) ≤ most ∧ k ≤ l.length ∧ v7 = .int .i64 k ∧ Aside0 (∀ i, i < k → l.getD i 0 = 1)) (fun v7 => (most - intOf v7).toNat)
  case atStart => exact ⟨0, by omega, by omega, rfl, ⟨fun i hi => by omega⟩⟩
  case round =>
    obtain ⟨k, hk, hkl, rfl, HI⟩ := hrel
    by_cases hlt : (k : Int) < most
    · have t1 : decide ((k : Int) < most) = true := decide_eq_true hlt
      have t4 : ((k : Int) == most) = false := beq_eq_false_iff_ne.mpr (by omega)
      by_cases hin : k < l.length
      · have t2 : decide ((k : Int) < (l.length : Int)) = true := decide_eq_true (by omega)
        have t3 : decide (k < l.length) = true := decide_eq_true hin
        obtain ⟨ad, e1, hx⟩ := Kd.at_int HC.out (k : Int) (by omega) (by omega)
        cases e1
        have hxe : rd l (k : Int) = l.getD k 0 := rfl
        simp only [Int.toNat_natCast, hxe] at hx
        generalize hy : l.getD k 0 = y at hx
        have HY := Aside0.mk hy
        clear hxe hy
        by_cases h0 : y = 1
        · subst h0
          go_wp2_with fail
          go_round
          case rel =>
            refine ⟨k + 1, by omega, by omega, by first | (simp; done) | (congr 1; omega), ⟨fun i hi => ?_⟩⟩
            rcases Nat.lt_or_ge i k with h | h
            · exact HI.out i h
            · rw [show i = k from by omega]; exact HY.out
          case measure => simp [intOf]; omega
        · have t5 : (y == 1) = false := beq_eq_false_iff_ne.mpr h0
          have t6 : ((k : Int) == (l.length : Int)) = false := beq_eq_false_iff_ne.mpr (by omega)
          have t7 : (k == l.length) = false := beq_eq_false_iff_ne.mpr (by omega)
          have HK : Aside0 (ones l most.toNat = k) := ⟨ones_at l k most.toNat HI.out (by omega) hkl (.inr (.inr (by rw [HY.out]; exact h0)))⟩
          go_wp2
          go_ret3
          refine ⟨?_, rfl⟩
          have e := HRR.out
          rw [HK.out, if_neg (by omega), if_neg (by omega)] at e
          rw [← e]; rfl
      · have t2 : decide ((k : Int) < (l.length : Int)) = false := decide_eq_false (by omega)
        have t3 : decide (k < l.length) = false := decide_eq_false hin
        have t6 : ((k : Int) == (l.length : Int)) = true := beq_iff_eq.mpr (by omega)
        have t7 : (k == l.length) = true := beq_iff_eq.mpr (by omega)
        have HK : Aside0 (ones l most.toNat = k) := ⟨ones_at l k most.toNat HI.out (by omega) hkl (.inr (.inl (by omega)))⟩
        go_wp2
        go_ret3
        refine ⟨?_, rfl⟩
        have e := HRR.out
        rw [HK.out, if_neg (by omega), if_pos (by omega)] at e
        rw [← e]; rfl
    · have t1 : decide ((k : Int) < most) = false := decide_eq_false hlt
      have t4 : ((k : Int) == most) = true := beq_iff_eq.mpr (by omega)
      have HK : Aside0 (ones l most.toNat = k) := ⟨ones_at l k most.toNat HI.out (by omega) hkl (.inl (by omega))⟩
      have HKM : Aside0 ((k : Int) = most) := ⟨by omega⟩
      go_wp2
      go_ret3
      refine ⟨?_, rfl⟩
      have e := HRR.out
      rw [HK.out, if_pos HKM.out] at e
      rw [← e, ← HKM.out]; rfl
end Go.Proofs.Ytghhfendjkocmaa.Bits
