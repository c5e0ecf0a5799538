/- The calls of package rice and of its reference, each walked once: what they answer, in plain words. -/
import Derived.Test.YtghhfendjkocmaaRiceSpec
import Derived.Test.YtghhfendjkocmaaRefBits3
namespace Go.Proofs.Ytghhfendjkocmaa.Rice
open Go.RowKit Go.Proofs.Ytghhfendjkocmaa.Bits Go.Proofs.YtghhfendjkocmaaW.PrintWords Go.Proofs.YtghhfendjkocmaaW.PrintMore Go.Proofs.Ytghhfendjkocmaa.BP
set_option linter.unusedVariables false
set_option linter.unusedSimpArgs false

theorem ret_pair {p q : Int × Int} (h : p = q) : Ending.returned (.tuple #[.int .i64 q.1, .int .i64 q.2]) = Ending.returned (.tuple #[.int .i64 p.1, .int .i64 p.2]) := by rw [h]

theorem ret_three {p q : Int × Int × Int} (h : p = q) : Ending.returned (.tuple #[.agg #[.int .i64 q.1, .int .i64 q.2.1], .int .i64 q.2.2]) = Ending.returned (.tuple #[.agg #[.int .i64 p.1, .int .i64 p.2.1], .int .i64 p.2.2]) := by rw [h]

theorem may_calls (n s : Int) (w : World) : Calls Try.prog 49 #[.agg #[.int .i64 n, .int .i64 s]] w fun e w' => e = .returned (.bool (decide (MayP n s))) ∧ Below w.heap.size w w' := by
  have HB := Aside0.mk (below_alloc (Below.refl w.heap.size w) (.cells #[.int .i64 n, .int .i64 s] 36))
  have hu := Try.underlying36
  by_cases c0 : 1 ≤ n
  case neg =>
    have HM : Aside0 (decide (MayP n s) = false) := ⟨decide_eq_false (fun h => by unfold MayP at h; omega)⟩
    have b0 : decide (1 ≤ n) = false := decide_eq_false (by omega)
    clear c0
    go_enter Try.func49, Try.ntmps49
    go_wp2
    go_ret
    exact ⟨congrArg (fun z => Ending.returned (Value.bool z)) HM.out.symm, HB.out⟩
  have b0 : decide (1 ≤ n) = true := decide_eq_true (by omega)
  by_cases c1 : n < 32
  case neg =>
    have HM : Aside0 (decide (MayP n s) = false) := ⟨decide_eq_false (fun h => by unfold MayP at h; omega)⟩
    have b1 : decide (n < 32) = false := decide_eq_false (by omega)
    clear c0 c1
    go_enter Try.func49, Try.ntmps49
    go_wp2
    go_ret
    exact ⟨congrArg (fun z => Ending.returned (Value.bool z)) HM.out.symm, HB.out⟩
  have b1 : decide (n < 32) = true := decide_eq_true (by omega)
  by_cases c2 : 0 ≤ s
  case neg =>
    have HM : Aside0 (decide (MayP n s) = false) := ⟨decide_eq_false (fun h => by unfold MayP at h; omega)⟩
    have b2 : decide (0 ≤ s) = false := decide_eq_false (by omega)
    clear c0 c1 c2
    go_enter Try.func49, Try.ntmps49
    go_wp2
    go_ret
    exact ⟨congrArg (fun z => Ending.returned (Value.bool z)) HM.out.symm, HB.out⟩
  have b2 : decide (0 ≤ s) = true := decide_eq_true (by omega)
  by_cases c3 : s ≤ 4194304
  case neg =>
    have HM : Aside0 (decide (MayP n s) = false) := ⟨decide_eq_false (fun h => by unfold MayP at h; omega)⟩
    have b3 : decide (s ≤ 4194304) = false := decide_eq_false (by omega)
    clear c0 c1 c2 c3
    go_enter Try.func49, Try.ntmps49
    go_wp2
    go_ret
    exact ⟨congrArg (fun z => Ending.returned (Value.bool z)) HM.out.symm, HB.out⟩
  have b3 : decide (s ≤ 4194304) = true := decide_eq_true (by omega)
  have HM : Aside0 (decide (MayP n s) = true) := ⟨decide_eq_true ⟨by omega, by omega, by omega, by omega⟩⟩
  clear c0 c1 c2 c3
  go_enter Try.func49, Try.ntmps49
  go_wp2
  go_ret
  exact ⟨congrArg (fun z => Ending.returned (Value.bool z)) HM.out.symm, HB.out⟩

theorem refmay_calls (n s : Int) (w : World) : Calls Try.prog 41 #[.agg #[.int .i64 n, .int .i64 s]] w fun e w' => e = .returned (.bool (decide (MayP n s))) ∧ Below w.heap.size w w' := by
  have HB := Aside0.mk (below_alloc (Below.refl w.heap.size w) (.cells #[.int .i64 n, .int .i64 s] 36))
  have hu := Try.underlying36
  by_cases c0 : 1 ≤ n
  case neg =>
    have HM : Aside0 (decide (MayP n s) = false) := ⟨decide_eq_false (fun h => by unfold MayP at h; omega)⟩
    have b0 : decide (0 < n) = false := decide_eq_false (by omega)
    clear c0
    go_enter Try.func41, Try.ntmps41
    go_wp2
    go_ret
    exact ⟨congrArg (fun z => Ending.returned (Value.bool z)) HM.out.symm, HB.out⟩
  have b0 : decide (0 < n) = true := decide_eq_true (by omega)
  by_cases c1 : n < 32
  case neg =>
    have HM : Aside0 (decide (MayP n s) = false) := ⟨decide_eq_false (fun h => by unfold MayP at h; omega)⟩
    have b1 : decide (n < 32) = false := decide_eq_false (by omega)
    clear c0 c1
    go_enter Try.func41, Try.ntmps41
    go_wp2
    go_ret
    exact ⟨congrArg (fun z => Ending.returned (Value.bool z)) HM.out.symm, HB.out⟩
  have b1 : decide (n < 32) = true := decide_eq_true (by omega)
  by_cases c2 : 0 ≤ s
  case neg =>
    have HM : Aside0 (decide (MayP n s) = false) := ⟨decide_eq_false (fun h => by unfold MayP at h; omega)⟩
    have b2 : decide (0 ≤ s) = false := decide_eq_false (by omega)
    clear c0 c1 c2
    go_enter Try.func41, Try.ntmps41
    go_wp2
    go_ret
    exact ⟨congrArg (fun z => Ending.returned (Value.bool z)) HM.out.symm, HB.out⟩
  have b2 : decide (0 ≤ s) = true := decide_eq_true (by omega)
  by_cases c3 : s ≤ 4194304
  case neg =>
    have HM : Aside0 (decide (MayP n s) = false) := ⟨decide_eq_false (fun h => by unfold MayP at h; omega)⟩
    have b3 : decide (s ≤ 4194304) = false := decide_eq_false (by omega)
    clear c0 c1 c2 c3
    go_enter Try.func41, Try.ntmps41
    go_wp2
    go_ret
    exact ⟨congrArg (fun z => Ending.returned (Value.bool z)) HM.out.symm, HB.out⟩
  have b3 : decide (s ≤ 4194304) = true := decide_eq_true (by omega)
  have HM : Aside0 (decide (MayP n s) = true) := ⟨decide_eq_true ⟨by omega, by omega, by omega, by omega⟩⟩
  clear c0 c1 c2 c3
  go_enter Try.func41, Try.ntmps41
  go_wp2
  go_ret
  exact ⟨congrArg (fun z => Ending.returned (Value.bool z)) HM.out.symm, HB.out⟩

/-- Power: 2 to the n. -/
theorem power_calls (n : Int) (w : World) (h0 : 0 ≤ n) (h1 : n ≤ 60) : Calls Try.prog 31 #[.int .i64 n] w fun e w' => e = .returned (.int .i64 (2 ^ n.toNat)) ∧ w' = w := by
  go_enter Try.func31, Try.ntmps31
  go_wp2_with fail
  go_loop [3, 4] (fun v3 v4 => ∃ k : Nat, (k : Int) ≤ n ∧ v3 = .int .i64 (2 ^ k) ∧ v4 = .int .i64 k) (fun _ v4 => (n - intOf v4).toNat)
  case atStart => exact ⟨0, by omega, by simp, rfl⟩
  case round =>
    obtain ⟨k, hk, rfl, rfl⟩ := hrel
    have hp : (0 : Int) < 2 ^ k := Int.pow_pos (by decide)
    have hp1 : (2 : Int) ^ k ≤ 2 ^ 60 := pow_mono (by omega)
    have HS : Aside0 ((2 : Int) * 2 ^ k = 2 ^ (k + 1)) := ⟨by rw [Int.pow_succ]; omega⟩
    generalize hx : (2 : Int) ^ k = x at hp hp1 HS ⊢
    have HX := Aside0.mk hx
    have hx1 : x ≤ 1152921504606846976 := by omega
    clear hx hp1
    by_cases hlt : (k : Int) < n
    · have t1 : decide ((k : Int) < n) = true := decide_eq_true hlt
      go_wp2_with fail
      go_round
      case rel => exact ⟨k + 1, by omega, by rw [← HS.out], by go_num⟩
      case measure => simp [intOf]; omega
    · have t1 : decide ((k : Int) < n) = false := decide_eq_false hlt
      obtain rfl : k = n.toNat := by omega
      go_wp2_with fail
      go_ret
      exact ⟨congrArg (fun z => Ending.returned (Value.int .i64 z)) HX.out.symm, rfl⟩

theorem fits_calls (n s d u : Int) (w : World) : Calls Try.prog 43 #[.agg #[.int .i64 n, .int .i64 s], .int .i64 d, .int .i64 u] w fun e w' => e = .returned (.bool (decide (FitsP n s d u))) ∧ Below w.heap.size w w' := by
  have hu := Try.underlying36
  have HB := Aside0.mk (below_alloc (Below.refl w.heap.size w) (.cells #[.int .i64 n, .int .i64 s] 36))
  by_cases c0 : MayP n s
  case neg =>
    have HM : Aside0 (decide (FitsP n s d u) = false) := ⟨decide_eq_false (fun h => c0 h.1)⟩
    have HY : Aside0 (decide (MayP n s) = false) := ⟨decide_eq_false c0⟩
    clear c0
    go_enter Try.func43, Try.ntmps43
    go_wp2_with fail
    refine (may_calls n s _).mono ?_
    rintro e w1 ⟨rfl, hB⟩
    have HB1 := Aside0.mk (below_step HB.out hB)
    have hb : w1.heap[w.heap.size]? = some (.cells #[.int .i64 n, .int .i64 s] 36 (0, 0)) := (hB.block _ (by simp)).trans (heap_alloc_new w _)
    have HK := Aside0.mk hb
    have hc0 : w1.cell? ⟨w.heap.size, 0, none⟩ = some (.int .i64 n) := (blk_cell HK.out 0).trans rfl
    have hc1 : w1.cell? ⟨w.heap.size, 1, none⟩ = some (.int .i64 s) := (blk_cell HK.out 1).trans rfl
    clear hB hb
    rw [HY.out]
    go_wp2
    go_ret
    exact ⟨congrArg (fun z => Ending.returned (Value.bool z)) HM.out.symm, HB1.out⟩
  by_cases c1 : 1 ≤ d
  case neg =>
    have HM : Aside0 (decide (FitsP n s d u) = false) := ⟨decide_eq_false (fun h => c1 h.2.1)⟩
    have HY : Aside0 (decide (MayP n s) = true) := ⟨decide_eq_true c0⟩
    have b1 : decide (1 ≤ d) = false := decide_eq_false c1
    clear c0 c1
    go_enter Try.func43, Try.ntmps43
    go_wp2_with fail
    refine (may_calls n s _).mono ?_
    rintro e w1 ⟨rfl, hB⟩
    have HB1 := Aside0.mk (below_step HB.out hB)
    have hb : w1.heap[w.heap.size]? = some (.cells #[.int .i64 n, .int .i64 s] 36 (0, 0)) := (hB.block _ (by simp)).trans (heap_alloc_new w _)
    have HK := Aside0.mk hb
    have hc0 : w1.cell? ⟨w.heap.size, 0, none⟩ = some (.int .i64 n) := (blk_cell HK.out 0).trans rfl
    have hc1 : w1.cell? ⟨w.heap.size, 1, none⟩ = some (.int .i64 s) := (blk_cell HK.out 1).trans rfl
    clear hB hb
    rw [HY.out]
    go_wp2
    go_ret
    exact ⟨congrArg (fun z => Ending.returned (Value.bool z)) HM.out.symm, HB1.out⟩
  have b1 : decide (1 ≤ d) = true := decide_eq_true c1
  by_cases c2 : d ≤ 16
  case neg =>
    have HM : Aside0 (decide (FitsP n s d u) = false) := ⟨decide_eq_false (fun h => c2 h.2.2.1)⟩
    have HY : Aside0 (decide (MayP n s) = true) := ⟨decide_eq_true c0⟩
    have b2 : decide (d ≤ 16) = false := decide_eq_false c2
    clear c0 c1 c2
    go_enter Try.func43, Try.ntmps43
    go_wp2_with fail
    refine (may_calls n s _).mono ?_
    rintro e w1 ⟨rfl, hB⟩
    have HB1 := Aside0.mk (below_step HB.out hB)
    have hb : w1.heap[w.heap.size]? = some (.cells #[.int .i64 n, .int .i64 s] 36 (0, 0)) := (hB.block _ (by simp)).trans (heap_alloc_new w _)
    have HK := Aside0.mk hb
    have hc0 : w1.cell? ⟨w.heap.size, 0, none⟩ = some (.int .i64 n) := (blk_cell HK.out 0).trans rfl
    have hc1 : w1.cell? ⟨w.heap.size, 1, none⟩ = some (.int .i64 s) := (blk_cell HK.out 1).trans rfl
    clear hB hb
    rw [HY.out]
    go_wp2
    go_ret
    exact ⟨congrArg (fun z => Ending.returned (Value.bool z)) HM.out.symm, HB1.out⟩
  have b2 : decide (d ≤ 16) = true := decide_eq_true c2
  by_cases c3 : 0 ≤ u
  case neg =>
    have HM : Aside0 (decide (FitsP n s d u) = false) := ⟨decide_eq_false (fun h => c3 h.2.2.2.1)⟩
    have HY : Aside0 (decide (MayP n s) = true) := ⟨decide_eq_true c0⟩
    have b3 : decide (0 ≤ u) = false := decide_eq_false c3
    clear c0 c1 c2 c3
    go_enter Try.func43, Try.ntmps43
    go_wp2_with fail
    refine (may_calls n s _).mono ?_
    rintro e w1 ⟨rfl, hB⟩
    have HB1 := Aside0.mk (below_step HB.out hB)
    have hb : w1.heap[w.heap.size]? = some (.cells #[.int .i64 n, .int .i64 s] 36 (0, 0)) := (hB.block _ (by simp)).trans (heap_alloc_new w _)
    have HK := Aside0.mk hb
    have hc0 : w1.cell? ⟨w.heap.size, 0, none⟩ = some (.int .i64 n) := (blk_cell HK.out 0).trans rfl
    have hc1 : w1.cell? ⟨w.heap.size, 1, none⟩ = some (.int .i64 s) := (blk_cell HK.out 1).trans rfl
    clear hB hb
    rw [HY.out]
    go_wp2
    go_ret
    exact ⟨congrArg (fun z => Ending.returned (Value.bool z)) HM.out.symm, HB1.out⟩
  have b3 : decide (0 ≤ u) = true := decide_eq_true c3
  have HY : Aside0 (decide (MayP n s) = true) := ⟨decide_eq_true c0⟩
  have hd0 : 0 ≤ d := by omega
  have hd1 : d ≤ 64 := by omega
  by_cases c4 : u / 2 ^ d.toNat = 0
  case neg =>
    have HM : Aside0 (decide (FitsP n s d u) = false) := ⟨decide_eq_false (fun h => c4 h.2.2.2.2)⟩
    have b4 : (u / 2 ^ d.toNat == 0) = false := beq_eq_false_iff_ne.mpr c4
    clear c0 c1 c2 c3 c4
    go_enter Try.func43, Try.ntmps43
    go_wp2_with fail
    refine (may_calls n s _).mono ?_
    rintro e w1 ⟨rfl, hB⟩
    have HB1 := Aside0.mk (below_step HB.out hB)
    have hb : w1.heap[w.heap.size]? = some (.cells #[.int .i64 n, .int .i64 s] 36 (0, 0)) := (hB.block _ (by simp)).trans (heap_alloc_new w _)
    have HK := Aside0.mk hb
    have hc0 : w1.cell? ⟨w.heap.size, 0, none⟩ = some (.int .i64 n) := (blk_cell HK.out 0).trans rfl
    have hc1 : w1.cell? ⟨w.heap.size, 1, none⟩ = some (.int .i64 s) := (blk_cell HK.out 1).trans rfl
    clear hB hb
    rw [HY.out]
    go_wp2
    go_ret
    exact ⟨congrArg (fun z => Ending.returned (Value.bool z)) HM.out.symm, HB1.out⟩
  have HM : Aside0 (decide (FitsP n s d u) = true) := ⟨decide_eq_true ⟨c0, c1, c2, c3, c4⟩⟩
  have b4 : (u / 2 ^ d.toNat == 0) = true := beq_iff_eq.mpr c4
  clear c0 c1 c2 c3 c4
  go_enter Try.func43, Try.ntmps43
  go_wp2_with fail
  refine (may_calls n s _).mono ?_
  rintro e w1 ⟨rfl, hB⟩
  have HB1 := Aside0.mk (below_step HB.out hB)
  have hb : w1.heap[w.heap.size]? = some (.cells #[.int .i64 n, .int .i64 s] 36 (0, 0)) := (hB.block _ (by simp)).trans (heap_alloc_new w _)
  have HK := Aside0.mk hb
  have hc0 : w1.cell? ⟨w.heap.size, 0, none⟩ = some (.int .i64 n) := (blk_cell HK.out 0).trans rfl
  have hc1 : w1.cell? ⟨w.heap.size, 1, none⟩ = some (.int .i64 s) := (blk_cell HK.out 1).trans rfl
  clear hB hb
  rw [HY.out]
  go_wp2
  go_ret
  exact ⟨congrArg (fun z => Ending.returned (Value.bool z)) HM.out.symm, HB1.out⟩

set_option maxHeartbeats 400000 in
theorem param_calls (n s d : Int) (w : World) : Calls Try.prog 42 #[.agg #[.int .i64 n, .int .i64 s], .int .i64 d] w fun e w' => e = .returned (.tuple #[.int .i64 (paramL n s d).1, .int .i64 (paramL n s d).2]) ∧ Below w.heap.size w w' := by
  have hu := Try.underlying36
  have HB := Aside0.mk (below_alloc (Below.refl w.heap.size w) (.cells #[.int .i64 n, .int .i64 s] 36))
  by_cases hf : FitsP n s d 0
  case neg =>
    have HY : Aside0 (decide (FitsP n s d 0) = false) := ⟨decide_eq_false hf⟩
    have HP : Aside0 (paramL n s d = (0, 1)) := ⟨by unfold paramL; rw [if_neg hf]⟩
    clear hf
    go_enter Try.func42, Try.ntmps42
    go_wp2_with fail
    refine (fits_calls n s d 0 _).mono ?_
    rintro e w1 ⟨rfl, hB⟩
    have HB1 := Aside0.mk (below_step HB.out hB)
    have hb : w1.heap[w.heap.size]? = some (.cells #[.int .i64 n, .int .i64 s] 36 (0, 0)) := (hB.block _ (by simp)).trans (heap_alloc_new w _)
    have HK := Aside0.mk hb
    have hc0 : w1.cell? ⟨w.heap.size, 0, none⟩ = some (.int .i64 n) := (blk_cell HK.out 0).trans rfl
    have hc1 : w1.cell? ⟨w.heap.size, 1, none⟩ = some (.int .i64 s) := (blk_cell HK.out 1).trans rfl
    clear hB hb
    rw [HY.out]
    go_wp2
    go_ret2
    exact ⟨ret_pair HP.out, HB1.out⟩
  have HY : Aside0 (decide (FitsP n s d 0) = true) := ⟨decide_eq_true hf⟩
  have HP : Aside0 (paramL n s d = ((pk n s d.toNat 0 : Int), 0)) := ⟨by unfold paramL; rw [if_pos hf]; rfl⟩
  have hd0 := hf.2.1
  have hd1 := hf.2.2.1
  have HM := Aside0.mk hf.1
  clear hf
  go_enter Try.func42, Try.ntmps42
  go_wp2_with fail
  refine (fits_calls n s d 0 _).mono ?_
  rintro e w1 ⟨rfl, hB⟩
  have HB1 := Aside0.mk (below_step HB.out hB)
  have hb : w1.heap[w.heap.size]? = some (.cells #[.int .i64 n, .int .i64 s] 36 (0, 0)) := (hB.block _ (by simp)).trans (heap_alloc_new w _)
  have HK := Aside0.mk hb
  have hc0 : w1.cell? ⟨w.heap.size, 0, none⟩ = some (.int .i64 n) := (blk_cell HK.out 0).trans rfl
  have hc1 : w1.cell? ⟨w.heap.size, 1, none⟩ = some (.int .i64 s) := (blk_cell HK.out 1).trans rfl
  clear hB hb
  rw [HY.out]
  go_wp2_with fail
  go_loopw [6] (fun v6 wr => ∃ k : Nat, (k : Int) ≤ d ∧ v6 = .int .i64 k ∧ Aside0 (pk n s (d.toNat - k) k = pk n s d.toNat 0) ∧ Aside0 (Drawn0 w1 wr)) (fun v6 _ => (d - intOf v6).toNat)
  case atStart => exact ⟨0, by omega, rfl, ⟨rfl⟩, ⟨Drawn0.refl _⟩⟩
  case round =>
    obtain ⟨k, hk, rfl, HE, HD⟩ := hrel
    obtain ⟨m, rfl⟩ := HD.out.out
    have HB2 : Aside0 (Below w.heap.size w (w1.drewN m)) := ⟨pw_below_drewN HB1.out m⟩
    by_cases hlt : (k : Int) < d
    · have t1 : decide ((k : Int) < d) = true := decide_eq_true hlt
      have hm := may_mul HM.out (k := k) (by omega)
      have hk0 : (0 : Int) ≤ (k : Int) := by omega
      have hk1 : (k : Int) ≤ 64 := by omega
      by_cases hc : n * 2 ^ k < s
      · have t2 : decide (n * 2 ^ k < s) = true := decide_eq_true hc
        have HS : Aside0 (pk n s (d.toNat - (k + 1)) (k + 1) = pk n s d.toNat 0) := ⟨by rw [← HE.out, show d.toNat - k = (d.toNat - (k + 1)) + 1 from by omega, pk_step hc]⟩
        generalize hx : n * 2 ^ k = x at hm t2
        have hx0 := hm.1
        have hx1 := hm.2
        have HX := Aside0.mk hx
        clear hc hm
        go_wp2_with fail
        go_quiet (fail)
        go_wp2_with fail
        go_roundw
        case rel => exact ⟨k + 1, by omega, by go_num, HS, ⟨⟨_, rfl⟩⟩⟩
        case measure => simp [intOf]; omega
      · have t2 : decide (n * 2 ^ k < s) = false := decide_eq_false hc
        have HS : Aside0 (pk n s d.toNat 0 = k) := ⟨by rw [← HE.out, pk_stop hc]⟩
        generalize hx : n * 2 ^ k = x at hm t2
        have hx0 := hm.1
        have hx1 := hm.2
        have HX := Aside0.mk hx
        clear hc hm
        go_wp2_with fail
        go_quiet (fail)
        go_wp2_with fail
        go_ret2
        exact ⟨ret_pair (q := ((k : Int), 0)) (HP.out.trans (by rw [HS.out])), pw_below_drewN HB2.out _⟩
    · have t1 : decide ((k : Int) < d) = false := decide_eq_false hlt
      have HS : Aside0 (pk n s d.toNat 0 = k) := ⟨by rw [← HE.out, show d.toNat - k = 0 from by omega]; rfl⟩
      go_wp2_with fail
      go_quiet (fail)
      go_wp2_with fail
      go_ret2
      exact ⟨ret_pair (q := ((k : Int), 0)) (HP.out.trans (by rw [HS.out])), pw_below_drewN HB2.out _⟩

set_option maxHeartbeats 400000 in
theorem refparam_calls (n s d : Int) (w : World) : Calls Try.prog 30 #[.agg #[.int .i64 n, .int .i64 s], .int .i64 d] w fun e w' => e = .returned (.tuple #[.int .i64 (paramL n s d).1, .int .i64 (paramL n s d).2]) ∧ Below w.heap.size w w' := by
  have hu := Try.underlying36
  have HB := Aside0.mk (below_alloc (Below.refl w.heap.size w) (.cells #[.int .i64 n, .int .i64 s] 36))
  by_cases c0 : MayP n s
  case neg =>
    have HY : Aside0 (decide (MayP n s) = false) := ⟨decide_eq_false c0⟩
    have HP : Aside0 (paramL n s d = (0, 1)) := ⟨by unfold paramL; rw [if_neg (fun h => c0 h.1)]⟩
    clear c0
    go_enter Try.func30, Try.ntmps30
    go_wp2_with fail
    refine (refmay_calls n s _).mono ?_
    rintro e w1 ⟨rfl, hB⟩
    have HB1 := Aside0.mk (below_step HB.out hB)
    have hb : w1.heap[w.heap.size]? = some (.cells #[.int .i64 n, .int .i64 s] 36 (0, 0)) := (hB.block _ (by simp)).trans (heap_alloc_new w _)
    have HK := Aside0.mk hb
    have hc0 : w1.cell? ⟨w.heap.size, 0, none⟩ = some (.int .i64 n) := (blk_cell HK.out 0).trans rfl
    have hc1 : w1.cell? ⟨w.heap.size, 1, none⟩ = some (.int .i64 s) := (blk_cell HK.out 1).trans rfl
    clear hB hb
    rw [HY.out]
    go_wp2
    go_ret2
    exact ⟨ret_pair HP.out, HB1.out⟩
  have HY : Aside0 (decide (MayP n s) = true) := ⟨decide_eq_true c0⟩
  by_cases c1 : 1 ≤ d
  case neg =>
    have b1 : decide (d < 1) = true := decide_eq_true (by omega)
    have HP : Aside0 (paramL n s d = (0, 1)) := ⟨by unfold paramL; rw [if_neg (fun h => c1 h.2.1)]⟩
    clear c0 c1
    go_enter Try.func30, Try.ntmps30
    go_wp2_with fail
    refine (refmay_calls n s _).mono ?_
    rintro e w1 ⟨rfl, hB⟩
    have HB1 := Aside0.mk (below_step HB.out hB)
    have hb : w1.heap[w.heap.size]? = some (.cells #[.int .i64 n, .int .i64 s] 36 (0, 0)) := (hB.block _ (by simp)).trans (heap_alloc_new w _)
    have HK := Aside0.mk hb
    have hc0 : w1.cell? ⟨w.heap.size, 0, none⟩ = some (.int .i64 n) := (blk_cell HK.out 0).trans rfl
    have hc1 : w1.cell? ⟨w.heap.size, 1, none⟩ = some (.int .i64 s) := (blk_cell HK.out 1).trans rfl
    clear hB hb
    rw [HY.out]
    go_wp2
    go_ret2
    exact ⟨ret_pair HP.out, HB1.out⟩
  have b1 : decide (d < 1) = false := decide_eq_false (by omega)
  by_cases c2 : d ≤ 16
  case neg =>
    have b2 : decide (16 < d) = true := decide_eq_true (by omega)
    have HP : Aside0 (paramL n s d = (0, 1)) := ⟨by unfold paramL; rw [if_neg (fun h => c2 h.2.2.1)]⟩
    clear c0 c1 c2
    go_enter Try.func30, Try.ntmps30
    go_wp2_with fail
    refine (refmay_calls n s _).mono ?_
    rintro e w1 ⟨rfl, hB⟩
    have HB1 := Aside0.mk (below_step HB.out hB)
    have hb : w1.heap[w.heap.size]? = some (.cells #[.int .i64 n, .int .i64 s] 36 (0, 0)) := (hB.block _ (by simp)).trans (heap_alloc_new w _)
    have HK := Aside0.mk hb
    have hc0 : w1.cell? ⟨w.heap.size, 0, none⟩ = some (.int .i64 n) := (blk_cell HK.out 0).trans rfl
    have hc1 : w1.cell? ⟨w.heap.size, 1, none⟩ = some (.int .i64 s) := (blk_cell HK.out 1).trans rfl
    clear hB hb
    rw [HY.out]
    go_wp2
    go_ret2
    exact ⟨ret_pair HP.out, HB1.out⟩
  have b2 : decide (16 < d) = false := decide_eq_false (by omega)
  have HP : Aside0 (paramL n s d = ((pk n s d.toNat 0 : Int), 0)) := ⟨by unfold paramL; rw [if_pos ⟨c0, c1, c2, Int.le_refl _, by simp⟩]; rfl⟩
  have HM := Aside0.mk c0
  have hd0 := c1
  have hd1 := c2
  clear c0 c1 c2
  go_enter Try.func30, Try.ntmps30
  go_wp2_with fail
  refine (refmay_calls n s _).mono ?_
  rintro e w1 ⟨rfl, hB⟩
  have HB1 := Aside0.mk (below_step HB.out hB)
  have hb : w1.heap[w.heap.size]? = some (.cells #[.int .i64 n, .int .i64 s] 36 (0, 0)) := (hB.block _ (by simp)).trans (heap_alloc_new w _)
  have HK := Aside0.mk hb
  have hc0 : w1.cell? ⟨w.heap.size, 0, none⟩ = some (.int .i64 n) := (blk_cell HK.out 0).trans rfl
  have hc1 : w1.cell? ⟨w.heap.size, 1, none⟩ = some (.int .i64 s) := (blk_cell HK.out 1).trans rfl
  clear hB hb
  rw [HY.out]
  go_wp2_with fail
  go_loopw [6] (fun v6 wr => ∃ k : Nat, (k : Int) ≤ d ∧ v6 = .int .i64 k ∧ Aside0 (pk n s (d.toNat - k) k = pk n s d.toNat 0) ∧ Aside0 (Drawn0 w1 wr)) (fun v6 _ => (d - intOf v6).toNat)
  case atStart => exact ⟨0, by omega, rfl, ⟨rfl⟩, ⟨Drawn0.refl _⟩⟩
  case round =>
    obtain ⟨k, hk, rfl, HE, HD⟩ := hrel
    have HB2 : Aside0 (Below w.heap.size w wr) := ⟨below_step HB1.out HD.out.below⟩
    have hd0_ : wr.cell? ⟨w.heap.size, 0, none⟩ = some (.int .i64 n) := pw_cell_below HD.out.below hc0
    have hd1_ : wr.cell? ⟨w.heap.size, 1, none⟩ = some (.int .i64 s) := pw_cell_below HD.out.below hc1
    by_cases hlt : (k : Int) < d
    · have t1 : decide ((k : Int) < d) = true := decide_eq_true hlt
      have hm := may_mul HM.out (k := k) (by omega)
      have hk0 : (0 : Int) ≤ (k : Int) := by omega
      have hk1 : (k : Int) ≤ 60 := by omega
      have HQ : ∀ W : World, Calls Try.prog 31 #[.int .i64 k] W fun e w' => e = .returned (.int .i64 (2 ^ k)) ∧ w' = W := fun W => by
        have h := power_calls k W hk0 hk1
        rwa [Int.toNat_natCast] at h
      have HPW := Aside0.mk HQ
      clear HQ
      by_cases hc : n * 2 ^ k < s
      · have HS : Aside0 (pk n s (d.toNat - (k + 1)) (k + 1) = pk n s d.toNat 0) := ⟨by rw [← HE.out, show d.toNat - k = (d.toNat - (k + 1)) + 1 from by omega, pk_step hc]⟩
        generalize hy : (2 : Int) ^ k = y at hm hc HPW
        generalize hx : n * y = x at hm hc
        have t2 : decide (s ≤ x) = false := decide_eq_false (by omega)
        have hx0 := hm.1
        have hx1 := hm.2
        have hw : IntKind.i64.wrap (n * y) = x := by rw [hx]; exact IntWalk.i64_in _ (by omega)
        clear hc hm hx hy
        go_wp2_with fail
        go_quiet ((go_at_call 31; exact Calls.quiet_of_same (HPW.out _)))
        go_wp2_with fail
        go_roundw
        case rel => exact ⟨k + 1, by omega, by go_num, HS, ⟨drawnN HD.out _⟩⟩
        case measure => simp [intOf]; omega
      · have HS : Aside0 (pk n s d.toNat 0 = k) := ⟨by rw [← HE.out, pk_stop hc]⟩
        generalize hy : (2 : Int) ^ k = y at hm hc HPW
        generalize hx : n * y = x at hm hc
        have t2 : decide (s ≤ x) = true := decide_eq_true (by omega)
        have hx0 := hm.1
        have hx1 := hm.2
        have hw : IntKind.i64.wrap (n * y) = x := by rw [hx]; exact IntWalk.i64_in _ (by omega)
        clear hc hm hx hy
        go_wp2_with fail
        go_quiet ((go_at_call 31; exact Calls.quiet_of_same (HPW.out _)))
        go_wp2_with fail
        go_ret2
        exact ⟨ret_pair (q := ((k : Int), 0)) (HP.out.trans (by rw [HS.out])), pw_below_drewN HB2.out _⟩
    · have t1 : decide ((k : Int) < d) = false := decide_eq_false hlt
      have HS : Aside0 (pk n s d.toNat 0 = d.toNat) := ⟨by rw [← HE.out, show d.toNat - k = 0 from by omega]; show (k : Nat) = d.toNat; omega⟩
      have HDD : Aside0 (((d.toNat : Nat) : Int) = d) := ⟨by omega⟩
      go_wp2_with fail
      go_ret2
      exact ⟨ret_pair (q := (d, 0)) (HP.out.trans (by rw [HS.out, HDD.out])), HB2.out⟩

attribute [local go_sem] min2_int min_two
set_option maxHeartbeats 400000 in
theorem next_calls (n s u : Int) (w : World) : Calls Try.prog 46 #[.agg #[.int .i64 n, .int .i64 s], .int .i64 u] w fun e w' => e = .returned (.tuple #[.agg #[.int .i64 (nextL n s u).1, .int .i64 (nextL n s u).2.1], .int .i64 (nextL n s u).2.2]) ∧ Below w.heap.size w w' := by
  have hu := Try.underlying36
  have HB := Aside0.mk (below_alloc (below_alloc (Below.refl w.heap.size w) (.cells #[.int .i64 n, .int .i64 s] 36)) (.cells #[.int .i64 0, .int .i64 0] 36))
  by_cases hf : FitsP n s 16 u
  case neg =>
    have HY : Aside0 (decide (FitsP n s 16 u) = false) := ⟨decide_eq_false hf⟩
    have HP : Aside0 (nextL n s u = (0, 0, 1)) := ⟨by unfold nextL; rw [if_neg hf]⟩
    clear hf
    go_enter Try.func46, Try.ntmps46
    go_wp2_with fail
    refine (fits_calls n s 16 u _).mono ?_
    rintro e w1 ⟨rfl, hB⟩
    have HB1 := Aside0.mk (below_step HB.out hB)
    have hb0 : w1.heap[w.heap.size]? = some (.cells #[.int .i64 n, .int .i64 s] 36 (0, 0)) := (hB.block _ (by simp; omega)).trans ((below_alloc (Below.refl _ _) _).block _ (by simp) |>.trans (heap_alloc_new w _))
    have hb1 : w1.heap[w.heap.size + 1]? = some (.cells #[.int .i64 0, .int .i64 0] 36 (0, 0)) := (hB.block _ (by simp)).trans (by have h := heap_alloc_new (w.alloc (.cells #[.int .i64 n, .int .i64 s] 36)) (.cells #[.int .i64 0, .int .i64 0] 36); simpa using h)
    have HK0 := Aside0.mk hb0
    have HK1 := Aside0.mk hb1
    have hc00 : w1.cell? ⟨w.heap.size, 0, none⟩ = some (.int .i64 n) := (blk_cell HK0.out 0).trans rfl
    have hc01 : w1.cell? ⟨w.heap.size, 1, none⟩ = some (.int .i64 s) := (blk_cell HK0.out 1).trans rfl
    have hc10 : w1.cell? ⟨w.heap.size + 1, 0, none⟩ = some (.int .i64 0) := (blk_cell HK1.out 0).trans rfl
    have hc11 : w1.cell? ⟨w.heap.size + 1, 1, none⟩ = some (.int .i64 0) := (blk_cell HK1.out 1).trans rfl
    have hf00 : w1.frozen? ⟨w.heap.size, 0, none⟩ = false := blk_frozen HK0.out 0
    have hf01 : w1.frozen? ⟨w.heap.size, 1, none⟩ = false := blk_frozen HK0.out 1
    have hf10 : w1.frozen? ⟨w.heap.size + 1, 0, none⟩ = false := blk_frozen HK1.out 0
    have hf11 : w1.frozen? ⟨w.heap.size + 1, 1, none⟩ = false := blk_frozen HK1.out 1
    clear hB hb0 hb1
    rw [HY.out]
    go_wp2
    refine bodyPost_ret (results_ct rfl _ _ (w.heap.size + 1) 36 #[.int .i64 0, .int .i64 0] (0, 0) _ rfl (blk_put (blk_put HK1.out 0 _ rfl) 1 _ rfl) hu rfl (by kernel_rfl)) rfl ?_
    exact ⟨ret_three HP.out, below_set (below_set HB1.out (by simp)) (by simp)⟩
  have HY : Aside0 (decide (FitsP n s 16 u) = true) := ⟨decide_eq_true hf⟩
  have hul := fits_lt hf
  have hm := hf.1
  unfold MayP at hm
  obtain ⟨hn0, hn1, hs0, hs1⟩ := hm
  have hu0 := hul.1
  have hu1 := hul.2.2
  generalize hx : (if s + u > 4194304 then 4194304 else s + u) = x
  have hx0 : 0 ≤ x := by rw [← hx]; split <;> omega
  have hx1 : x ≤ 4194304 := by rw [← hx]; split <;> omega
  have HX := Aside0.mk hx
  have HF := Aside0.mk hf
  clear hf hul
  by_cases hn : n = 31
  · subst hn
    have HP : Aside0 (nextL 31 s u = (16, x / 2, 0)) := ⟨by unfold nextL; rw [if_pos HF.out, if_pos rfl, HX.out]⟩
    replace hx : (if 4194304 < s + u then 4194304 else s + u) = x := hx
    go_enter Try.func46, Try.ntmps46
    go_wp2_with fail
    refine (fits_calls 31 s 16 u _).mono ?_
    rintro e w1 ⟨rfl, hB⟩
    have HB1 := Aside0.mk (below_step HB.out hB)
    have hb0 : w1.heap[w.heap.size]? = some (.cells #[.int .i64 31, .int .i64 s] 36 (0, 0)) := (hB.block _ (by simp; omega)).trans ((below_alloc (Below.refl _ _) _).block _ (by simp) |>.trans (heap_alloc_new w _))
    have hb1 : w1.heap[w.heap.size + 1]? = some (.cells #[.int .i64 0, .int .i64 0] 36 (0, 0)) := (hB.block _ (by simp)).trans (by have h := heap_alloc_new (w.alloc (.cells #[.int .i64 31, .int .i64 s] 36)) (.cells #[.int .i64 0, .int .i64 0] 36); simpa using h)
    have HK0 := Aside0.mk hb0
    have HK1 := Aside0.mk hb1
    have hc00 : w1.cell? ⟨w.heap.size, 0, none⟩ = some (.int .i64 31) := (blk_cell HK0.out 0).trans rfl
    have hc01 : w1.cell? ⟨w.heap.size, 1, none⟩ = some (.int .i64 s) := (blk_cell HK0.out 1).trans rfl
    have hc10 : w1.cell? ⟨w.heap.size + 1, 0, none⟩ = some (.int .i64 0) := (blk_cell HK1.out 0).trans rfl
    have hc11 : w1.cell? ⟨w.heap.size + 1, 1, none⟩ = some (.int .i64 0) := (blk_cell HK1.out 1).trans rfl
    have hf00 : w1.frozen? ⟨w.heap.size, 0, none⟩ = false := blk_frozen HK0.out 0
    have hf01 : w1.frozen? ⟨w.heap.size, 1, none⟩ = false := blk_frozen HK0.out 1
    have hf10 : w1.frozen? ⟨w.heap.size + 1, 0, none⟩ = false := blk_frozen HK1.out 0
    have hf11 : w1.frozen? ⟨w.heap.size + 1, 1, none⟩ = false := blk_frozen HK1.out 1
    clear hB hb0 hb1
    have HA0 := Aside0.mk (blk_put HK0.out 0 (.int .i64 32) (cs' := #[.int .i64 32, .int .i64 s]) rfl)
    have HR0 := Aside0.mk (blk_far HK1.out (p := ⟨w.heap.size, 0, none⟩) (by simp) (.int .i64 32))
    have ha00 : (w1.setCell ⟨w.heap.size, 0, none⟩ (.int .i64 32)).cell? ⟨w.heap.size, 0, none⟩ = some (.int .i64 32) := (blk_cell HA0.out 0).trans rfl
    have hb00 := blk_frozen HA0.out 0
    have ha01 : (w1.setCell ⟨w.heap.size, 0, none⟩ (.int .i64 32)).cell? ⟨w.heap.size, 1, none⟩ = some (.int .i64 s) := (blk_cell HA0.out 1).trans rfl
    have hb01 := blk_frozen HA0.out 1
    have HA1 := Aside0.mk (blk_put HA0.out 1 (.int .i64 x) (cs' := #[.int .i64 32, .int .i64 x]) rfl)
    have HR1 := Aside0.mk (blk_far HR0.out (p := ⟨w.heap.size, 1, none⟩) (by simp) (.int .i64 x))
    have ha10 : ((w1.setCell ⟨w.heap.size, 0, none⟩ (.int .i64 32)).setCell ⟨w.heap.size, 1, none⟩ (.int .i64 x)).cell? ⟨w.heap.size, 0, none⟩ = some (.int .i64 32) := (blk_cell HA1.out 0).trans rfl
    have hb10 := blk_frozen HA1.out 0
    have ha11 : ((w1.setCell ⟨w.heap.size, 0, none⟩ (.int .i64 32)).setCell ⟨w.heap.size, 1, none⟩ (.int .i64 x)).cell? ⟨w.heap.size, 1, none⟩ = some (.int .i64 x) := (blk_cell HA1.out 1).trans rfl
    have hb11 := blk_frozen HA1.out 1
    have HA2 := Aside0.mk (blk_put HA1.out 0 (.int .i64 16) (cs' := #[.int .i64 16, .int .i64 x]) rfl)
    have HR2 := Aside0.mk (blk_far HR1.out (p := ⟨w.heap.size, 0, none⟩) (by simp) (.int .i64 16))
    have ha20 : (((w1.setCell ⟨w.heap.size, 0, none⟩ (.int .i64 32)).setCell ⟨w.heap.size, 1, none⟩ (.int .i64 x)).setCell ⟨w.heap.size, 0, none⟩ (.int .i64 16)).cell? ⟨w.heap.size, 0, none⟩ = some (.int .i64 16) := (blk_cell HA2.out 0).trans rfl
    have hb20 := blk_frozen HA2.out 0
    have ha21 : (((w1.setCell ⟨w.heap.size, 0, none⟩ (.int .i64 32)).setCell ⟨w.heap.size, 1, none⟩ (.int .i64 x)).setCell ⟨w.heap.size, 0, none⟩ (.int .i64 16)).cell? ⟨w.heap.size, 1, none⟩ = some (.int .i64 x) := (blk_cell HA2.out 1).trans rfl
    have hb21 := blk_frozen HA2.out 1
    have HA3 := Aside0.mk (blk_put HA2.out 1 (.int .i64 (x / 2)) (cs' := #[.int .i64 16, .int .i64 (x / 2)]) rfl)
    have HR3 := Aside0.mk (blk_far HR2.out (p := ⟨w.heap.size, 1, none⟩) (by simp) (.int .i64 (x / 2)))
    have ha30 : ((((w1.setCell ⟨w.heap.size, 0, none⟩ (.int .i64 32)).setCell ⟨w.heap.size, 1, none⟩ (.int .i64 x)).setCell ⟨w.heap.size, 0, none⟩ (.int .i64 16)).setCell ⟨w.heap.size, 1, none⟩ (.int .i64 (x / 2))).cell? ⟨w.heap.size, 0, none⟩ = some (.int .i64 16) := (blk_cell HA3.out 0).trans rfl
    have hb30 := blk_frozen HA3.out 0
    have ha31 : ((((w1.setCell ⟨w.heap.size, 0, none⟩ (.int .i64 32)).setCell ⟨w.heap.size, 1, none⟩ (.int .i64 x)).setCell ⟨w.heap.size, 0, none⟩ (.int .i64 16)).setCell ⟨w.heap.size, 1, none⟩ (.int .i64 (x / 2))).cell? ⟨w.heap.size, 1, none⟩ = some (.int .i64 (x / 2)) := (blk_cell HA3.out 1).trans rfl
    have hb31 := blk_frozen HA3.out 1
    have hr0 : ((((w1.setCell ⟨w.heap.size, 0, none⟩ (.int .i64 32)).setCell ⟨w.heap.size, 1, none⟩ (.int .i64 x)).setCell ⟨w.heap.size, 0, none⟩ (.int .i64 16)).setCell ⟨w.heap.size, 1, none⟩ (.int .i64 (x / 2))).cell? ⟨w.heap.size + 1, 0, none⟩ = some (.int .i64 0) := (blk_cell HR3.out 0).trans rfl
    have hz0 := blk_frozen HR3.out 0
    have hr1 : ((((w1.setCell ⟨w.heap.size, 0, none⟩ (.int .i64 32)).setCell ⟨w.heap.size, 1, none⟩ (.int .i64 x)).setCell ⟨w.heap.size, 0, none⟩ (.int .i64 16)).setCell ⟨w.heap.size, 1, none⟩ (.int .i64 (x / 2))).cell? ⟨w.heap.size + 1, 1, none⟩ = some (.int .i64 0) := (blk_cell HR3.out 1).trans rfl
    have hz1 := blk_frozen HR3.out 1
    rw [HY.out]
    go_wp2
    refine bodyPost_ret (results_ct rfl _ _ (w.heap.size + 1) 36 #[.int .i64 16, .int .i64 (x / 2)] (0, 0) _ rfl (blk_put (blk_put HR3.out 0 _ rfl) 1 _ rfl) hu rfl (by kernel_rfl)) rfl ?_
    exact ⟨ret_three HP.out, below_set (below_set (below_set (below_set (below_set (below_set HB1.out (by simp)) (by simp)) (by simp)) (by simp)) (by simp)) (by simp)⟩
  · have HP : Aside0 (nextL n s u = (n + 1, x, 0)) := ⟨by unfold nextL; rw [if_pos HF.out, if_neg hn, HX.out]⟩
    replace hx : (if 4194304 < s + u then 4194304 else s + u) = x := hx
    have hn' : n + 1 ≠ 32 := by omega
    have b0 : (n + 1 == 32) = false := beq_eq_false_iff_ne.mpr hn'
    clear hn hn'
    go_enter Try.func46, Try.ntmps46
    go_wp2_with fail
    refine (fits_calls n s 16 u _).mono ?_
    rintro e w1 ⟨rfl, hB⟩
    have HB1 := Aside0.mk (below_step HB.out hB)
    have hb0 : w1.heap[w.heap.size]? = some (.cells #[.int .i64 n, .int .i64 s] 36 (0, 0)) := (hB.block _ (by simp; omega)).trans ((below_alloc (Below.refl _ _) _).block _ (by simp) |>.trans (heap_alloc_new w _))
    have hb1 : w1.heap[w.heap.size + 1]? = some (.cells #[.int .i64 0, .int .i64 0] 36 (0, 0)) := (hB.block _ (by simp)).trans (by have h := heap_alloc_new (w.alloc (.cells #[.int .i64 n, .int .i64 s] 36)) (.cells #[.int .i64 0, .int .i64 0] 36); simpa using h)
    have HK0 := Aside0.mk hb0
    have HK1 := Aside0.mk hb1
    have hc00 : w1.cell? ⟨w.heap.size, 0, none⟩ = some (.int .i64 n) := (blk_cell HK0.out 0).trans rfl
    have hc01 : w1.cell? ⟨w.heap.size, 1, none⟩ = some (.int .i64 s) := (blk_cell HK0.out 1).trans rfl
    have hc10 : w1.cell? ⟨w.heap.size + 1, 0, none⟩ = some (.int .i64 0) := (blk_cell HK1.out 0).trans rfl
    have hc11 : w1.cell? ⟨w.heap.size + 1, 1, none⟩ = some (.int .i64 0) := (blk_cell HK1.out 1).trans rfl
    have hf00 : w1.frozen? ⟨w.heap.size, 0, none⟩ = false := blk_frozen HK0.out 0
    have hf01 : w1.frozen? ⟨w.heap.size, 1, none⟩ = false := blk_frozen HK0.out 1
    have hf10 : w1.frozen? ⟨w.heap.size + 1, 0, none⟩ = false := blk_frozen HK1.out 0
    have hf11 : w1.frozen? ⟨w.heap.size + 1, 1, none⟩ = false := blk_frozen HK1.out 1
    clear hB hb0 hb1
    have HA0 := Aside0.mk (blk_put HK0.out 0 (.int .i64 (n + 1)) (cs' := #[.int .i64 (n + 1), .int .i64 s]) rfl)
    have HR0 := Aside0.mk (blk_far HK1.out (p := ⟨w.heap.size, 0, none⟩) (by simp) (.int .i64 (n + 1)))
    have ha00 : (w1.setCell ⟨w.heap.size, 0, none⟩ (.int .i64 (n + 1))).cell? ⟨w.heap.size, 0, none⟩ = some (.int .i64 (n + 1)) := (blk_cell HA0.out 0).trans rfl
    have hb00 := blk_frozen HA0.out 0
    have ha01 : (w1.setCell ⟨w.heap.size, 0, none⟩ (.int .i64 (n + 1))).cell? ⟨w.heap.size, 1, none⟩ = some (.int .i64 s) := (blk_cell HA0.out 1).trans rfl
    have hb01 := blk_frozen HA0.out 1
    have HA1 := Aside0.mk (blk_put HA0.out 1 (.int .i64 x) (cs' := #[.int .i64 (n + 1), .int .i64 x]) rfl)
    have HR1 := Aside0.mk (blk_far HR0.out (p := ⟨w.heap.size, 1, none⟩) (by simp) (.int .i64 x))
    have ha10 : ((w1.setCell ⟨w.heap.size, 0, none⟩ (.int .i64 (n + 1))).setCell ⟨w.heap.size, 1, none⟩ (.int .i64 x)).cell? ⟨w.heap.size, 0, none⟩ = some (.int .i64 (n + 1)) := (blk_cell HA1.out 0).trans rfl
    have hb10 := blk_frozen HA1.out 0
    have ha11 : ((w1.setCell ⟨w.heap.size, 0, none⟩ (.int .i64 (n + 1))).setCell ⟨w.heap.size, 1, none⟩ (.int .i64 x)).cell? ⟨w.heap.size, 1, none⟩ = some (.int .i64 x) := (blk_cell HA1.out 1).trans rfl
    have hb11 := blk_frozen HA1.out 1
    have hr0 : ((w1.setCell ⟨w.heap.size, 0, none⟩ (.int .i64 (n + 1))).setCell ⟨w.heap.size, 1, none⟩ (.int .i64 x)).cell? ⟨w.heap.size + 1, 0, none⟩ = some (.int .i64 0) := (blk_cell HR1.out 0).trans rfl
    have hz0 := blk_frozen HR1.out 0
    have hr1 : ((w1.setCell ⟨w.heap.size, 0, none⟩ (.int .i64 (n + 1))).setCell ⟨w.heap.size, 1, none⟩ (.int .i64 x)).cell? ⟨w.heap.size + 1, 1, none⟩ = some (.int .i64 0) := (blk_cell HR1.out 1).trans rfl
    have hz1 := blk_frozen HR1.out 1
    rw [HY.out]
    go_wp2
    refine bodyPost_ret (results_ct rfl _ _ (w.heap.size + 1) 36 #[.int .i64 (n + 1), .int .i64 x] (0, 0) _ rfl (blk_put (blk_put HR1.out 0 _ rfl) 1 _ rfl) hu rfl (by kernel_rfl)) rfl ?_
    exact ⟨ret_three HP.out, below_set (below_set (below_set (below_set HB1.out (by simp)) (by simp)) (by simp)) (by simp)⟩

set_option maxHeartbeats 400000 in
theorem refnext_calls (n s u : Int) (w : World) : Calls Try.prog 28 #[.agg #[.int .i64 n, .int .i64 s], .int .i64 u] w fun e w' => e = .returned (.tuple #[.agg #[.int .i64 (nextL n s u).1, .int .i64 (nextL n s u).2.1], .int .i64 (nextL n s u).2.2]) ∧ Below w.heap.size w w' := by
  have hu := Try.underlying36
  have HB := Aside0.mk (below_alloc (below_alloc (Below.refl w.heap.size w) (.cells #[.int .i64 n, .int .i64 s] 36)) (.cells #[.int .i64 0, .int .i64 0] 36))
  by_cases c0 : MayP n s
  case neg =>
    have HY : Aside0 (decide (MayP n s) = false) := ⟨decide_eq_false c0⟩
    have HP : Aside0 (nextL n s u = (0, 0, 1)) := ⟨by unfold nextL; rw [if_neg (fun h => c0 h.1)]⟩
    clear c0
    go_enter Try.func28, Try.ntmps28
    go_wp2_with fail
    refine (refmay_calls n s _).mono ?_
    rintro e w1 ⟨rfl, hB⟩
    have HB1 := Aside0.mk (below_step HB.out hB)
    have hb0 : w1.heap[w.heap.size]? = some (.cells #[.int .i64 n, .int .i64 s] 36 (0, 0)) := (hB.block _ (by simp; omega)).trans ((below_alloc (Below.refl _ _) _).block _ (by simp) |>.trans (heap_alloc_new w _))
    have hb1 : w1.heap[w.heap.size + 1]? = some (.cells #[.int .i64 0, .int .i64 0] 36 (0, 0)) := (hB.block _ (by simp)).trans (by have h := heap_alloc_new (w.alloc (.cells #[.int .i64 n, .int .i64 s] 36)) (.cells #[.int .i64 0, .int .i64 0] 36); simpa using h)
    have HK0 := Aside0.mk hb0
    have HK1 := Aside0.mk hb1
    have hc00 : w1.cell? ⟨w.heap.size, 0, none⟩ = some (.int .i64 n) := (blk_cell HK0.out 0).trans rfl
    have hc01 : w1.cell? ⟨w.heap.size, 1, none⟩ = some (.int .i64 s) := (blk_cell HK0.out 1).trans rfl
    have hc10 : w1.cell? ⟨w.heap.size + 1, 0, none⟩ = some (.int .i64 0) := (blk_cell HK1.out 0).trans rfl
    have hc11 : w1.cell? ⟨w.heap.size + 1, 1, none⟩ = some (.int .i64 0) := (blk_cell HK1.out 1).trans rfl
    have hf00 : w1.frozen? ⟨w.heap.size, 0, none⟩ = false := blk_frozen HK0.out 0
    have hf01 : w1.frozen? ⟨w.heap.size, 1, none⟩ = false := blk_frozen HK0.out 1
    have hf10 : w1.frozen? ⟨w.heap.size + 1, 0, none⟩ = false := blk_frozen HK1.out 0
    have hf11 : w1.frozen? ⟨w.heap.size + 1, 1, none⟩ = false := blk_frozen HK1.out 1
    clear hB hb0 hb1
    rw [HY.out]
    go_wp2
    refine bodyPost_ret (results_ct rfl _ _ (w.heap.size + 1) 36 #[.int .i64 (0), .int .i64 (0)] (0, 0) _ rfl (blk_put (blk_put HK1.out 0 _ rfl) 1 _ rfl) hu rfl (by kernel_rfl)) rfl ?_
    exact ⟨ret_three HP.out, below_set (below_set HB1.out (by simp)) (by simp)⟩
  have HY : Aside0 (decide (MayP n s) = true) := ⟨decide_eq_true c0⟩
  by_cases c1 : u < 0
  case pos =>
    have b1 : decide (u < 0) = true := decide_eq_true c1
    have HP : Aside0 (nextL n s u = (0, 0, 1)) := ⟨by unfold nextL; rw [if_neg (fun h => absurd h.2.2.2.1 (by omega))]⟩
    clear c0
    go_enter Try.func28, Try.ntmps28
    go_wp2_with fail
    refine (refmay_calls n s _).mono ?_
    rintro e w1 ⟨rfl, hB⟩
    have HB1 := Aside0.mk (below_step HB.out hB)
    have hb0 : w1.heap[w.heap.size]? = some (.cells #[.int .i64 n, .int .i64 s] 36 (0, 0)) := (hB.block _ (by simp; omega)).trans ((below_alloc (Below.refl _ _) _).block _ (by simp) |>.trans (heap_alloc_new w _))
    have hb1 : w1.heap[w.heap.size + 1]? = some (.cells #[.int .i64 0, .int .i64 0] 36 (0, 0)) := (hB.block _ (by simp)).trans (by have h := heap_alloc_new (w.alloc (.cells #[.int .i64 n, .int .i64 s] 36)) (.cells #[.int .i64 0, .int .i64 0] 36); simpa using h)
    have HK0 := Aside0.mk hb0
    have HK1 := Aside0.mk hb1
    have hc00 : w1.cell? ⟨w.heap.size, 0, none⟩ = some (.int .i64 n) := (blk_cell HK0.out 0).trans rfl
    have hc01 : w1.cell? ⟨w.heap.size, 1, none⟩ = some (.int .i64 s) := (blk_cell HK0.out 1).trans rfl
    have hc10 : w1.cell? ⟨w.heap.size + 1, 0, none⟩ = some (.int .i64 0) := (blk_cell HK1.out 0).trans rfl
    have hc11 : w1.cell? ⟨w.heap.size + 1, 1, none⟩ = some (.int .i64 0) := (blk_cell HK1.out 1).trans rfl
    have hf00 : w1.frozen? ⟨w.heap.size, 0, none⟩ = false := blk_frozen HK0.out 0
    have hf01 : w1.frozen? ⟨w.heap.size, 1, none⟩ = false := blk_frozen HK0.out 1
    have hf10 : w1.frozen? ⟨w.heap.size + 1, 0, none⟩ = false := blk_frozen HK1.out 0
    have hf11 : w1.frozen? ⟨w.heap.size + 1, 1, none⟩ = false := blk_frozen HK1.out 1
    clear hB hb0 hb1
    rw [HY.out]
    go_wp2
    refine bodyPost_ret (results_ct rfl _ _ (w.heap.size + 1) 36 #[.int .i64 (0), .int .i64 (0)] (0, 0) _ rfl (blk_put (blk_put HK1.out 0 _ rfl) 1 _ rfl) hu rfl (by kernel_rfl)) rfl ?_
    exact ⟨ret_three HP.out, below_set (below_set HB1.out (by simp)) (by simp)⟩
  have b1 : decide (u < 0) = false := decide_eq_false c1
  by_cases c2 : 65535 < u
  case pos =>
    have b2 : decide (65535 < u) = true := decide_eq_true c2
    have HP : Aside0 (nextL n s u = (0, 0, 1)) := ⟨by unfold nextL; rw [if_neg (fun h => absurd (fits_lt h).2.2 (by omega))]⟩
    clear c0
    go_enter Try.func28, Try.ntmps28
    go_wp2_with fail
    refine (refmay_calls n s _).mono ?_
    rintro e w1 ⟨rfl, hB⟩
    have HB1 := Aside0.mk (below_step HB.out hB)
    have hb0 : w1.heap[w.heap.size]? = some (.cells #[.int .i64 n, .int .i64 s] 36 (0, 0)) := (hB.block _ (by simp; omega)).trans ((below_alloc (Below.refl _ _) _).block _ (by simp) |>.trans (heap_alloc_new w _))
    have hb1 : w1.heap[w.heap.size + 1]? = some (.cells #[.int .i64 0, .int .i64 0] 36 (0, 0)) := (hB.block _ (by simp)).trans (by have h := heap_alloc_new (w.alloc (.cells #[.int .i64 n, .int .i64 s] 36)) (.cells #[.int .i64 0, .int .i64 0] 36); simpa using h)
    have HK0 := Aside0.mk hb0
    have HK1 := Aside0.mk hb1
    have hc00 : w1.cell? ⟨w.heap.size, 0, none⟩ = some (.int .i64 n) := (blk_cell HK0.out 0).trans rfl
    have hc01 : w1.cell? ⟨w.heap.size, 1, none⟩ = some (.int .i64 s) := (blk_cell HK0.out 1).trans rfl
    have hc10 : w1.cell? ⟨w.heap.size + 1, 0, none⟩ = some (.int .i64 0) := (blk_cell HK1.out 0).trans rfl
    have hc11 : w1.cell? ⟨w.heap.size + 1, 1, none⟩ = some (.int .i64 0) := (blk_cell HK1.out 1).trans rfl
    have hf00 : w1.frozen? ⟨w.heap.size, 0, none⟩ = false := blk_frozen HK0.out 0
    have hf01 : w1.frozen? ⟨w.heap.size, 1, none⟩ = false := blk_frozen HK0.out 1
    have hf10 : w1.frozen? ⟨w.heap.size + 1, 0, none⟩ = false := blk_frozen HK1.out 0
    have hf11 : w1.frozen? ⟨w.heap.size + 1, 1, none⟩ = false := blk_frozen HK1.out 1
    clear hB hb0 hb1
    rw [HY.out]
    go_wp2
    refine bodyPost_ret (results_ct rfl _ _ (w.heap.size + 1) 36 #[.int .i64 (0), .int .i64 (0)] (0, 0) _ rfl (blk_put (blk_put HK1.out 0 _ rfl) 1 _ rfl) hu rfl (by kernel_rfl)) rfl ?_
    exact ⟨ret_three HP.out, below_set (below_set HB1.out (by simp)) (by simp)⟩
  have b2 : decide (65535 < u) = false := decide_eq_false c2
  have hf : FitsP n s 16 u := ⟨c0, by decide, by decide, by omega, (div0 (by omega)).mpr (by have e : (2 : Int) ^ (16 : Int).toNat = 65536 := by decide
                                                                                             rw [e]; omega)⟩
  have HF := Aside0.mk hf
  have hm := hf.1
  unfold MayP at hm
  obtain ⟨hn0, hn1, hs0, hs1⟩ := hm
  clear hf c0
  by_cases hc : 4194304 < s + u
  case pos =>
    have b3 : decide (4194304 < s + u) = true := decide_eq_true hc
    by_cases hn : n = 31
    case pos =>
      have HP : Aside0 (nextL n s u = (16, (4194304) / 2, 0)) := ⟨by unfold nextL; rw [if_pos HF.out, if_pos hn, if_pos hc]⟩
      have b4 : (n == 31) = true := beq_iff_eq.mpr hn
      clear hn hc
      go_enter Try.func28, Try.ntmps28
      go_wp2_with fail
      refine (refmay_calls n s _).mono ?_
      rintro e w1 ⟨rfl, hB⟩
      have HB1 := Aside0.mk (below_step HB.out hB)
      have hb0 : w1.heap[w.heap.size]? = some (.cells #[.int .i64 n, .int .i64 s] 36 (0, 0)) := (hB.block _ (by simp; omega)).trans ((below_alloc (Below.refl _ _) _).block _ (by simp) |>.trans (heap_alloc_new w _))
      have hb1 : w1.heap[w.heap.size + 1]? = some (.cells #[.int .i64 0, .int .i64 0] 36 (0, 0)) := (hB.block _ (by simp)).trans (by have h := heap_alloc_new (w.alloc (.cells #[.int .i64 n, .int .i64 s] 36)) (.cells #[.int .i64 0, .int .i64 0] 36); simpa using h)
      have HK0 := Aside0.mk hb0
      have HK1 := Aside0.mk hb1
      have hc00 : w1.cell? ⟨w.heap.size, 0, none⟩ = some (.int .i64 n) := (blk_cell HK0.out 0).trans rfl
      have hc01 : w1.cell? ⟨w.heap.size, 1, none⟩ = some (.int .i64 s) := (blk_cell HK0.out 1).trans rfl
      have hc10 : w1.cell? ⟨w.heap.size + 1, 0, none⟩ = some (.int .i64 0) := (blk_cell HK1.out 0).trans rfl
      have hc11 : w1.cell? ⟨w.heap.size + 1, 1, none⟩ = some (.int .i64 0) := (blk_cell HK1.out 1).trans rfl
      have hf00 : w1.frozen? ⟨w.heap.size, 0, none⟩ = false := blk_frozen HK0.out 0
      have hf01 : w1.frozen? ⟨w.heap.size, 1, none⟩ = false := blk_frozen HK0.out 1
      have hf10 : w1.frozen? ⟨w.heap.size + 1, 0, none⟩ = false := blk_frozen HK1.out 0
      have hf11 : w1.frozen? ⟨w.heap.size + 1, 1, none⟩ = false := blk_frozen HK1.out 1
      clear hB hb0 hb1
      rw [HY.out]
      go_wp2
      refine bodyPost_ret (results_ct rfl _ _ (w.heap.size + 1) 36 #[.int .i64 (16), .int .i64 ((4194304) / 2)] (0, 0) _ rfl (blk_put (blk_put HK1.out 0 _ rfl) 1 _ rfl) hu rfl (by kernel_rfl)) rfl ?_
      exact ⟨ret_three HP.out, below_set (below_set HB1.out (by simp)) (by simp)⟩
    case neg =>
      have HP : Aside0 (nextL n s u = (n + 1, 4194304, 0)) := ⟨by unfold nextL; rw [if_pos HF.out, if_neg hn, if_pos hc]⟩
      have b4 : (n == 31) = false := beq_eq_false_iff_ne.mpr hn
      clear hn hc
      go_enter Try.func28, Try.ntmps28
      go_wp2_with fail
      refine (refmay_calls n s _).mono ?_
      rintro e w1 ⟨rfl, hB⟩
      have HB1 := Aside0.mk (below_step HB.out hB)
      have hb0 : w1.heap[w.heap.size]? = some (.cells #[.int .i64 n, .int .i64 s] 36 (0, 0)) := (hB.block _ (by simp; omega)).trans ((below_alloc (Below.refl _ _) _).block _ (by simp) |>.trans (heap_alloc_new w _))
      have hb1 : w1.heap[w.heap.size + 1]? = some (.cells #[.int .i64 0, .int .i64 0] 36 (0, 0)) := (hB.block _ (by simp)).trans (by have h := heap_alloc_new (w.alloc (.cells #[.int .i64 n, .int .i64 s] 36)) (.cells #[.int .i64 0, .int .i64 0] 36); simpa using h)
      have HK0 := Aside0.mk hb0
      have HK1 := Aside0.mk hb1
      have hc00 : w1.cell? ⟨w.heap.size, 0, none⟩ = some (.int .i64 n) := (blk_cell HK0.out 0).trans rfl
      have hc01 : w1.cell? ⟨w.heap.size, 1, none⟩ = some (.int .i64 s) := (blk_cell HK0.out 1).trans rfl
      have hc10 : w1.cell? ⟨w.heap.size + 1, 0, none⟩ = some (.int .i64 0) := (blk_cell HK1.out 0).trans rfl
      have hc11 : w1.cell? ⟨w.heap.size + 1, 1, none⟩ = some (.int .i64 0) := (blk_cell HK1.out 1).trans rfl
      have hf00 : w1.frozen? ⟨w.heap.size, 0, none⟩ = false := blk_frozen HK0.out 0
      have hf01 : w1.frozen? ⟨w.heap.size, 1, none⟩ = false := blk_frozen HK0.out 1
      have hf10 : w1.frozen? ⟨w.heap.size + 1, 0, none⟩ = false := blk_frozen HK1.out 0
      have hf11 : w1.frozen? ⟨w.heap.size + 1, 1, none⟩ = false := blk_frozen HK1.out 1
      clear hB hb0 hb1
      rw [HY.out]
      go_wp2
      refine bodyPost_ret (results_ct rfl _ _ (w.heap.size + 1) 36 #[.int .i64 (n + 1), .int .i64 (4194304)] (0, 0) _ rfl (blk_put (blk_put HK1.out 0 _ rfl) 1 _ rfl) hu rfl (by kernel_rfl)) rfl ?_
      exact ⟨ret_three HP.out, below_set (below_set HB1.out (by simp)) (by simp)⟩
  case neg =>
    have b3 : decide (4194304 < s + u) = false := decide_eq_false hc
    by_cases hn : n = 31
    case pos =>
      have HP : Aside0 (nextL n s u = (16, (s + u) / 2, 0)) := ⟨by unfold nextL; rw [if_pos HF.out, if_pos hn, if_neg hc]⟩
      have b4 : (n == 31) = true := beq_iff_eq.mpr hn
      clear hn hc
      go_enter Try.func28, Try.ntmps28
      go_wp2_with fail
      refine (refmay_calls n s _).mono ?_
      rintro e w1 ⟨rfl, hB⟩
      have HB1 := Aside0.mk (below_step HB.out hB)
      have hb0 : w1.heap[w.heap.size]? = some (.cells #[.int .i64 n, .int .i64 s] 36 (0, 0)) := (hB.block _ (by simp; omega)).trans ((below_alloc (Below.refl _ _) _).block _ (by simp) |>.trans (heap_alloc_new w _))
      have hb1 : w1.heap[w.heap.size + 1]? = some (.cells #[.int .i64 0, .int .i64 0] 36 (0, 0)) := (hB.block _ (by simp)).trans (by have h := heap_alloc_new (w.alloc (.cells #[.int .i64 n, .int .i64 s] 36)) (.cells #[.int .i64 0, .int .i64 0] 36); simpa using h)
      have HK0 := Aside0.mk hb0
      have HK1 := Aside0.mk hb1
      have hc00 : w1.cell? ⟨w.heap.size, 0, none⟩ = some (.int .i64 n) := (blk_cell HK0.out 0).trans rfl
      have hc01 : w1.cell? ⟨w.heap.size, 1, none⟩ = some (.int .i64 s) := (blk_cell HK0.out 1).trans rfl
      have hc10 : w1.cell? ⟨w.heap.size + 1, 0, none⟩ = some (.int .i64 0) := (blk_cell HK1.out 0).trans rfl
      have hc11 : w1.cell? ⟨w.heap.size + 1, 1, none⟩ = some (.int .i64 0) := (blk_cell HK1.out 1).trans rfl
      have hf00 : w1.frozen? ⟨w.heap.size, 0, none⟩ = false := blk_frozen HK0.out 0
      have hf01 : w1.frozen? ⟨w.heap.size, 1, none⟩ = false := blk_frozen HK0.out 1
      have hf10 : w1.frozen? ⟨w.heap.size + 1, 0, none⟩ = false := blk_frozen HK1.out 0
      have hf11 : w1.frozen? ⟨w.heap.size + 1, 1, none⟩ = false := blk_frozen HK1.out 1
      clear hB hb0 hb1
      rw [HY.out]
      go_wp2
      refine bodyPost_ret (results_ct rfl _ _ (w.heap.size + 1) 36 #[.int .i64 (16), .int .i64 ((s + u) / 2)] (0, 0) _ rfl (blk_put (blk_put HK1.out 0 _ rfl) 1 _ rfl) hu rfl (by kernel_rfl)) rfl ?_
      exact ⟨ret_three HP.out, below_set (below_set HB1.out (by simp)) (by simp)⟩
    case neg =>
      have HP : Aside0 (nextL n s u = (n + 1, s + u, 0)) := ⟨by unfold nextL; rw [if_pos HF.out, if_neg hn, if_neg hc]⟩
      have b4 : (n == 31) = false := beq_eq_false_iff_ne.mpr hn
      clear hn hc
      go_enter Try.func28, Try.ntmps28
      go_wp2_with fail
      refine (refmay_calls n s _).mono ?_
      rintro e w1 ⟨rfl, hB⟩
      have HB1 := Aside0.mk (below_step HB.out hB)
      have hb0 : w1.heap[w.heap.size]? = some (.cells #[.int .i64 n, .int .i64 s] 36 (0, 0)) := (hB.block _ (by simp; omega)).trans ((below_alloc (Below.refl _ _) _).block _ (by simp) |>.trans (heap_alloc_new w _))
      have hb1 : w1.heap[w.heap.size + 1]? = some (.cells #[.int .i64 0, .int .i64 0] 36 (0, 0)) := (hB.block _ (by simp)).trans (by have h := heap_alloc_new (w.alloc (.cells #[.int .i64 n, .int .i64 s] 36)) (.cells #[.int .i64 0, .int .i64 0] 36); simpa using h)
      have HK0 := Aside0.mk hb0
      have HK1 := Aside0.mk hb1
      have hc00 : w1.cell? ⟨w.heap.size, 0, none⟩ = some (.int .i64 n) := (blk_cell HK0.out 0).trans rfl
      have hc01 : w1.cell? ⟨w.heap.size, 1, none⟩ = some (.int .i64 s) := (blk_cell HK0.out 1).trans rfl
      have hc10 : w1.cell? ⟨w.heap.size + 1, 0, none⟩ = some (.int .i64 0) := (blk_cell HK1.out 0).trans rfl
      have hc11 : w1.cell? ⟨w.heap.size + 1, 1, none⟩ = some (.int .i64 0) := (blk_cell HK1.out 1).trans rfl
      have hf00 : w1.frozen? ⟨w.heap.size, 0, none⟩ = false := blk_frozen HK0.out 0
      have hf01 : w1.frozen? ⟨w.heap.size, 1, none⟩ = false := blk_frozen HK0.out 1
      have hf10 : w1.frozen? ⟨w.heap.size + 1, 0, none⟩ = false := blk_frozen HK1.out 0
      have hf11 : w1.frozen? ⟨w.heap.size + 1, 1, none⟩ = false := blk_frozen HK1.out 1
      clear hB hb0 hb1
      rw [HY.out]
      go_wp2
      refine bodyPost_ret (results_ct rfl _ _ (w.heap.size + 1) 36 #[.int .i64 (n + 1), .int .i64 (s + u)] (0, 0) _ rfl (blk_put (blk_put HK1.out 0 _ rfl) 1 _ rfl) hu rfl (by kernel_rfl)) rfl ?_
      exact ⟨ret_three HP.out, below_set (below_set HB1.out (by simp)) (by simp)⟩

theorem ret_agg {p q : Int × Int} (h : p = q) : Ending.returned (.agg #[.int .i64 q.1, .int .i64 q.2]) = Ending.returned (.agg #[.int .i64 p.1, .int .i64 p.2]) := by rw [h]

theorem start_calls (d : Int) (w : World) : Calls Try.prog 29 #[.int .i64 d] w fun e w' => e = .returned (.agg #[.int .i64 (startL d).1, .int .i64 (startL d).2]) ∧ Below w.heap.size w w' := by
  have hu := Try.underlying36
  by_cases c0 : d < 1
  case pos =>
    have HP : Aside0 (startL d = (0, 0)) := ⟨by unfold startL; rw [if_pos (.inl c0)]⟩
    have b0 : decide (d < 1) = true := decide_eq_true c0
    go_enter Try.func29, Try.ntmps29
    go_wp2
    refine bodyPost_ret (results_cell_row rfl _ _ w.heap.size 36 #[.int .i64 (0), .int .i64 (0)] (0, 0) _ rfl (heap_alloc_new w _) hu rfl (by kernel_rfl)) rfl ?_
    exact ⟨ret_agg HP.out, below_alloc (Below.refl w.heap.size w) _⟩
  have b0 : decide (d < 1) = false := decide_eq_false c0
  by_cases c1 : 16 < d
  case pos =>
    have HP : Aside0 (startL d = (0, 0)) := ⟨by unfold startL; rw [if_pos (.inr c1)]⟩
    have b1 : decide (16 < d) = true := decide_eq_true c1
    go_enter Try.func29, Try.ntmps29
    go_wp2
    refine bodyPost_ret (results_cell_row rfl _ _ w.heap.size 36 #[.int .i64 (0), .int .i64 (0)] (0, 0) _ rfl (heap_alloc_new w _) hu rfl (by kernel_rfl)) rfl ?_
    exact ⟨ret_agg HP.out, below_alloc (Below.refl w.heap.size w) _⟩
  have b1 : decide (16 < d) = false := decide_eq_false c1
  have HP : Aside0 (startL d = (1, 2 ^ (d / 2).toNat)) := ⟨by unfold startL; rw [if_neg (by omega)]⟩
  have hp := pow16 (k := (d / 2).toNat) (by omega)
  have hd0 : 0 ≤ d / 2 := by omega
  have hd1 : d / 2 ≤ 60 := by omega
  have hd2 : d / 2 ≤ 64 := by omega
  generalize hx : (2 : Int) ^ (d / 2).toNat = x at hp HP
  obtain ⟨hx0, hx1⟩ := hp
  have hy : IntKind.i64.wrap x = x := by rw [IntKind.wrap_i64]; omega
  go_enter Try.func29, Try.ntmps29
  go_wp2
  refine bodyPost_ret (results_cell_row rfl _ _ w.heap.size 36 #[.int .i64 (1), .int .i64 (x)] (0, 0) _ rfl (heap_alloc_new w _) hu rfl (by kernel_rfl)) rfl ?_
  exact ⟨ret_agg HP.out, below_alloc (Below.refl w.heap.size w) _⟩

theorem refstart_calls (d : Int) (w : World) : Calls Try.prog 27 #[.int .i64 d] w fun e w' => e = .returned (.agg #[.int .i64 (startL d).1, .int .i64 (startL d).2]) ∧ Below w.heap.size w w' := by
  have hu := Try.underlying36
  by_cases c0 : d < 1
  case pos =>
    have HP : Aside0 (startL d = (0, 0)) := ⟨by unfold startL; rw [if_pos (.inl c0)]⟩
    have b0 : decide (d < 1) = true := decide_eq_true c0
    go_enter Try.func27, Try.ntmps27
    go_wp2
    refine bodyPost_ret (results_cell_row rfl _ _ w.heap.size 36 #[.int .i64 (0), .int .i64 (0)] (0, 0) _ rfl (heap_alloc_new w _) hu rfl (by kernel_rfl)) rfl ?_
    exact ⟨ret_agg HP.out, below_alloc (Below.refl w.heap.size w) _⟩
  have b0 : decide (d < 1) = false := decide_eq_false c0
  by_cases c1 : 16 < d
  case pos =>
    have HP : Aside0 (startL d = (0, 0)) := ⟨by unfold startL; rw [if_pos (.inr c1)]⟩
    have b1 : decide (16 < d) = true := decide_eq_true c1
    go_enter Try.func27, Try.ntmps27
    go_wp2
    refine bodyPost_ret (results_cell_row rfl _ _ w.heap.size 36 #[.int .i64 (0), .int .i64 (0)] (0, 0) _ rfl (heap_alloc_new w _) hu rfl (by kernel_rfl)) rfl ?_
    exact ⟨ret_agg HP.out, below_alloc (Below.refl w.heap.size w) _⟩
  have b1 : decide (16 < d) = false := decide_eq_false c1
  have HP : Aside0 (startL d = (1, 2 ^ (d / 2).toNat)) := ⟨by unfold startL; rw [if_neg (by omega)]⟩
  have hp := pow16 (k := (d / 2).toNat) (by omega)
  have hd0 : 0 ≤ d / 2 := by omega
  have hd1 : d / 2 ≤ 60 := by omega
  have hd2 : d / 2 ≤ 64 := by omega
  have HPW := Aside0.mk (fun W : World => power_calls (d / 2) W hd0 hd1)
  generalize hx : (2 : Int) ^ (d / 2).toNat = x at hp HP HPW
  clear hx hp
  go_enter Try.func27, Try.ntmps27
  go_wp2_with (go_at_call 31; refine (HPW.out _).mono ?_; rintro e w' ⟨rfl, rfl⟩)
  go_wp2
  refine bodyPost_ret (results_cell_row rfl _ _ w.heap.size 36 #[.int .i64 (1), .int .i64 (x)] (0, 0) _ rfl (heap_alloc_new w _) hu rfl (by kernel_rfl)) rfl ?_
  exact ⟨ret_agg HP.out, below_alloc (Below.refl w.heap.size w) _⟩

/-- Power's contract, its answer under a name. -/
def PowIs (n y : Int) : Prop := ∀ W : World, Calls Try.prog 31 #[.int .i64 n] W fun e w' => e = .returned (.int .i64 y) ∧ w' = W
theorem powIs {n : Int} (h0 : 0 ≤ n) (h1 : n ≤ 60) : PowIs n (2 ^ n.toNat) := fun W => power_calls n W h0 h1
def CodePost (w : World) (n s d u : Int) (e : Ending) (w' : World) : Prop :=
  ∃ v : Value, e = .returned (.tuple #[v, .int .i64 (codeL n s d u).2]) ∧ Kd.R (Kd.int .i64) 3 w' w.heap.size (fun _ => True) v (codeL n s d u).1 ∧ Below w.heap.size w w'
theorem code_none {w w' : World} {n s d u : Int} (h : codeL n s d u = ([], 1)) (hB : Below w.heap.size w w') : CodePost w n s d u (.returned (.tuple #[.slice none 0 0, .int .i64 1])) w' :=
  ⟨_, by rw [h], by rw [h]; exact Kd.R_nil _ _ _ _ _, hB⟩
theorem code_some {w w' : World} {n s d u : Int} {l : List Int} {v : Value} (h : codeL n s d u = (l, 0)) (hR : Kd.R (Kd.int .i64) 3 w' w.heap.size (fun _ => True) v l) (hB : Below w.heap.size w w') : CodePost w n s d u (.returned (.tuple #[v, .int .i64 0])) w' :=
  ⟨v, by rw [h], by rw [h]; exact hR, hB⟩
set_option maxHeartbeats 800000 in
theorem code_calls (n s d u : Int) (w : World) : Calls Try.prog 13 #[.agg #[.int .i64 n, .int .i64 s], .int .i64 d, .int .i64 u] w (CodePost w n s d u) := by
  have hu := Try.underlying36
  have HB := Aside0.mk (below_alloc (Below.refl w.heap.size w) (.cells #[.int .i64 n, .int .i64 s] 36))
  by_cases c0 : FitsP n s d 0
  case neg =>
    have HP : Aside0 (paramL n s d = (0, 1)) := ⟨by unfold paramL; rw [if_neg c0]⟩
    have HR : Aside0 (codeL n s d u = ([], 1)) := ⟨by unfold codeL; rw [if_neg (fun h => c0 (fits_zero h))]⟩
    clear c0
    go_enter Try.func13, Try.ntmps13
    go_wp2_with fail
    refine (refparam_calls n s d _).mono ?_
    rintro e w1 ⟨rfl, hB⟩
    have HB1 := Aside0.mk (below_step HB.out hB)
    have hb : w1.heap[w.heap.size]? = some (.cells #[.int .i64 n, .int .i64 s] 36 (0, 0)) := (hB.block _ (by simp)).trans (heap_alloc_new w _)
    have HK := Aside0.mk hb
    have hc0 : w1.cell? ⟨w.heap.size, 0, none⟩ = some (.int .i64 n) := (blk_cell HK.out 0).trans rfl
    have hc1 : w1.cell? ⟨w.heap.size, 1, none⟩ = some (.int .i64 s) := (blk_cell HK.out 1).trans rfl
    clear hB hb
    rw [HP.out]
    go_wp2
    go_ret2
    exact code_none HR.out HB1.out
  have HP : Aside0 (paramL n s d = ((paramK n s d.toNat : Int), 0)) := ⟨by unfold paramL; rw [if_pos c0]⟩
  by_cases c1 : u < 0
  case pos =>
    have HR : Aside0 (codeL n s d u = ([], 1)) := ⟨by unfold codeL; rw [if_neg (fun h => absurd h.2.2.2.1 (by omega))]⟩
    have b1 : decide (u < 0) = true := decide_eq_true c1
    clear c0
    go_enter Try.func13, Try.ntmps13
    go_wp2_with fail
    refine (refparam_calls n s d _).mono ?_
    rintro e w1 ⟨rfl, hB⟩
    have HB1 := Aside0.mk (below_step HB.out hB)
    have hb : w1.heap[w.heap.size]? = some (.cells #[.int .i64 n, .int .i64 s] 36 (0, 0)) := (hB.block _ (by simp)).trans (heap_alloc_new w _)
    have HK := Aside0.mk hb
    have hc0 : w1.cell? ⟨w.heap.size, 0, none⟩ = some (.int .i64 n) := (blk_cell HK.out 0).trans rfl
    have hc1 : w1.cell? ⟨w.heap.size, 1, none⟩ = some (.int .i64 s) := (blk_cell HK.out 1).trans rfl
    clear hB hb
    rw [HP.out]
    go_wp2
    go_ret2
    exact code_none HR.out HB1.out
  have b1 : decide (u < 0) = false := decide_eq_false c1
  have hd0 := c0.2.1
  have hd1 := c0.2.2.1
  have HPD := Aside0.mk (powIs (n := d) (by omega) (by omega))
  have hu0 : 0 ≤ u := by omega
  by_cases c2 : u < 2 ^ d.toNat
  case neg =>
    have HR : Aside0 (codeL n s d u = ([], 1)) := ⟨by unfold codeL; rw [if_neg (fun h => c2 ((div0 hu0).mp h.2.2.2.2))]⟩
    have b2 : decide (2 ^ d.toNat ≤ u) = true := decide_eq_true (by omega)
    generalize (2 : Int) ^ d.toNat = y at HPD b2
    clear c0 c2
    go_enter Try.func13, Try.ntmps13
    go_wp2_with fail
    refine (refparam_calls n s d _).mono ?_
    rintro e w1 ⟨rfl, hB⟩
    have HB1 := Aside0.mk (below_step HB.out hB)
    have hb : w1.heap[w.heap.size]? = some (.cells #[.int .i64 n, .int .i64 s] 36 (0, 0)) := (hB.block _ (by simp)).trans (heap_alloc_new w _)
    have HK := Aside0.mk hb
    have hc0 : w1.cell? ⟨w.heap.size, 0, none⟩ = some (.int .i64 n) := (blk_cell HK.out 0).trans rfl
    have hc1 : w1.cell? ⟨w.heap.size, 1, none⟩ = some (.int .i64 s) := (blk_cell HK.out 1).trans rfl
    clear hB hb
    rw [HP.out]
    go_wp2_with fail
    refine (HPD.out _).mono ?_
    rintro e w9 ⟨rfl, hw⟩
    replace hw := hw.symm
    subst hw
    go_wp2
    go_ret2
    exact code_none HR.out HB1.out
  have hf : FitsP n s d u := ⟨c0.1, hd0, hd1, hu0, (div0 hu0).mpr c2⟩
  have b2 : decide (2 ^ d.toNat ≤ u) = false := decide_eq_false (by omega)
  have hul := fits_lt hf
  have hu1 := hul.2.2
  have hk := paramK_16 hf
  have hcode : codeL n s d u = (symL (paramK n s d.toNat) d.toNat u, 0) := by unfold codeL; rw [if_pos hf]
  generalize (2 : Int) ^ d.toNat = y at HPD b2
  clear c0 c2 hf hul
  generalize paramK n s d.toNat = k at hk hcode HP
  have HPK : Aside0 (PowIs k (2 ^ k)) := ⟨by have h := powIs (n := (k : Int)) (by omega) (by omega); rwa [Int.toNat_natCast] at h⟩
  have hp := pow16 hk
  have hx0 : 0 ≤ u / 2 ^ k := Int.ediv_nonneg hu0 (by omega)
  have hx1 : u / 2 ^ k ≤ u := Int.ediv_le_self _ hu0
  have hm0 := Int.emod_nonneg u (show (2 : Int) ^ k ≠ 0 by omega)
  have hm1 := Int.emod_lt_of_pos u (show (0 : Int) < 2 ^ k by omega)
  unfold symL at hcode
  have HZ : Aside0 (u % 2 ^ k / 2 ^ k = 0) := ⟨Int.ediv_eq_zero_of_lt hm0 hm1⟩
  generalize hz : (2 : Int) ^ k = z at hp hx0 hx1 hm0 hm1 HPK hcode HZ
  generalize hq : u / z = q at hx0 hx1 hcode
  generalize hr : u % z = r at hm0 hm1 hcode HZ
  obtain ⟨hp0, hp1⟩ := hp
  have HC := Aside0.mk hcode
  have HZ2 := Aside0.mk hz
  have hk0 : (0 : Int) ≤ (k : Int) := by omega
  have hk32 : (k : Int) ≤ 32 := by omega
  clear hcode hz
  have hd32 : d ≤ 32 := by omega
  have hd00 : 0 ≤ d := by omega
  by_cases hc : 20 ≤ q
  case pos =>
    have b3 : decide (20 ≤ q) = true := decide_eq_true hc
    have HC2 : Aside0 (codeL n s d u = (List.replicate 20 1 ++ numBits u d.toNat, 0)) := ⟨by rw [HC.out, if_pos hc]⟩
    clear hc
    go_enter Try.func13, Try.ntmps13
    go_wp2_with fail
    refine (refparam_calls n s d _).mono ?_
    rintro e w1 ⟨rfl, hB⟩
    have HB1 := Aside0.mk (below_step HB.out hB)
    have hb : w1.heap[w.heap.size]? = some (.cells #[.int .i64 n, .int .i64 s] 36 (0, 0)) := (hB.block _ (by simp)).trans (heap_alloc_new w _)
    have HK := Aside0.mk hb
    have hc0 : w1.cell? ⟨w.heap.size, 0, none⟩ = some (.int .i64 n) := (blk_cell HK.out 0).trans rfl
    have hc1 : w1.cell? ⟨w.heap.size, 1, none⟩ = some (.int .i64 s) := (blk_cell HK.out 1).trans rfl
    clear hB hb
    rw [HP.out]
    go_wp2_with fail
    refine (HPD.out _).mono ?_
    rintro e w9 ⟨rfl, hw⟩
    replace hw := hw.symm
    subst hw
    go_wp2_with fail
    refine (HPK.out _).mono ?_
    rintro e w9 ⟨rfl, hw⟩
    replace hw := hw.symm
    subst hw
    go_wp2_with fail
    refine (refones_ok 20 20 _ (by decide) (by decide) (by omega) (by omega)).mono ?_
    rintro e w2 ⟨v2, rfl, hR, hB⟩
    have HB2 := Aside0.mk (below_step HB1.out hB)
    have HO2 := Aside0.mk (Kd.R_lower hR HB1.out.size)
    obtain ⟨ys, hys⟩ : ∃ ys, ys = List.replicate (20 : Int).toNat (1 : Int) ++ (if (20 : Int) < 20 then [0] else []) := ⟨_, rfl⟩
    rw [← hys] at HO2
    have HY1 := Aside0.mk hys
    have HL1 : Aside0 (ys.length ≤ 21) := ⟨by rw [hys, List.length_append, List.length_replicate]; split <;> simp <;> omega⟩
    obtain ⟨A2, c2, rfl⟩ := Kd.R_slice HO2.out
    clear hR hB hys
    go_wp2_with fail
    refine (plain_ok u d _ (by omega) (by omega) (by omega) (by omega)).mono ?_
    rintro e w3 ⟨v3, rfl, hR, hB⟩
    have HB3 := Aside0.mk (below_step HB2.out hB)
    have HO3 := Aside0.mk (Kd.R_below HO2.out hB)
    obtain ⟨zs, hzs⟩ : ∃ zs, zs = numBits u (d : Int).toNat := ⟨_, rfl⟩
    rw [← hzs] at hR
    have HY2 := Aside0.mk hzs
    have HL2 : Aside0 (zs.length ≤ 16) := ⟨by rw [hzs, numBits_len]; omega⟩
    obtain ⟨A3, c3, rfl⟩ := Kd.R_slice hR
    have HR3 := Aside0.mk ((Kd.R_reads' hR).2.2)
    have hz3 := Aside0.mk HB3.out.size
    clear hR hB hzs
    go_wp2_with ((with_reducible refine gate_builtin (b := .append) (xs := #[.tmp 53, .tmp 54]) rfl ?_); at_builtin; refine Kd.R_append_row (Value.int .i64) 0 (w0 := w) (W := w3) w.heap.size rfl (.tmp 53) (.tmp 54) 32 3 (.int .i64 0) 8 rfl Try.underlying32 infoI rfl (by decide) (.slice A2 ys.length c2) ys zs A3 zs.length c3 (fun _ => True) rfl rfl (fun _ _ => trivial) HO3.out HR3.out HB3.out hz3.out (by have := HL1.out; have := HL2.out; omega) ?_; intro v1 w1 ho hb hg hat; have HO4 := Aside0.mk ho; have HB4 := Aside0.mk hb; clear ho hb hg hat)
    go_ret2
    exact code_some HC2.out (by have h := HO4.out; rwa [show ys ++ zs = _ from by rw [HY1.out, HY2.out]] at h) HB4.out
  have b3 : decide (20 ≤ q) = false := decide_eq_false hc
  have hq20 : q < 20 := by omega
  have HC2 : Aside0 (codeL n s d u = (List.replicate q.toNat 1 ++ [0] ++ numBits r k, 0)) := ⟨by rw [HC.out, if_neg hc]⟩
  clear hc
  go_enter Try.func13, Try.ntmps13
  go_wp2_with fail
  refine (refparam_calls n s d _).mono ?_
  rintro e w1 ⟨rfl, hB⟩
  have HB1 := Aside0.mk (below_step HB.out hB)
  have hb : w1.heap[w.heap.size]? = some (.cells #[.int .i64 n, .int .i64 s] 36 (0, 0)) := (hB.block _ (by simp)).trans (heap_alloc_new w _)
  have HK := Aside0.mk hb
  have hc0 : w1.cell? ⟨w.heap.size, 0, none⟩ = some (.int .i64 n) := (blk_cell HK.out 0).trans rfl
  have hc1 : w1.cell? ⟨w.heap.size, 1, none⟩ = some (.int .i64 s) := (blk_cell HK.out 1).trans rfl
  clear hB hb
  rw [HP.out]
  go_wp2_with fail
  refine (HPD.out _).mono ?_
  rintro e w9 ⟨rfl, hw⟩
  replace hw := hw.symm
  subst hw
  go_wp2_with fail
  refine (HPK.out _).mono ?_
  rintro e w9 ⟨rfl, hw⟩
  replace hw := hw.symm
  subst hw
  go_wp2_with fail
  refine (refones_ok q 20 _ (by decide) (by decide) (by omega) (by omega)).mono ?_
  rintro e w2 ⟨v2, rfl, hR, hB⟩
  have HB2 := Aside0.mk (below_step HB1.out hB)
  have HO2 := Aside0.mk (Kd.R_lower hR HB1.out.size)
  obtain ⟨ys, hys⟩ : ∃ ys, ys = List.replicate (q : Int).toNat (1 : Int) ++ (if (q : Int) < 20 then [0] else []) := ⟨_, rfl⟩
  rw [← hys] at HO2
  have HY1 := Aside0.mk hys
  have HL1 : Aside0 (ys.length ≤ 21) := ⟨by rw [hys, List.length_append, List.length_replicate]; split <;> simp <;> omega⟩
  obtain ⟨A2, c2, rfl⟩ := Kd.R_slice HO2.out
  clear hR hB hys
  go_wp2_with fail
  refine (HPK.out _).mono ?_
  rintro e w9 ⟨rfl, hw⟩
  replace hw := hw.symm
  subst hw
  go_wp2_with fail
  refine (plain_ok r k _ (by omega) (by omega) (by omega) (by omega)).mono ?_
  rintro e w3 ⟨v3, rfl, hR, hB⟩
  have HB3 := Aside0.mk (below_step HB2.out hB)
  have HO3 := Aside0.mk (Kd.R_below HO2.out hB)
  obtain ⟨zs, hzs⟩ : ∃ zs, zs = numBits r (k : Int).toNat := ⟨_, rfl⟩
  rw [← hzs] at hR
  have HY2 := Aside0.mk hzs
  have HL2 : Aside0 (zs.length ≤ 16) := ⟨by rw [hzs, numBits_len]; omega⟩
  obtain ⟨A3, c3, rfl⟩ := Kd.R_slice hR
  have HR3 := Aside0.mk ((Kd.R_reads' hR).2.2)
  have hz3 := Aside0.mk HB3.out.size
  clear hR hB hzs
  go_wp2_with ((with_reducible refine gate_builtin (b := .append) (xs := #[.tmp 70, .tmp 71]) rfl ?_); at_builtin; refine Kd.R_append_row (Value.int .i64) 0 (w0 := w) (W := w3) w.heap.size rfl (.tmp 70) (.tmp 71) 32 3 (.int .i64 0) 8 rfl Try.underlying32 infoI rfl (by decide) (.slice A2 ys.length c2) ys zs A3 zs.length c3 (fun _ => True) rfl rfl (fun _ _ => trivial) HO3.out HR3.out HB3.out hz3.out (by have := HL1.out; have := HL2.out; omega) ?_; intro v1 w1 ho hb hg hat; have HO4 := Aside0.mk ho; have HB4 := Aside0.mk hb; clear ho hb hg hat)
  go_ret2
  exact code_some HC2.out (by have h := HO4.out; rwa [show ys ++ zs = _ from by rw [HY1.out, HY2.out, if_pos hq20, Int.toNat_natCast]] at h) HB4.out

end Go.Proofs.Ytghhfendjkocmaa.Rice
