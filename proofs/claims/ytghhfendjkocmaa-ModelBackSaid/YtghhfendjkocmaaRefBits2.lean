/- The references of layer 2 walked: Bytes, Bits, Take, Count, End. -/
import Derived.Test.YtghhfendjkocmaaRefBits
namespace Go.Proofs.Ytghhfendjkocmaa.Bits
open Go.RowKit Go.Proofs.YtghhfendjkocmaaW.PrintWords Go.Proofs.YtghhfendjkocmaaW.PrintMore Go.Proofs.Ytghhfendjkocmaa.BP
set_option linter.unusedVariables false
set_option linter.unusedSimpArgs false

def preB (l : List Int) (q j : Nat) : Int := (List.range j).foldl (fun a t => 2 * a + l.getD (8 * q + t) 0) 0
theorem preB_succ (l : List Int) (q j : Nat) : preB l q (j + 1) = 2 * preB l q j + l.getD (8 * q + j) 0 := by simp [preB, List.range_succ]
theorem preB_8 (l : List Int) (q : Nat) : preB l q 8 = byteAt l q := by
  simp only [preB_succ]
  simp only [preB, List.range_zero, List.foldl_nil, byteAt]
  omega
theorem preB_bd {l : List Int} (h : B01 l) (q : Nat) : ∀ j, 0 ≤ preB l q j ∧ preB l q j < 2 ^ j
  | 0 => by simp [preB]
  | j + 1 => by
    have := preB_bd h q j
    have := h.getD (8 * q + j)
    rw [preB_succ, Int.pow_succ]
    omega
theorem pow_le8 {n : Nat} (hn : n ≤ 8) : (2 : Int) ^ n ≤ 256 := by
  rcases (by omega : n = 8 ∨ n ≤ 7) with e | e
  · subst e; decide
  · have := pow_le7 e; omega

set_option maxHeartbeats 800000 in
theorem refbytes_calls (A : Option Addr) (c : Nat) (l : List Int) (w : World) (hC : Kd.C (Kd.int .i64) w A l.length l) (h1 : B01 l) (hl : l.length < 1099511627776) :
    Calls Try.prog 20 #[.slice A l.length c] w fun e w' => ∃ v, e = .returned v ∧ Kd.R (Kd.int .u8) 5 w' w.heap.size (fun _ => True) v (packB l) ∧ Below w.heap.size w w' := by
  have HC := Aside0.mk hC
  clear hC
  go_enter Try.func20, Try.ntmps20
  go_wp2_with fail
  go_loopw [3, 4] (fun v3 v4 wr => ∃ (q : Nat) (xs : List Int), 8 * q < l.length + 8 ∧ v4 = .int .i64 (8 * q) ∧ Aside0 (xs = (List.range q).map (byteAt l)) ∧ Aside0 (Kd.R (Kd.int .u8) 5 wr w.heap.size (fun _ => True) v3 xs) ∧ Aside0 (Below w.heap.size w wr))
    (fun _ v4 _ => ((l.length : Int) + 8 - intOf v4).toNat)
  case atStart => exact ⟨0, [], by omega, by simp, ⟨rfl⟩, ⟨Kd.R_nil _ _ _ _ _⟩, ⟨Below.refl _ _⟩⟩
  case round =>
    obtain ⟨q, xs, hq, rfl, HX, HO, HB⟩ := hrel
    have hz := Aside0.mk HB.out.size
    obtain ⟨A1, c1, rfl⟩ := Kd.R_slice HO.out
    have HXL : Aside0 (xs.length = q) := ⟨by rw [HX.out]; simp⟩
    by_cases hlt : 8 * (q : Int) < l.length
    · have t1 : decide (8 * (q : Int) < (l.length : Int)) = true := decide_eq_true hlt
      go_wp2_with fail
      go_loop [5, 6] (fun v5 v6 => ∃ j : Nat, j ≤ 8 ∧ v5 = .int .i64 (preB l q j) ∧ v6 = .int .i64 (8 * q + j)) (fun _ v6 => (8 * (q : Int) + 8 - intOf v6).toNat)
      case atStart => exact ⟨0, by omega, by simp [preB], by simp⟩
      case round =>
        obtain ⟨j, hj, rfl, rfl⟩ := hrel
        have hpb := preB_bd h1 q j
        have hps := preB_succ l q j
        have hpw := pow_le8 hj
        have HPS := Aside0.mk hps
        by_cases hj8 : j < 8
        · have t2 : decide (8 * (q : Int) + (j : Int) < 8 * (q : Int) + 8) = true := decide_eq_true (by omega)
          generalize hx : preB l q j = x at hpb HPS ⊢
          have hx0 : 0 ≤ x := hpb.1
          have hx1 : x < 256 := by omega
          clear hpb hps hpw hx
          by_cases hin : 8 * (q : Int) + (j : Int) < l.length
          · have t3 : decide (8 * (q : Int) + (j : Int) < (l.length : Int)) = true := decide_eq_true hin
            have p0 : 0 ≤ 8 * (q : Int) + (j : Int) := by omega
            obtain ⟨ad, e1, hx⟩ := Kd.at_int HC.out (8 * (q : Int) + (j : Int)) p0 hin
            cases e1
            have hbd := h1.getD (8 * q + j)
            have hix : (8 * (q : Int) + (j : Int)).toNat = 8 * q + j := by omega
            have hxe : rd l (8 * (q : Int) + (j : Int)) = l.getD (8 * q + j) 0 := by unfold rd; rw [hix]
            rw [hxe] at hx
            replace hx := (HB.out.cell (World.block_lt_of_cell? w _ hx)).trans hx
            have hx' := hx
            rw [hix] at hx'
            generalize hy : l.getD (8 * q + j) 0 = y at hx hx' hbd HPS
            have hy0 : 0 ≤ y := hbd.1
            have hy1 : y ≤ 1 := hbd.2
            clear hbd hxe hix hy
            go_wp2_with fail
            go_round
            case rel => exact ⟨j + 1, by omega, by rw [HPS.out], by first | (simp; done) | (simp; omega) | (congr 1; omega)⟩
            case measure => simp [intOf]; omega
          · have t3 : decide (8 * (q : Int) + (j : Int) < (l.length : Int)) = false := decide_eq_false hin
            have h0 : l.getD (8 * q + j) 0 = 0 := getD_of_len (by omega)
            have H0 := Aside0.mk h0
            clear h0
            go_wp2_with fail
            go_round
            case rel => exact ⟨j + 1, by omega, by rw [HPS.out, H0.out]; simp, by first | (simp; done) | (simp; omega) | (congr 1; omega)⟩
            case measure => simp [intOf]; omega
        · have t2 : decide (8 * (q : Int) + (j : Int) < 8 * (q : Int) + 8) = false := decide_eq_false (by omega)
          obtain rfl : j = 8 := by omega
          generalize hx : preB l q 8 = x at hpb ⊢
          have HXV : Aside0 (x % 256 = byteAt l q) := ⟨by rw [← preB_8, hx]; omega⟩
          clear hpb hps hpw hx HPS
          go_wp2_with ((with_reducible refine gate_builtin (b := .append) (xs := #[.tmp 32, .tmp 35]) rfl ?_); at_builtin; refine Kd.R_append (Kd.int .u8) (w0 := w) (W := wr) w.heap.size rfl (.tmp 32) (.tmp 35) 48 5 (.int .u8 0) 1 rfl Try.underlying48 infoU8 rfl (by decide) (by decide) (.slice A1 xs.length c1) xs (x % 256) [.int .u8 (x % 256)] (fun _ => True) (fun _ => False) rfl rfl rfl (fun _ hk => hk.elim) (fun _ _ => trivial) HO.out HB.out hz.out (by have := HXL.out; omega) ?_; intro v1 w1 ho hb hg hat; have HO2 := Aside0.mk ho; have HB2 := Aside0.mk hb; clear ho hb hg hat)
          go_roundw
          case rel =>
            refine ⟨q + 1, xs ++ [x % 256], by omega, by first | (simp; done) | (simp; omega) | (congr 1; omega), ⟨?_⟩, HO2, HB2⟩
            rw [HX.out, HXV.out, List.range_succ, List.map_append]; rfl
          case measure => simp [intOf]; omega
    · have t1 : decide (8 * (q : Int) < (l.length : Int)) = false := decide_eq_false hlt
      go_wp2
      go_ret
      refine ⟨_, rfl, ?_, HB.out⟩
      have h := HO.out
      rw [HX.out, show q = (l.length + 7) / 8 from by omega] at h
      have e := HX.out
      rw [show q = (l.length + 7) / 8 from by omega] at e
      rw [e]
      exact h
end Go.Proofs.Ytghhfendjkocmaa.Bits
