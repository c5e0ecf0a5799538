/- The reference End of layer 2 walked. -/
import Derived.Test.YthplmngignmieaaRefBits3
namespace Go.Proofs.Ythplmngignmieaa.Bits
open Go.RowKit Go.Proofs.YthplmngignmieaaW.PrintWords Go.Proofs.YthplmngignmieaaW.PrintMore Go.Proofs.Ythplmngignmieaa.BP
set_option linter.unusedVariables false
set_option linter.unusedSimpArgs false

theorem refend_calls (A : Option Addr) (c : Nat) (l : List Int) (w : World) (hC : Kd.C (Kd.int .i64) w A l.length l) (hl : l.length < 140737488355328) :
    Calls Try.prog 30 #[.slice A l.length c] w fun e w' => e = .returned (.int .i64 (endL l)) ∧ w' = w := by
  generalize hr : endL l = r
  have HR := Aside0.mk hr
  have HC := Aside0.mk hC
  clear hC hr
  by_cases c1 : 8 ≤ l.length
  · have b1 : decide (8 ≤ (l.length : Int)) = true := decide_eq_true (by omega)
    have b2 : decide (8 ≤ l.length) = true := decide_eq_true c1
    have HC1 := Aside0.mk c1
    clear c1
    go_enter Try.func30, Try.ntmps30
    go_wp2
    go_ret
    exact ⟨by rw [← HR.out, endL, if_pos HC1.out]; rfl, rfl⟩
  have b1 : decide (8 ≤ (l.length : Int)) = false := decide_eq_false (by omega)
  have b2 : decide (8 ≤ l.length) = false := decide_eq_false c1
  go_enter Try.func30, Try.ntmps30
  go_wp2_with fail
  go_loop [3] (fun v3 => ∃ k : Nat, k ≤ l.length ∧ v3 = .int .i64 k ∧ Aside0 (∀ i, i < k → l.getD i 0 = 0)) (fun v3 => (l.length - intOf v3).toNat)
  case atStart => exact ⟨0, by omega, rfl, ⟨fun i hi => by omega⟩⟩
  case round =>
    obtain ⟨k, hk, rfl, HI⟩ := hrel
    by_cases hlt : k < l.length
    · have t1 : decide ((k : Int) < (l.length : Int)) = true := decide_eq_true (by omega)
      have t2 : decide (k < l.length) = true := decide_eq_true hlt
      obtain ⟨ad, e1, hx⟩ := Kd.at_int HC.out (k : Int) (by omega) (by omega)
      cases e1
      have hxe : rd l (k : Int) = l.getD k 0 := rfl
      simp only [Int.toNat_natCast, hxe] at hx
      generalize hy : l.getD k 0 = y at hx
      have HY := Aside0.mk hy
      clear hxe hy
      by_cases h0 : y = 0
      · subst h0
        go_wp2_with fail
        go_round
        case rel =>
          refine ⟨k + 1, by omega, by first | (simp; done) | (congr 1; omega), ⟨fun i hi => ?_⟩⟩
          rcases Nat.lt_or_ge i k with h | h
          · exact HI.out i h
          · rw [show i = k from by omega]; exact HY.out
        case measure => simp [intOf]; omega
      · have t3 : (y != 0) = true := bne_iff_ne.mpr h0
        go_wp2
        go_ret
        exact ⟨by rw [← HR.out, endL_one (by omega) hlt (by rw [HY.out]; exact h0)]; rfl, rfl⟩
    · have t1 : decide ((k : Int) < (l.length : Int)) = false := decide_eq_false (by omega)
      have t2 : decide (k < l.length) = false := decide_eq_false hlt
      go_wp2
      go_ret
      exact ⟨by rw [← HR.out, endL_zero (by omega) (fun i hi => HI.out i (by omega))]; rfl, rfl⟩

end Go.Proofs.Ythplmngignmieaa.Bits
