/- The bits that a step writes, as the law asks the reference for them. -/
import Derived.Test.YthplmngignmieaaBitsSteps
namespace Go.Proofs.Ythplmngignmieaa.Bits
open Go.RowKit Go.Proofs.YthplmngignmieaaW.PrintWords Go.Proofs.YthplmngignmieaaW.PrintMore Go.Proofs.Ythplmngignmieaa.BP
set_option linter.unusedVariables false
set_option linter.unusedSimpArgs false

def ToldPost (w : World) (s : StepT) (e : Ending) (w' : World) : Prop :=
  ∃ (v : Value) (ok : Bool) (ys : List Int), e = .returned (.tuple #[v, .bool ok]) ∧ Kd.R (Kd.int .i64) 3 w' w.heap.size (fun _ => True) v ys ∧ Below w.heap.size w w' ∧ (∀ l, stepL s = some l → ok = true ∧ ys = l) ∧ (stepL s = none → ok = false)
theorem told_calls (o : Bool) (n m : Int) (w : World) (hn : n < 9223372036854775808) :
    Calls Try.prog 10 #[.agg #[.bool o, .int .i64 n, .int .i64 m]] w (ToldPost w (o, n, m)) := by
  have hu := Try.underlying30
  have HB := Aside0.mk (below_alloc (Below.refl w.heap.size w) (.cells #[.bool o, .int .i64 n, .int .i64 m] 30))
  cases o with
  | true =>
    by_cases hc : m < 0 ∨ 64 < m ∨ n < 0 ∨ m < n
    · have HS : Aside0 (stepL (true, n, m) = none) := ⟨by unfold stepL onesW; rw [if_pos rfl, if_pos hc]⟩
      have HC := Aside0.mk hc
      clear hc
      go_enter Try.func10, Try.ntmps10
      go_wp2_with fail
      refine (rones_bad2 n m _ HC.out).mono ?_
      rintro e w1 ⟨rfl, hw⟩
      replace hw := hw.symm
      subst hw
      go_wp2
      go_ret2
      exact ⟨_, false, [], rfl, Kd.R_nil _ _ _ _ _, HB.out, (fun l h => by rw [HS.out] at h; cases h), fun _ => rfl⟩
    · have HS : Aside0 (stepL (true, n, m) = some (List.replicate n.toNat 1 ++ if n < m then [0] else [])) := ⟨by unfold stepL onesW; rw [if_pos rfl, if_neg hc]⟩
      have h0 : 0 ≤ m := by omega
      have h1 : m ≤ 64 := by omega
      have h2 : 0 ≤ n := by omega
      have h3 : n ≤ m := by omega
      clear hc
      go_enter Try.func10, Try.ntmps10
      go_wp2_with fail
      refine (refones_ok n m _ h0 h1 h2 h3).mono ?_
      rintro e w1 ⟨v, rfl, hR, hB⟩
      obtain ⟨ys, hys⟩ : ∃ ys, ys = (List.replicate n.toNat (1 : Int) ++ if n < m then [0] else []) := ⟨_, rfl⟩
      rw [← hys] at hR HS
      have HR := Aside0.mk (Kd.R_lower hR HB.out.size)
      have HB1 := Aside0.mk (below_step HB.out hB)
      obtain ⟨A2, c2, rfl⟩ := Kd.R_slice hR
      clear hR hB hys
      go_wp2
      go_ret2
      exact ⟨_, true, _, rfl, HR.out, HB1.out, (fun l h => by rw [HS.out] at h; injection h with h; exact ⟨rfl, h⟩), fun h => by rw [HS.out] at h; cases h⟩
  | false =>
    by_cases hc : m < 0 ∨ 32 < m ∨ n < 0
    · have HS : Aside0 (stepL (false, n, m) = none) := ⟨by unfold stepL putL; rw [if_neg (by simp), if_pos (by rcases hc with h | h | h <;> simp [h])]⟩
      have HC := Aside0.mk hc
      clear hc
      go_enter Try.func10, Try.ntmps10
      go_wp2_with fail
      refine (plain_bad n m _ HC.out).mono ?_
      rintro e w1 ⟨rfl, hw⟩
      replace hw := hw.symm
      subst hw
      go_wp2
      go_ret2
      exact ⟨_, false, [], rfl, Kd.R_nil _ _ _ _ _, HB.out, (fun l h => by rw [HS.out] at h; cases h), fun _ => rfl⟩
    · have HS : Aside0 (stepL (false, n, m) = if n / 2 ^ m.toNat = 0 then some (numBits n m.toNat) else none) := ⟨by
        unfold stepL putL
        rw [if_neg (by simp)]
        by_cases h : n / 2 ^ m.toNat = 0
        · rw [if_pos h, if_neg (by rintro (h1 | h1 | h1 | h1); exact hc (.inl h1); exact hc (.inr (.inl h1)); exact hc (.inr (.inr h1)); exact h1 h)]
        · rw [if_neg h, if_pos (.inr (.inr (.inr h)))]⟩
      have h0 : 0 ≤ m := by omega
      have h1 : m ≤ 32 := by omega
      have h2 : 0 ≤ n := by omega
      clear hc
      go_enter Try.func10, Try.ntmps10
      go_wp2_with fail
      refine (plain_ok n m _ h0 h1 h2 hn).mono ?_
      rintro e w1 ⟨v, rfl, hR, hB⟩
      obtain ⟨ys, hys⟩ : ∃ ys, ys = numBits n m.toNat := ⟨_, rfl⟩
      rw [← hys] at hR HS
      have HR := Aside0.mk (Kd.R_lower hR HB.out.size)
      have HB1 := Aside0.mk (below_step HB.out hB)
      obtain ⟨A2, c2, rfl⟩ := Kd.R_slice hR
      obtain ⟨q, hq⟩ : ∃ q, q = decide (n / 2 ^ m.toNat = 0) := ⟨_, rfl⟩
      rw [← hq]
      have HQ := Aside0.mk hq
      clear hR hB hys hq
      go_wp2
      go_ret2
      refine ⟨_, q, ys, rfl, HR.out, HB1.out, (fun l h => ?_), fun h => ?_⟩
      · rw [HS.out] at h
        by_cases h9 : n / 2 ^ m.toNat = 0
        · rw [if_pos h9] at h; injection h with h; exact ⟨HQ.out.trans (decide_eq_true h9), h⟩
        · rw [if_neg h9] at h; cases h
      · rw [HS.out] at h
        by_cases h9 : n / 2 ^ m.toNat = 0
        · rw [if_pos h9] at h; cases h
        · exact HQ.out.trans (decide_eq_false h9)
end Go.Proofs.Ythplmngignmieaa.Bits
