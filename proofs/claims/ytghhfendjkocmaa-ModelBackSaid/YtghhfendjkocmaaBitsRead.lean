/- What the calls of package bits do, 3: the Reader. -/
import Derived.Test.YtghhfendjkocmaaBitsWalk2
namespace Go.Proofs.Ytghhfendjkocmaa.Bits
open Go.RowKit Go.Proofs.YtghhfendjkocmaaW.PrintWords Go.Proofs.YtghhfendjkocmaaW.PrintMore Go.Proofs.Ytghhfendjkocmaa.BP
set_option linter.unusedVariables false
set_option linter.unusedSimpArgs false


/-- A reader at block g over these bytes, behind so many bits. -/
def IsR (w : World) (g : Nat) (S : Nat → Prop) (b : List Int) (p : Int) : Prop :=
  B8 b ∧ (0 ≤ p ∧ p ≤ 8 * b.length ∧ b.length < 1099511627776) ∧ ∃ v, w.heap[g]? = some (.cells #[v, .int .i64 p] 79 (0, 0)) ∧ S g ∧ Kd.R (Kd.int .u8) 5 w 0 (fun k => S k ∧ k ≠ g) v b

theorem IsR.mono {w : World} {g : Nat} {S S' : Nat → Prop} {b : List Int} {p : Int} (h : IsR w g S b p) (hs : ∀ k, S k → S' k) : IsR w g S' b p := by
  obtain ⟨h1, h2, v, hb, hS, hR⟩ := h
  exact ⟨h1, h2, v, hb, hs _ hS, Kd.R_mono hR (fun k hk => ⟨hs k hk.1, hk.2⟩)⟩
theorem IsR.kept {w w1 : World} {g : Nat} {S R : Nat → Prop} {b : List Int} {p : Int} (h : IsR w g S b p) (hk : Kept w w1 R) (hd : ∀ k, S k → ¬ R k) : IsR w1 g S b p := by
  obtain ⟨h1, h2, v, hb, hS, hR⟩ := h
  exact ⟨h1, h2, v, blk_kept hb hk (hd g hS), hS, Kd.R_kept hR hk (fun k h => hd k h.1)⟩
theorem IsR.below {w w1 : World} {g : Nat} {S : Nat → Prop} {b : List Int} {p : Int} (h : IsR w g S b p) (hk : Below w.heap.size w w1) : IsR w1 g S b p := h.kept (Kept.of_below hk (fun _ => False)) (fun _ _ h => h)
theorem IsR.drewN {w : World} {g : Nat} {S : Nat → Prop} {b : List Int} {p : Int} (h : IsR w g S b p) (m : Nat) : IsR (w.drewN m) g S b p := h
theorem IsR.bound {w : World} {g : Nat} {S : Nat → Prop} {b : List Int} {p : Int} (h : IsR w g S b p) : IsR w g (fun k => S k ∧ k < w.heap.size) b p := by
  obtain ⟨h1, h2, v, hb, hS, hR⟩ := h
  exact ⟨h1, h2, v, hb, ⟨hS, blk_lt hb⟩, Kd.R_mono (Kd.R_bound hR) (fun k hk => ⟨⟨hk.1.1, hk.2.2.1⟩, hk.1.2⟩)⟩

theorem and7 {x : Int} (h0 : 0 ≤ x) (h1 : x < 2 ^ 62) : bits .and .i64 x 7 = x % 8 :=
  bits_mask .i64 62 (by decide) (fun n h0 h1 => by rw [IntKind.wrap_i64]; omega) 3 (by decide) x h0 h1
theorem u8_and1 {x : Int} (h0 : 0 ≤ x) (h1 : x < 256) : bits .and .u8 x 1 = x % 2 := bits_mask .u8 8 (by decide) wraps_u8 1 (by decide) x h0 h1

theorem look_calls (g : Nat) (S : Nat → Prop) (b : List Int) (p i : Int) (w : World) (h : IsR w g S b p) (hi0 : 0 ≤ i) (hi : i < 8 * b.length) :
    Calls Try.prog 40 #[.pointer (some ⟨g, 0, none⟩), .int .i64 i] w fun e w' => e = .returned (.int .u8 (bitAt b i.toNat)) ∧ w' = w := by
  obtain ⟨h8, hp, v, hb, hS, hR⟩ := h
  obtain ⟨A, c, rfl⟩ := Kd.R_slice hR
  have hc0 : w.cell? ⟨g, 0, none⟩ = some (.slice A b.length c) := (blk_cell hb 0).trans rfl
  have q0 : 0 ≤ i / 8 := by omega
  have q1 : i / 8 < b.length := by omega
  obtain ⟨ad, e, hx⟩ := Kd.at_int (Kd.R_reads' hR).2.2 (i / 8) q0 q1
  cases e
  have hm := and7 hi0 (by omega)
  have hr0 : 0 ≤ 7 - i % 8 := by omega
  have hr1 : 7 - i % 8 ≤ 8 := by omega
  have hv : rd b (i / 8) = b.getD (i.toNat / 8) 0 := by unfold rd; rw [show (i / 8).toNat = i.toNat / 8 from by omega]
  have hbd := h8.getD (i.toNat / 8)
  rw [hv] at hx
  generalize hy : b.getD (i.toNat / 8) 0 = y at hx hbd
  have HY := Aside0.mk hy
  clear hb hR hv hy
  go_enter Try.func40, Try.ntmps40
  go_wp2
  go_ret
  have hp7 := pow_le7 (n := (7 - i % 8).toNat) (by omega)
  have hq0 : 0 ≤ y / 2 ^ (7 - i % 8).toNat := Int.ediv_nonneg hbd.1 (by omega)
  have hq1 : y / 2 ^ (7 - i % 8).toNat ≤ y := Int.ediv_le_self _ hbd.1
  refine ⟨congrArg (fun z => Ending.returned (Value.int .u8 z)) ?_, rfl⟩
  rw [u8_and1 hq0 (by omega), ← HY.out]
  unfold bitAt
  rw [show (7 - i % 8).toNat = 7 - i.toNat % 8 from by omega]

theorem at_nil (w : World) : Calls Try.prog 25 #[.pointer none] w fun e w' => e = .returned (.int .i64 0) ∧ w' = w := by
  go_enter Try.func25, Try.ntmps25
  go_wp2
  go_ret
  exact ⟨rfl, rfl⟩
theorem left_nil (w : World) : Calls Try.prog 39 #[.pointer none] w fun e w' => e = .returned (.int .i64 0) ∧ w' = w := by
  go_enter Try.func39, Try.ntmps39
  go_wp2
  go_ret
  exact ⟨rfl, rfl⟩
theorem end_nil (w : World) : Calls Try.prog 26 #[.pointer none] w fun e w' => e = .returned (.int .i64 1) ∧ w' = w := by
  go_enter Try.func26, Try.ntmps26
  go_wp2
  go_ret
  exact ⟨rfl, rfl⟩
theorem take_nil (width : Int) (w : World) : Calls Try.prog 48 #[.pointer none, .int .i64 width] w fun e w' => e = .returned (.tuple #[.int .i64 0, .int .i64 1]) ∧ w' = w := by
  go_enter Try.func48, Try.ntmps48
  go_wp2
  go_ret2
  exact ⟨rfl, rfl⟩
theorem rones_nil (most : Int) (w : World) : Calls Try.prog 47 #[.pointer none, .int .i64 most] w fun e w' => e = .returned (.tuple #[.int .i64 0, .int .i64 1]) ∧ w' = w := by
  go_enter Try.func47, Try.ntmps47
  go_wp2
  go_ret2
  exact ⟨rfl, rfl⟩

theorem at_calls (g : Nat) (S : Nat → Prop) (b : List Int) (p : Int) (w : World) (h : IsR w g S b p) :
    Calls Try.prog 25 #[.pointer (some ⟨g, 0, none⟩)] w fun e w' => e = .returned (.int .i64 p) ∧ w' = w := by
  obtain ⟨h8, hp, v, hb, hS, hR⟩ := h
  have hc1 : w.cell? ⟨g, 1, none⟩ = some (.int .i64 p) := (blk_cell hb 1).trans rfl
  clear hb hR
  go_enter Try.func25, Try.ntmps25
  go_wp2
  go_ret
  exact ⟨rfl, rfl⟩

theorem left_calls (g : Nat) (S : Nat → Prop) (b : List Int) (p : Int) (w : World) (h : IsR w g S b p) :
    Calls Try.prog 39 #[.pointer (some ⟨g, 0, none⟩)] w fun e w' => e = .returned (.int .i64 (8 * b.length - p)) ∧ Drawn0 w w' := by
  obtain ⟨h8, ⟨hp0, hp1, hp2⟩, v, hb, hS, hR⟩ := h
  obtain ⟨A, c, rfl⟩ := Kd.R_slice hR
  have hc0 : w.cell? ⟨g, 0, none⟩ = some (.slice A b.length c) := (blk_cell hb 0).trans rfl
  have hc1 : w.cell? ⟨g, 1, none⟩ = some (.int .i64 p) := (blk_cell hb 1).trans rfl
  clear hb hR
  go_enter Try.func39, Try.ntmps39
  go_wp2
  go_quiet (fail)
  go_wp2
  go_ret
  exact ⟨rfl, ⟨_, rfl⟩⟩
end Go.Proofs.Ytghhfendjkocmaa.Bits
