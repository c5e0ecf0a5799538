/- References of layer 1 used by the laws of layer 2: Roomy, Held. -/
import Derived.Test.YthplmngignmieaaRefBits3
namespace Go.Proofs.Ythplmngignmieaa.Bits
open Go.RowKit Go.Proofs.YthplmngignmieaaW.PrintWords Go.Proofs.YthplmngignmieaaW.PrintMore Go.Proofs.Ythplmngignmieaa.BP
set_option linter.unusedVariables false
set_option linter.unusedSimpArgs false


/-- The marks behind a list that Roomy made. -/
def marks (k : Nat) : List Int := (List.range k).map fun (i : Nat) => 100 + (i : Int)
theorem marks_succ (k : Nat) : marks (k + 1) = marks k ++ [100 + (k : Int)] := by simp [marks, List.range_succ]
theorem marks_len (k : Nat) : (marks k).length = k := by simp [marks]
def RoomyPost (w : World) (b : List Int) (e : Ending) (w' : World) : Prop :=
  ∃ A c, e = .returned (.slice A b.length c) ∧ b.length + 40 ≤ c ∧ Kd.R (Kd.int .u8) 5 w' w.heap.size (fun _ => True) (.slice A (b.length + 40) c) (b ++ marks 40) ∧ Below w.heap.size w w'

set_option maxHeartbeats 1000000 in
theorem roomy_calls (A : Option Addr) (c : Nat) (b : List Int) (w : World) (hC : Kd.C (Kd.int .u8) w A b.length b) (hl : b.length < 1099511627776) :
    Calls Try.prog 24 #[.slice A b.length c] w (RoomyPost w b) := by
  obtain ⟨i, hi, hz, hsz, hby⟩ := info_parts infoU8
  have hu := Try.underlying34
  obtain ⟨w1, hr, ho, hg⟩ := run_make_own (P := Try.prog) w w.heap.size 34 5 i (.int .u8 0) 1 hu hi hz hsz .i64 .i64 (b.length + 40) (by rw [hby]; omega) (by simp [maxLen]; omega) (Nat.le_refl _)
  rw [show ((b.length + 40 : Nat) : Int) = (b.length : Int) + 40 by omega] at hr
  have HO1 : Aside0 (Kd.R (Kd.int .u8) 5 w1 w.heap.size (fun _ => True) (.slice (some ⟨w.heap.size, 0, none⟩) 0 (b.length + 40)) []) := ⟨Kd.R_of_own (enc := Value.int .u8) (h1 := fun _ => rfl) ho (fun _ _ => trivial)⟩
  have HB1 : Aside0 (Below w.heap.size w w1) := ⟨pw_below_grown (Below.refl _ _) none (Nat.le_refl _) hg (fun k hk => by cases hk)⟩
  have HC1 : Aside0 (Kd.C (Kd.int .u8) w1 A b.length b) := ⟨Kd.C_below hC HB1.out⟩
  have hz1 := Aside0.mk HB1.out.size
  clear hi hz hsz hby ho hg hC
  go_enter Try.func24, Try.ntmps24
  go_wp2_with ((with_reducible refine gate_builtin (b := .append) (xs := #[.tmp 9, .tmp 10]) rfl ?_); at_builtin; refine Kd.R_append_row (Value.int .u8) 0 (w0 := w) (W := w1) w.heap.size rfl (.tmp 9) (.tmp 10) 34 5 (.int .u8 0) 1 rfl Try.underlying34 infoU8 rfl (by decide) (.slice (some ⟨w.heap.size, 0, none⟩) 0 (b.length + 40)) [] b A b.length c (fun _ => True) rfl rfl (fun _ _ => trivial) HO1.out HC1.out HB1.out hz1.out (by simp; omega) ?_; intro v1 w2 ho hb hg hat; rw [List.nil_append] at ho; have HO2 := Aside0.mk ho; have HB2 := Aside0.mk hb; clear ho hb hg hat)
  go_loopw [3, 4] (fun v3 v4 wr => ∃ k : Nat, k ≤ 40 ∧ v4 = .int .i64 k ∧ Aside0 (Kd.R (Kd.int .u8) 5 wr w.heap.size (fun _ => True) v3 (b ++ marks k)) ∧ Aside0 (Below w.heap.size w wr))
    (fun _ v4 _ => ((40 : Int) - intOf v4).toNat)
  case atStart => exact ⟨0, by omega, rfl, ⟨by rw [show b ++ marks 0 = b by simp [marks]]; exact HO2.out⟩, HB2⟩
  case round =>
    clear HO2 HB2 HO1 HB1 HC1 hz1 hr
    obtain ⟨k, hk, rfl, HO, HB⟩ := hrel
    obtain ⟨A1, c1, rfl⟩ := Kd.R_slice HO.out
    by_cases hlt : k < 40
    · have t1 : decide ((k : Int) < 40) = true := decide_eq_true (by omega)
      have t2 : decide (k < 40) = true := decide_eq_true hlt
      have t3 : (100 + (k : Int)) % 256 = 100 + (k : Int) := by omega
      have hz := Aside0.mk HB.out.size
      have HLN : Aside0 ((b ++ marks k).length ≤ 1099511627900) := ⟨by rw [List.length_append, marks_len]; omega⟩
      have HMS := Aside0.mk (marks_succ k)
      obtain ⟨xs, hxs⟩ : ∃ xs, b ++ marks k = xs := ⟨_, rfl⟩
      rw [hxs] at HO HLN ⊢
      have HXS := Aside0.mk hxs
      clear hxs
      go_wp2_with ((with_reducible refine gate_builtin (b := .append) (xs := #[.tmp 16, .tmp 20]) rfl ?_); at_builtin; refine Kd.R_append (Kd.int .u8) (w0 := w) (W := wr) w.heap.size rfl (.tmp 16) (.tmp 20) 34 5 (.int .u8 0) 1 rfl Try.underlying34 infoU8 rfl (by decide) (by decide) (.slice A1 xs.length c1) xs (100 + (k : Int)) [.int .u8 (100 + (k : Int))] (fun _ => True) (fun _ => False) rfl rfl rfl (fun _ hk => hk.elim) (fun _ _ => trivial) HO.out HB.out hz.out (by have := HLN.out; omega) ?_; intro v1 w1 ho hb hg hat; have HO2 := Aside0.mk ho; have HB2 := Aside0.mk hb; clear ho hb hg hat)
      go_roundw
      case rel => exact ⟨k + 1, by omega, by first | (simp; done) | (congr 1; omega), ⟨by rw [HMS.out, ← List.append_assoc, HXS.out]; exact HO2.out⟩, HB2⟩
      case measure => simp [intOf]; omega
    · have t1 : decide ((k : Int) < 40) = false := decide_eq_false (by omega)
      have t2 : decide (k < 40) = false := decide_eq_false hlt
      obtain rfl : k = 40 := by omega
      have hcap : b.length + 40 ≤ c1 := by have h := (Kd.R_reads' HO.out).2.1; rw [List.length_append, marks_len] at h; exact h
      go_wp2
      go_ret
      refine ⟨A1, c1, ?_, hcap, ?_, HB.out⟩
      · first | rfl | (simp; done)
      · have h := HO.out; rw [List.length_append, marks_len] at h; exact h

theorem marks_get {b : List Int} {k : Nat} (h : k < 40) : (b ++ marks 40).getD (b.length + k) 0 = 100 + (k : Int) := by
  rw [List.getD_eq_getElem?_getD, List.getElem?_append_right (by omega)]
  simp [marks, h]
set_option maxHeartbeats 1000000 in
theorem held_calls (A : Option Addr) (c : Nat) (B : Option Addr) (cb : Nat) (b : List Int) (w : World) (hA : Kd.C (Kd.int .u8) w A (b.length + 40) (b ++ marks 40)) (hB : Kd.C (Kd.int .u8) w B b.length b) (hc : b.length + 40 ≤ c) (hl : b.length < 1099511627776) :
    Calls Try.prog 26 #[.slice A b.length c, .slice B b.length cb] w fun e w' => e = .returned (.bool true) ∧ Drawn0 w w' := by
  have hu := Try.underlying34
  obtain ⟨i, hi, hz, hsz, hby⟩ := info_parts infoU8
  have hlen : (b ++ marks 40).length = b.length + 40 := by rw [List.length_append, marks_len]
  have hA1 : Kd.C (Kd.int .u8) w A b.length b := by
    have h := Kd.C_take (m := b.length) (k := Kd.int .u8) (by rw [hlen]; exact hA) (by omega)
    rwa [List.take_left] at h
  have hcut : ∀ W : World, (Instr.slice 34 (.slice A b.length c) none (some (.int .i64 ((b.length : Int) + 40))) none).run Try.prog W = .ok (.slice A (b.length + 40) c) W := by
    intro W
    have hel : Try.prog.elem 34 = 5 := by simp [Program.elem, hu]
    have hu' : Try.prog.underlying 34 = some (.slice (Try.prog.elem 34)) := by rw [hel]; exact hu
    have ha : (A.map fun x => x.add 0) = A := by cases A <;> simp [Addr.add]
    rw [run_slice_h W 34 A b.length c hu' .i64 ((b.length : Int) + 40) (by omega) (by omega), hel]
    simp [sizeOf, typeInfo, hi, hsz, sliced, Result.andThen, ha]
    omega
  have HA := Aside0.mk hA
  have HA1 := Aside0.mk hA1
  have HB := Aside0.mk hB
  clear hi hz hsz hby hlen hA hA1 hB
  go_enter Try.func26, Try.ntmps26
  go_wp2_with fail
  refine (same_calls A B c cb b b w HA1.out HB.out hl hl).mono ?_
  rintro e w1 ⟨rfl, HD⟩
  rw [show decide (b = b) = true from decide_eq_true rfl]
  go_wp2_with fail
  go_loopw [6] (fun v6 wr => ∃ k : Nat, k ≤ 40 ∧ v6 = .int .i64 k ∧ Aside0 (Drawn0 w wr)) (fun v6 _ => ((40 : Int) - intOf v6).toNat)
  case atStart => exact ⟨0, by omega, rfl, ⟨HD⟩⟩
  case round =>
    clear HD
    obtain ⟨k, hk, rfl, HD⟩ := hrel
    by_cases hlt : k < 40
    · have t1 : decide ((k : Int) < 40) = true := decide_eq_true (by omega)
      have t2 : decide (k < 40) = true := decide_eq_true hlt
      have t3 : (100 + (k : Int)) % 256 = 100 + (k : Int) := by omega
      obtain ⟨j, hj⟩ : ∃ j, (b.length : Int) + (k : Int) = j := ⟨_, rfl⟩
      have hj0 : 0 ≤ j := by omega
      have hj1 : j < ((b.length + 40 : Nat) : Int) := by omega
      obtain ⟨ad, e1, hx⟩ := Kd.at_int HA.out j hj0 hj1
      cases e1
      have hxe : rd (b ++ marks 40) j = 100 + (k : Int) := by
        unfold rd
        rw [show j.toNat = b.length + k by omega]
        exact marks_get hlt
      rw [hxe] at hx
      obtain ⟨m, rfl⟩ := HD.out.out
      obtain ⟨x, hxx⟩ : ∃ x, 100 + (k : Int) = x := ⟨_, rfl⟩
      rw [hxx] at hx t3
      have t4 : (x != x) = false := by simp
      have hj2 : j < (b.length : Int) + 40 := by omega
      clear hxe
      go_wp2_with fail
      go_roundw
      case rel => exact ⟨k + 1, by omega, by first | (simp; done) | (congr 1; omega), ⟨⟨_, rfl⟩⟩⟩
      case measure => simp [intOf]; omega
    · have t1 : decide ((k : Int) < 40) = false := decide_eq_false (by omega)
      have t2 : decide (k < 40) = false := decide_eq_false hlt
      go_wp2
      go_ret
      exact ⟨rfl, HD.out⟩
end Go.Proofs.Ythplmngignmieaa.Bits
