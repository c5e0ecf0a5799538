/- The walk of BitsBack. -/
import Derived.Test.YthplmngignmieaaBitsSteps
namespace Go.Proofs.Ythplmngignmieaa.Bits
open Go.RowKit Go.Proofs.YthplmngignmieaaW.PrintWords Go.Proofs.YthplmngignmieaaW.PrintMore Go.Proofs.Ythplmngignmieaa.BP
set_option linter.unusedVariables false
set_option linter.unusedSimpArgs false

def doneL (l : List StepT) : List StepT := l.filter fun s => (stepL s).isSome
def bitsL (l : List StepT) : List Int := l.flatMap fun s => (stepL s).getD []
theorem bitsL_01 (l : List StepT) : B01 (bitsL l) := fun b hb => by
  obtain ⟨s, _, hs⟩ := List.mem_flatMap.mp hb
  cases h : stepL s with
  | none => rw [h] at hs; simp at hs
  | some x => rw [h] at hs; exact stepL_01 h b hs
theorem bitsL_app (l m : List StepT) : bitsL (l ++ m) = bitsL l ++ bitsL m := by simp [bitsL]
theorem bitsL_len (l : List StepT) : (bitsL l).length ≤ 65 * l.length := by
  induction l with
  | nil => simp [bitsL]
  | cons s t ih =>
    have : bitsL (s :: t) = (stepL s).getD [] ++ bitsL t := rfl
    rw [this, List.length_append, List.length_cons]
    cases h : stepL s with
    | none => simp; omega
    | some x => have := stepL_len h; simp; omega
theorem doneL_app (l m : List StepT) : doneL (l ++ m) = doneL l ++ doneL m := by simp [doneL]
theorem doneL_len (l : List StepT) : (doneL l).length ≤ l.length := List.length_filter_le _ _
theorem bitsL_done (l : List StepT) : bitsL (doneL l) = bitsL l := by
  induction l with
  | nil => rfl
  | cons s t ih =>
    have e : bitsL (s :: t) = (stepL s).getD [] ++ bitsL t := rfl
    cases h : stepL s with
    | none =>
      have : doneL (s :: t) = doneL t := by simp [doneL, h]
      rw [this, ih, e, h]; rfl
    | some x =>
      have : doneL (s :: t) = s :: doneL t := by simp [doneL, h]
      rw [this, e, ← ih]; rfl
theorem take_step (l : List StepT) {k : Nat} (hk : k < l.length) : l.take (k + 1) = l.take k ++ [l.getD k step0] := by
  rw [List.take_add_one, List.getElem?_eq_getElem hk, List.getD_eq_getElem?_getD, List.getElem?_eq_getElem hk]; rfl
theorem done_mem {l : List StepT} {k : Nat} (hk : k < (doneL l).length) : ∃ x, stepL ((doneL l).getD k step0) = some x := by
  have hm : (doneL l).getD k step0 ∈ doneL l := by
    rw [List.getD_eq_getElem?_getD, List.getElem?_eq_getElem hk]; exact List.getElem_mem hk
  have := (List.mem_filter.mp hm).2
  exact Option.isSome_iff_exists.mp this
/-- How many bits a step writes. -/
theorem step_bits_len {b : Bool} {n m : Int} {x : List Int} (h : stepL (b, n, m) = some x) : (0 ≤ n ∧ 0 ≤ m ∧ m ≤ 64) ∧ (b = true → n ≤ m ∧ (x.length : Int) = n + if n < m then 1 else 0) ∧ (b = false → (x.length : Int) = m ∧ m ≤ 32) := by
  unfold stepL at h
  cases b with
  | true =>
    rw [if_pos rfl] at h
    change onesW n m = some x at h
    unfold onesW at h
    split at h
    · cases h
    · cases h
      refine ⟨by omega, fun _ => ⟨by omega, ?_⟩, by simp⟩
      split <;> simp <;> omega
  | false =>
    rw [if_neg (by simp)] at h
    change putL n m = some x at h
    unfold putL at h
    split at h
    · cases h
    · cases h
      refine ⟨by omega, by simp, fun _ => ⟨?_, by omega⟩⟩
      rw [numBits_len]; omega

theorem bitsL_cons (s : StepT) (t : List StepT) : bitsL (s :: t) = (stepL s).getD [] ++ bitsL t := rfl
theorem split_at (ds : List StepT) {k : Nat} (hk : k < ds.length) : ds = ds.take k ++ (ds.getD k step0 :: ds.drop (k + 1)) := by
  rw [List.getD_eq_getElem?_getD, List.getElem?_eq_getElem hk, Option.getD_some, ← List.drop_eq_getElem_cons hk, List.take_append_drop]
theorem bits_split {ds : List StepT} {k : Nat} (hk : k < ds.length) {x : List Int} (hst : stepL (ds.getD k step0) = some x) : bitsL ds = bitsL (ds.take k) ++ (x ++ bitsL (ds.drop (k + 1))) := by
  refine (congrArg bitsL (split_at ds hk)).trans ?_
  rw [bitsL_app, bitsL_cons, hst, Option.getD_some]
theorem back_parts {ds : List StepT} {bs pk : List Int} {k : Nat} (hk : k < ds.length) {x : List Int} (hst : stepL (ds.getD k step0) = some x) (hbs : bs = bitsL ds) (hpk : bitsOf pk = bs ++ List.replicate (8 * ((bs.length + 7) / 8) - bs.length) 0) (hl : pk.length = (bs.length + 7) / 8) :
    (bitsOf pk).drop (bitsL (ds.take k)).length = x ++ (bitsL (ds.drop (k + 1)) ++ List.replicate (8 * ((bs.length + 7) / 8) - bs.length) 0) ∧
    ((bitsL (ds.take (k + 1))).length : Int) = ((bitsL (ds.take k)).length : Int) + x.length ∧ ((bitsL (ds.take k)).length : Int) + x.length ≤ 8 * pk.length := by
  have hs := bits_split hk hst
  generalize hr : List.replicate (8 * ((bs.length + 7) / 8) - bs.length) (0 : Int) = r at hpk ⊢
  refine ⟨?_, ?_, ?_⟩
  · rw [hpk, hbs, hs, List.append_assoc, List.drop_left, List.append_assoc]
  · rw [take_step ds hk, bitsL_app, List.length_append]
    have : bitsL [ds.getD k step0] = x := by rw [bitsL_cons, hst]; simp [bitsL]
    rw [this]; omega
  · have e := congrArg List.length (hbs.trans hs)
    rw [List.length_append, List.length_append] at e
    omega

set_option maxRecDepth 100000 in
set_option maxHeartbeats 1600000 in
theorem back_one (A : Option Addr) (c : Nat) (l : List StepT) (w : World) (hC : stepK.C w A l.length l) (hl : l.length ≤ 1048576) :
    Calls Try.prog 7 #[.slice A l.length c] w fun e w' => e = .returned (.bool true) ∧ Below w.heap.size w w' := by
  have HC := Aside0.mk hC
  clear hC
  go_enter Try.func7, Try.ntmps7
  go_wp2_with fail
  refine (new_calls _).mono ?_
  rintro e w1 ⟨g, rfl, hW, hB⟩
  have HW1 := Aside0.mk hW
  have HB1 := Aside0.mk hB
  clear hW hB
  go_wp2_with fail
  refine (awake_calls _).mono ?_
  rintro e w2 ⟨rfl, hB⟩
  have HW2 : Aside0 (IsW w2 g (fun k => w.heap.size ≤ k ∧ k < w1.heap.size) []) := ⟨HW1.out.bound.below hB⟩
  have HB2 : Aside0 (Below w.heap.size w w2) := ⟨below_step HB1.out hB⟩
  have HS12 : Aside0 (w1.heap.size ≤ w2.heap.size) := ⟨hB.size⟩
  clear hB HW1 HB1
  go_wp2_with fail
  go_loopw [4, 5, 6] (fun v4 v5 v6 wr => ∃ (k : Nat) (P : Nat → Prop) (ds : List StepT) (bs : List Int), k ≤ l.length ∧ v5 = .int .i64 bs.length ∧ v6 = .int .i64 k ∧ Aside0 (ds = doneL (l.take k)) ∧ Aside0 (bs = bitsL (l.take k)) ∧ Aside0 (∀ j, P j → w.heap.size ≤ j ∧ j < wr.heap.size) ∧ Aside0 (IsW wr g P bs) ∧ Aside0 (Kd.R stepK 30 wr w.heap.size (fun j => ¬ P j) v4 ds) ∧ Aside0 (Below w.heap.size w wr))
    (fun _ _ v6 _ => ((l.length : Int) - intOf v6).toNat)
  case atStart => exact ⟨0, _, [], [], by omega, rfl, rfl, ⟨by simp [doneL]⟩, ⟨by simp [bitsL]⟩, ⟨fun j hj => ⟨hj.1, Nat.lt_of_lt_of_le hj.2 HS12.out⟩⟩, HW2, ⟨Kd.R_nil _ _ _ _ _⟩, HB2⟩
  case round =>
    obtain ⟨k, P, ds, bs, hk, rfl, rfl, HDS, HBS, HP, HW, HO, HB⟩ := hrel
    have hbl : bs.length ≤ 68157440 := by have := bitsL_len (l.take k); have := List.length_take_le k l; have e := HBS.out; rw [e]; omega
    obtain ⟨A1, c1, rfl⟩ := Kd.R_slice HO.out
    by_cases hlt : k < l.length
    · have t1 : decide ((k : Int) < (l.length : Int)) = true := decide_eq_true (by omega)
      have t2 : decide (k < l.length) = true := decide_eq_true hlt
      obtain ⟨ad, e1, hx0, hx1, hx2⟩ := step_cells (Kd.C_below HC.out HB.out) k hlt
      cases e1
      have HT := Aside0.mk (take_step l hlt)
      have HDL : Aside0 (ds.length ≤ 1048576) := ⟨by rw [HDS.out]; exact Nat.le_trans (doneL_len _) (Nat.le_trans (List.length_take_le _ _) (by omega))⟩
      generalize hs : l.getD k step0 = s at hx0 hx1 hx2 HT
      have HSE := Aside0.mk hs
      obtain ⟨b, n1, m1⟩ := s
      simp only at hx0 hx1 hx2
      clear hs
      go_wp2_with fail
      refine (puts_calls g P bs b n1 m1 wr HW.out (by omega)).mono ?_
      intro e w3 hpost
      cases hst : stepL (b, n1, m1) with
      | none =>
        obtain ⟨rfl, hW⟩ := hpost.2.1 hst
        have HK := Aside0.mk hpost.2.2
        have HW3 : Aside0 (IsW w3 g (fun j => P j ∨ (wr.heap.size ≤ j ∧ j < w3.heap.size)) bs) := ⟨hW.bound.mono (fun j hj => hj.1.elim .inl (fun h => .inr ⟨h, hj.2⟩))⟩
        have HO3 : Aside0 (Kd.R stepK 30 w3 w.heap.size (fun j => ¬ (P j ∨ (wr.heap.size ≤ j ∧ j < w3.heap.size))) (.slice A1 ds.length c1) ds) := ⟨Kd.R_mono (Kd.R_kept (Kd.R_bound HO.out) HK.out.1 (fun j hj => hj.1)) (fun j hj h => h.elim hj.1 (fun h => by have := hj.2.2.1; omega))⟩
        have HB3 : Aside0 (Below w.heap.size w w3) := ⟨below_kp HB.out HK.out (fun j hj => (HP.out j hj).1) (Nat.le_refl _)⟩
        have HP3 : Aside0 (∀ j, (P j ∨ (wr.heap.size ≤ j ∧ j < w3.heap.size)) → w.heap.size ≤ j ∧ j < w3.heap.size) := ⟨fun j hj => hj.elim (fun h => ⟨(HP.out j h).1, Nat.lt_of_lt_of_le (HP.out j h).2 HK.out.size⟩) (fun h => ⟨Nat.le_trans HB.out.size h.1, h.2⟩)⟩
        have HST := Aside0.mk hst
        clear hpost hW hst HW HO HP HB HW2 HB2
        go_wp2_with fail
        go_roundw
        case rel =>
          refine ⟨k + 1, _, ds, bs, by omega, rfl, by first | (simp; done) | (congr 1; omega), ⟨?_⟩, ⟨?_⟩, HP3, HW3, HO3, HB3⟩
          · rw [HT.out, doneL_app, ← HDS.out]; simp [doneL, HST.out]
          · rw [HT.out, bitsL_app, ← HBS.out]; simp [bitsL, HST.out]
        case measure => simp [intOf]; omega
      | some x =>
        obtain ⟨rfl, hW⟩ := hpost.1 x hst
        have HK := Aside0.mk hpost.2.2
        have HW3 : Aside0 (IsW w3 g (fun j => P j ∨ (wr.heap.size ≤ j ∧ j < w3.heap.size)) (bs ++ x)) := ⟨hW.bound.mono (fun j hj => hj.1.elim .inl (fun h => .inr ⟨h, hj.2⟩))⟩
        have HO3 : Aside0 (Kd.R stepK 30 w3 w.heap.size (fun j => ¬ (P j ∨ (wr.heap.size ≤ j ∧ j < w3.heap.size))) (.slice A1 ds.length c1) ds) := ⟨Kd.R_mono (Kd.R_kept (Kd.R_bound HO.out) HK.out.1 (fun j hj => hj.1)) (fun j hj h => h.elim hj.1 (fun h => by have := hj.2.2.1; omega))⟩
        have HB3 : Aside0 (Below w.heap.size w w3) := ⟨below_kp HB.out HK.out (fun j hj => (HP.out j hj).1) (Nat.le_refl _)⟩
        have HP3 : Aside0 (∀ j, (P j ∨ (wr.heap.size ≤ j ∧ j < w3.heap.size)) → w.heap.size ≤ j ∧ j < w3.heap.size) := ⟨fun j hj => hj.elim (fun h => ⟨(HP.out j h).1, Nat.lt_of_lt_of_le (HP.out j h).2 HK.out.size⟩) (fun h => ⟨Nat.le_trans HB.out.size h.1, h.2⟩)⟩
        have HST := Aside0.mk hst
        have hsl := step_bits_len hst
        have HSL := Aside0.mk hsl
        have hn0 : 0 ≤ n1 := hsl.1.1
        have hm0 : 0 ≤ m1 := hsl.1.2.1
        have hm1 : m1 ≤ 64 := hsl.1.2.2
        have hz := Aside0.mk HB3.out.size
        have HF : Aside0 (∀ j, w3.heap.size ≤ j → ¬ (P j ∨ (wr.heap.size ≤ j ∧ j < w3.heap.size))) := ⟨fun j hj h => by have := HP3.out j h; omega⟩
        obtain ⟨ad3, e3, hy0, hy1, hy2⟩ := step_cells (Kd.C_below HC.out HB3.out) k hlt
        cases e3
        rw [HSE.out] at hy0 hy1 hy2
        simp only at hy0 hy1 hy2
        clear hpost hW hst hsl HW HO HP HB HW2 HB2 hx0 hx1 hx2
        have hnm : b = true → n1 ≤ m1 := fun h => (HSL.out.2.1 h).1
        cases b with
        | true =>
          have hnm2 := hnm rfl
          clear hnm
          by_cases hlt2 : n1 < m1
          · have t3 : decide (n1 < m1) = true := decide_eq_true hlt2
            have HLEN : Aside0 ((x.length : Int) = n1 + 1) := ⟨by have := (HSL.out.2.1 rfl).2; rw [if_pos hlt2] at this; exact this⟩
            clear hlt2
            go_wp2_with ((with_reducible refine gate_builtin (b := .append) (xs := #[.tmp 34, .tmp 39]) rfl ?_); at_builtin; refine Kd.R_append stepK (w0 := w) (W := w3) w.heap.size rfl (.tmp 34) (.tmp 39) 22 30 (.agg #[.bool false, .int .i64 0, .int .i64 0]) 24 rfl Try.underlying22 infoStep rfl (by decide) (by decide) (.slice A1 ds.length c1) ds (true, n1, m1) [.bool true, .int .i64 n1, .int .i64 m1] (fun j => ¬ (P j ∨ (wr.heap.size ≤ j ∧ j < w3.heap.size))) (fun _ => False) rfl rfl rfl (fun _ hk => hk.elim) HF.out HO3.out HB3.out hz.out (by have := HDL.out; omega) ?_; intro v1 w1 ho hb hg hat; have HO4 := Aside0.mk ho; have HB4 := Aside0.mk hb; have HK4 : Aside0 (Kept w3 w1 (fun j => ¬ (P j ∨ (wr.heap.size ≤ j ∧ j < w3.heap.size)))) := ⟨Kept.of_grown hg (Kept.refl _ _) (fun j hj => .inl (HO3.out.1 j hj))⟩; have HW4 : Aside0 (IsW w1 g (fun j => P j ∨ (wr.heap.size ≤ j ∧ j < w3.heap.size)) (bs ++ x)) := ⟨HW3.out.kept HK4.out (fun j hj h => h hj)⟩; have HP4 : Aside0 (∀ j, (P j ∨ (wr.heap.size ≤ j ∧ j < w3.heap.size)) → w.heap.size ≤ j ∧ j < w1.heap.size) := ⟨fun j hj => ⟨(HP3.out j hj).1, Nat.lt_of_lt_of_le (HP3.out j hj).2 HK4.out.1⟩⟩; obtain ⟨ad4, e4, hz0, hz1, hz2⟩ := step_cells (Kd.C_below HC.out HB4.out) k hlt; cases e4; rw [HSE.out] at hz0 hz1 hz2; simp only at hz0 hz1 hz2; obtain ⟨A4, c4, rfl⟩ := Kd.R_slice HO4.out; clear ho hb hg hat hy0 hy1 hy2)
            go_quiet (fail)
            go_wp2_with fail
            go_roundw
            case rel => exact ⟨k + 1, _, ds ++ [(true, n1, m1)], bs ++ x, by omega, by (have := HLEN.out; congr 1; simp; omega), by first | (simp; done) | (congr 1; omega), ⟨by rw [HT.out, doneL_app, ← HDS.out]; simp [doneL, HST.out]⟩, ⟨by rw [HT.out, bitsL_app, ← HBS.out]; simp [bitsL, HST.out]⟩, HP4, HW4, ⟨by have h := HO4.out; rw [List.length_append, List.length_singleton] at h; exact h⟩, ⟨by first | exact HB4.out | exact pw_below_drewN HB4.out _⟩⟩
            case measure => simp [intOf]; omega
          · have t3 : decide (n1 < m1) = false := decide_eq_false hlt2
            have HLEN : Aside0 ((x.length : Int) = n1) := ⟨by have := (HSL.out.2.1 rfl).2; rw [if_neg hlt2] at this; omega⟩
            clear hlt2
            go_wp2_with ((with_reducible refine gate_builtin (b := .append) (xs := #[.tmp 34, .tmp 39]) rfl ?_); at_builtin; refine Kd.R_append stepK (w0 := w) (W := w3) w.heap.size rfl (.tmp 34) (.tmp 39) 22 30 (.agg #[.bool false, .int .i64 0, .int .i64 0]) 24 rfl Try.underlying22 infoStep rfl (by decide) (by decide) (.slice A1 ds.length c1) ds (true, n1, m1) [.bool true, .int .i64 n1, .int .i64 m1] (fun j => ¬ (P j ∨ (wr.heap.size ≤ j ∧ j < w3.heap.size))) (fun _ => False) rfl rfl rfl (fun _ hk => hk.elim) HF.out HO3.out HB3.out hz.out (by have := HDL.out; omega) ?_; intro v1 w1 ho hb hg hat; have HO4 := Aside0.mk ho; have HB4 := Aside0.mk hb; have HK4 : Aside0 (Kept w3 w1 (fun j => ¬ (P j ∨ (wr.heap.size ≤ j ∧ j < w3.heap.size)))) := ⟨Kept.of_grown hg (Kept.refl _ _) (fun j hj => .inl (HO3.out.1 j hj))⟩; have HW4 : Aside0 (IsW w1 g (fun j => P j ∨ (wr.heap.size ≤ j ∧ j < w3.heap.size)) (bs ++ x)) := ⟨HW3.out.kept HK4.out (fun j hj h => h hj)⟩; have HP4 : Aside0 (∀ j, (P j ∨ (wr.heap.size ≤ j ∧ j < w3.heap.size)) → w.heap.size ≤ j ∧ j < w1.heap.size) := ⟨fun j hj => ⟨(HP3.out j hj).1, Nat.lt_of_lt_of_le (HP3.out j hj).2 HK4.out.1⟩⟩; obtain ⟨ad4, e4, hz0, hz1, hz2⟩ := step_cells (Kd.C_below HC.out HB4.out) k hlt; cases e4; rw [HSE.out] at hz0 hz1 hz2; simp only at hz0 hz1 hz2; obtain ⟨A4, c4, rfl⟩ := Kd.R_slice HO4.out; clear ho hb hg hat hy0 hy1 hy2)
            go_quiet (fail)
            go_wp2_with fail
            go_roundw
            case rel => exact ⟨k + 1, _, ds ++ [(true, n1, m1)], bs ++ x, by omega, by (have := HLEN.out; congr 1; simp; omega), by first | (simp; done) | (congr 1; omega), ⟨by rw [HT.out, doneL_app, ← HDS.out]; simp [doneL, HST.out]⟩, ⟨by rw [HT.out, bitsL_app, ← HBS.out]; simp [bitsL, HST.out]⟩, HP4, HW4, ⟨by have h := HO4.out; rw [List.length_append, List.length_singleton] at h; exact h⟩, ⟨by first | exact HB4.out | exact pw_below_drewN HB4.out _⟩⟩
            case measure => simp [intOf]; omega
        | false =>
          clear hnm
          have HLEN : Aside0 ((x.length : Int) = m1) := ⟨(HSL.out.2.2 rfl).1⟩
          go_wp2_with ((with_reducible refine gate_builtin (b := .append) (xs := #[.tmp 34, .tmp 39]) rfl ?_); at_builtin; refine Kd.R_append stepK (w0 := w) (W := w3) w.heap.size rfl (.tmp 34) (.tmp 39) 22 30 (.agg #[.bool false, .int .i64 0, .int .i64 0]) 24 rfl Try.underlying22 infoStep rfl (by decide) (by decide) (.slice A1 ds.length c1) ds (false, n1, m1) [.bool false, .int .i64 n1, .int .i64 m1] (fun j => ¬ (P j ∨ (wr.heap.size ≤ j ∧ j < w3.heap.size))) (fun _ => False) rfl rfl rfl (fun _ hk => hk.elim) HF.out HO3.out HB3.out hz.out (by have := HDL.out; omega) ?_; intro v1 w1 ho hb hg hat; have HO4 := Aside0.mk ho; have HB4 := Aside0.mk hb; have HK4 : Aside0 (Kept w3 w1 (fun j => ¬ (P j ∨ (wr.heap.size ≤ j ∧ j < w3.heap.size)))) := ⟨Kept.of_grown hg (Kept.refl _ _) (fun j hj => .inl (HO3.out.1 j hj))⟩; have HW4 : Aside0 (IsW w1 g (fun j => P j ∨ (wr.heap.size ≤ j ∧ j < w3.heap.size)) (bs ++ x)) := ⟨HW3.out.kept HK4.out (fun j hj h => h hj)⟩; have HP4 : Aside0 (∀ j, (P j ∨ (wr.heap.size ≤ j ∧ j < w3.heap.size)) → w.heap.size ≤ j ∧ j < w1.heap.size) := ⟨fun j hj => ⟨(HP3.out j hj).1, Nat.lt_of_lt_of_le (HP3.out j hj).2 HK4.out.1⟩⟩; obtain ⟨ad4, e4, hz0, hz1, hz2⟩ := step_cells (Kd.C_below HC.out HB4.out) k hlt; cases e4; rw [HSE.out] at hz0 hz1 hz2; simp only at hz0 hz1 hz2; obtain ⟨A4, c4, rfl⟩ := Kd.R_slice HO4.out; clear ho hb hg hat hy0 hy1 hy2)
          go_roundw
          case rel => exact ⟨k + 1, _, ds ++ [(false, n1, m1)], bs ++ x, by omega, by (have := HLEN.out; congr 1; simp; omega), by first | (simp; done) | (congr 1; omega), ⟨by rw [HT.out, doneL_app, ← HDS.out]; simp [doneL, HST.out]⟩, ⟨by rw [HT.out, bitsL_app, ← HBS.out]; simp [bitsL, HST.out]⟩, HP4, HW4, ⟨by have h := HO4.out; rw [List.length_append, List.length_singleton] at h; exact h⟩, ⟨by first | exact HB4.out | exact pw_below_drewN HB4.out _⟩⟩
          case measure => simp [intOf]; omega
    · have t1 : decide ((k : Int) < (l.length : Int)) = false := decide_eq_false (by omega)
      have t2 : decide (k < l.length) = false := decide_eq_false hlt
      have HDS2 : Aside0 (ds = doneL l) := ⟨by rw [HDS.out, List.take_of_length_le (by omega)]⟩
      have HBS2 : Aside0 (bs = bitsL ds) := ⟨by rw [HBS.out, List.take_of_length_le (by omega), HDS2.out, bitsL_done]⟩
      have hdl : ds.length ≤ 1048576 := by rw [HDS2.out]; exact Nat.le_trans (doneL_len _) hl
      clear hlt HDS HBS HW2 HB2
      go_wp2_with fail
      refine (bytes_calls g _ bs wr HW.out (by omega)).mono ?_
      rintro e w3 ⟨v, rfl, hR, hB⟩
      obtain ⟨A2, c2, rfl⟩ := Kd.R_slice hR
      have HPL : Aside0 ((packB bs).length = (bs.length + 7) / 8) := ⟨packB_len bs⟩
      have HP8 : Aside0 (B8 (packB bs)) := ⟨packB_B8 (by rw [HBS2.out]; exact bitsL_01 _)⟩
      have HBB : Aside0 (bitsOf (packB bs) = bs ++ List.replicate (8 * ((bs.length + 7) / 8) - bs.length) 0) := ⟨bitsOf_packB (by rw [HBS2.out]; exact bitsL_01 _)⟩
      have HR3 : Aside0 (Kd.C (Kd.int .u8) w3 A2 (packB bs).length (packB bs)) := ⟨(Kd.R_reads' hR).2.2⟩
      have HW3 : Aside0 (IsW w3 g P bs) := ⟨HW.out.below hB⟩
      have HD3 : Aside0 (stepK.C w3 A1 ds.length ds) := ⟨Kd.C_below (Kd.R_reads' HO.out).2.2 hB⟩
      have HB3 : Aside0 (Below w.heap.size w w3) := ⟨below_step HB.out hB⟩
      clear hR hB HW HO HB HP
      have hpl : (packB bs).length = (bs.length + 7) / 8 := HPL.out
      generalize hpk : packB bs = pk at HPL HP8 HBB HR3 hpl ⊢
      have t4 : ((pk.length : Int) != ((bs.length : Int) + 7) / 8) = false := by rw [hpl]; simp
      clear hpk hpl
      go_wp2_with fail
      refine (open_calls A2 c2 pk w3 HR3.out HP8.out (by have := HPL.out; omega)).mono ?_
      rintro e w4 ⟨g2, rfl, hIR, hB⟩
      have HI4 : Aside0 (IsR w4 g2 (fun j => w3.heap.size ≤ j) pk 0) := ⟨hIR⟩
      have HW4 : Aside0 (IsW w4 g P bs) := ⟨HW3.out.below hB⟩
      have HD4 : Aside0 (stepK.C w4 A1 ds.length ds) := ⟨Kd.C_below HD3.out hB⟩
      have HB4 : Aside0 (Below w.heap.size w w4) := ⟨below_step HB3.out hB⟩
      have HZ3 : Aside0 (w.heap.size ≤ w3.heap.size) := ⟨HB3.out.size⟩
      have HQ4 : Aside0 (Below w3.heap.size w3 w4) := ⟨hB⟩
      clear hIR hB HW3 HR3 HB3
      go_wp2_with fail
      refine (len_calls g _ bs w4 HW4.out (by omega)).mono ?_
      rintro e w5 ⟨rfl, ⟨m, rfl⟩⟩
      have HI5 : Aside0 (IsR (w4.drewN m) g2 (fun j => w3.heap.size ≤ j) pk 0) := HI4
      have HB5 : Aside0 (Below w.heap.size w (w4.drewN m)) := ⟨pw_below_drewN HB4.out m⟩
      have HQ5 : Aside0 (Below w3.heap.size w3 (w4.drewN m)) := ⟨pw_below_drewN HQ4.out m⟩
      generalize w4.drewN m = w5 at HI5 HB5 HQ5 ⊢
      clear HI4 HW4 HD4 HB4 HQ4
      have t5 : ((bs.length : Int) != (bs.length : Int)) = false := by simp
      go_wp2_with fail
      go_loopw [10] (fun v10 wr => ∃ k : Nat, k ≤ ds.length ∧ v10 = .int .i64 k ∧ Aside0 (IsR wr g2 (fun j => w3.heap.size ≤ j) pk ((bitsL (ds.take k)).length : Int)) ∧ Aside0 (Below w.heap.size w wr) ∧ Aside0 (Below w3.heap.size w3 wr))
        (fun v10 _ => ((ds.length : Int) - intOf v10).toNat)
      case atStart => exact ⟨0, by omega, rfl, ⟨by simpa [bitsL] using HI5.out⟩, HB5, HQ5⟩
      case round =>
        clear HI5 HB5 HQ5
        obtain ⟨k, hk, rfl, HI, HB, HQ⟩ := hrel
        by_cases hlt : k < ds.length
        · have t6 : decide ((k : Int) < (ds.length : Int)) = true := decide_eq_true (by omega)
          have t7 : decide (k < ds.length) = true := decide_eq_true hlt
          obtain ⟨ad, e1, hx0, hx1, hx2⟩ := step_cells (Kd.C_below HD3.out HQ.out) k hlt
          cases e1
          have hex : ∃ x, stepL (ds.getD k step0) = some x := by
            have := done_mem (l := l) (k := k) (by rw [← HDS2.out]; exact hlt)
            rw [← HDS2.out] at this
            exact this
          obtain ⟨x, hst⟩ := hex
          obtain ⟨hdrop, hnext, hroom⟩ := back_parts hlt hst HBS2.out HBB.out HPL.out
          have HN := Aside0.mk hnext
          have HDR := Aside0.mk hdrop
          have HRM := Aside0.mk hroom
          generalize hs : ds.getD k step0 = s at hx0 hx1 hx2 hst
          have HSE := Aside0.mk hs
          obtain ⟨b, n1, m1⟩ := s
          simp only at hx0 hx1 hx2
          have hsl := step_bits_len hst
          have HSL := Aside0.mk hsl
          have HST := Aside0.mk hst
          clear hs hnext hdrop hroom hst hsl
          cases b with
          | true =>
            have hw : onesW n1 m1 = some x := by have := HST.out; simpa [stepL] using this
            have hob := onesL_num (r := bitsL (ds.drop (k + 1)) ++ List.replicate (8 * ((bs.length + 7) / 8) - bs.length) 0) hw
            have HOB := Aside0.mk hob
            clear hw hob
            go_wp2_with fail
            refine (rones_ok g2 _ pk _ m1 wr HI.out HSL.out.1.2.1 HSL.out.1.2.2).mono ?_
            rintro e w6 ⟨n', err, d, h1, rfl, h2, h3⟩
            rw [Int.toNat_natCast, HDR.out, HOB.out] at h1
            simp only [Prod.mk.injEq] at h1
            obtain ⟨rfl, rfl, rfl⟩ := h1
            have HI6 : Aside0 (IsR w6 g2 (fun j => w3.heap.size ≤ j) pk ((bitsL (ds.take (k + 1))).length : Int)) := ⟨by rw [HN.out]; exact h2⟩
            have HB6 : Aside0 (Below w.heap.size w w6) := ⟨below_kp HB.out h3 (fun j hj => Nat.le_trans HZ3.out hj) (Nat.le_refl _)⟩
            have HQ6 : Aside0 (Below w3.heap.size w3 w6) := ⟨below_kp HQ.out h3 (fun j hj => hj) (Nat.le_refl _)⟩
            obtain ⟨ad6, e6, hz0, hz1, hz2⟩ := step_cells (Kd.C_below HD3.out HQ6.out) k hlt
            cases e6
            rw [HSE.out] at hz0 hz1 hz2
            simp only at hz0 hz1 hz2
            clear h2 h3 hx0 hx1 hx2 HI HB HQ
            go_wp2_with fail
            go_roundw
            case rel => exact ⟨k + 1, by omega, by first | (simp; done) | (congr 1; omega), HI6, HB6, HQ6⟩
            case measure => simp [intOf]; omega
          | false =>
            have hw : putL n1 m1 = some x := by have := HST.out; simpa [stepL] using this
            have htb := (takeL_num (r := bitsL (ds.drop (k + 1)) ++ List.replicate (8 * ((bs.length + 7) / 8) - bs.length) 0) hw).1
            have hxm := (HSL.out.2.2 rfl)
            have HTB := Aside0.mk htb
            have HXM := Aside0.mk hxm
            clear hw htb hxm
            go_wp2_with fail
            refine (take_ok g2 _ pk _ m1 wr HI.out HSL.out.1.2.1 HXM.out.2 (by have := HRM.out; have := HXM.out.1; omega)).mono ?_
            rintro e w6 ⟨rfl, h2, h3⟩
            have hval : bval (((bitsOf pk).drop ((bitsL (ds.take k)).length : Int).toNat).take m1.toNat) = n1 := by
              have h := HTB.out
              unfold takeL at h
              rw [if_neg (by have := HSL.out.1; have := HXM.out; omega), if_neg (by rw [List.length_append]; have := HXM.out.1; omega)] at h
              rw [Int.toNat_natCast, HDR.out]
              exact (Prod.mk.inj h).1
            rw [hval]
            have HI6 : Aside0 (IsR w6 g2 (fun j => w3.heap.size ≤ j) pk ((bitsL (ds.take (k + 1))).length : Int)) := ⟨by rw [HN.out, HXM.out.1]; exact h2⟩
            have HB6 : Aside0 (Below w.heap.size w w6) := ⟨below_kp HB.out h3 (fun j hj => Nat.le_trans HZ3.out hj) (Nat.le_refl _)⟩
            have HQ6 : Aside0 (Below w3.heap.size w3 w6) := ⟨below_kp HQ.out h3 (fun j hj => hj) (Nat.le_refl _)⟩
            obtain ⟨ad6, e6, hz0, hz1, hz2⟩ := step_cells (Kd.C_below HD3.out HQ6.out) k hlt
            cases e6
            rw [HSE.out] at hz0 hz1 hz2
            simp only at hz0 hz1 hz2
            clear h2 h3 hval hx0 hx1 hx2 HI HB HQ
            go_wp2_with fail
            go_roundw
            case rel => exact ⟨k + 1, by omega, by first | (simp; done) | (congr 1; omega), HI6, HB6, HQ6⟩
            case measure => simp [intOf]; omega
        · have t6 : decide ((k : Int) < (ds.length : Int)) = false := decide_eq_false (by omega)
          have t7 : decide (k < ds.length) = false := decide_eq_false hlt
          have HE : Aside0 (bitsL (ds.take k) = bs) := ⟨by rw [List.take_of_length_le (by omega), HBS2.out]⟩
          have HI2 : Aside0 (IsR wr g2 (fun j => w3.heap.size ≤ j) pk (bs.length : Int)) := ⟨by rw [← HE.out]; exact HI.out⟩
          have t8 : ((bs.length : Int) == (bs.length : Int)) = true := by simp
          clear hlt HI
          go_wp2_with fail
          refine (at_calls g2 _ pk _ wr HI2.out).mono ?_
          rintro e w6 ⟨rfl, rfl⟩
          go_wp2_with fail
          refine (end_calls g2 _ pk _ _ HI2.out).mono ?_
          rintro e w7 ⟨rfl, ⟨m7, rfl⟩⟩
          have hen : endL ((bitsOf pk).drop ((bs.length : Int)).toNat) = 0 := by
            rw [HBB.out, Int.toNat_natCast]
            exact endL_pad (by omega)
          rw [hen]
          clear hen
          go_wp2
          go_ret
          exact ⟨rfl, pw_below_drewN HB.out _⟩
end Go.Proofs.Ythplmngignmieaa.Bits
