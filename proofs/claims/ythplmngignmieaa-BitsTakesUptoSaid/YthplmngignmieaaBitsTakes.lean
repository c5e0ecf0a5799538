/- BitsTakes: the walk. -/
import Derived.Test.YthplmngignmieaaRefRoomy
import Derived.Test.YthplmngignmieaaRefEnd
import Derived.Test.YthplmngignmieaaBitsSteps
import Derived.Deep.RegionHeld3
import Derived.WalkSpells
namespace Go.Proofs.Ythplmngignmieaa.Bits
open Go.RowKit Go.Proofs.YthplmngignmieaaW.PrintLast Go.Proofs.YthplmngignmieaaW.PrintWords Go.Proofs.YthplmngignmieaaW.PrintMore Go.Proofs.Ythplmngignmieaa.BP
set_option linter.unusedVariables false
set_option linter.unusedSimpArgs false


theorem below0 {w w2 : World} (hB : Below w.drew.heap.size w.drew w2) : Below w.heap.size w w2 := below_step (below_drew1 (Below.refl w.heap.size w)) hB
/-- What a reader's step answers: the number, the error, how many bits are passed. -/
def rstepL (o : Bool) (D : List Int) (m : Int) : Int × Int × Int := if o then onesL D m else ((takeL D m).1, (takeL D m).2, if (takeL D m).2 = 0 then m else 0)
theorem onesL_bd (D : List Int) (m : Int) : 0 ≤ (onesL D m).2.2 ∧ (onesL D m).2.2 ≤ D.length ∧ ((onesL D m).2.1 ≠ 0 → (onesL D m).2.2 = 0) := by
  have h := ones_le D m.toNat
  unfold onesL
  split
  · exact ⟨Int.le_refl _, Int.natCast_nonneg _, fun _ => rfl⟩
  split
  · refine ⟨?_, ?_, ?_⟩
    · simp only; omega
    · simp only; omega
    · intro h2; exact absurd rfl h2
  split
  · exact ⟨Int.le_refl _, Int.natCast_nonneg _, fun _ => rfl⟩
  · refine ⟨?_, ?_, ?_⟩
    · simp only; omega
    · simp only; omega
    · intro h2; exact absurd rfl h2
theorem takeL_w (D : List Int) (m : Int) (h : (takeL D m).2 = 0) : 0 ≤ m ∧ m ≤ 32 ∧ m ≤ D.length := by
  unfold takeL at h
  split at h
  · simp at h
  split at h
  · simp at h
  · omega
def ReadPost (w : World) (g : Nat) (S : Nat → Prop) (b : List Int) (p : Int) (o : Bool) (m : Int) (e : Ending) (w' : World) : Prop :=
  e = .returned (.tuple #[.int .i64 (rstepL o ((bitsOf b).drop p.toNat) m).1, .int .i64 (rstepL o ((bitsOf b).drop p.toNat) m).2.1]) ∧ IsR w' g S b (p + (rstepL o ((bitsOf b).drop p.toNat) m).2.2) ∧ Kp w w' S
theorem rones_any (g : Nat) (S : Nat → Prop) (b : List Int) (p m : Int) (w : World) (h : IsR w g S b p) :
    Calls Try.prog 19 #[.pointer (some ⟨g, 0, none⟩), .int .i64 m] w (ReadPost w g S b p true m) := by
  by_cases hm : m < 0 ∨ 64 < m
  · refine (rones_bad g m w hm).mono ?_
    rintro e w' ⟨rfl, rfl⟩
    have e : rstepL true ((bitsOf b).drop p.toNat) m = (0, 1, 0) := by unfold rstepL onesL; rw [if_pos rfl, if_pos hm]
    unfold ReadPost
    rw [e]
    exact ⟨rfl, by rw [Int.add_zero]; exact h, Kp.refl _ _⟩
  · refine (rones_ok g S b p m w h (by omega) (by omega)).mono ?_
    rintro e w' ⟨n, err, d, ho, rfl, hR, hK⟩
    have e : rstepL true ((bitsOf b).drop p.toNat) m = (n, err, d) := by unfold rstepL; rw [if_pos rfl, ho]
    unfold ReadPost
    rw [e]
    exact ⟨rfl, hR, hK⟩
theorem rtake_any (g : Nat) (S : Nat → Prop) (b : List Int) (p m : Int) (w : World) (h : IsR w g S b p) :
    Calls Try.prog 18 #[.pointer (some ⟨g, 0, none⟩), .int .i64 m] w (ReadPost w g S b p false m) := by
  have hlen : ((bitsOf b).drop p.toNat).length = (8 * (b.length : Int) - p).toNat := by rw [List.length_drop, bitsOf_len]; have := h.2.1; omega
  have hb := h.2.1
  by_cases hm : m < 0 ∨ 32 < m
  · refine (take_bad g m w hm).mono ?_
    rintro e w' ⟨rfl, rfl⟩
    have e : rstepL false ((bitsOf b).drop p.toNat) m = (0, 1, 0) := by unfold rstepL takeL; rw [if_neg (by simp), if_pos hm]; rfl
    unfold ReadPost
    rw [e]
    exact ⟨rfl, by rw [Int.add_zero]; exact h, Kp.refl _ _⟩
  · by_cases hs : m ≤ 8 * (b.length : Int) - p
    · refine (take_ok g S b p m w h (by omega) (by omega) hs).mono ?_
      rintro e w' ⟨rfl, hR, hK⟩
      have e : rstepL false ((bitsOf b).drop p.toNat) m = (bval (((bitsOf b).drop p.toNat).take m.toNat), 0, m) := by
        unfold rstepL takeL
        rw [if_neg (by simp), if_neg hm, if_neg (by omega)]; rfl
      unfold ReadPost
      rw [e]
      exact ⟨rfl, hR, hK⟩
    · refine (take_short g S b p m w h (by omega) (by omega) (by omega)).mono ?_
      rintro e w' ⟨rfl, ⟨k, rfl⟩⟩
      have e : rstepL false ((bitsOf b).drop p.toNat) m = (0, 2, 0) := by
        unfold rstepL takeL
        rw [if_neg (by simp), if_neg hm, if_pos (by omega)]; rfl
      unfold ReadPost
      rw [e]
      exact ⟨rfl, by rw [Int.add_zero]; exact h.drewN k, (Kp.refl w S).drewN k⟩

def Cur (w : World) (Z : Nat) (g : Nat) (S : Nat → Prop) (b : List Int) (p : Nat) (A8 : Option Addr) (D2 : List Int) (A2 : Option Addr) (c2 : Nat) (L : List Int) (wx : World) : Prop :=
  IsR wx g S b p ∧ Kd.C (Kd.int .i64) wx A8 D2.length D2 ∧ Kd.R (Kd.int .i64) 3 wx Z (fun j => ¬ S j) (.slice A2 L.length c2) L ∧ Below w.heap.size w wx
theorem Cur.below {w : World} {Z g : Nat} {S : Nat → Prop} {b : List Int} {p : Nat} {A8 : Option Addr} {D2 : List Int} {A2 : Option Addr} {c2 : Nat} {L : List Int} {wx wy : World} (h : Cur w Z g S b p A8 D2 A2 c2 L wx) (hB : Below wx.heap.size wx wy) : Cur w Z g S b p A8 D2 A2 c2 L wy :=
  ⟨h.1.below hB, Kd.C_below h.2.1 hB, Kd.R_below h.2.2.1 hB, below_step h.2.2.2 hB⟩
theorem Cur.drawn {w : World} {Z g : Nat} {S : Nat → Prop} {b : List Int} {p : Nat} {A8 : Option Addr} {D2 : List Int} {A2 : Option Addr} {c2 : Nat} {L : List Int} {wx wy : World} (h : Cur w Z g S b p A8 D2 A2 c2 L wx) (hD : Drawn0 wx wy) : Cur w Z g S b p A8 D2 A2 c2 L wy := by
  obtain ⟨m, rfl⟩ := hD.out
  exact h.below (pw_below_drewN (Below.refl _ _) m)

set_option maxRecDepth 100000 in
set_option maxHeartbeats 8000000 in
theorem takes_one (A0 : Option Addr) (c0 : Nat) (b : List Int) (A : Option Addr) (c : Nat) (l : List StepT) (w : World) (hb : Kd.C (Kd.int .u8) w A0 b.length b) (h8 : B8 b) (hbl : b.length ≤ 1048576) (hC : stepK.C w A l.length l) (hl : l.length ≤ 1048576) :
    Calls Try.prog 6 #[.slice A0 b.length c0, .slice A l.length c] w fun e w' => e = .returned (.bool true) ∧ Below w.heap.size w w' := by
  have HC := Aside0.mk hC
  have HCB := Aside0.mk hb
  have H8 := Aside0.mk h8
  clear hC hb h8
  go_enter Try.func6, Try.ntmps6
  go_wp2_with fail
  refine (roomy_calls A0 c0 b w HCB.out (by omega)).mono ?_
  rintro e w1 ⟨A1, c1, rfl, hcap, hR, hB⟩
  have hlen : (b ++ marks 40).length = b.length + 40 := by rw [List.length_append, marks_len]
  obtain ⟨g0, cap, hv, hg0, hg1, _⟩ := Kd.R_form hR (by omega)
  obtain ⟨rfl, _, rfl⟩ : A1 = some ⟨g0, 0, none⟩ ∧ b.length + 40 = (b ++ marks 40).length ∧ c1 = cap := by simpa using hv
  have HF1 : Aside0 (Kd.R (Kd.int .u8) 5 w1 w.heap.size (fun _ => True) (.slice (some ⟨g0, 0, none⟩) (b.length + 40) c1) (b ++ marks 40)) := ⟨hR⟩
  have HCF : Aside0 (Kd.C (Kd.int .u8) w1 (some ⟨g0, 0, none⟩) (b.length + 40) (b ++ marks 40)) := ⟨by have h := (Kd.R_reads' hR).2.2; rw [hlen] at h; exact h⟩
  have HCP : Aside0 (Kd.C (Kd.int .u8) w1 (some ⟨g0, 0, none⟩) b.length b) := ⟨by have h := Kd.C_take (m := b.length) (k := Kd.int .u8) (Kd.R_reads' hR).2.2 (by omega); rwa [List.take_left] at h⟩
  have HG1 := Aside0.mk hg1
  have HG0 := Aside0.mk hg0
  have HB1 := Aside0.mk hB
  have HCAP := Aside0.mk hcap
  clear hR hB hv hlen hg0 hg1
  go_wp2_with fail
  refine (open_calls _ c1 b w1 HCP.out H8.out (by omega)).mono ?_
  rintro e w2 ⟨g, rfl, hR, hB⟩
  have HI2 : Aside0 (IsR w2 g (fun k => w1.heap.size ≤ k ∧ k < w2.heap.size) b 0) := ⟨hR.bound⟩
  have HF2 : Aside0 (Kd.R (Kd.int .u8) 5 w2 w.heap.size (fun _ => True) (.slice (some ⟨g0, 0, none⟩) (b.length + 40) c1) (b ++ marks 40)) := ⟨Kd.R_below HF1.out hB⟩
  have HCF2 : Aside0 (Kd.C (Kd.int .u8) w2 (some ⟨g0, 0, none⟩) (b.length + 40) (b ++ marks 40)) := ⟨Kd.C_below HCF.out hB⟩
  have HB2 : Aside0 (Below w.heap.size w w2) := ⟨below_step HB1.out hB⟩
  have HS01 : Aside0 (w.heap.size ≤ w1.heap.size) := ⟨HB1.out.size⟩
  clear hR hB HF1 HCF HCP HB1
  go_wp2_with fail
  refine (awake_calls _).mono ?_
  rintro e w3 ⟨rfl, hB⟩
  have HI3 : Aside0 (IsR w3 g (fun k => w1.heap.size ≤ k ∧ k < w2.heap.size) b 0) := ⟨HI2.out.below hB⟩
  have HF3 : Aside0 (Kd.R (Kd.int .u8) 5 w3 w.heap.size (fun _ => True) (.slice (some ⟨g0, 0, none⟩) (b.length + 40) c1) (b ++ marks 40)) := ⟨Kd.R_below HF2.out hB⟩
  have HCF3 : Aside0 (Kd.C (Kd.int .u8) w3 (some ⟨g0, 0, none⟩) (b.length + 40) (b ++ marks 40)) := ⟨Kd.C_below HCF2.out hB⟩
  have HB3 : Aside0 (Below w.heap.size w w3) := ⟨below_step HB2.out hB⟩
  have HS23 : Aside0 (w2.heap.size ≤ w3.heap.size) := ⟨hB.size⟩
  clear hB HI2 HF2 HCF2 HB2
  go_wp2_with fail
  refine (held_calls _ c1 A0 c0 b w3 HCF3.out (Kd.C_below HCB.out HB3.out) HCAP.out (by omega)).mono ?_
  rintro e w4 ⟨rfl, ⟨m, rfl⟩⟩
  replace HI3 : Aside0 (IsR (w3.drewN m) g (fun k => w1.heap.size ≤ k ∧ k < w2.heap.size) b 0) := HI3
  replace HF3 : Aside0 (Kd.R (Kd.int .u8) 5 (w3.drewN m) w.heap.size (fun _ => True) (.slice (some ⟨g0, 0, none⟩) (b.length + 40) c1) (b ++ marks 40)) := HF3
  replace HB3 : Aside0 (Below w.heap.size w (w3.drewN m)) := ⟨pw_below_drewN HB3.out m⟩
  replace HS23 : Aside0 (w2.heap.size ≤ (w3.drewN m).heap.size) := HS23
  generalize w3.drewN m = w4 at HI3 HF3 HB3 HS23 ⊢
  clear HCF3
  go_wp2_with fail
  go_loopw [7] (fun v7 wr => ∃ (k : Nat) (xs : List Int), k ≤ b.length ∧ v7 = .int .i64 k ∧ Aside0 (xs.length = b.length + 40) ∧ Aside0 (Kd.R (Kd.int .u8) 5 wr w.heap.size (fun _ => True) (.slice (some ⟨g0, 0, none⟩) (b.length + 40) c1) xs) ∧ Aside0 (IsR wr g (fun k => w1.heap.size ≤ k ∧ k < w2.heap.size) b 0) ∧ Aside0 (Below w.heap.size w wr) ∧ Aside0 (w2.heap.size ≤ wr.heap.size))
    (fun v7 _ => ((b.length : Int) - intOf v7).toNat)
  case atStart => exact ⟨0, _, by omega, rfl, ⟨by rw [List.length_append, marks_len]⟩, HF3, HI3, HB3, HS23⟩
  case round =>
    clear HF3 HI3 HB3 HS23
    obtain ⟨k, xs, hk, rfl, HXL, HF, HI, HB, HS⟩ := hrel
    by_cases hlt : k < b.length
    · have t1 : decide ((k : Int) < (b.length : Int)) = true := decide_eq_true (by omega)
      have t2 : decide (k < b.length) = true := decide_eq_true hlt
      obtain ⟨hx, hf⟩ := Kd.R_celln 0 HF.out (k : Int) (by omega) (by omega)
      obtain ⟨x, hxx⟩ : ∃ x, rdOf 0 xs (k : Int) = x := ⟨_, rfl⟩
      rw [hxx, Int.toNat_natCast] at hx
      rw [Int.toNat_natCast] at hf
      obtain ⟨y, hy⟩ : ∃ y, bits .xor .u8 x 170 = y := ⟨_, rfl⟩
      have hP := Kd.R_putg HF.out (k : Int) y
      rw [Int.toNat_natCast] at hP
      have HF2 : Aside0 (Kd.R (Kd.int .u8) 5 (wr.setCell ⟨g0, k, none⟩ (.int .u8 y)) w.heap.size (fun _ => True) (.slice (some ⟨g0, 0, none⟩) (b.length + 40) c1) (xs.set k y)) := ⟨hP.1⟩
      have HXL2 : Aside0 ((xs.set k y).length = b.length + 40) := ⟨by rw [List.length_set]; exact HXL.out⟩
      have HI2 : Aside0 (IsR (wr.setCell ⟨g0, k, none⟩ (.int .u8 y)) g (fun k => w1.heap.size ≤ k ∧ k < w2.heap.size) b 0) := ⟨HI.out.kept ((Kept.refl wr (fun j => j = g0)).setCell (.inl rfl) _) (fun j hj h => by have := HG1.out; omega)⟩
      have HB2 : Aside0 (Below w.heap.size w (wr.setCell ⟨g0, k, none⟩ (.int .u8 y))) := ⟨HB.out.setCell HG0.out _⟩
      have HS2 : Aside0 (w2.heap.size ≤ (wr.setCell ⟨g0, k, none⟩ (.int .u8 y)).heap.size) := ⟨by have := HS.out; simpa [World.setCell] using this⟩
      have HXV := Aside0.mk hxx
      clear hP hxx
      go_wp2_with fail
      go_roundw
      case rel => exact ⟨k + 1, _, by omega, by first | (simp; done) | (congr 1; omega), HXL2, HF2, HI2, HB2, HS2⟩
      case measure => simp [intOf]; omega
    · have t1 : decide ((k : Int) < (b.length : Int)) = false := decide_eq_false (by omega)
      have t2 : decide (k < b.length) = false := decide_eq_false hlt
      clear HF HXL
      go_wp2_with fail
      refine (refbits_calls A0 c0 b wr (Kd.C_below HCB.out HB.out) H8.out (by omega)).mono ?_
      rintro e w5 ⟨v, rfl, hR, hB⟩
      obtain ⟨L, hL⟩ : ∃ L, bitsOf b = L := ⟨_, rfl⟩
      have hLl : L.length = 8 * b.length := by rw [← hL, bitsOf_len]
      rw [hL] at hR
      obtain ⟨A2, c2, rfl⟩ := Kd.R_slice hR
      have HC2 : Aside0 (L.length ≤ c2) := ⟨(Kd.R_reads' hR).2.1⟩
      have HO5 : Aside0 (Kd.R (Kd.int .i64) 3 w5 wr.heap.size (fun j => ¬ (w1.heap.size ≤ j ∧ j < w2.heap.size)) (.slice A2 L.length c2) L) := ⟨Kd.R_mono (Kd.R_bound hR) (fun j hj h => by have := hj.2.1; have := HS.out; omega)⟩
      have HI5 : Aside0 (IsR w5 g (fun k => w1.heap.size ≤ k ∧ k < w2.heap.size) b 0) := ⟨HI.out.below hB⟩
      have HB5 : Aside0 (Below w.heap.size w w5) := ⟨below_step HB.out hB⟩
      have H01 : Aside0 (B01 L) := ⟨by rw [← hL]; exact bitsOf_01 b⟩
      have HL := Aside0.mk hL
      have HLL := Aside0.mk hLl
      have hLb : L.length ≤ 8388608 := by omega
      clear hR hB hL hLl HI HB
      go_wp2_with fail
      obtain ⟨Z, hZ⟩ : ∃ Z, Z = wr.heap.size := ⟨_, rfl⟩
      rw [← hZ] at HO5
      clear hZ HS
      go_loopw [9, 10] (fun v9 v10 wr => ∃ k p : Nat, k ≤ l.length ∧ p ≤ L.length ∧ v9 = .int .i64 p ∧ v10 = .int .i64 k ∧ Aside0 (IsR wr g (fun k => w1.heap.size ≤ k ∧ k < w2.heap.size) b p) ∧ Aside0 (Kd.R (Kd.int .i64) 3 wr Z (fun j => ¬ (w1.heap.size ≤ j ∧ j < w2.heap.size)) (.slice A2 L.length c2) L) ∧ Aside0 (Below w.heap.size w wr))
        (fun _ v10 _ => ((l.length : Int) - intOf v10).toNat)
      case atStart => exact ⟨0, 0, by omega, by omega, rfl, rfl, HI5, HO5, HB5⟩
      case round =>
        clear HI5 HO5 HB5
        obtain ⟨k, p, hk, hp, rfl, rfl, HI, HO, HB⟩ := hrel
        by_cases hlt : k < l.length
        · have t1 : decide ((k : Int) < (l.length : Int)) = true := decide_eq_true (by omega)
          have t2 : decide (k < l.length) = true := decide_eq_true hlt
          obtain ⟨ad, e1, hx0, hx1, hx2⟩ := step_cells (Kd.C_below HC.out HB.out) k hlt
          cases e1
          generalize hs : l.getD k step0 = s at hx0 hx1 hx2
          have HSE := Aside0.mk hs
          obtain ⟨o, n1, m1⟩ := s
          simp only at hx0 hx1 hx2
          clear hs hx1
          obtain ⟨i022, hi022, _, hsz22, _⟩ := info_parts infoI
          obtain ⟨A9, hcut, hA9, hC9⟩ := print_drop_of (P := Try.prog) (Value.int .i64) 0 26 3 .i64 Try.underlying26 hi022 hsz22 A2 c2 L (p : Int) (by omega) (by omega) HC2.out
          obtain ⟨D, hD⟩ : ∃ D, L.drop p = D := ⟨_, rfl⟩
          simp only [Int.toNat_natCast] at hcut hA9 hC9
          rw [hD] at hcut hA9 hC9
          have HC9 := Aside0.mk hC9
          have HA9 : Aside0 (∀ w', Kd.C (Kd.int .i64) w' A2 L.length L → Kd.C (Kd.int .i64) w' A9 D.length D) := ⟨fun w' h => Kd.C_of_reads (h1 := fun _ => rfl) (hA9 _ (Kd.reads_of_C h))⟩
          have HD01 : Aside0 (B01 D) := ⟨by rw [← hD]; exact H01.out.drop _⟩
          have HDl : Aside0 (D.length = L.length - p) := ⟨by rw [← hD, List.length_drop]⟩
          have HDb : Aside0 ((bitsOf b).drop ((p : Int)).toNat = D) := ⟨by rw [Int.toNat_natCast, HL.out, hD]⟩
          have HCD : Aside0 (Kd.C (Kd.int .i64) wr A9 D.length D) := ⟨HA9.out _ (Kd.R_reads' HO.out).2.2⟩
          clear hi022 hsz22 hA9 hC9 hD
          cases o with
          | true =>
            have HRd : Aside0 (∀ wx : World, IsR wx g (fun k => w1.heap.size ≤ k ∧ k < w2.heap.size) b p → Calls Try.prog 19 #[.pointer (some ⟨g, 0, none⟩), .int .i64 m1] wx fun e w' => e = .returned (.tuple #[.int .i64 (onesL D m1).1, .int .i64 (onesL D m1).2.1]) ∧ IsR w' g (fun k => w1.heap.size ≤ k ∧ k < w2.heap.size) b (p + (onesL D m1).2.2) ∧ Kp wx w' (fun k => w1.heap.size ≤ k ∧ k < w2.heap.size)) := ⟨fun wx h => by have q := rones_any g _ b p m1 wx h; unfold ReadPost at q; rw [HDb.out] at q; exact q⟩
            have HRf : Aside0 (∀ wx : World, Kd.C (Kd.int .i64) wx A9 D.length D → Calls Try.prog 28 #[.slice A9 D.length (c2 - p), .int .i64 m1] wx fun e w' => e = .returned (.tuple #[.int .i64 (onesL D m1).1, .int .i64 (onesL D m1).2.2, .int .i64 (onesL D m1).2.1]) ∧ w' = wx) := ⟨fun wx h => refcount_calls A9 (c2 - p) D m1 wx h (by rw [HDl.out]; omega)⟩
            have HBd : Aside0 (0 ≤ (onesL D m1).2.2 ∧ (onesL D m1).2.2 ≤ (L.length : Int) - p ∧ ((onesL D m1).2.1 ≠ 0 → (onesL D m1).2.2 = 0)) := ⟨by have := onesL_bd D m1; have hdl := HDl.out; exact ⟨(onesL_bd D m1).1, by have := (onesL_bd D m1).2.1; omega, (onesL_bd D m1).2.2⟩⟩
            generalize onesL D m1 = ts at HRd HRf HBd
            obtain ⟨v, f, adv⟩ := ts
            simp only at HRd HRf HBd
            go_wp2_with fail
            go_region_held3 (fun w' => w'.cell? ⟨(ad.add (k * 3)).block, (ad.add (k * 3)).off + 2, none⟩ = some (.int .i64 m1))
              (first | go_keep | exact hx2)
              (first | (go_at_call 28; refine (HRf.out _ (by first | exact HCD.out | exact Kd.C_below HCD.out (below_drew1 (Below.refl _ _)))).mono ?_; rintro e w6 ⟨rfl, hw6⟩; have HDr : Aside0 (Below wr.heap.size wr w6 ∧ Kp wr w6 (fun _ => False)) := ⟨by rw [hw6]; exact ⟨by first | exact below_drew1 (Below.refl _ _) | exact Below.refl _ _, by first | exact (Kp.refl wr _).drew | exact Kp.refl wr _⟩⟩; have hy2 := cell_later HDr.out.1 hx2; have hy0 := cell_later HDr.out.1 hx0; clear hw6))

            have HI6 : Aside0 (IsR w6 g (fun k => w1.heap.size ≤ k ∧ k < w2.heap.size) b p) := ⟨HI.out.kept HDr.out.2.1 (fun _ _ h => h)⟩
            have HO6 : Aside0 (Kd.R (Kd.int .i64) 3 w6 Z (fun j => ¬ (w1.heap.size ≤ j ∧ j < w2.heap.size)) (.slice A2 L.length c2) L) := ⟨Kd.R_kept HO.out HDr.out.2.1 (fun _ _ h => h)⟩
            have HB6 : Aside0 (Below w.heap.size w w6) := ⟨below_step HB.out HDr.out.1⟩
            clear HI HO HB HDr hx0 hx2 HCD
            go_wp2_with fail
            refine (HRd.out _ HI6.out).mono ?_
            rintro e w7 ⟨rfl, hR, hK⟩
            have HI7 : Aside0 (IsR w7 g (fun k => w1.heap.size ≤ k ∧ k < w2.heap.size) b (p + adv)) := ⟨hR⟩
            have HO7 : Aside0 (Kd.R (Kd.int .i64) 3 w7 Z (fun j => ¬ (w1.heap.size ≤ j ∧ j < w2.heap.size)) (.slice A2 L.length c2) L) := ⟨Kd.R_kept HO6.out hK.1 (fun j hj h => hj h)⟩
            have HB7 : Aside0 (Below w.heap.size w w7) := ⟨below_kp HB6.out hK (fun j hj => Nat.le_trans HS01.out hj.1) (Nat.le_refl _)⟩
            have t3 : (f != f) = false := by simp
            have t4 : (v != v) = false := by simp
            clear hR hK HI6 HO6 HB6 hy0 hy2 HRd HRf hcut
            by_cases cf : f = 0
            · subst cf
              have hbd := HBd.out
              obtain ⟨m, rfl⟩ := Int.eq_ofNat_of_zero_le hbd.1
              obtain ⟨P, hP⟩ : ∃ P : Nat, p + m = P := ⟨_, rfl⟩
              have hPi : (p : Int) + (m : Int) = (P : Int) := by omega
              have hPL : P ≤ L.length := by omega
              replace HI7 : Aside0 (IsR w7 g (fun k => w1.heap.size ≤ k ∧ k < w2.heap.size) b P) := ⟨by rw [← hPi]; exact HI7.out⟩
              clear hbd HBd hP
              obtain ⟨i023, hi023, _, hsz23, _⟩ := info_parts infoI
              obtain ⟨A8, hcut2, hA8, hC8⟩ := print_drop_of (P := Try.prog) (Value.int .i64) 0 26 3 .i64 Try.underlying26 hi023 hsz23 A2 c2 L (P : Int) (by omega) (by omega) HC2.out
              obtain ⟨D2, hD2⟩ : ∃ D2, L.drop P = D2 := ⟨_, rfl⟩
              simp only [Int.toNat_natCast] at hcut2 hA8 hC8
              rw [hD2] at hcut2 hA8 hC8
              have HA8 : Aside0 (Kd.C (Kd.int .i64) w7 A8 D2.length D2) := ⟨Kd.C_of_reads (h1 := fun _ => rfl) (hA8 _ (Kd.reads_of_C (Kd.R_reads' HO7.out).2.2))⟩
              have HDl2 : Aside0 (D2.length < 140737488355328) := ⟨by rw [← hD2, List.length_drop]; omega⟩
              obtain ⟨en, hen⟩ : ∃ en, endL D2 = en := ⟨_, rfl⟩
              have CUR : Aside0 (Cur w Z g (fun k => w1.heap.size ≤ k ∧ k < w2.heap.size) b P A8 D2 A2 c2 L w7) := ⟨HI7.out, HA8.out, HO7.out, HB7.out⟩
              have HAt : Aside0 (∀ wx : World, Cur w Z g (fun k => w1.heap.size ≤ k ∧ k < w2.heap.size) b P A8 D2 A2 c2 L wx → Calls Try.prog 21 #[.pointer (some ⟨g, 0, none⟩)] wx fun e w' => e = .returned (.int .i64 (P : Int)) ∧ Cur w Z g (fun k => w1.heap.size ≤ k ∧ k < w2.heap.size) b P A8 D2 A2 c2 L w') := ⟨fun wx h => (at_calls g _ b P wx h.1).mono (fun e w' q => ⟨q.1, q.2 ▸ h⟩)⟩
              have HEn : Aside0 (∀ wx : World, Cur w Z g (fun k => w1.heap.size ≤ k ∧ k < w2.heap.size) b P A8 D2 A2 c2 L wx → Calls Try.prog 23 #[.pointer (some ⟨g, 0, none⟩)] wx fun e w' => e = .returned (.int .i64 en) ∧ Cur w Z g (fun k => w1.heap.size ≤ k ∧ k < w2.heap.size) b P A8 D2 A2 c2 L w') := ⟨fun wx h => (end_calls g _ b P wx h.1).mono (fun e w' q => ⟨by rw [q.1, Int.toNat_natCast, HL.out, hD2, hen], h.drawn q.2⟩)⟩
              have HRE : Aside0 (∀ wx : World, Cur w Z g (fun k => w1.heap.size ≤ k ∧ k < w2.heap.size) b P A8 D2 A2 c2 L wx → Calls Try.prog 30 #[.slice A8 D2.length (c2 - P)] wx fun e w' => e = .returned (.int .i64 en) ∧ Cur w Z g (fun k => w1.heap.size ≤ k ∧ k < w2.heap.size) b P A8 D2 A2 c2 L w') := ⟨fun wx h => (refend_calls A8 (c2 - P) D2 wx h.2.1 HDl2.out).mono (fun e w' q => ⟨by rw [q.1, hen], q.2 ▸ h⟩)⟩
              have HLf : Aside0 (∀ wx : World, Cur w Z g (fun k => w1.heap.size ≤ k ∧ k < w2.heap.size) b P A8 D2 A2 c2 L wx → Calls Try.prog 22 #[.pointer (some ⟨g, 0, none⟩)] wx fun e w' => e = .returned (.int .i64 ((L.length : Int) - (P : Int))) ∧ Cur w Z g (fun k => w1.heap.size ≤ k ∧ k < w2.heap.size) b P A8 D2 A2 c2 L w') := ⟨fun wx h => (left_calls g _ b P wx h.1).mono (fun e w' q => ⟨by rw [q.1, show (8 * (b.length : Int) - (P : Int)) = (L.length : Int) - (P : Int) by have := HLL.out; omega], h.drawn q.2⟩)⟩
              have u1 : ((P : Int) != (P : Int)) = false := by simp
              have u4 : IntKind.i64.wrap ((L.length : Int) - (P : Int)) = (L.length : Int) - (P : Int) := by rw [IntKind.wrap_i64]; omega
              have u2 : (((L.length : Int) - (P : Int)) != ((L.length : Int) - (P : Int))) = false := by simp
              have u3 : (en != en) = false := by simp
              clear hi023 hsz23 hA8 hC8 hD2 hen HI7 HO7 HB7 HA8
              go_wp2_with fail
              go_region_held3 (fun _ => True) (trivial)
                (first
                 | (go_at_call 21; refine (HAt.out _ (by first | exact CUR.out | exact CUR.out.below (below_drew1 (Below.refl _ _)))).mono ?_; rintro e w8 ⟨rfl, hc⟩; replace CUR := Aside0.mk hc; clear hc)
                 | (go_at_call 22; refine (HLf.out _ (by first | exact CUR.out | exact CUR.out.below (below_drew1 (Below.refl _ _)))).mono ?_; rintro e w8 ⟨rfl, hc⟩; replace CUR := Aside0.mk hc; clear hc)
                 | (go_at_call 23; refine (HEn.out _ (by first | exact CUR.out | exact CUR.out.below (below_drew1 (Below.refl _ _)))).mono ?_; rintro e w8 ⟨rfl, hc⟩; replace CUR := Aside0.mk hc; clear hc)
                 | (go_at_call 30; refine (HRE.out _ (by first | exact CUR.out | exact CUR.out.below (below_drew1 (Below.refl _ _)))).mono ?_; rintro e w8 ⟨rfl, hc⟩; replace CUR := Aside0.mk hc; clear hc))
              all_goals (go_wp2_with fail; go_roundw)
              all_goals first
                | (case rel => exact ⟨k + 1, P, by omega, by omega, by first | (simp; done) | (congr 1; omega), by first | (simp; done) | (congr 1; omega), ⟨by first | exact CUR.out.1 | exact (CUR.out.below (below_drew1 (Below.refl _ _))).1⟩, ⟨by first | exact CUR.out.2.2.1 | exact (CUR.out.below (below_drew1 (Below.refl _ _))).2.2.1⟩, ⟨by first | exact CUR.out.2.2.2 | exact (CUR.out.below (below_drew1 (Below.refl _ _))).2.2.2⟩⟩)
                | (simp [intOf]; omega)

            · have t5 : (f == 0) = false := beq_eq_false_iff_ne.mpr cf
              replace HI7 : Aside0 (IsR w7 g (fun k => w1.heap.size ≤ k ∧ k < w2.heap.size) b p) := ⟨by have h := HI7.out; rw [HBd.out.2.2 cf, Int.add_zero] at h; exact h⟩
              clear HBd cf
              obtain ⟨i023, hi023, _, hsz23, _⟩ := info_parts infoI
              obtain ⟨A8, hcut2, hA8, hC8⟩ := print_drop_of (P := Try.prog) (Value.int .i64) 0 26 3 .i64 Try.underlying26 hi023 hsz23 A2 c2 L (p : Int) (by omega) (by omega) HC2.out
              obtain ⟨D2, hD2⟩ : ∃ D2, L.drop p = D2 := ⟨_, rfl⟩
              simp only [Int.toNat_natCast] at hcut2 hA8 hC8
              rw [hD2] at hcut2 hA8 hC8
              have HA8 : Aside0 (Kd.C (Kd.int .i64) w7 A8 D2.length D2) := ⟨Kd.C_of_reads (h1 := fun _ => rfl) (hA8 _ (Kd.reads_of_C (Kd.R_reads' HO7.out).2.2))⟩
              have HDl2 : Aside0 (D2.length < 140737488355328) := ⟨by rw [← hD2, List.length_drop]; omega⟩
              obtain ⟨en, hen⟩ : ∃ en, endL D2 = en := ⟨_, rfl⟩
              have CUR : Aside0 (Cur w Z g (fun k => w1.heap.size ≤ k ∧ k < w2.heap.size) b p A8 D2 A2 c2 L w7) := ⟨HI7.out, HA8.out, HO7.out, HB7.out⟩
              have HAt : Aside0 (∀ wx : World, Cur w Z g (fun k => w1.heap.size ≤ k ∧ k < w2.heap.size) b p A8 D2 A2 c2 L wx → Calls Try.prog 21 #[.pointer (some ⟨g, 0, none⟩)] wx fun e w' => e = .returned (.int .i64 (p : Int)) ∧ Cur w Z g (fun k => w1.heap.size ≤ k ∧ k < w2.heap.size) b p A8 D2 A2 c2 L w') := ⟨fun wx h => (at_calls g _ b p wx h.1).mono (fun e w' q => ⟨q.1, q.2 ▸ h⟩)⟩
              have HEn : Aside0 (∀ wx : World, Cur w Z g (fun k => w1.heap.size ≤ k ∧ k < w2.heap.size) b p A8 D2 A2 c2 L wx → Calls Try.prog 23 #[.pointer (some ⟨g, 0, none⟩)] wx fun e w' => e = .returned (.int .i64 en) ∧ Cur w Z g (fun k => w1.heap.size ≤ k ∧ k < w2.heap.size) b p A8 D2 A2 c2 L w') := ⟨fun wx h => (end_calls g _ b p wx h.1).mono (fun e w' q => ⟨by rw [q.1, Int.toNat_natCast, HL.out, hD2, hen], h.drawn q.2⟩)⟩
              have HRE : Aside0 (∀ wx : World, Cur w Z g (fun k => w1.heap.size ≤ k ∧ k < w2.heap.size) b p A8 D2 A2 c2 L wx → Calls Try.prog 30 #[.slice A8 D2.length (c2 - p)] wx fun e w' => e = .returned (.int .i64 en) ∧ Cur w Z g (fun k => w1.heap.size ≤ k ∧ k < w2.heap.size) b p A8 D2 A2 c2 L w') := ⟨fun wx h => (refend_calls A8 (c2 - p) D2 wx h.2.1 HDl2.out).mono (fun e w' q => ⟨by rw [q.1, hen], q.2 ▸ h⟩)⟩
              have HLf : Aside0 (∀ wx : World, Cur w Z g (fun k => w1.heap.size ≤ k ∧ k < w2.heap.size) b p A8 D2 A2 c2 L wx → Calls Try.prog 22 #[.pointer (some ⟨g, 0, none⟩)] wx fun e w' => e = .returned (.int .i64 ((L.length : Int) - (p : Int))) ∧ Cur w Z g (fun k => w1.heap.size ≤ k ∧ k < w2.heap.size) b p A8 D2 A2 c2 L w') := ⟨fun wx h => (left_calls g _ b p wx h.1).mono (fun e w' q => ⟨by rw [q.1, show (8 * (b.length : Int) - (p : Int)) = (L.length : Int) - (p : Int) by have := HLL.out; omega], h.drawn q.2⟩)⟩
              have u1 : ((p : Int) != (p : Int)) = false := by simp
              have u4 : IntKind.i64.wrap ((L.length : Int) - (p : Int)) = (L.length : Int) - (p : Int) := by rw [IntKind.wrap_i64]; omega
              have u2 : (((L.length : Int) - (p : Int)) != ((L.length : Int) - (p : Int))) = false := by simp
              have u3 : (en != en) = false := by simp
              clear hi023 hsz23 hA8 hC8 hD2 hen HI7 HO7 HB7 HA8
              go_wp2_with fail
              go_region_held3 (fun _ => True) (trivial)
                (first
                 | (go_at_call 21; refine (HAt.out _ (by first | exact CUR.out | exact CUR.out.below (below_drew1 (Below.refl _ _)))).mono ?_; rintro e w8 ⟨rfl, hc⟩; replace CUR := Aside0.mk hc; clear hc)
                 | (go_at_call 22; refine (HLf.out _ (by first | exact CUR.out | exact CUR.out.below (below_drew1 (Below.refl _ _)))).mono ?_; rintro e w8 ⟨rfl, hc⟩; replace CUR := Aside0.mk hc; clear hc)
                 | (go_at_call 23; refine (HEn.out _ (by first | exact CUR.out | exact CUR.out.below (below_drew1 (Below.refl _ _)))).mono ?_; rintro e w8 ⟨rfl, hc⟩; replace CUR := Aside0.mk hc; clear hc)
                 | (go_at_call 30; refine (HRE.out _ (by first | exact CUR.out | exact CUR.out.below (below_drew1 (Below.refl _ _)))).mono ?_; rintro e w8 ⟨rfl, hc⟩; replace CUR := Aside0.mk hc; clear hc))
              all_goals (go_wp2_with fail; go_roundw)
              all_goals first
                | (case rel => exact ⟨k + 1, p, by omega, by omega, by first | (simp; done) | (congr 1; omega), by first | (simp; done) | (congr 1; omega), ⟨by first | exact CUR.out.1 | exact (CUR.out.below (below_drew1 (Below.refl _ _))).1⟩, ⟨by first | exact CUR.out.2.2.1 | exact (CUR.out.below (below_drew1 (Below.refl _ _))).2.2.1⟩, ⟨by first | exact CUR.out.2.2.2 | exact (CUR.out.below (below_drew1 (Below.refl _ _))).2.2.2⟩⟩)
                | (simp [intOf]; omega)


          | false =>
            have HRd : Aside0 (∀ wx : World, IsR wx g (fun k => w1.heap.size ≤ k ∧ k < w2.heap.size) b p → Calls Try.prog 18 #[.pointer (some ⟨g, 0, none⟩), .int .i64 m1] wx fun e w' => e = .returned (.tuple #[.int .i64 (takeL D m1).1, .int .i64 (takeL D m1).2]) ∧ IsR w' g (fun k => w1.heap.size ≤ k ∧ k < w2.heap.size) b (p + (if (takeL D m1).2 = 0 then m1 else 0)) ∧ Kp wx w' (fun k => w1.heap.size ≤ k ∧ k < w2.heap.size)) := ⟨fun wx h => by have q := rtake_any g _ b p m1 wx h; unfold ReadPost at q; rw [HDb.out] at q; exact q⟩
            have HRf : Aside0 (∀ wx : World, Kd.C (Kd.int .i64) wx A9 D.length D → Calls Try.prog 29 #[.slice A9 D.length (c2 - p), .int .i64 m1] wx fun e w' => e = .returned (.tuple #[.int .i64 (takeL D m1).1, .int .i64 (takeL D m1).2]) ∧ w' = wx) := ⟨fun wx h => reftake_calls A9 (c2 - p) D m1 wx h HD01.out (by rw [HDl.out]; omega)⟩
            have HBd : Aside0 (0 ≤ (if (takeL D m1).2 = 0 then m1 else 0) ∧ (if (takeL D m1).2 = 0 then m1 else 0) ≤ (L.length : Int) - p ∧ ((takeL D m1).2 ≠ 0 → (if (takeL D m1).2 = 0 then m1 else 0) = 0)) := ⟨if h : (takeL D m1).2 = 0 then (by rw [if_pos h]; have := takeL_w D m1 h; have hdl := HDl.out; exact ⟨by omega, by omega, fun h2 => absurd h h2⟩) else (by rw [if_neg h]; exact ⟨by omega, by omega, fun _ => rfl⟩)⟩
            generalize takeL D m1 = ts at HRd HRf HBd
            obtain ⟨v, f⟩ := ts
            simp only at HRd HRf HBd
            obtain ⟨adv, hadv⟩ : ∃ adv, adv = if f = 0 then m1 else 0 := ⟨_, rfl⟩
            rw [← hadv] at HRd HBd
            have HAdv : Aside0 (f = 0 → adv = m1) := ⟨fun h => by rw [hadv, if_pos h]⟩
            clear hadv
            go_wp2_with fail
            go_region_held3 (fun w' => w'.cell? ⟨(ad.add (k * 3)).block, (ad.add (k * 3)).off + 2, none⟩ = some (.int .i64 m1))
              (first | go_keep | exact hx2)
              (first | (go_at_call 29; refine (HRf.out _ (by first | exact HCD.out | exact Kd.C_below HCD.out (below_drew1 (Below.refl _ _)))).mono ?_; rintro e w6 ⟨rfl, hw6⟩; have HDr : Aside0 (Below wr.heap.size wr w6 ∧ Kp wr w6 (fun _ => False)) := ⟨by rw [hw6]; exact ⟨by first | exact below_drew1 (Below.refl _ _) | exact Below.refl _ _, by first | exact (Kp.refl wr _).drew | exact Kp.refl wr _⟩⟩; have hy2 := cell_later HDr.out.1 hx2; have hy0 := cell_later HDr.out.1 hx0; clear hw6))

            have HI6 : Aside0 (IsR w6 g (fun k => w1.heap.size ≤ k ∧ k < w2.heap.size) b p) := ⟨HI.out.kept HDr.out.2.1 (fun _ _ h => h)⟩
            have HO6 : Aside0 (Kd.R (Kd.int .i64) 3 w6 Z (fun j => ¬ (w1.heap.size ≤ j ∧ j < w2.heap.size)) (.slice A2 L.length c2) L) := ⟨Kd.R_kept HO.out HDr.out.2.1 (fun _ _ h => h)⟩
            have HB6 : Aside0 (Below w.heap.size w w6) := ⟨below_step HB.out HDr.out.1⟩
            clear HI HO HB HDr hx0 hx2 HCD
            go_wp2_with fail
            refine (HRd.out _ HI6.out).mono ?_
            rintro e w7 ⟨rfl, hR, hK⟩
            have HI7 : Aside0 (IsR w7 g (fun k => w1.heap.size ≤ k ∧ k < w2.heap.size) b (p + adv)) := ⟨hR⟩
            have HO7 : Aside0 (Kd.R (Kd.int .i64) 3 w7 Z (fun j => ¬ (w1.heap.size ≤ j ∧ j < w2.heap.size)) (.slice A2 L.length c2) L) := ⟨Kd.R_kept HO6.out hK.1 (fun j hj h => hj h)⟩
            have HB7 : Aside0 (Below w.heap.size w w7) := ⟨below_kp HB6.out hK (fun j hj => Nat.le_trans HS01.out hj.1) (Nat.le_refl _)⟩
            have t3 : (f != f) = false := by simp
            have t4 : (v != v) = false := by simp
            clear hR hK HI6 HO6 HB6 hy0 hy2 HRd HRf hcut
            by_cases cf : f = 0
            · subst cf
              obtain rfl : adv = m1 := HAdv.out rfl
              have hbd := HBd.out
              obtain ⟨m, rfl⟩ := Int.eq_ofNat_of_zero_le hbd.1
              obtain ⟨P, hP⟩ : ∃ P : Nat, p + m = P := ⟨_, rfl⟩
              have hPi : (p : Int) + (m : Int) = (P : Int) := by omega
              have hPL : P ≤ L.length := by omega
              replace HI7 : Aside0 (IsR w7 g (fun k => w1.heap.size ≤ k ∧ k < w2.heap.size) b P) := ⟨by rw [← hPi]; exact HI7.out⟩
              clear hbd HBd hP
              obtain ⟨i023, hi023, _, hsz23, _⟩ := info_parts infoI
              obtain ⟨A8, hcut2, hA8, hC8⟩ := print_drop_of (P := Try.prog) (Value.int .i64) 0 26 3 .i64 Try.underlying26 hi023 hsz23 A2 c2 L (P : Int) (by omega) (by omega) HC2.out
              obtain ⟨D2, hD2⟩ : ∃ D2, L.drop P = D2 := ⟨_, rfl⟩
              simp only [Int.toNat_natCast] at hcut2 hA8 hC8
              rw [hD2] at hcut2 hA8 hC8
              have HA8 : Aside0 (Kd.C (Kd.int .i64) w7 A8 D2.length D2) := ⟨Kd.C_of_reads (h1 := fun _ => rfl) (hA8 _ (Kd.reads_of_C (Kd.R_reads' HO7.out).2.2))⟩
              have HDl2 : Aside0 (D2.length < 140737488355328) := ⟨by rw [← hD2, List.length_drop]; omega⟩
              obtain ⟨en, hen⟩ : ∃ en, endL D2 = en := ⟨_, rfl⟩
              have CUR : Aside0 (Cur w Z g (fun k => w1.heap.size ≤ k ∧ k < w2.heap.size) b P A8 D2 A2 c2 L w7) := ⟨HI7.out, HA8.out, HO7.out, HB7.out⟩
              have HAt : Aside0 (∀ wx : World, Cur w Z g (fun k => w1.heap.size ≤ k ∧ k < w2.heap.size) b P A8 D2 A2 c2 L wx → Calls Try.prog 21 #[.pointer (some ⟨g, 0, none⟩)] wx fun e w' => e = .returned (.int .i64 (P : Int)) ∧ Cur w Z g (fun k => w1.heap.size ≤ k ∧ k < w2.heap.size) b P A8 D2 A2 c2 L w') := ⟨fun wx h => (at_calls g _ b P wx h.1).mono (fun e w' q => ⟨q.1, q.2 ▸ h⟩)⟩
              have HEn : Aside0 (∀ wx : World, Cur w Z g (fun k => w1.heap.size ≤ k ∧ k < w2.heap.size) b P A8 D2 A2 c2 L wx → Calls Try.prog 23 #[.pointer (some ⟨g, 0, none⟩)] wx fun e w' => e = .returned (.int .i64 en) ∧ Cur w Z g (fun k => w1.heap.size ≤ k ∧ k < w2.heap.size) b P A8 D2 A2 c2 L w') := ⟨fun wx h => (end_calls g _ b P wx h.1).mono (fun e w' q => ⟨by rw [q.1, Int.toNat_natCast, HL.out, hD2, hen], h.drawn q.2⟩)⟩
              have HRE : Aside0 (∀ wx : World, Cur w Z g (fun k => w1.heap.size ≤ k ∧ k < w2.heap.size) b P A8 D2 A2 c2 L wx → Calls Try.prog 30 #[.slice A8 D2.length (c2 - P)] wx fun e w' => e = .returned (.int .i64 en) ∧ Cur w Z g (fun k => w1.heap.size ≤ k ∧ k < w2.heap.size) b P A8 D2 A2 c2 L w') := ⟨fun wx h => (refend_calls A8 (c2 - P) D2 wx h.2.1 HDl2.out).mono (fun e w' q => ⟨by rw [q.1, hen], q.2 ▸ h⟩)⟩
              have HLf : Aside0 (∀ wx : World, Cur w Z g (fun k => w1.heap.size ≤ k ∧ k < w2.heap.size) b P A8 D2 A2 c2 L wx → Calls Try.prog 22 #[.pointer (some ⟨g, 0, none⟩)] wx fun e w' => e = .returned (.int .i64 ((L.length : Int) - (P : Int))) ∧ Cur w Z g (fun k => w1.heap.size ≤ k ∧ k < w2.heap.size) b P A8 D2 A2 c2 L w') := ⟨fun wx h => (left_calls g _ b P wx h.1).mono (fun e w' q => ⟨by rw [q.1, show (8 * (b.length : Int) - (P : Int)) = (L.length : Int) - (P : Int) by have := HLL.out; omega], h.drawn q.2⟩)⟩
              have u1 : ((P : Int) != (P : Int)) = false := by simp
              have u4 : IntKind.i64.wrap ((L.length : Int) - (P : Int)) = (L.length : Int) - (P : Int) := by rw [IntKind.wrap_i64]; omega
              have u2 : (((L.length : Int) - (P : Int)) != ((L.length : Int) - (P : Int))) = false := by simp
              have u3 : (en != en) = false := by simp
              clear hi023 hsz23 hA8 hC8 hD2 hen HI7 HO7 HB7 HA8
              go_wp2_with fail
              go_region_held3 (fun _ => True) (trivial)
                (first
                 | (go_at_call 21; refine (HAt.out _ (by first | exact CUR.out | exact CUR.out.below (below_drew1 (Below.refl _ _)))).mono ?_; rintro e w8 ⟨rfl, hc⟩; replace CUR := Aside0.mk hc; clear hc)
                 | (go_at_call 22; refine (HLf.out _ (by first | exact CUR.out | exact CUR.out.below (below_drew1 (Below.refl _ _)))).mono ?_; rintro e w8 ⟨rfl, hc⟩; replace CUR := Aside0.mk hc; clear hc)
                 | (go_at_call 23; refine (HEn.out _ (by first | exact CUR.out | exact CUR.out.below (below_drew1 (Below.refl _ _)))).mono ?_; rintro e w8 ⟨rfl, hc⟩; replace CUR := Aside0.mk hc; clear hc)
                 | (go_at_call 30; refine (HRE.out _ (by first | exact CUR.out | exact CUR.out.below (below_drew1 (Below.refl _ _)))).mono ?_; rintro e w8 ⟨rfl, hc⟩; replace CUR := Aside0.mk hc; clear hc))
              all_goals (go_wp2_with fail; go_roundw)
              all_goals first
                | (case rel => exact ⟨k + 1, P, by omega, by omega, by first | (simp; done) | (congr 1; omega), by first | (simp; done) | (congr 1; omega), ⟨by first | exact CUR.out.1 | exact (CUR.out.below (below_drew1 (Below.refl _ _))).1⟩, ⟨by first | exact CUR.out.2.2.1 | exact (CUR.out.below (below_drew1 (Below.refl _ _))).2.2.1⟩, ⟨by first | exact CUR.out.2.2.2 | exact (CUR.out.below (below_drew1 (Below.refl _ _))).2.2.2⟩⟩)
                | (simp [intOf]; omega)

            · have t5 : (f == 0) = false := beq_eq_false_iff_ne.mpr cf
              replace HI7 : Aside0 (IsR w7 g (fun k => w1.heap.size ≤ k ∧ k < w2.heap.size) b p) := ⟨by have h := HI7.out; rw [HBd.out.2.2 cf, Int.add_zero] at h; exact h⟩
              clear HBd cf
              obtain ⟨i023, hi023, _, hsz23, _⟩ := info_parts infoI
              obtain ⟨A8, hcut2, hA8, hC8⟩ := print_drop_of (P := Try.prog) (Value.int .i64) 0 26 3 .i64 Try.underlying26 hi023 hsz23 A2 c2 L (p : Int) (by omega) (by omega) HC2.out
              obtain ⟨D2, hD2⟩ : ∃ D2, L.drop p = D2 := ⟨_, rfl⟩
              simp only [Int.toNat_natCast] at hcut2 hA8 hC8
              rw [hD2] at hcut2 hA8 hC8
              have HA8 : Aside0 (Kd.C (Kd.int .i64) w7 A8 D2.length D2) := ⟨Kd.C_of_reads (h1 := fun _ => rfl) (hA8 _ (Kd.reads_of_C (Kd.R_reads' HO7.out).2.2))⟩
              have HDl2 : Aside0 (D2.length < 140737488355328) := ⟨by rw [← hD2, List.length_drop]; omega⟩
              obtain ⟨en, hen⟩ : ∃ en, endL D2 = en := ⟨_, rfl⟩
              have CUR : Aside0 (Cur w Z g (fun k => w1.heap.size ≤ k ∧ k < w2.heap.size) b p A8 D2 A2 c2 L w7) := ⟨HI7.out, HA8.out, HO7.out, HB7.out⟩
              have HAt : Aside0 (∀ wx : World, Cur w Z g (fun k => w1.heap.size ≤ k ∧ k < w2.heap.size) b p A8 D2 A2 c2 L wx → Calls Try.prog 21 #[.pointer (some ⟨g, 0, none⟩)] wx fun e w' => e = .returned (.int .i64 (p : Int)) ∧ Cur w Z g (fun k => w1.heap.size ≤ k ∧ k < w2.heap.size) b p A8 D2 A2 c2 L w') := ⟨fun wx h => (at_calls g _ b p wx h.1).mono (fun e w' q => ⟨q.1, q.2 ▸ h⟩)⟩
              have HEn : Aside0 (∀ wx : World, Cur w Z g (fun k => w1.heap.size ≤ k ∧ k < w2.heap.size) b p A8 D2 A2 c2 L wx → Calls Try.prog 23 #[.pointer (some ⟨g, 0, none⟩)] wx fun e w' => e = .returned (.int .i64 en) ∧ Cur w Z g (fun k => w1.heap.size ≤ k ∧ k < w2.heap.size) b p A8 D2 A2 c2 L w') := ⟨fun wx h => (end_calls g _ b p wx h.1).mono (fun e w' q => ⟨by rw [q.1, Int.toNat_natCast, HL.out, hD2, hen], h.drawn q.2⟩)⟩
              have HRE : Aside0 (∀ wx : World, Cur w Z g (fun k => w1.heap.size ≤ k ∧ k < w2.heap.size) b p A8 D2 A2 c2 L wx → Calls Try.prog 30 #[.slice A8 D2.length (c2 - p)] wx fun e w' => e = .returned (.int .i64 en) ∧ Cur w Z g (fun k => w1.heap.size ≤ k ∧ k < w2.heap.size) b p A8 D2 A2 c2 L w') := ⟨fun wx h => (refend_calls A8 (c2 - p) D2 wx h.2.1 HDl2.out).mono (fun e w' q => ⟨by rw [q.1, hen], q.2 ▸ h⟩)⟩
              have HLf : Aside0 (∀ wx : World, Cur w Z g (fun k => w1.heap.size ≤ k ∧ k < w2.heap.size) b p A8 D2 A2 c2 L wx → Calls Try.prog 22 #[.pointer (some ⟨g, 0, none⟩)] wx fun e w' => e = .returned (.int .i64 ((L.length : Int) - (p : Int))) ∧ Cur w Z g (fun k => w1.heap.size ≤ k ∧ k < w2.heap.size) b p A8 D2 A2 c2 L w') := ⟨fun wx h => (left_calls g _ b p wx h.1).mono (fun e w' q => ⟨by rw [q.1, show (8 * (b.length : Int) - (p : Int)) = (L.length : Int) - (p : Int) by have := HLL.out; omega], h.drawn q.2⟩)⟩
              have u1 : ((p : Int) != (p : Int)) = false := by simp
              have u4 : IntKind.i64.wrap ((L.length : Int) - (p : Int)) = (L.length : Int) - (p : Int) := by rw [IntKind.wrap_i64]; omega
              have u2 : (((L.length : Int) - (p : Int)) != ((L.length : Int) - (p : Int))) = false := by simp
              have u3 : (en != en) = false := by simp
              clear hi023 hsz23 hA8 hC8 hD2 hen HI7 HO7 HB7 HA8
              go_wp2_with fail
              go_region_held3 (fun _ => True) (trivial)
                (first
                 | (go_at_call 21; refine (HAt.out _ (by first | exact CUR.out | exact CUR.out.below (below_drew1 (Below.refl _ _)))).mono ?_; rintro e w8 ⟨rfl, hc⟩; replace CUR := Aside0.mk hc; clear hc)
                 | (go_at_call 22; refine (HLf.out _ (by first | exact CUR.out | exact CUR.out.below (below_drew1 (Below.refl _ _)))).mono ?_; rintro e w8 ⟨rfl, hc⟩; replace CUR := Aside0.mk hc; clear hc)
                 | (go_at_call 23; refine (HEn.out _ (by first | exact CUR.out | exact CUR.out.below (below_drew1 (Below.refl _ _)))).mono ?_; rintro e w8 ⟨rfl, hc⟩; replace CUR := Aside0.mk hc; clear hc)
                 | (go_at_call 30; refine (HRE.out _ (by first | exact CUR.out | exact CUR.out.below (below_drew1 (Below.refl _ _)))).mono ?_; rintro e w8 ⟨rfl, hc⟩; replace CUR := Aside0.mk hc; clear hc))
              all_goals (go_wp2_with fail; go_roundw)
              all_goals first
                | (case rel => exact ⟨k + 1, p, by omega, by omega, by first | (simp; done) | (congr 1; omega), by first | (simp; done) | (congr 1; omega), ⟨by first | exact CUR.out.1 | exact (CUR.out.below (below_drew1 (Below.refl _ _))).1⟩, ⟨by first | exact CUR.out.2.2.1 | exact (CUR.out.below (below_drew1 (Below.refl _ _))).2.2.1⟩, ⟨by first | exact CUR.out.2.2.2 | exact (CUR.out.below (below_drew1 (Below.refl _ _))).2.2.2⟩⟩)
                | (simp [intOf]; omega)



        · clear hk
          obtain ⟨i023, hi023, _, hsz23, _⟩ := info_parts infoI
          obtain ⟨A8, hcut2, hA8, hC8⟩ := print_drop_of (P := Try.prog) (Value.int .i64) 0 26 3 .i64 Try.underlying26 hi023 hsz23 A2 c2 L (p : Int) (by omega) (by omega) HC2.out
          obtain ⟨D2, hD2⟩ : ∃ D2, L.drop p = D2 := ⟨_, rfl⟩
          simp only [Int.toNat_natCast] at hcut2 hA8 hC8
          rw [hD2] at hcut2 hA8 hC8
          have HA8 : Aside0 (Kd.C (Kd.int .i64) wr A8 D2.length D2) := ⟨Kd.C_of_reads (h1 := fun _ => rfl) (hA8 _ (Kd.reads_of_C (Kd.R_reads' HO.out).2.2))⟩
          have HDl2 : Aside0 (D2.length < 140737488355328) := ⟨by rw [← hD2, List.length_drop]; omega⟩
          obtain ⟨en, hen⟩ : ∃ en, endL D2 = en := ⟨_, rfl⟩
          have CUR : Aside0 (Cur w Z g (fun k => w1.heap.size ≤ k ∧ k < w2.heap.size) b p A8 D2 A2 c2 L wr) := ⟨HI.out, HA8.out, HO.out, HB.out⟩
          have HEn : Aside0 (∀ wx : World, Cur w Z g (fun k => w1.heap.size ≤ k ∧ k < w2.heap.size) b p A8 D2 A2 c2 L wx → Calls Try.prog 23 #[.pointer (some ⟨g, 0, none⟩)] wx fun e w' => e = .returned (.int .i64 en) ∧ Cur w Z g (fun k => w1.heap.size ≤ k ∧ k < w2.heap.size) b p A8 D2 A2 c2 L w') := ⟨fun wx h => (end_calls g _ b p wx h.1).mono (fun e w' q => ⟨by rw [q.1, Int.toNat_natCast, HL.out, hD2, hen], h.drawn q.2⟩)⟩
          have HRE : Aside0 (∀ wx : World, Cur w Z g (fun k => w1.heap.size ≤ k ∧ k < w2.heap.size) b p A8 D2 A2 c2 L wx → Calls Try.prog 30 #[.slice A8 D2.length (c2 - p)] wx fun e w' => e = .returned (.int .i64 en) ∧ Cur w Z g (fun k => w1.heap.size ≤ k ∧ k < w2.heap.size) b p A8 D2 A2 c2 L w') := ⟨fun wx h => (refend_calls A8 (c2 - p) D2 wx h.2.1 HDl2.out).mono (fun e w' q => ⟨by rw [q.1, hen], q.2 ▸ h⟩)⟩
          have u3 : (en == en) = true := by simp
          have t1 : decide ((k : Int) < (l.length : Int)) = false := decide_eq_false (by omega)
          have t2 : decide (k < l.length) = false := decide_eq_false hlt
          clear hi023 hsz23 hA8 hC8 hD2 hen HI HO HB HA8
          go_wp2_with fail
          go_region_held3 (fun _ => True) (trivial)
            (first
             | (go_at_call 23; refine (HEn.out _ (by first | exact CUR.out | exact CUR.out.below (below_drew1 (Below.refl _ _)))).mono ?_; rintro e w8 ⟨rfl, hc⟩; replace CUR := Aside0.mk hc; clear hc)
             | (go_at_call 30; refine (HRE.out _ (by first | exact CUR.out | exact CUR.out.below (below_drew1 (Below.refl _ _)))).mono ?_; rintro e w8 ⟨rfl, hc⟩; replace CUR := Aside0.mk hc; clear hc))
          all_goals (go_wp2_with fail; go_ret; exact ⟨rfl, by first | exact CUR.out.2.2.2 | exact (CUR.out.below (below_drew1 (Below.refl _ _))).2.2.2⟩)
end Go.Proofs.Ythplmngignmieaa.Bits
