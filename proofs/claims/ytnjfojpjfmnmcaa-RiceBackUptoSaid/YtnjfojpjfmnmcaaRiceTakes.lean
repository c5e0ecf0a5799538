/- RiceTakes: the walk. -/
import Derived.Test.YtnjfojpjfmnmcaaRiceTake
import Derived.Test.YtnjfojpjfmnmcaaRicePuts
import Derived.Test.YtnjfojpjfmnmcaaBitsRead3
import Derived.Deep.RegionHeld3
import Derived.WalkSpells
namespace Go.Proofs.Ytnjfojpjfmnmcaa.Rice
open Go.RowKit Go.Proofs.Ytnjfojpjfmnmcaa.Bits Go.Proofs.YtnjfojpjfmnmcaaW.PrintLast Go.Proofs.YtnjfojpjfmnmcaaW.PrintWords Go.Proofs.YtnjfojpjfmnmcaaW.PrintMore Go.Proofs.Ytnjfojpjfmnmcaa.BP
set_option linter.unusedVariables false
set_option linter.unusedSimpArgs false


theorem takeS_bd {l : List Int} (h01 : B01 l) {n s d : Int} (h : (takeS l n s d).2.2 = 0) : 0 ≤ (takeS l n s d).2.1 ∧ (takeS l n s d).2.1 ≤ l.length := by
  by_cases hf : FitsP n s d 0
  · have hO := onesL_20 l
    have hd0 := hf.2.1
    obtain ⟨o, ho⟩ : ∃ o, onesL l 20 = o := ⟨_, rfl⟩
    rw [ho] at hO
    obtain ⟨q, e, c⟩ := o
    simp only at hO
    rcases hO with ⟨rfl, rfl, rfl, hlen⟩ | ⟨rfl, hq0, hq1, rfl, hlen⟩ | rfl
    · have hb := takeL_bd (w := d) (h01.drop 20)
      obtain ⟨x, hx⟩ : ∃ x, takeL (l.drop 20) d = x := ⟨_, rfl⟩
      rw [hx] at hb
      obtain ⟨x, e2⟩ := x
      rw [takeS_20 (x := x) (e := e2) hf ho hx] at h ⊢
      by_cases c1 : e2 = 0
      · subst c1
        have hb := hb rfl
        rw [List.length_drop] at hb
        rw [if_neg (by simp)] at h ⊢
        split
        · simp
        · simp only; omega
      · rw [if_pos c1] at h; exact absurd h c1
    · have hb := takeL_bd (w := (paramK n s d.toNat : Int)) (h01.drop (q + 1).toNat)
      obtain ⟨x, hx⟩ : ∃ x, takeL (l.drop (q + 1).toNat) (paramK n s d.toNat : Int) = x := ⟨_, rfl⟩
      rw [hx] at hb
      obtain ⟨x, e2⟩ := x
      rw [takeS_lt (x := x) (e := e2) hf ho hq1 hx] at h ⊢
      by_cases c1 : e2 = 0
      · subst c1
        have hb := hb rfl
        rw [List.length_drop] at hb
        rw [if_neg (by simp)] at h ⊢
        split
        · simp
        · simp only; omega
      · rw [if_pos c1] at h; exact absurd h c1
    · rw [takeS_ones hf ho (by decide)] at h; simp at h
  · rw [takeS_bad hf] at h; simp at h

set_option maxRecDepth 100000 in
set_option maxHeartbeats 1600000 in
theorem takes_one (A0 : Option Addr) (c0 : Nat) (b : List Int) (A : Option Addr) (c : Nat) (l : List RStep) (w : World) (hb : Kd.C (Kd.int .u8) w A0 b.length b) (h8 : B8 b) (hbl : b.length ≤ 1048576) (hC : rstepK.C w A l.length l) (hl : l.length ≤ 1048576) :
    Calls Try.prog 5 #[.slice A0 b.length c0, .slice A l.length c] w fun e w' => e = .returned (.bool true) ∧ Below w.heap.size w w' := by
  have HC := Aside0.mk hC
  have HCB := Aside0.mk hb
  have H8 := Aside0.mk h8
  have hu := Try.underlying30
  clear hC hb h8
  go_enter Try.func5, Try.ntmps5
  go_wp2_with fail
  refine (open_calls A0 c0 b w HCB.out H8.out (by omega)).mono ?_
  rintro e w1 ⟨g, rfl, hR, hB⟩
  have HI1 := Aside0.mk hR
  have HB1 := Aside0.mk hB
  clear hR hB
  go_wp2_with fail
  refine (awake_calls _).mono ?_
  rintro e w2 ⟨rfl, hB⟩
  have HI2 : Aside0 (IsR w2 g (fun k => w.heap.size ≤ k ∧ k < w1.heap.size) b 0) := ⟨HI1.out.bound.below hB⟩
  have HB2 : Aside0 (Below w.heap.size w w2) := ⟨below_step HB1.out hB⟩
  have HS12 : Aside0 (w1.heap.size ≤ w2.heap.size) := ⟨hB.size⟩
  clear hB HI1 HB1
  go_wp2_with fail
  refine (refbits_calls A0 c0 b w2 (Kd.C_below HCB.out HB2.out) H8.out (by omega)).mono ?_
  rintro e w3 ⟨v, rfl, hR, hB⟩
  obtain ⟨L, hL⟩ : ∃ L, bitsOf b = L := ⟨_, rfl⟩
  have hLl : L.length = 8 * b.length := by rw [← hL, bitsOf_len]
  have HL := Aside0.mk hL
  rw [hL] at hR
  obtain ⟨A1, c1, rfl⟩ := Kd.R_slice hR
  have HC1 : Aside0 (L.length ≤ c1) := ⟨(Kd.R_reads' hR).2.1⟩
  have HO3 : Aside0 (Kd.R (Kd.int .i64) 3 w3 w2.heap.size (fun j => ¬ (w.heap.size ≤ j ∧ j < w1.heap.size)) (.slice A1 L.length c1) L) := ⟨Kd.R_mono (Kd.R_bound hR) (fun j hj h => by have := hj.2.1; have := HS12.out; omega)⟩
  have HI3 : Aside0 (IsR w3 g (fun k => w.heap.size ≤ k ∧ k < w1.heap.size) b 0) := ⟨HI2.out.below hB⟩
  have HB3 : Aside0 (Below w.heap.size w w3) := ⟨below_step HB2.out hB⟩
  have H01 : Aside0 (B01 L) := ⟨by rw [← hL]; exact bitsOf_01 b⟩
  have hLb : L.length ≤ 8388608 := by omega
  clear hR hB hL hLl HI2 HB2
  go_wp2_with fail
  go_loopw [7, 8] (fun v7 v8 wr => ∃ k p : Nat, k ≤ l.length ∧ p ≤ L.length ∧ v7 = .int .i64 p ∧ v8 = .int .i64 k ∧ Aside0 (IsR wr g (fun k => w.heap.size ≤ k ∧ k < w1.heap.size) b p) ∧ Aside0 (Kd.R (Kd.int .i64) 3 wr w2.heap.size (fun j => ¬ (w.heap.size ≤ j ∧ j < w1.heap.size)) (.slice A1 L.length c1) L) ∧ Aside0 (Below w.heap.size w wr))
    (fun _ v8 _ => ((l.length : Int) - intOf v8).toNat)
  case atStart => exact ⟨0, 0, by omega, by omega, rfl, rfl, HI3, HO3, HB3⟩
  case round =>
    clear HI3 HO3 HB3
    obtain ⟨k, p, hk, hp, rfl, rfl, HI, HO, HB⟩ := hrel
    by_cases hlt : k < l.length
    · have t1 : decide ((k : Int) < (l.length : Int)) = true := decide_eq_true (by omega)
      have t2 : decide (k < l.length) = true := decide_eq_true hlt
      obtain ⟨ad, e1, hx0, hx1, hx2, hx3⟩ := rstep_cells (Kd.C_below HC.out HB.out) k hlt
      cases e1
      generalize hs : l.getD k rstep0 = s at hx0 hx1 hx2 hx3
      have HSE := Aside0.mk hs
      obtain ⟨n1, s1, d1, u1⟩ := s
      simp only at hx0 hx1 hx2 hx3
      clear hs hx3
      obtain ⟨i022, hi022, _, hsz22, _⟩ := info_parts infoI
      obtain ⟨A9, hcut, hA9, hC9⟩ := print_drop_of (P := Try.prog) (Value.int .i64) 0 26 3 .i64 Try.underlying26 hi022 hsz22 A1 c1 L (p : Int) (by omega) (by omega) HC1.out
      obtain ⟨D, hD⟩ : ∃ D, L.drop p = D := ⟨_, rfl⟩
      simp only [Int.toNat_natCast] at hcut hA9 hC9
      rw [hD] at hcut hA9 hC9
      have HD := Aside0.mk hD
      have HC9 := Aside0.mk hC9
      have HA9 : Aside0 (∀ w', Kd.C (Kd.int .i64) w' A1 L.length L → Kd.C (Kd.int .i64) w' A9 D.length D) := ⟨fun w' h => Kd.C_of_reads (h1 := fun _ => rfl) (hA9 _ (Kd.reads_of_C h))⟩
      have HD01 : Aside0 (B01 D) := ⟨by rw [← hD]; exact H01.out.drop _⟩
      have HDl : Aside0 (D.length = L.length - p) := ⟨by rw [← hD, List.length_drop]⟩
      have HDb : Aside0 ((bitsOf b).drop ((p : Int)).toNat = D) := ⟨by rw [Int.toNat_natCast, HL.out, hD]⟩
      clear hi022 hsz22 hA9 hC9 hD
      have HRead : Aside0 (∀ w : World, Kd.C (Kd.int .i64) w A9 D.length D → Calls Try.prog 27 #[.slice A9 D.length (c1 - p), .agg #[.int .i64 n1, .int .i64 s1], .int .i64 d1] w fun e w' => e = .returned (.tuple #[.int .i64 (takeS D n1 s1 d1).1, .int .i64 (takeS D n1 s1 d1).2.1, .int .i64 (takeS D n1 s1 d1).2.2]) ∧ Below w.heap.size w w') := ⟨fun w h => read_calls A9 (c1 - p) D n1 s1 d1 w h HC9.out HD01.out (by rw [HDl.out]; omega)⟩
      have HTake : Aside0 (∀ wx : World, IsR wx g (fun k => w.heap.size ≤ k ∧ k < w1.heap.size) b p → Calls Try.prog 28 #[.pointer (some ⟨g, 0, none⟩), .agg #[.int .i64 n1, .int .i64 s1], .int .i64 d1] wx fun e w' => ∃ p', e = .returned (.tuple #[.int .i64 (takeS D n1 s1 d1).1, .int .i64 (takeS D n1 s1 d1).2.2]) ∧ IsR w' g (fun k => w.heap.size ≤ k ∧ k < w1.heap.size) b p' ∧ Kp wx w' (fun k => w.heap.size ≤ k ∧ k < w1.heap.size) ∧ ((takeS D n1 s1 d1).2.2 = 0 → p' = p + (takeS D n1 s1 d1).2.1)) := ⟨fun wx h => by have q := rtake_calls g _ b p n1 s1 d1 wx h; unfold TakePost at q; rw [HDb.out] at q; exact q⟩
      have HBd : Aside0 ((takeS D n1 s1 d1).2.2 = 0 → 0 ≤ (takeS D n1 s1 d1).2.1 ∧ (takeS D n1 s1 d1).2.1 ≤ (L.length : Int) - p) := ⟨fun h => by have := takeS_bd HD01.out h; have := HDl.out; omega⟩
      generalize takeS D n1 s1 d1 = ts at HRead HTake HBd
      obtain ⟨u, cnt, f⟩ := ts
      simp only at HRead HTake HBd
      have HCD : Aside0 (Kd.C (Kd.int .i64) wr A9 D.length D) := ⟨HA9.out _ (Kd.R_reads' HO.out).2.2⟩
      go_wp2_with fail
      go_region_held3 (fun w' => w'.cell? (ad.add (k * 4)) = some (.int .i64 n1) ∧ w'.cell? ⟨(ad.add (k * 4)).block, (ad.add (k * 4)).off + 1, none⟩ = some (.int .i64 s1) ∧ w'.cell? ⟨(ad.add (k * 4)).block, (ad.add (k * 4)).off + 2, none⟩ = some (.int .i64 d1))
        (first | go_keep | exact ⟨hx0, hx1, hx2⟩ | exact ⟨hy0, hy1, hy2⟩)
        (first | (go_at_call 27; refine (HRead.out _ (by first | exact HCD.out | exact Kd.C_below HCD.out (below_drew1 (Below.refl _ _)))).mono ?_; rintro e w4 ⟨rfl, hB⟩; have HBc : Aside0 (Below wr.heap.size wr w4) := ⟨by first | exact hB | exact below0 hB⟩; have hy0 := cell_later HBc.out hx0; have hy1 := cell_later HBc.out hx1; have hy2 := cell_later HBc.out hx2; clear hB))
      have HI4 : Aside0 (IsR w4 g (fun k => w.heap.size ≤ k ∧ k < w1.heap.size) b p) := ⟨HI.out.below HBc.out⟩
      have HO4 : Aside0 (Kd.R (Kd.int .i64) 3 w4 w2.heap.size (fun j => ¬ (w.heap.size ≤ j ∧ j < w1.heap.size)) (.slice A1 L.length c1) L) := ⟨Kd.R_below HO.out HBc.out⟩
      have HB4 : Aside0 (Below w.heap.size w w4) := ⟨below_step HB.out HBc.out⟩
      clear HI HO HB HBc hx0 hx1 hx2 HCD
      go_wp2_with fail
      go_region_held3 (fun w' => w'.cell? (ad.add (k * 4)) = some (.int .i64 n1) ∧ w'.cell? ⟨(ad.add (k * 4)).block, (ad.add (k * 4)).off + 1, none⟩ = some (.int .i64 s1) ∧ w'.cell? ⟨(ad.add (k * 4)).block, (ad.add (k * 4)).off + 2, none⟩ = some (.int .i64 d1))
        (first | go_keep | exact ⟨hy0, hy1, hy2⟩ | exact ⟨hz0, hz1, hz2⟩)
        (first | (go_at_call 28; refine (HTake.out _ (by first | exact HI4.out | exact HI4.out.below (below_drew1 (Below.refl _ _)))).mono ?_; rintro e w5 ⟨p', rfl, hR, hK, hp'⟩; have HK5 : Aside0 (Kp w4 w5 (fun k => w.heap.size ≤ k ∧ k < w1.heap.size)) := ⟨by first | exact hK | exact (Kp.refl w4 _).drew.then_ hK (fun k hk => .inl hk)⟩; have HI5 := Aside0.mk hR; have HP5 := Aside0.mk hp'; have HB5 : Aside0 (Below w.heap.size w w5) := ⟨below_kp HB4.out HK5.out (fun j hj => hj.1) (Nat.le_refl _)⟩; obtain ⟨ad4, e4, hz0, hz1, hz2, hz3⟩ := rstep_cells (Kd.C_below HC.out HB5.out) k hlt; cases e4; rw [HSE.out] at hz0 hz1 hz2 hz3; simp only at hz0 hz1 hz2 hz3; clear hR hK hp'))
      have HO5 : Aside0 (Kd.R (Kd.int .i64) 3 w5 w2.heap.size (fun j => ¬ (w.heap.size ≤ j ∧ j < w1.heap.size)) (.slice A1 L.length c1) L) := ⟨Kd.R_kept HO4.out HK5.out.1 (fun j hj h => hj h)⟩
      clear HI4 HO4 HB4 hy0 hy1 hy2 hz0 hz1 hz2 hz3 HTake HRead
      have t3 : (f != f) = false := by simp
      have t4 : (u != u) = false := by simp
      by_cases c1 : f = 0
      · subst c1
        have hbd := HBd.out rfl
        have hp5 := HP5.out rfl
        subst hp5
        obtain ⟨m, rfl⟩ := Int.eq_ofNat_of_zero_le hbd.1
        have t6 : ((p : Int) + (m : Int) != (p : Int) + (m : Int)) = false := by simp
        have hpm : p + m ≤ L.length := by omega
        clear hbd HBd HP5
        go_wp2_with fail
        refine (at_calls g _ b _ w5 HI5.out).mono ?_
        rintro e w6 ⟨rfl, rfl⟩
        go_wp2_with fail
        go_roundw
        case rel => exact ⟨k + 1, p + m, by omega, by omega, by first | (simp; done) | (congr 1; omega), by first | (simp; done) | (congr 1; omega), ⟨by have h := HI5.out; rwa [show ((p + m : Nat) : Int) = (p : Int) + (m : Int) by omega]⟩, HO5, HB5⟩
        case measure => simp [intOf]; omega
      · have t5 : (f != 0) = true := bne_iff_ne.mpr c1
        clear c1 HBd HP5
        go_wp2_with fail
        refine (rtake_nil _).mono ?_
        rintro e w9 ⟨rfl, hB⟩
        have HB9 := Aside0.mk (below_step HB5.out hB)
        clear hB
        go_wp2
        go_ret
        exact ⟨rfl, HB9.out⟩
    · have t1 : decide ((k : Int) < (l.length : Int)) = false := decide_eq_false (by omega)
      have t2 : decide (k < l.length) = false := decide_eq_false hlt
      go_wp2_with fail
      refine (rtake_nil _).mono ?_
      rintro e w9 ⟨rfl, hB⟩
      have HB9 := Aside0.mk (below_step HB.out hB)
      clear hB
      go_wp2
      go_ret
      exact ⟨rfl, HB9.out⟩
end Go.Proofs.Ytnjfojpjfmnmcaa.Rice
