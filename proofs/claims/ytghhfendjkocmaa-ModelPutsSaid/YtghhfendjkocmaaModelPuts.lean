/- ModelPuts: the walk. -/
import Derived.Test.YtghhfendjkocmaaModelPair
namespace Go.Proofs.Ytghhfendjkocmaa.Model
open Go.RowKit Go.Proofs.Ytghhfendjkocmaa.Bits Go.Proofs.Ytghhfendjkocmaa.Rice Go.Proofs.YtghhfendjkocmaaW.PrintWords Go.Proofs.YtghhfendjkocmaaW.PrintMore Go.Proofs.Ytghhfendjkocmaa.BP
set_option linter.unusedVariables false
set_option linter.unusedSimpArgs false

theorem fits_nought {v : World} {g : Nat} {S : Nat → Prop} {d : Int} {s : Seen} (h : IsM v g S d s) (p c : Int) : FitsP (stOf d p c s).1 (stOf d p c s).2 d 0 := ⟨h.2.2.1.may h.1 h.2.1 p c, h.1, h.2.1, Int.le_refl _, by simp⟩
set_option maxRecDepth 100000 in
set_option maxHeartbeats 8000000 in
theorem mputs_one (d : Int) (A : Option Addr) (c : Nat) (l : Seen) (w : World) (hC : seenK.C w A l.length l) (hlc : l.length ≤ c) (hl : l.length ≤ maxLen) :
    Calls Try.prog 3 #[.int .i64 d, .slice A l.length c] w fun e w' => e = .returned (.bool true) ∧ Below w.heap.size w w' := by
  have hu := Try.underlying36
  have hus := Try.underlying44
  have hup := Try.underlying34
  have HC := Aside0.mk (C_take hC 120)
  have HFew : Aside0 (∀ v, Calls Try.prog 10 #[.slice A l.length c] v fun e w' => e = .returned (.slice A (l.take 120).length c) ∧ w' = v) := ⟨fun v => few_calls A c l v hlc hl⟩
  obtain ⟨S, hS⟩ : ∃ S, l.take 120 = S := ⟨_, rfl⟩
  have hSl : S.length ≤ 120 := by rw [← hS, List.length_take]; omega
  rw [hS] at HC HFew
  clear hC hS hl hlc
  by_cases hd : d < 1 ∨ 16 < d
  case pos =>
    have HD := Aside0.mk hd
    by_cases c1 : d < 1
    all_goals
      first
        | (have b0 : decide (1 ≤ d) = false := decide_eq_false (by omega))
        | (have b0 : decide (1 ≤ d) = true := decide_eq_true (by omega); have b1 : decide (d ≤ 16) = false := decide_eq_false (by omega))
      clear hd
      go_enter Try.func3, Try.ntmps3
      go_wp2_with fail
      refine (mnew_bad d HD.out _).mono ?_
      rintro e w1 ⟨rfl, hw⟩
      replace hw := hw.symm
      subst hw
      go_wp2_with fail
      refine (mnew_bad d HD.out _).mono ?_
      rintro e w1 ⟨rfl, hw⟩
      replace hw := hw.symm
      subst hw
      go_wp2_with fail
      refine (new_calls _).mono ?_
      rintro e w1 ⟨g1, rfl, hW, hB⟩
      have HB1 := Aside0.mk hB
      clear hW hB
      go_wp2_with fail
      refine (new_calls _).mono ?_
      rintro e w2 ⟨g2, rfl, hW, hB⟩
      have HB2 := Aside0.mk (below_step HB1.out hB)
      clear hW hB
      go_wp2_with fail
      refine (mawake_calls _).mono ?_
      rintro e w3 ⟨rfl, hB⟩
      have HB3 := Aside0.mk (below_step HB2.out hB)
      clear hB
      go_wp2_with fail
      refine (mawake_calls _).mono ?_
      rintro e w4 ⟨rfl, hB⟩
      have HB4 := Aside0.mk (below_step HB3.out hB)
      clear hB
      go_wp2_with fail
      go_ret
      exact ⟨rfl, HB4.out⟩
  have hd1 : 1 ≤ d := by omega
  have hd2 : d ≤ 16 := by omega
  have b0 : decide (1 ≤ d) = true := decide_eq_true hd1
  have b1 : decide (d ≤ 16) = true := decide_eq_true hd2
  clear hd
  go_enter Try.func3, Try.ntmps3
  go_wp2_with fail
  refine (mnew_ok d hd1 hd2 _).mono ?_
  rintro e w1 ⟨gm, rfl, hM, hB⟩
  have HM1 : Aside0 (IsM w1 gm (T (upd (fun _ => 0) w.heap.size 1) 1) d []) := ⟨hM.mono (fun _ hk => T_upd (.inr hk))⟩
  have HB1 := Aside0.mk hB
  have hz1 := hB.size
  clear hM hB
  go_wp2_with fail
  refine (mnew_ok d hd1 hd2 _).mono ?_
  rintro e w2 ⟨gn, rfl, hM, hB⟩
  have HM2 := Aside0.mk (belM (t := 2) HM1.out hB)
  have HN2 : Aside0 (IsM w2 gn (T (upd (upd (fun _ => 0) w.heap.size 1) w1.heap.size 2) 2) d []) := ⟨hM.mono (fun _ hk => T_upd (.inr hk))⟩
  have HB2 := Aside0.mk (below_step HB1.out hB)
  have hz2 := hB.size
  clear hM hB HM1
  go_wp2_with fail
  refine (new_calls _).mono ?_
  rintro e w3 ⟨gw, rfl, hW, hB⟩
  have HM3 := Aside0.mk (belM (t := 3) HM2.out hB)
  have HN3 := Aside0.mk (belM (t := 3) HN2.out hB)
  have HW3 : Aside0 (IsW w3 gw (T (upd (upd (upd (fun _ => 0) w.heap.size 1) w1.heap.size 2) w2.heap.size 3) 3) []) := ⟨hW.mono (fun _ hk => T_upd (.inr hk))⟩
  have HB3 := Aside0.mk (below_step HB2.out hB)
  have hz3 := hB.size
  clear hW hB HM2 HN2
  go_wp2_with fail
  refine (new_calls _).mono ?_
  rintro e w4 ⟨gv, rfl, hW, hB⟩
  have HP0 : Aside0 (PM w (upd (upd (upd (upd (fun _ => 0) w.heap.size 1) w1.heap.size 2) w2.heap.size 3) w3.heap.size 4) gm gn gw gv d [] [] [] [] [] (.slice none 0 0) [] (.slice none 0 0) w4) := ⟨by
    refine ⟨belM HM3.out hB, belM HN3.out hB, belW HW3.out hB, hW.mono (fun _ hk => T_upd (.inr hk)), Kd.R_nil _ _ _ _ _, Kd.R_nil _ _ _ _ _, below_step HB3.out hB, fun k hk => ?_⟩
    unfold upd
    rw [if_pos (by omega), if_pos (by omega), if_pos (by omega), if_pos hk]⟩
  generalize (upd (upd (upd (upd (fun _ => 0) w.heap.size 1) w1.heap.size 2) w2.heap.size 3) w3.heap.size 4) = f0 at HP0
  clear hW hB HM3 HN3 HW3 HB1 HB2 HB3 hz1 hz2 hz3
  go_wp2_with fail
  refine (mawake_calls _).mono ?_
  rintro e w5 ⟨rfl, hB⟩
  have HP := Aside0.mk (HP0.out.make hB)
  generalize upd f0 w4.heap.size 7 = f1 at HP
  clear hB HP0
  go_wp2_with fail
  refine (HFew.out _).mono ?_
  rintro e w9 ⟨rfl, hw⟩
  replace hw := hw.symm
  subst hw
  go_wp2_with fail
  have HB010 : Aside0 (B01 []) := ⟨B01.nil⟩
  go_loopw [13, 14, 15] (fun v13 v14 v15 wr => ∃ (k : Nat) (f : Nat → Nat) (sm sn : Seen) (bl bv : List Int) (A5 A6 : Option Addr) (c5 c6 : Nat), k ≤ S.length ∧ sm.length ≤ k ∧ sn.length ≤ k ∧ bl.length ≤ 36 * k ∧ bv.length ≤ 36 * k ∧ v13 = .slice A5 sm.length c5 ∧ v14 = .slice A6 bl.length c6 ∧ v15 = .int .i64 k ∧ Aside0 (B01 bl) ∧ Aside0 (PM w f gm gn gw gv d bl bv sm sn sm (.slice A5 sm.length c5) bl (.slice A6 bl.length c6) wr))
    (fun _ _ v15 _ => ((S.length : Int) - intOf v15).toNat)
  case atStart => exact ⟨0, f1, [], [], [], [], none, none, 0, 0, by omega, by simp, by simp, by simp, by simp, rfl, rfl, rfl, HB010, HP⟩
  case round =>
    clear HP HB010
    obtain ⟨k, f, sm, sn, bl, bv, A5, A6, c5, c6, hk, hsk, hnk, hbk, hvk, rfl, rfl, rfl, HB01, HP⟩ := hrel
    by_cases hlt : k < S.length
    · have t1 : decide ((k : Int) < (S.length : Int)) = true := decide_eq_true (by omega)
      have t2 : decide (k < S.length) = true := decide_eq_true hlt
      obtain ⟨ad, e1, hx0, hx1, hx2⟩ := seen_cells (Kd.C_below HC.out HP.out.below) k hlt
      cases e1
      obtain ⟨x, hx⟩ : ∃ x, S.getD k z3 = x := ⟨_, rfl⟩
      rw [hx] at hx0 hx1 hx2
      obtain ⟨xp, xc, xu⟩ := x
      simp only at hx0 hx1 hx2
      clear hx
      go_wp2_with fail
      have HP1 := Aside0.mk (HP.out.make (below_alloc (Below.refl _ _) (.cells #[.int .i64 xp, .int .i64 xc, .int .i64 xu] 34)))
      have HX1 : Aside0 ((wr.alloc (.cells #[.int .i64 xp, .int .i64 xc, .int .i64 xu] 34)).heap[wr.heap.size]? = some (.cells #[.int .i64 xp, .int .i64 xc, .int .i64 xu] 34 (0, 0)) ∧ upd f wr.heap.size 7 wr.heap.size = 7) := ⟨heap_alloc_new _ _, by unfold upd; rw [if_neg (Nat.lt_irrefl _)]⟩
      generalize wr.alloc (.cells #[.int .i64 xp, .int .i64 xc, .int .i64 xu] 34) = wa at HP1 HX1 ⊢
      generalize upd f wr.heap.size 7 = fa at HP1 HX1
      clear HP hx0 hx1 hx2
      generalize wr.heap.size = gx at HX1 ⊢
      by_cases hkey : KeyOk xp xc
      · have HKey := Aside0.mk hkey
        obtain ⟨s0, s1, hs⟩ : ∃ s0 s1, stOf d xp xc sm = (s0, s1) := ⟨_, _, rfl⟩
        have HS := Aside0.mk hs
        have hkey2 := hkey
        unfold KeyOk at hkey2
        obtain ⟨hp0, hp1, hq0, hq1⟩ := hkey2
        have HKey3 : Aside0 (KeyOk (3 - xp) xc) := ⟨by unfold KeyOk; omega⟩
        clear hs hkey
        by_cases hn5 : k % 5 = 4
        · have t5 : ((k : Int) % 5 == 4) = true := beq_iff_eq.mpr (by omega)
          by_cases hfit : FitsP s0 s1 d xu
          · have HFit := Aside0.mk hfit
            obtain ⟨ys, hys⟩ : ∃ ys, (codeL s0 s1 d xu).1 = ys := ⟨_, rfl⟩
            have HCode : Aside0 (codeL s0 s1 d xu = (ys, 0)) := ⟨by rw [← hys]; unfold codeL; rw [if_pos hfit]⟩
            obtain ⟨bn, hbn⟩ : ∃ bn, bl ++ ys = bn := ⟨_, rfl⟩
            obtain ⟨sn1, hsn1⟩ : ∃ sn1, sm ++ [(xp, xc, xu)] = sn1 := ⟨_, rfl⟩
            have HBN := Aside0.mk hbn
            have HSN := Aside0.mk hsn1
            have hyl : ys.length ≤ 36 := by rw [← hys]; exact codeL_len s0 s1 d xu
            have hbnl : bn.length ≤ 36 * (k + 1) := by rw [← hbn, List.length_append]; omega
            have hsnl : sn1.length ≤ k + 1 := by rw [← hsn1, List.length_append]; simp; omega
            have HBN01 : Aside0 (B01 bn) := ⟨by rw [← hbn, ← hys]; exact B01.append HB01.out (codeL_01 _ _ _ _)⟩
            clear hfit hys hbn hsn1
            refine (rstate_ok d A5 c5 sm xp xc _ (Kd.R_reads' HP1.out.ps).2.2 (by omega) HKey.out).mono ?_
            rintro e w1 ⟨rfl, hB⟩
            rw [HS.out]
            have HP2 := Aside0.mk (HP1.out.make hB)
            have HX2 := Aside0.mk (belO (t := 7) HX1.out hB)
            generalize upd fa wa.heap.size 7 = fb at HP2 HX2
            clear HP1 HX1
            clear hB
            have HP3 := Aside0.mk (HP2.out.make (below_alloc (Below.refl _ _) (.cells #[.int .i64 s0, .int .i64 s1] 36)))
            have HX3 := Aside0.mk (belO (t := 7) HX2.out (below_alloc (Below.refl _ _) (.cells #[.int .i64 s0, .int .i64 s1] 36)))
            have HS3 : Aside0 ((w1.alloc (.cells #[.int .i64 s0, .int .i64 s1] 36)).heap[w1.heap.size]? = some (.cells #[.int .i64 s0, .int .i64 s1] 36 (0, 0)) ∧ upd fb w1.heap.size 7 w1.heap.size = 7) := ⟨heap_alloc_new _ _, by unfold upd; rw [if_neg (Nat.lt_irrefl _)]⟩
            generalize upd fb w1.heap.size 7 = fc at HP3 HX3 HS3
            clear HP2 HX2
            have hx0 : (w1.alloc (.cells #[.int .i64 s0, .int .i64 s1] 36)).cell? ⟨gx, 0, none⟩ = some (.int .i64 xp) := (blk_cell HX3.out.1 0).trans rfl
            have hx1 : (w1.alloc (.cells #[.int .i64 s0, .int .i64 s1] 36)).cell? ⟨gx, 1, none⟩ = some (.int .i64 xc) := (blk_cell HX3.out.1 1).trans rfl
            have hx2 : (w1.alloc (.cells #[.int .i64 s0, .int .i64 s1] 36)).cell? ⟨gx, 2, none⟩ = some (.int .i64 xu) := (blk_cell HX3.out.1 2).trans rfl
            go_wp2_with fail
            generalize hwb : w1.alloc (.cells #[.int .i64 s0, .int .i64 s1] 36) = wb at HP3 HX3 HS3 ⊢
            clear hwb hx0 hx1 hx2
            generalize w1.heap.size = gs at HS3 ⊢
            refine (mstate_ok gm _ d sm xp xc _ HP3.out.pm HKey.out).mono ?_
            rintro e w2 ⟨rfl, hB⟩
            rw [HS.out]
            have HP4 := Aside0.mk (HP3.out.make hB)
            have HX4 := Aside0.mk (belO (t := 7) HX3.out hB)
            have HS4 := Aside0.mk (belO (t := 7) HS3.out hB)
            generalize upd fc wb.heap.size 7 = fd at HP4 HX4 HS4
            clear HP3 HX3 HS3
            clear hB
            have HP5 := Aside0.mk (HP4.out.make (below_alloc (Below.refl _ _) (.cells #[.int .i64 s0, .int .i64 s1] 36)))
            have HX5 := Aside0.mk (belO (t := 7) HX4.out (below_alloc (Below.refl _ _) (.cells #[.int .i64 s0, .int .i64 s1] 36)))
            have HS5 := Aside0.mk (belO (t := 7) HS4.out (below_alloc (Below.refl _ _) (.cells #[.int .i64 s0, .int .i64 s1] 36)))
            have HT5 : Aside0 ((w2.alloc (.cells #[.int .i64 s0, .int .i64 s1] 36)).heap[w2.heap.size]? = some (.cells #[.int .i64 s0, .int .i64 s1] 36 (0, 0)) ∧ upd fd w2.heap.size 7 w2.heap.size = 7) := ⟨heap_alloc_new _ _, by unfold upd; rw [if_neg (Nat.lt_irrefl _)]⟩
            generalize upd fd w2.heap.size 7 = fe at HP5 HX5 HS5 HT5
            clear HP4 HX4 HS4
            have hx0 : (w2.alloc (.cells #[.int .i64 s0, .int .i64 s1] 36)).cell? ⟨gx, 0, none⟩ = some (.int .i64 xp) := (blk_cell HX5.out.1 0).trans rfl
            have hx1 : (w2.alloc (.cells #[.int .i64 s0, .int .i64 s1] 36)).cell? ⟨gx, 1, none⟩ = some (.int .i64 xc) := (blk_cell HX5.out.1 1).trans rfl
            have hx2 : (w2.alloc (.cells #[.int .i64 s0, .int .i64 s1] 36)).cell? ⟨gx, 2, none⟩ = some (.int .i64 xu) := (blk_cell HX5.out.1 2).trans rfl
            have hs0 : (w2.alloc (.cells #[.int .i64 s0, .int .i64 s1] 36)).cell? ⟨gs, 0, none⟩ = some (.int .i64 s0) := (blk_cell HS5.out.1 0).trans rfl
            have hs1 : (w2.alloc (.cells #[.int .i64 s0, .int .i64 s1] 36)).cell? ⟨gs, 1, none⟩ = some (.int .i64 s1) := (blk_cell HS5.out.1 1).trans rfl
            have ht0 : (w2.alloc (.cells #[.int .i64 s0, .int .i64 s1] 36)).cell? ⟨w2.heap.size, 0, none⟩ = some (.int .i64 s0) := (blk_cell HT5.out.1 0).trans rfl
            have ht1 : (w2.alloc (.cells #[.int .i64 s0, .int .i64 s1] 36)).cell? ⟨w2.heap.size, 1, none⟩ = some (.int .i64 s1) := (blk_cell HT5.out.1 1).trans rfl
            go_wp2_with fail
            generalize hwc : w2.alloc (.cells #[.int .i64 s0, .int .i64 s1] 36) = wc at HP5 HX5 HS5 HT5 ⊢
            clear hwc hx0 hx1 hx2 hs0 hs1 ht0 ht1 HT5
            generalize w2.heap.size = gt
            refine (code_calls s0 s1 d xu _).mono ?_
            rintro e w3 ⟨v, rfl, hR, hB⟩
            rw [HCode.out] at hR ⊢
            obtain ⟨A2, c2, rfl⟩ := Kd.R_slice hR
            have HP6 := Aside0.mk (HP5.out.make hB)
            have HX6 := Aside0.mk (belO (t := 7) HX5.out hB)
            have HS6 := Aside0.mk (belO (t := 7) HS5.out hB)
            have hfg : ∀ k, wc.heap.size ≤ k → T (upd fe wc.heap.size 7) 7 k := fun k hk => T_upd (.inr hk)
            generalize upd fe wc.heap.size 7 = fg at HP6 HX6 HS6 hfg
            clear HP5 HX5 HS5
            have HYR : Aside0 (Kd.R (Kd.int .i64) 3 w3 wc.heap.size (T fg 7) (.slice A2 ys.length c2) ys) := ⟨Kd.R_mono (Kd.R_bound hR) (fun k hk => hfg k hk.2.1)⟩
            clear hR hB hfg
            have hx0 : w3.cell? ⟨gx, 0, none⟩ = some (.int .i64 xp) := (blk_cell HX6.out.1 0).trans rfl
            have hx1 : w3.cell? ⟨gx, 1, none⟩ = some (.int .i64 xc) := (blk_cell HX6.out.1 1).trans rfl
            have hx2 : w3.cell? ⟨gx, 2, none⟩ = some (.int .i64 xu) := (blk_cell HX6.out.1 2).trans rfl
            go_wp2_with fail
            refine (mput_calls gm gw _ _ bl d xp xc xu sm w3 HP6.out.pm.bound HP6.out.pw.bound (fun j h1 h2 => by have a := h1.1; have c := h2.1; unfold T at a c; omega) HKey.out (by omega) (by omega)).mono ?_
            rintro e w4 hT
            unfold MPut at hT
            rw [HS.out] at hT
            rcases hT with ⟨_, rfl, hW, hM, hK⟩ | ⟨hn, _⟩
            rotate_left
            · exact absurd HFit.out hn
            simp only at hW
            rw [HCode.out] at hW
            simp only at hW
            rw [HBN.out] at hW
            rw [HSN.out] at hM
            have HP7 := Aside0.mk (HP6.out.putm hW hM hK)
            have HX7 := Aside0.mk (keepO (U := fun n => n = 3 ∨ n = 1) (t := 3) HX6.out.1 HX6.out.2 (hK.1.mono (fun k hk => hk.imp (fun h => h.1) (fun h => h.1))) (by omega))
            have HYR7 := Aside0.mk (keepL (U := fun n => n = 3 ∨ n = 1) (t := 3) HYR.out (hK.1.mono (fun k hk => hk.imp (fun h => h.1) (fun h => h.1))) (by omega))
            generalize upd fg w3.heap.size 3 = fh at HP7 HX7 HYR7
            clear hW hM hK HP6 HX6 HYR hx0 hx1 hx2
            have hx0 : w4.cell? ⟨gx, 0, none⟩ = some (.int .i64 xp) := (blk_cell HX7.out.1 0).trans rfl
            have hx1 : w4.cell? ⟨gx, 1, none⟩ = some (.int .i64 xc) := (blk_cell HX7.out.1 1).trans rfl
            have hx2 : w4.cell? ⟨gx, 2, none⟩ = some (.int .i64 xu) := (blk_cell HX7.out.1 2).trans rfl
            go_wp2_with fail
            refine (mput_calls gn gv _ _ bv d (3 - xp) xc 0 sn w4 HP7.out.pn.bound HP7.out.pv.bound (fun j h1 h2 => by have a := h1.1; have c := h2.1; unfold T at a c; omega) HKey3.out (by omega) (by omega)).mono ?_
            rintro e w5 hT
            unfold MPut at hT
            rcases hT with ⟨_, rfl, hW, hM, hK⟩ | ⟨hn, _⟩
            rotate_left
            · exact absurd (fits_nought HP7.out.pn (3 - xp) xc) hn
            obtain ⟨bw2, hbw2⟩ : ∃ bw2, bv ++ (codeL (stOf d (3 - xp) xc sn).1 (stOf d (3 - xp) xc sn).2 d 0).1 = bw2 := ⟨_, rfl⟩
            have hbw3 : bw2.length ≤ 36 * (k + 1) := by rw [← hbw2, List.length_append]; have := codeL_len (stOf d (3 - xp) xc sn).1 (stOf d (3 - xp) xc sn).2 d 0; omega
            rw [hbw2] at hW
            have hHBV := Aside0.mk hbw3
            have HP8 := Aside0.mk (HP7.out.putn hW hM hK)
            have HX8 := Aside0.mk (keepO (U := fun n => n = 4 ∨ n = 2) (t := 4) HX7.out.1 HX7.out.2 (hK.1.mono (fun k hk => hk.imp (fun h => h.1) (fun h => h.1))) (by omega))
            have HYR8 := Aside0.mk (keepL (U := fun n => n = 4 ∨ n = 2) (t := 4) HYR7.out (hK.1.mono (fun k hk => hk.imp (fun h => h.1) (fun h => h.1))) (by omega))
            generalize upd fh w4.heap.size 4 = fi at HP8 HX8 HYR8
            clear hW hM hK HP7 HX7 HYR7 hx0 hx1 hx2 hbw2 hbw3
            have hx0 : w5.cell? ⟨gx, 0, none⟩ = some (.int .i64 xp) := (blk_cell HX8.out.1 0).trans rfl
            have hx1 : w5.cell? ⟨gx, 1, none⟩ = some (.int .i64 xc) := (blk_cell HX8.out.1 1).trans rfl
            have hx2 : w5.cell? ⟨gx, 2, none⟩ = some (.int .i64 xu) := (blk_cell HX8.out.1 2).trans rfl
            go_wp2_with (first | ((with_reducible refine gate_builtin (b := .append) (xs := #[.tmp 167, .tmp 168]) rfl ?_); at_builtin; refine Kd.R_append_row (Value.int .i64) 0 (w0 := w) (W := w5) w.heap.size rfl (.tmp 167) (.tmp 168) 32 3 (.int .i64 0) 8 rfl Try.underlying32 infoI rfl (by decide) (.slice A6 bl.length c6) bl ys A2 ys.length c2 (fun k => T fi 6 k ∨ w5.heap.size ≤ k) rfl rfl (fun _ hk => .inr hk) (Kd.R_mono HP8.out.pl (fun _ hk => .inl hk)) (Kd.R_reads' HYR8.out).2.2 HP8.out.below HP8.out.below.size (by omega) ?_; intro v1 w6 ho hb hg hat; rw [HBN.out] at ho; obtain ⟨hq, hqo⟩ := HP8.out.appl ho hg hb; have HP9 := Aside0.mk hq; have HX9 := Aside0.mk (hqo HX8.out (by omega)); obtain ⟨A7, c7, rfl⟩ := Kd.R_slice ho; generalize upd fi w5.heap.size 6 = fj at HP9 HX9; clear ho hb hg hat hq hqo; have hz0 : w6.cell? ⟨gx, 0, none⟩ = some (.int .i64 xp) := (blk_cell HX9.out.1 0).trans rfl; have hz1 : w6.cell? ⟨gx, 1, none⟩ = some (.int .i64 xc) := (blk_cell HX9.out.1 1).trans rfl; have hz2 : w6.cell? ⟨gx, 2, none⟩ = some (.int .i64 xu) := (blk_cell HX9.out.1 2).trans rfl) | ((with_reducible refine gate_builtin (b := .append) (xs := #[.tmp 172, .tmp 180]) rfl ?_); at_builtin; refine Kd.R_append seenK (w0 := w) (W := w6) w.heap.size rfl (.tmp 172) (.tmp 180) 31 44 (.agg #[.int .i64 0, .int .i64 0, .int .i64 0]) 24 rfl Try.underlying31 infoSeen rfl (by decide) (by decide) (.slice A5 sm.length c5) sm (xp, xc, xu) [.int .i64 xp, .int .i64 xc, .int .i64 xu] (fun k => T fj 5 k ∨ w6.heap.size ≤ k) (fun _ => False) rfl rfl rfl (fun _ hk => hk.elim) (fun _ hk => .inr hk) (Kd.R_mono HP9.out.ps (fun _ hk => .inl hk)) HP9.out.below HP9.out.below.size (by omega) ?_; intro v1 w7 ho hb hg hat; rw [HSN.out] at ho; have HP10 := Aside0.mk (HP9.out.apps ho hg hb); obtain ⟨A8, c8, rfl⟩ := Kd.R_slice ho; generalize upd fj w6.heap.size 5 = fk at HP10; clear ho hb hg hat))
            clear HX9
            refine (len_calls gw _ bn w7 HP10.out.pw (by omega)).mono ?_
            rintro e w8 ⟨rfl, hD⟩
            have HP11 := Aside0.mk (HP10.out.drawn hD)
            clear hD HP10 hz0 hz1 hz2
            have t8 : ((bn.length : Int) != (bn.length : Int)) = false := by simp
            go_wp2_with fail
            refine (mseen_calls gm _ d sn1 w8 HP11.out.pm).mono ?_
            rintro e wx ⟨rfl, hw⟩
            replace hw := hw.symm
            subst hw
            go_wp2_with fail
            refine (rcount_calls A8 c8 sn1 w8 (Kd.R_reads' HP11.out.ps).2.2 (by omega)).mono ?_
            rintro e w9 ⟨rfl, hB⟩
            have HP12 := Aside0.mk (HP11.out.make hB)
            clear hB HP11
            have t9 : ((cntOf sn1 : Int) != (cntOf sn1 : Int)) = false := by simp
            go_wp2_with fail
            go_roundw
            case rel => exact ⟨k + 1, _, sn1, (sn ++ [(3 - xp, xc, 0)]), bn, bw2, A8, A7, c8, c7, by omega, by omega, by rw [List.length_append]; simp; omega, by omega, hHBV.out, rfl, rfl, by go_num, HBN01, HP12⟩
            case measure => simp [intOf]; omega
          · have HFit := Aside0.mk hfit
            have HCode : Aside0 (codeL s0 s1 d xu = ([], 1)) := ⟨by unfold codeL; rw [if_neg hfit]⟩
            clear hfit
            refine (rstate_ok d A5 c5 sm xp xc _ (Kd.R_reads' HP1.out.ps).2.2 (by omega) HKey.out).mono ?_
            rintro e w1 ⟨rfl, hB⟩
            rw [HS.out]
            have HP2 := Aside0.mk (HP1.out.make hB)
            have HX2 := Aside0.mk (belO (t := 7) HX1.out hB)
            generalize upd fa wa.heap.size 7 = fb at HP2 HX2
            clear HP1 HX1
            clear hB
            have HP3 := Aside0.mk (HP2.out.make (below_alloc (Below.refl _ _) (.cells #[.int .i64 s0, .int .i64 s1] 36)))
            have HX3 := Aside0.mk (belO (t := 7) HX2.out (below_alloc (Below.refl _ _) (.cells #[.int .i64 s0, .int .i64 s1] 36)))
            have HS3 : Aside0 ((w1.alloc (.cells #[.int .i64 s0, .int .i64 s1] 36)).heap[w1.heap.size]? = some (.cells #[.int .i64 s0, .int .i64 s1] 36 (0, 0)) ∧ upd fb w1.heap.size 7 w1.heap.size = 7) := ⟨heap_alloc_new _ _, by unfold upd; rw [if_neg (Nat.lt_irrefl _)]⟩
            generalize upd fb w1.heap.size 7 = fc at HP3 HX3 HS3
            clear HP2 HX2
            have hx0 : (w1.alloc (.cells #[.int .i64 s0, .int .i64 s1] 36)).cell? ⟨gx, 0, none⟩ = some (.int .i64 xp) := (blk_cell HX3.out.1 0).trans rfl
            have hx1 : (w1.alloc (.cells #[.int .i64 s0, .int .i64 s1] 36)).cell? ⟨gx, 1, none⟩ = some (.int .i64 xc) := (blk_cell HX3.out.1 1).trans rfl
            have hx2 : (w1.alloc (.cells #[.int .i64 s0, .int .i64 s1] 36)).cell? ⟨gx, 2, none⟩ = some (.int .i64 xu) := (blk_cell HX3.out.1 2).trans rfl
            go_wp2_with fail
            generalize hwb : w1.alloc (.cells #[.int .i64 s0, .int .i64 s1] 36) = wb at HP3 HX3 HS3 ⊢
            clear hwb hx0 hx1 hx2
            generalize w1.heap.size = gs at HS3 ⊢
            refine (mstate_ok gm _ d sm xp xc _ HP3.out.pm HKey.out).mono ?_
            rintro e w2 ⟨rfl, hB⟩
            rw [HS.out]
            have HP4 := Aside0.mk (HP3.out.make hB)
            have HX4 := Aside0.mk (belO (t := 7) HX3.out hB)
            have HS4 := Aside0.mk (belO (t := 7) HS3.out hB)
            generalize upd fc wb.heap.size 7 = fd at HP4 HX4 HS4
            clear HP3 HX3 HS3
            clear hB
            have HP5 := Aside0.mk (HP4.out.make (below_alloc (Below.refl _ _) (.cells #[.int .i64 s0, .int .i64 s1] 36)))
            have HX5 := Aside0.mk (belO (t := 7) HX4.out (below_alloc (Below.refl _ _) (.cells #[.int .i64 s0, .int .i64 s1] 36)))
            have HS5 := Aside0.mk (belO (t := 7) HS4.out (below_alloc (Below.refl _ _) (.cells #[.int .i64 s0, .int .i64 s1] 36)))
            have HT5 : Aside0 ((w2.alloc (.cells #[.int .i64 s0, .int .i64 s1] 36)).heap[w2.heap.size]? = some (.cells #[.int .i64 s0, .int .i64 s1] 36 (0, 0)) ∧ upd fd w2.heap.size 7 w2.heap.size = 7) := ⟨heap_alloc_new _ _, by unfold upd; rw [if_neg (Nat.lt_irrefl _)]⟩
            generalize upd fd w2.heap.size 7 = fe at HP5 HX5 HS5 HT5
            clear HP4 HX4 HS4
            have hx0 : (w2.alloc (.cells #[.int .i64 s0, .int .i64 s1] 36)).cell? ⟨gx, 0, none⟩ = some (.int .i64 xp) := (blk_cell HX5.out.1 0).trans rfl
            have hx1 : (w2.alloc (.cells #[.int .i64 s0, .int .i64 s1] 36)).cell? ⟨gx, 1, none⟩ = some (.int .i64 xc) := (blk_cell HX5.out.1 1).trans rfl
            have hx2 : (w2.alloc (.cells #[.int .i64 s0, .int .i64 s1] 36)).cell? ⟨gx, 2, none⟩ = some (.int .i64 xu) := (blk_cell HX5.out.1 2).trans rfl
            have hs0 : (w2.alloc (.cells #[.int .i64 s0, .int .i64 s1] 36)).cell? ⟨gs, 0, none⟩ = some (.int .i64 s0) := (blk_cell HS5.out.1 0).trans rfl
            have hs1 : (w2.alloc (.cells #[.int .i64 s0, .int .i64 s1] 36)).cell? ⟨gs, 1, none⟩ = some (.int .i64 s1) := (blk_cell HS5.out.1 1).trans rfl
            have ht0 : (w2.alloc (.cells #[.int .i64 s0, .int .i64 s1] 36)).cell? ⟨w2.heap.size, 0, none⟩ = some (.int .i64 s0) := (blk_cell HT5.out.1 0).trans rfl
            have ht1 : (w2.alloc (.cells #[.int .i64 s0, .int .i64 s1] 36)).cell? ⟨w2.heap.size, 1, none⟩ = some (.int .i64 s1) := (blk_cell HT5.out.1 1).trans rfl
            go_wp2_with fail
            generalize hwc : w2.alloc (.cells #[.int .i64 s0, .int .i64 s1] 36) = wc at HP5 HX5 HS5 HT5 ⊢
            clear hwc hx0 hx1 hx2 hs0 hs1 ht0 ht1 HT5
            generalize w2.heap.size = gt
            refine (code_calls s0 s1 d xu _).mono ?_
            rintro e w3 ⟨v, rfl, hR, hB⟩
            rw [HCode.out] at hR ⊢
            obtain ⟨A2, c2, rfl⟩ := Kd.R_slice hR
            have HP6 := Aside0.mk (HP5.out.make hB)
            have HX6 := Aside0.mk (belO (t := 7) HX5.out hB)
            have HS6 := Aside0.mk (belO (t := 7) HS5.out hB)
            have hfg : ∀ k, wc.heap.size ≤ k → T (upd fe wc.heap.size 7) 7 k := fun k hk => T_upd (.inr hk)
            generalize upd fe wc.heap.size 7 = fg at HP6 HX6 HS6 hfg
            clear HP5 HX5 HS5
            have HYR : Aside0 (Kd.R (Kd.int .i64) 3 w3 wc.heap.size (T fg 7) (.slice A2 ([] : List Int).length c2) ([] : List Int)) := ⟨Kd.R_mono (Kd.R_bound hR) (fun k hk => hfg k hk.2.1)⟩
            clear hR hB hfg
            have hx0 : w3.cell? ⟨gx, 0, none⟩ = some (.int .i64 xp) := (blk_cell HX6.out.1 0).trans rfl
            have hx1 : w3.cell? ⟨gx, 1, none⟩ = some (.int .i64 xc) := (blk_cell HX6.out.1 1).trans rfl
            have hx2 : w3.cell? ⟨gx, 2, none⟩ = some (.int .i64 xu) := (blk_cell HX6.out.1 2).trans rfl
            go_wp2_with fail
            refine (mput_calls gm gw _ _ bl d xp xc xu sm w3 HP6.out.pm.bound HP6.out.pw.bound (fun j h1 h2 => by have a := h1.1; have c := h2.1; unfold T at a c; omega) HKey.out (by omega) (by omega)).mono ?_
            rintro e w4 hT
            unfold MPut at hT
            rw [HS.out] at hT
            rcases hT with ⟨hn, _⟩ | ⟨_, rfl, hW, hM, hK⟩
            · exact absurd hn HFit.out
            replace hK := hK.mono (S' := fun k => (T fg 3 k ∧ k < w3.heap.size) ∨ (T fg 1 k ∧ k < w3.heap.size)) (fun k hk => .inl hk)
            have HP7 := Aside0.mk (HP6.out.putm hW hM hK)
            have HX7 := Aside0.mk (keepO (U := fun n => n = 3 ∨ n = 1) (t := 3) HX6.out.1 HX6.out.2 (hK.1.mono (fun k hk => hk.imp (fun h => h.1) (fun h => h.1))) (by omega))
            have HYR7 := Aside0.mk (keepL (U := fun n => n = 3 ∨ n = 1) (t := 3) HYR.out (hK.1.mono (fun k hk => hk.imp (fun h => h.1) (fun h => h.1))) (by omega))
            generalize upd fg w3.heap.size 3 = fh at HP7 HX7 HYR7
            clear hW hM hK HP6 HX6 HYR hx0 hx1 hx2
            have hx0 : w4.cell? ⟨gx, 0, none⟩ = some (.int .i64 xp) := (blk_cell HX7.out.1 0).trans rfl
            have hx1 : w4.cell? ⟨gx, 1, none⟩ = some (.int .i64 xc) := (blk_cell HX7.out.1 1).trans rfl
            have hx2 : w4.cell? ⟨gx, 2, none⟩ = some (.int .i64 xu) := (blk_cell HX7.out.1 2).trans rfl
            go_wp2_with fail
            refine (mput_calls gn gv _ _ bv d (3 - xp) xc 0 sn w4 HP7.out.pn.bound HP7.out.pv.bound (fun j h1 h2 => by have a := h1.1; have c := h2.1; unfold T at a c; omega) HKey3.out (by omega) (by omega)).mono ?_
            rintro e w5 hT
            unfold MPut at hT
            rcases hT with ⟨_, rfl, hW, hM, hK⟩ | ⟨hn, _⟩
            rotate_left
            · exact absurd (fits_nought HP7.out.pn (3 - xp) xc) hn
            obtain ⟨bw2, hbw2⟩ : ∃ bw2, bv ++ (codeL (stOf d (3 - xp) xc sn).1 (stOf d (3 - xp) xc sn).2 d 0).1 = bw2 := ⟨_, rfl⟩
            have hbw3 : bw2.length ≤ 36 * (k + 1) := by rw [← hbw2, List.length_append]; have := codeL_len (stOf d (3 - xp) xc sn).1 (stOf d (3 - xp) xc sn).2 d 0; omega
            rw [hbw2] at hW
            have hHBV := Aside0.mk hbw3
            have HP8 := Aside0.mk (HP7.out.putn hW hM hK)
            have HX8 := Aside0.mk (keepO (U := fun n => n = 4 ∨ n = 2) (t := 4) HX7.out.1 HX7.out.2 (hK.1.mono (fun k hk => hk.imp (fun h => h.1) (fun h => h.1))) (by omega))
            have HYR8 := Aside0.mk (keepL (U := fun n => n = 4 ∨ n = 2) (t := 4) HYR7.out (hK.1.mono (fun k hk => hk.imp (fun h => h.1) (fun h => h.1))) (by omega))
            generalize upd fh w4.heap.size 4 = fi at HP8 HX8 HYR8
            clear hW hM hK HP7 HX7 HYR7 hx0 hx1 hx2 hbw2 hbw3
            go_wp2_with ((with_reducible refine gate_builtin (b := .append) (xs := #[.tmp 167, .tmp 168]) rfl ?_); at_builtin; refine Kd.R_append_row (Value.int .i64) 0 (w0 := w) (W := w5) w.heap.size rfl (.tmp 167) (.tmp 168) 32 3 (.int .i64 0) 8 rfl Try.underlying32 infoI rfl (by decide) (.slice A6 bl.length c6) bl ([] : List Int) A2 ([] : List Int).length c2 (fun k => T fi 6 k ∨ w5.heap.size ≤ k) rfl rfl (fun _ hk => .inr hk) (Kd.R_mono HP8.out.pl (fun _ hk => .inl hk)) (Kd.R_reads' HYR8.out).2.2 HP8.out.below HP8.out.below.size (by simp; omega) ?_; intro v1 w6 ho hb hg hat; rw [List.append_nil] at ho; obtain ⟨hq, hqo⟩ := HP8.out.appl ho hg hb; have HP9 := Aside0.mk hq; have HX9 := Aside0.mk (hqo HX8.out (by omega)); obtain ⟨A7, c7, rfl⟩ := Kd.R_slice ho; generalize upd fi w5.heap.size 6 = fj at HP9 HX9; clear ho hb hg hat hq hqo)
            clear HX9
            refine (len_calls gw _ bl w6 HP9.out.pw (by omega)).mono ?_
            rintro e w8 ⟨rfl, hD⟩
            have HP11 := Aside0.mk (HP9.out.drawn hD)
            clear hD HP9
            have t8 : ((bl.length : Int) != (bl.length : Int)) = false := by simp
            go_wp2_with fail
            refine (mseen_calls gm _ d sm w8 HP11.out.pm).mono ?_
            rintro e wx ⟨rfl, hw⟩
            replace hw := hw.symm
            subst hw
            go_wp2_with fail
            refine (rcount_calls A5 c5 sm w8 (Kd.R_reads' HP11.out.ps).2.2 (by omega)).mono ?_
            rintro e w9 ⟨rfl, hB⟩
            have HP12 := Aside0.mk (HP11.out.make hB)
            clear hB HP11
            have t9 : ((cntOf sm : Int) != (cntOf sm : Int)) = false := by simp
            go_wp2_with fail
            go_roundw
            case rel => exact ⟨k + 1, _, sm, (sn ++ [(3 - xp, xc, 0)]), bl, bw2, A5, A7, c5, c7, by omega, by omega, by rw [List.length_append]; simp; omega, by omega, hHBV.out, rfl, rfl, by go_num, HB01, HP12⟩
            case measure => simp [intOf]; omega
        · have t5 : ((k : Int) % 5 == 4) = false := beq_eq_false_iff_ne.mpr (by omega)
          by_cases hfit : FitsP s0 s1 d xu
          · have HFit := Aside0.mk hfit
            obtain ⟨ys, hys⟩ : ∃ ys, (codeL s0 s1 d xu).1 = ys := ⟨_, rfl⟩
            have HCode : Aside0 (codeL s0 s1 d xu = (ys, 0)) := ⟨by rw [← hys]; unfold codeL; rw [if_pos hfit]⟩
            obtain ⟨bn, hbn⟩ : ∃ bn, bl ++ ys = bn := ⟨_, rfl⟩
            obtain ⟨sn1, hsn1⟩ : ∃ sn1, sm ++ [(xp, xc, xu)] = sn1 := ⟨_, rfl⟩
            have HBN := Aside0.mk hbn
            have HSN := Aside0.mk hsn1
            have hyl : ys.length ≤ 36 := by rw [← hys]; exact codeL_len s0 s1 d xu
            have hbnl : bn.length ≤ 36 * (k + 1) := by rw [← hbn, List.length_append]; omega
            have hsnl : sn1.length ≤ k + 1 := by rw [← hsn1, List.length_append]; simp; omega
            have HBN01 : Aside0 (B01 bn) := ⟨by rw [← hbn, ← hys]; exact B01.append HB01.out (codeL_01 _ _ _ _)⟩
            clear hfit hys hbn hsn1
            refine (rstate_ok d A5 c5 sm xp xc _ (Kd.R_reads' HP1.out.ps).2.2 (by omega) HKey.out).mono ?_
            rintro e w1 ⟨rfl, hB⟩
            rw [HS.out]
            have HP2 := Aside0.mk (HP1.out.make hB)
            have HX2 := Aside0.mk (belO (t := 7) HX1.out hB)
            generalize upd fa wa.heap.size 7 = fb at HP2 HX2
            clear HP1 HX1
            clear hB
            have HP3 := Aside0.mk (HP2.out.make (below_alloc (Below.refl _ _) (.cells #[.int .i64 s0, .int .i64 s1] 36)))
            have HX3 := Aside0.mk (belO (t := 7) HX2.out (below_alloc (Below.refl _ _) (.cells #[.int .i64 s0, .int .i64 s1] 36)))
            have HS3 : Aside0 ((w1.alloc (.cells #[.int .i64 s0, .int .i64 s1] 36)).heap[w1.heap.size]? = some (.cells #[.int .i64 s0, .int .i64 s1] 36 (0, 0)) ∧ upd fb w1.heap.size 7 w1.heap.size = 7) := ⟨heap_alloc_new _ _, by unfold upd; rw [if_neg (Nat.lt_irrefl _)]⟩
            generalize upd fb w1.heap.size 7 = fc at HP3 HX3 HS3
            clear HP2 HX2
            have hx0 : (w1.alloc (.cells #[.int .i64 s0, .int .i64 s1] 36)).cell? ⟨gx, 0, none⟩ = some (.int .i64 xp) := (blk_cell HX3.out.1 0).trans rfl
            have hx1 : (w1.alloc (.cells #[.int .i64 s0, .int .i64 s1] 36)).cell? ⟨gx, 1, none⟩ = some (.int .i64 xc) := (blk_cell HX3.out.1 1).trans rfl
            have hx2 : (w1.alloc (.cells #[.int .i64 s0, .int .i64 s1] 36)).cell? ⟨gx, 2, none⟩ = some (.int .i64 xu) := (blk_cell HX3.out.1 2).trans rfl
            go_wp2_with fail
            generalize hwb : w1.alloc (.cells #[.int .i64 s0, .int .i64 s1] 36) = wb at HP3 HX3 HS3 ⊢
            clear hwb hx0 hx1 hx2
            generalize w1.heap.size = gs at HS3 ⊢
            refine (mstate_ok gm _ d sm xp xc _ HP3.out.pm HKey.out).mono ?_
            rintro e w2 ⟨rfl, hB⟩
            rw [HS.out]
            have HP4 := Aside0.mk (HP3.out.make hB)
            have HX4 := Aside0.mk (belO (t := 7) HX3.out hB)
            have HS4 := Aside0.mk (belO (t := 7) HS3.out hB)
            generalize upd fc wb.heap.size 7 = fd at HP4 HX4 HS4
            clear HP3 HX3 HS3
            clear hB
            have HP5 := Aside0.mk (HP4.out.make (below_alloc (Below.refl _ _) (.cells #[.int .i64 s0, .int .i64 s1] 36)))
            have HX5 := Aside0.mk (belO (t := 7) HX4.out (below_alloc (Below.refl _ _) (.cells #[.int .i64 s0, .int .i64 s1] 36)))
            have HS5 := Aside0.mk (belO (t := 7) HS4.out (below_alloc (Below.refl _ _) (.cells #[.int .i64 s0, .int .i64 s1] 36)))
            have HT5 : Aside0 ((w2.alloc (.cells #[.int .i64 s0, .int .i64 s1] 36)).heap[w2.heap.size]? = some (.cells #[.int .i64 s0, .int .i64 s1] 36 (0, 0)) ∧ upd fd w2.heap.size 7 w2.heap.size = 7) := ⟨heap_alloc_new _ _, by unfold upd; rw [if_neg (Nat.lt_irrefl _)]⟩
            generalize upd fd w2.heap.size 7 = fe at HP5 HX5 HS5 HT5
            clear HP4 HX4 HS4
            have hx0 : (w2.alloc (.cells #[.int .i64 s0, .int .i64 s1] 36)).cell? ⟨gx, 0, none⟩ = some (.int .i64 xp) := (blk_cell HX5.out.1 0).trans rfl
            have hx1 : (w2.alloc (.cells #[.int .i64 s0, .int .i64 s1] 36)).cell? ⟨gx, 1, none⟩ = some (.int .i64 xc) := (blk_cell HX5.out.1 1).trans rfl
            have hx2 : (w2.alloc (.cells #[.int .i64 s0, .int .i64 s1] 36)).cell? ⟨gx, 2, none⟩ = some (.int .i64 xu) := (blk_cell HX5.out.1 2).trans rfl
            have hs0 : (w2.alloc (.cells #[.int .i64 s0, .int .i64 s1] 36)).cell? ⟨gs, 0, none⟩ = some (.int .i64 s0) := (blk_cell HS5.out.1 0).trans rfl
            have hs1 : (w2.alloc (.cells #[.int .i64 s0, .int .i64 s1] 36)).cell? ⟨gs, 1, none⟩ = some (.int .i64 s1) := (blk_cell HS5.out.1 1).trans rfl
            have ht0 : (w2.alloc (.cells #[.int .i64 s0, .int .i64 s1] 36)).cell? ⟨w2.heap.size, 0, none⟩ = some (.int .i64 s0) := (blk_cell HT5.out.1 0).trans rfl
            have ht1 : (w2.alloc (.cells #[.int .i64 s0, .int .i64 s1] 36)).cell? ⟨w2.heap.size, 1, none⟩ = some (.int .i64 s1) := (blk_cell HT5.out.1 1).trans rfl
            go_wp2_with fail
            generalize hwc : w2.alloc (.cells #[.int .i64 s0, .int .i64 s1] 36) = wc at HP5 HX5 HS5 HT5 ⊢
            clear hwc hx0 hx1 hx2 hs0 hs1 ht0 ht1 HT5
            generalize w2.heap.size = gt
            refine (code_calls s0 s1 d xu _).mono ?_
            rintro e w3 ⟨v, rfl, hR, hB⟩
            rw [HCode.out] at hR ⊢
            obtain ⟨A2, c2, rfl⟩ := Kd.R_slice hR
            have HP6 := Aside0.mk (HP5.out.make hB)
            have HX6 := Aside0.mk (belO (t := 7) HX5.out hB)
            have HS6 := Aside0.mk (belO (t := 7) HS5.out hB)
            have hfg : ∀ k, wc.heap.size ≤ k → T (upd fe wc.heap.size 7) 7 k := fun k hk => T_upd (.inr hk)
            generalize upd fe wc.heap.size 7 = fg at HP6 HX6 HS6 hfg
            clear HP5 HX5 HS5
            have HYR : Aside0 (Kd.R (Kd.int .i64) 3 w3 wc.heap.size (T fg 7) (.slice A2 ys.length c2) ys) := ⟨Kd.R_mono (Kd.R_bound hR) (fun k hk => hfg k hk.2.1)⟩
            clear hR hB hfg
            have hx0 : w3.cell? ⟨gx, 0, none⟩ = some (.int .i64 xp) := (blk_cell HX6.out.1 0).trans rfl
            have hx1 : w3.cell? ⟨gx, 1, none⟩ = some (.int .i64 xc) := (blk_cell HX6.out.1 1).trans rfl
            have hx2 : w3.cell? ⟨gx, 2, none⟩ = some (.int .i64 xu) := (blk_cell HX6.out.1 2).trans rfl
            go_wp2_with fail
            refine (mput_calls gm gw _ _ bl d xp xc xu sm w3 HP6.out.pm.bound HP6.out.pw.bound (fun j h1 h2 => by have a := h1.1; have c := h2.1; unfold T at a c; omega) HKey.out (by omega) (by omega)).mono ?_
            rintro e w4 hT
            unfold MPut at hT
            rw [HS.out] at hT
            rcases hT with ⟨_, rfl, hW, hM, hK⟩ | ⟨hn, _⟩
            rotate_left
            · exact absurd HFit.out hn
            simp only at hW
            rw [HCode.out] at hW
            simp only at hW
            rw [HBN.out] at hW
            rw [HSN.out] at hM
            have HP7 := Aside0.mk (HP6.out.putm hW hM hK)
            have HX7 := Aside0.mk (keepO (U := fun n => n = 3 ∨ n = 1) (t := 3) HX6.out.1 HX6.out.2 (hK.1.mono (fun k hk => hk.imp (fun h => h.1) (fun h => h.1))) (by omega))
            have HYR7 := Aside0.mk (keepL (U := fun n => n = 3 ∨ n = 1) (t := 3) HYR.out (hK.1.mono (fun k hk => hk.imp (fun h => h.1) (fun h => h.1))) (by omega))
            generalize upd fg w3.heap.size 3 = fh at HP7 HX7 HYR7
            clear hW hM hK HP6 HX6 HYR hx0 hx1 hx2
            have hx0 : w4.cell? ⟨gx, 0, none⟩ = some (.int .i64 xp) := (blk_cell HX7.out.1 0).trans rfl
            have hx1 : w4.cell? ⟨gx, 1, none⟩ = some (.int .i64 xc) := (blk_cell HX7.out.1 1).trans rfl
            have hx2 : w4.cell? ⟨gx, 2, none⟩ = some (.int .i64 xu) := (blk_cell HX7.out.1 2).trans rfl
            go_wp2_with (first | ((with_reducible refine gate_builtin (b := .append) (xs := #[.tmp 167, .tmp 168]) rfl ?_); at_builtin; refine Kd.R_append_row (Value.int .i64) 0 (w0 := w) (W := w4) w.heap.size rfl (.tmp 167) (.tmp 168) 32 3 (.int .i64 0) 8 rfl Try.underlying32 infoI rfl (by decide) (.slice A6 bl.length c6) bl ys A2 ys.length c2 (fun k => T fh 6 k ∨ w4.heap.size ≤ k) rfl rfl (fun _ hk => .inr hk) (Kd.R_mono HP7.out.pl (fun _ hk => .inl hk)) (Kd.R_reads' HYR7.out).2.2 HP7.out.below HP7.out.below.size (by omega) ?_; intro v1 w6 ho hb hg hat; rw [HBN.out] at ho; obtain ⟨hq, hqo⟩ := HP7.out.appl ho hg hb; have HP9 := Aside0.mk hq; have HX9 := Aside0.mk (hqo HX7.out (by omega)); obtain ⟨A7, c7, rfl⟩ := Kd.R_slice ho; generalize upd fh w4.heap.size 6 = fj at HP9 HX9; clear ho hb hg hat hq hqo; have hz0 : w6.cell? ⟨gx, 0, none⟩ = some (.int .i64 xp) := (blk_cell HX9.out.1 0).trans rfl; have hz1 : w6.cell? ⟨gx, 1, none⟩ = some (.int .i64 xc) := (blk_cell HX9.out.1 1).trans rfl; have hz2 : w6.cell? ⟨gx, 2, none⟩ = some (.int .i64 xu) := (blk_cell HX9.out.1 2).trans rfl) | ((with_reducible refine gate_builtin (b := .append) (xs := #[.tmp 172, .tmp 180]) rfl ?_); at_builtin; refine Kd.R_append seenK (w0 := w) (W := w6) w.heap.size rfl (.tmp 172) (.tmp 180) 31 44 (.agg #[.int .i64 0, .int .i64 0, .int .i64 0]) 24 rfl Try.underlying31 infoSeen rfl (by decide) (by decide) (.slice A5 sm.length c5) sm (xp, xc, xu) [.int .i64 xp, .int .i64 xc, .int .i64 xu] (fun k => T fj 5 k ∨ w6.heap.size ≤ k) (fun _ => False) rfl rfl rfl (fun _ hk => hk.elim) (fun _ hk => .inr hk) (Kd.R_mono HP9.out.ps (fun _ hk => .inl hk)) HP9.out.below HP9.out.below.size (by omega) ?_; intro v1 w7 ho hb hg hat; rw [HSN.out] at ho; have HP10 := Aside0.mk (HP9.out.apps ho hg hb); obtain ⟨A8, c8, rfl⟩ := Kd.R_slice ho; generalize upd fj w6.heap.size 5 = fk at HP10; clear ho hb hg hat))
            clear HX9
            refine (len_calls gw _ bn w7 HP10.out.pw (by omega)).mono ?_
            rintro e w8 ⟨rfl, hD⟩
            have HP11 := Aside0.mk (HP10.out.drawn hD)
            clear hD HP10 hz0 hz1 hz2
            have t8 : ((bn.length : Int) != (bn.length : Int)) = false := by simp
            go_wp2_with fail
            refine (mseen_calls gm _ d sn1 w8 HP11.out.pm).mono ?_
            rintro e wx ⟨rfl, hw⟩
            replace hw := hw.symm
            subst hw
            go_wp2_with fail
            refine (rcount_calls A8 c8 sn1 w8 (Kd.R_reads' HP11.out.ps).2.2 (by omega)).mono ?_
            rintro e w9 ⟨rfl, hB⟩
            have HP12 := Aside0.mk (HP11.out.make hB)
            clear hB HP11
            have t9 : ((cntOf sn1 : Int) != (cntOf sn1 : Int)) = false := by simp
            go_wp2_with fail
            go_roundw
            case rel => exact ⟨k + 1, _, sn1, sn, bn, bv, A8, A7, c8, c7, by omega, by omega, by omega, by omega, by omega, rfl, rfl, by go_num, HBN01, HP12⟩
            case measure => simp [intOf]; omega
          · have HFit := Aside0.mk hfit
            have HCode : Aside0 (codeL s0 s1 d xu = ([], 1)) := ⟨by unfold codeL; rw [if_neg hfit]⟩
            clear hfit
            refine (rstate_ok d A5 c5 sm xp xc _ (Kd.R_reads' HP1.out.ps).2.2 (by omega) HKey.out).mono ?_
            rintro e w1 ⟨rfl, hB⟩
            rw [HS.out]
            have HP2 := Aside0.mk (HP1.out.make hB)
            have HX2 := Aside0.mk (belO (t := 7) HX1.out hB)
            generalize upd fa wa.heap.size 7 = fb at HP2 HX2
            clear HP1 HX1
            clear hB
            have HP3 := Aside0.mk (HP2.out.make (below_alloc (Below.refl _ _) (.cells #[.int .i64 s0, .int .i64 s1] 36)))
            have HX3 := Aside0.mk (belO (t := 7) HX2.out (below_alloc (Below.refl _ _) (.cells #[.int .i64 s0, .int .i64 s1] 36)))
            have HS3 : Aside0 ((w1.alloc (.cells #[.int .i64 s0, .int .i64 s1] 36)).heap[w1.heap.size]? = some (.cells #[.int .i64 s0, .int .i64 s1] 36 (0, 0)) ∧ upd fb w1.heap.size 7 w1.heap.size = 7) := ⟨heap_alloc_new _ _, by unfold upd; rw [if_neg (Nat.lt_irrefl _)]⟩
            generalize upd fb w1.heap.size 7 = fc at HP3 HX3 HS3
            clear HP2 HX2
            have hx0 : (w1.alloc (.cells #[.int .i64 s0, .int .i64 s1] 36)).cell? ⟨gx, 0, none⟩ = some (.int .i64 xp) := (blk_cell HX3.out.1 0).trans rfl
            have hx1 : (w1.alloc (.cells #[.int .i64 s0, .int .i64 s1] 36)).cell? ⟨gx, 1, none⟩ = some (.int .i64 xc) := (blk_cell HX3.out.1 1).trans rfl
            have hx2 : (w1.alloc (.cells #[.int .i64 s0, .int .i64 s1] 36)).cell? ⟨gx, 2, none⟩ = some (.int .i64 xu) := (blk_cell HX3.out.1 2).trans rfl
            go_wp2_with fail
            generalize hwb : w1.alloc (.cells #[.int .i64 s0, .int .i64 s1] 36) = wb at HP3 HX3 HS3 ⊢
            clear hwb hx0 hx1 hx2
            generalize w1.heap.size = gs at HS3 ⊢
            refine (mstate_ok gm _ d sm xp xc _ HP3.out.pm HKey.out).mono ?_
            rintro e w2 ⟨rfl, hB⟩
            rw [HS.out]
            have HP4 := Aside0.mk (HP3.out.make hB)
            have HX4 := Aside0.mk (belO (t := 7) HX3.out hB)
            have HS4 := Aside0.mk (belO (t := 7) HS3.out hB)
            generalize upd fc wb.heap.size 7 = fd at HP4 HX4 HS4
            clear HP3 HX3 HS3
            clear hB
            have HP5 := Aside0.mk (HP4.out.make (below_alloc (Below.refl _ _) (.cells #[.int .i64 s0, .int .i64 s1] 36)))
            have HX5 := Aside0.mk (belO (t := 7) HX4.out (below_alloc (Below.refl _ _) (.cells #[.int .i64 s0, .int .i64 s1] 36)))
            have HS5 := Aside0.mk (belO (t := 7) HS4.out (below_alloc (Below.refl _ _) (.cells #[.int .i64 s0, .int .i64 s1] 36)))
            have HT5 : Aside0 ((w2.alloc (.cells #[.int .i64 s0, .int .i64 s1] 36)).heap[w2.heap.size]? = some (.cells #[.int .i64 s0, .int .i64 s1] 36 (0, 0)) ∧ upd fd w2.heap.size 7 w2.heap.size = 7) := ⟨heap_alloc_new _ _, by unfold upd; rw [if_neg (Nat.lt_irrefl _)]⟩
            generalize upd fd w2.heap.size 7 = fe at HP5 HX5 HS5 HT5
            clear HP4 HX4 HS4
            have hx0 : (w2.alloc (.cells #[.int .i64 s0, .int .i64 s1] 36)).cell? ⟨gx, 0, none⟩ = some (.int .i64 xp) := (blk_cell HX5.out.1 0).trans rfl
            have hx1 : (w2.alloc (.cells #[.int .i64 s0, .int .i64 s1] 36)).cell? ⟨gx, 1, none⟩ = some (.int .i64 xc) := (blk_cell HX5.out.1 1).trans rfl
            have hx2 : (w2.alloc (.cells #[.int .i64 s0, .int .i64 s1] 36)).cell? ⟨gx, 2, none⟩ = some (.int .i64 xu) := (blk_cell HX5.out.1 2).trans rfl
            have hs0 : (w2.alloc (.cells #[.int .i64 s0, .int .i64 s1] 36)).cell? ⟨gs, 0, none⟩ = some (.int .i64 s0) := (blk_cell HS5.out.1 0).trans rfl
            have hs1 : (w2.alloc (.cells #[.int .i64 s0, .int .i64 s1] 36)).cell? ⟨gs, 1, none⟩ = some (.int .i64 s1) := (blk_cell HS5.out.1 1).trans rfl
            have ht0 : (w2.alloc (.cells #[.int .i64 s0, .int .i64 s1] 36)).cell? ⟨w2.heap.size, 0, none⟩ = some (.int .i64 s0) := (blk_cell HT5.out.1 0).trans rfl
            have ht1 : (w2.alloc (.cells #[.int .i64 s0, .int .i64 s1] 36)).cell? ⟨w2.heap.size, 1, none⟩ = some (.int .i64 s1) := (blk_cell HT5.out.1 1).trans rfl
            go_wp2_with fail
            generalize hwc : w2.alloc (.cells #[.int .i64 s0, .int .i64 s1] 36) = wc at HP5 HX5 HS5 HT5 ⊢
            clear hwc hx0 hx1 hx2 hs0 hs1 ht0 ht1 HT5
            generalize w2.heap.size = gt
            refine (code_calls s0 s1 d xu _).mono ?_
            rintro e w3 ⟨v, rfl, hR, hB⟩
            rw [HCode.out] at hR ⊢
            obtain ⟨A2, c2, rfl⟩ := Kd.R_slice hR
            have HP6 := Aside0.mk (HP5.out.make hB)
            have HX6 := Aside0.mk (belO (t := 7) HX5.out hB)
            have HS6 := Aside0.mk (belO (t := 7) HS5.out hB)
            have hfg : ∀ k, wc.heap.size ≤ k → T (upd fe wc.heap.size 7) 7 k := fun k hk => T_upd (.inr hk)
            generalize upd fe wc.heap.size 7 = fg at HP6 HX6 HS6 hfg
            clear HP5 HX5 HS5
            have HYR : Aside0 (Kd.R (Kd.int .i64) 3 w3 wc.heap.size (T fg 7) (.slice A2 ([] : List Int).length c2) ([] : List Int)) := ⟨Kd.R_mono (Kd.R_bound hR) (fun k hk => hfg k hk.2.1)⟩
            clear hR hB hfg
            have hx0 : w3.cell? ⟨gx, 0, none⟩ = some (.int .i64 xp) := (blk_cell HX6.out.1 0).trans rfl
            have hx1 : w3.cell? ⟨gx, 1, none⟩ = some (.int .i64 xc) := (blk_cell HX6.out.1 1).trans rfl
            have hx2 : w3.cell? ⟨gx, 2, none⟩ = some (.int .i64 xu) := (blk_cell HX6.out.1 2).trans rfl
            go_wp2_with fail
            refine (mput_calls gm gw _ _ bl d xp xc xu sm w3 HP6.out.pm.bound HP6.out.pw.bound (fun j h1 h2 => by have a := h1.1; have c := h2.1; unfold T at a c; omega) HKey.out (by omega) (by omega)).mono ?_
            rintro e w4 hT
            unfold MPut at hT
            rw [HS.out] at hT
            rcases hT with ⟨hn, _⟩ | ⟨_, rfl, hW, hM, hK⟩
            · exact absurd hn HFit.out
            replace hK := hK.mono (S' := fun k => (T fg 3 k ∧ k < w3.heap.size) ∨ (T fg 1 k ∧ k < w3.heap.size)) (fun k hk => .inl hk)
            have HP7 := Aside0.mk (HP6.out.putm hW hM hK)
            have HX7 := Aside0.mk (keepO (U := fun n => n = 3 ∨ n = 1) (t := 3) HX6.out.1 HX6.out.2 (hK.1.mono (fun k hk => hk.imp (fun h => h.1) (fun h => h.1))) (by omega))
            have HYR7 := Aside0.mk (keepL (U := fun n => n = 3 ∨ n = 1) (t := 3) HYR.out (hK.1.mono (fun k hk => hk.imp (fun h => h.1) (fun h => h.1))) (by omega))
            generalize upd fg w3.heap.size 3 = fh at HP7 HX7 HYR7
            clear hW hM hK HP6 HX6 HYR hx0 hx1 hx2
            go_wp2_with ((with_reducible refine gate_builtin (b := .append) (xs := #[.tmp 167, .tmp 168]) rfl ?_); at_builtin; refine Kd.R_append_row (Value.int .i64) 0 (w0 := w) (W := w4) w.heap.size rfl (.tmp 167) (.tmp 168) 32 3 (.int .i64 0) 8 rfl Try.underlying32 infoI rfl (by decide) (.slice A6 bl.length c6) bl ([] : List Int) A2 ([] : List Int).length c2 (fun k => T fh 6 k ∨ w4.heap.size ≤ k) rfl rfl (fun _ hk => .inr hk) (Kd.R_mono HP7.out.pl (fun _ hk => .inl hk)) (Kd.R_reads' HYR7.out).2.2 HP7.out.below HP7.out.below.size (by simp; omega) ?_; intro v1 w6 ho hb hg hat; rw [List.append_nil] at ho; obtain ⟨hq, hqo⟩ := HP7.out.appl ho hg hb; have HP9 := Aside0.mk hq; have HX9 := Aside0.mk (hqo HX7.out (by omega)); obtain ⟨A7, c7, rfl⟩ := Kd.R_slice ho; generalize upd fh w4.heap.size 6 = fj at HP9 HX9; clear ho hb hg hat hq hqo)
            clear HX9
            refine (len_calls gw _ bl w6 HP9.out.pw (by omega)).mono ?_
            rintro e w8 ⟨rfl, hD⟩
            have HP11 := Aside0.mk (HP9.out.drawn hD)
            clear hD HP9
            have t8 : ((bl.length : Int) != (bl.length : Int)) = false := by simp
            go_wp2_with fail
            refine (mseen_calls gm _ d sm w8 HP11.out.pm).mono ?_
            rintro e wx ⟨rfl, hw⟩
            replace hw := hw.symm
            subst hw
            go_wp2_with fail
            refine (rcount_calls A5 c5 sm w8 (Kd.R_reads' HP11.out.ps).2.2 (by omega)).mono ?_
            rintro e w9 ⟨rfl, hB⟩
            have HP12 := Aside0.mk (HP11.out.make hB)
            clear hB HP11
            have t9 : ((cntOf sm : Int) != (cntOf sm : Int)) = false := by simp
            go_wp2_with fail
            go_roundw
            case rel => exact ⟨k + 1, _, sm, sn, bl, bv, A5, A7, c5, c7, by omega, by omega, by omega, by omega, by omega, rfl, rfl, by go_num, HB01, HP12⟩
            case measure => simp [intOf]; omega
      · have HKey := Aside0.mk hkey
        have HCode : Aside0 (codeL 0 0 d xu = ([], 1)) := ⟨by unfold codeL; rw [if_neg (fun h => by have := h.1; unfold MayP at this; omega)]⟩
        clear hkey
        refine (rstate_bad d A5 c5 sm.length xp xc _ HKey.out).mono ?_
        rintro e w1 ⟨rfl, hB⟩
        have HP2 := Aside0.mk (HP1.out.make hB)
        have HX2 := Aside0.mk (belO (t := 7) HX1.out hB)
        generalize upd fa wa.heap.size 7 = fb at HP2 HX2
        clear HP1 HX1
        clear hB
        have HP3 := Aside0.mk (HP2.out.make (below_alloc (Below.refl _ _) (.cells #[.int .i64 0, .int .i64 0] 36)))
        have HX3 := Aside0.mk (belO (t := 7) HX2.out (below_alloc (Below.refl _ _) (.cells #[.int .i64 0, .int .i64 0] 36)))
        have HS3 : Aside0 ((w1.alloc (.cells #[.int .i64 0, .int .i64 0] 36)).heap[w1.heap.size]? = some (.cells #[.int .i64 0, .int .i64 0] 36 (0, 0)) ∧ upd fb w1.heap.size 7 w1.heap.size = 7) := ⟨heap_alloc_new _ _, by unfold upd; rw [if_neg (Nat.lt_irrefl _)]⟩
        generalize upd fb w1.heap.size 7 = fc at HP3 HX3 HS3
        clear HP2 HX2
        have hx0 : (w1.alloc (.cells #[.int .i64 0, .int .i64 0] 36)).cell? ⟨gx, 0, none⟩ = some (.int .i64 xp) := (blk_cell HX3.out.1 0).trans rfl
        have hx1 : (w1.alloc (.cells #[.int .i64 0, .int .i64 0] 36)).cell? ⟨gx, 1, none⟩ = some (.int .i64 xc) := (blk_cell HX3.out.1 1).trans rfl
        have hx2 : (w1.alloc (.cells #[.int .i64 0, .int .i64 0] 36)).cell? ⟨gx, 2, none⟩ = some (.int .i64 xu) := (blk_cell HX3.out.1 2).trans rfl
        go_wp2_with fail
        generalize hwb : w1.alloc (.cells #[.int .i64 0, .int .i64 0] 36) = wb at HP3 HX3 HS3 ⊢
        clear hwb hx0 hx1 hx2
        generalize w1.heap.size = gs at HS3 ⊢
        refine (mstate_bad gm xp xc _ HKey.out).mono ?_
        rintro e w2 ⟨rfl, hB⟩
        have HP4 := Aside0.mk (HP3.out.make hB)
        have HX4 := Aside0.mk (belO (t := 7) HX3.out hB)
        have HS4 := Aside0.mk (belO (t := 7) HS3.out hB)
        generalize upd fc wb.heap.size 7 = fd at HP4 HX4 HS4
        clear HP3 HX3 HS3
        clear hB
        have HP5 := Aside0.mk (HP4.out.make (below_alloc (Below.refl _ _) (.cells #[.int .i64 0, .int .i64 0] 36)))
        have HX5 := Aside0.mk (belO (t := 7) HX4.out (below_alloc (Below.refl _ _) (.cells #[.int .i64 0, .int .i64 0] 36)))
        have HS5 := Aside0.mk (belO (t := 7) HS4.out (below_alloc (Below.refl _ _) (.cells #[.int .i64 0, .int .i64 0] 36)))
        have HT5 : Aside0 ((w2.alloc (.cells #[.int .i64 0, .int .i64 0] 36)).heap[w2.heap.size]? = some (.cells #[.int .i64 0, .int .i64 0] 36 (0, 0)) ∧ upd fd w2.heap.size 7 w2.heap.size = 7) := ⟨heap_alloc_new _ _, by unfold upd; rw [if_neg (Nat.lt_irrefl _)]⟩
        generalize upd fd w2.heap.size 7 = fe at HP5 HX5 HS5 HT5
        clear HP4 HX4 HS4
        have hx0 : (w2.alloc (.cells #[.int .i64 0, .int .i64 0] 36)).cell? ⟨gx, 0, none⟩ = some (.int .i64 xp) := (blk_cell HX5.out.1 0).trans rfl
        have hx1 : (w2.alloc (.cells #[.int .i64 0, .int .i64 0] 36)).cell? ⟨gx, 1, none⟩ = some (.int .i64 xc) := (blk_cell HX5.out.1 1).trans rfl
        have hx2 : (w2.alloc (.cells #[.int .i64 0, .int .i64 0] 36)).cell? ⟨gx, 2, none⟩ = some (.int .i64 xu) := (blk_cell HX5.out.1 2).trans rfl
        have hs0 : (w2.alloc (.cells #[.int .i64 0, .int .i64 0] 36)).cell? ⟨gs, 0, none⟩ = some (.int .i64 0) := (blk_cell HS5.out.1 0).trans rfl
        have hs1 : (w2.alloc (.cells #[.int .i64 0, .int .i64 0] 36)).cell? ⟨gs, 1, none⟩ = some (.int .i64 0) := (blk_cell HS5.out.1 1).trans rfl
        have ht0 : (w2.alloc (.cells #[.int .i64 0, .int .i64 0] 36)).cell? ⟨w2.heap.size, 0, none⟩ = some (.int .i64 0) := (blk_cell HT5.out.1 0).trans rfl
        have ht1 : (w2.alloc (.cells #[.int .i64 0, .int .i64 0] 36)).cell? ⟨w2.heap.size, 1, none⟩ = some (.int .i64 0) := (blk_cell HT5.out.1 1).trans rfl
        go_wp2_with fail
        generalize hwc : w2.alloc (.cells #[.int .i64 0, .int .i64 0] 36) = wc at HP5 HX5 HS5 HT5 ⊢
        clear hwc hx0 hx1 hx2 hs0 hs1 ht0 ht1 HT5
        generalize w2.heap.size = gt
        refine (code_calls 0 0 d xu _).mono ?_
        rintro e w3 ⟨v, rfl, hR, hB⟩
        rw [HCode.out] at hR ⊢
        obtain ⟨A2, c2, rfl⟩ := Kd.R_slice hR
        have HP6 := Aside0.mk (HP5.out.make hB)
        have HX6 := Aside0.mk (belO (t := 7) HX5.out hB)
        have HS6 := Aside0.mk (belO (t := 7) HS5.out hB)
        generalize upd fe wc.heap.size 7 = fg at HP6 HX6 HS6
        clear HP5 HX5 HS5
        clear hR hB
        have hx0 : w3.cell? ⟨gx, 0, none⟩ = some (.int .i64 xp) := (blk_cell HX6.out.1 0).trans rfl
        have hx1 : w3.cell? ⟨gx, 1, none⟩ = some (.int .i64 xc) := (blk_cell HX6.out.1 1).trans rfl
        have hx2 : w3.cell? ⟨gx, 2, none⟩ = some (.int .i64 xu) := (blk_cell HX6.out.1 2).trans rfl
        go_wp2_with fail
        refine (mput_bad gm _ xp xc xu _ HKey.out).mono ?_
        rintro e w4 ⟨rfl, hB⟩
        have HP7 := Aside0.mk (HP6.out.make hB)
        have HX7 := Aside0.mk (belO (t := 7) HX6.out hB)
        generalize upd fg w3.heap.size 7 = fh at HP7 HX7
        clear HP6 HX6
        clear hB hx0 hx1 hx2 HS6
        go_wp2_with ((with_reducible refine gate_builtin (b := .append) (xs := #[.tmp 167, .tmp 168]) rfl ?_); at_builtin; refine Kd.R_append_row (Value.int .i64) 0 (w0 := w) (W := w4) w.heap.size rfl (.tmp 167) (.tmp 168) 32 3 (.int .i64 0) 8 rfl Try.underlying32 infoI rfl (by decide) (.slice A6 bl.length c6) bl ([] : List Int) Option.none 0 0 (fun k => T fh 6 k ∨ w4.heap.size ≤ k) rfl rfl (fun _ hk => .inr hk) (Kd.R_mono HP7.out.pl (fun _ hk => .inl hk)) (Kd.C_nil _ _) HP7.out.below HP7.out.below.size (by simp; omega) ?_; intro v1 w6 ho hb hg hat; rw [List.append_nil] at ho; obtain ⟨hq, hqo⟩ := HP7.out.appl ho hg hb; have HP9 := Aside0.mk hq; have HX9 := Aside0.mk (hqo HX7.out (by omega)); obtain ⟨A7, c7, rfl⟩ := Kd.R_slice ho; generalize upd fh w4.heap.size 6 = fj at HP9 HX9; clear ho hb hg hat hq hqo)
        clear HX9
        refine (len_calls gw _ bl w6 HP9.out.pw (by omega)).mono ?_
        rintro e w8 ⟨rfl, hD⟩
        have HP11 := Aside0.mk (HP9.out.drawn hD)
        clear hD HP9
        have t8 : ((bl.length : Int) != (bl.length : Int)) = false := by simp
        go_wp2_with fail
        refine (mseen_calls gm _ d sm w8 HP11.out.pm).mono ?_
        rintro e wx ⟨rfl, hw⟩
        replace hw := hw.symm
        subst hw
        go_wp2_with fail
        refine (rcount_calls A5 c5 sm w8 (Kd.R_reads' HP11.out.ps).2.2 (by omega)).mono ?_
        rintro e w9 ⟨rfl, hB⟩
        have HP12 := Aside0.mk (HP11.out.make hB)
        clear hB HP11
        have t9 : ((cntOf sm : Int) != (cntOf sm : Int)) = false := by simp
        go_wp2_with fail
        go_roundw
        case rel => exact ⟨k + 1, _, sm, sn, bl, bv, A5, A7, c5, c7, by omega, by omega, by omega, by omega, by omega, rfl, rfl, by go_num, HB01, HP12⟩
        case measure => simp [intOf]; omega
    · have t1 : decide ((k : Int) < (S.length : Int)) = false := decide_eq_false (by omega)
      have t2 : decide (k < S.length) = false := decide_eq_false hlt
      have hpl := packB_len bl
      obtain ⟨pk, hpk⟩ : ∃ pk, packB bl = pk := ⟨_, rfl⟩
      rw [hpk] at hpl
      have hpb : pk.length ≤ 4000 := by omega
      have HPK := Aside0.mk hpk
      clear hpk hpl
      go_wp2_with fail
      refine (bytes_calls gw _ bl wr HP.out.pw (by omega)).mono ?_
      rintro e w1 ⟨v, rfl, hR, hB⟩
      rw [HPK.out] at hR
      obtain ⟨A9, c9, rfl⟩ := Kd.R_slice hR
      have HP1 := Aside0.mk (HP.out.make hB)
      have HR1 := Aside0.mk hR
      clear hR hB HP
      go_wp2_with fail
      refine (refbytes_calls A6 c6 bl w1 (Kd.R_reads' HP1.out.pl).2.2 HB01.out (by omega)).mono ?_
      rintro e w2 ⟨v, rfl, hR, hB⟩
      rw [HPK.out] at hR
      obtain ⟨A8, c8, rfl⟩ := Kd.R_slice hR
      have HP2 := Aside0.mk (HP1.out.make hB)
      have HC8 := Aside0.mk (Kd.R_reads' hR).2.2
      have HC9 := Aside0.mk (Kd.R_reads' (Kd.R_below HR1.out hB)).2.2
      clear hR hB HP1 HR1
      go_wp2_with fail
      refine (same_calls A9 A8 c9 c8 pk pk w2 HC9.out HC8.out (by omega) (by omega)).mono ?_
      rintro e w3 ⟨rfl, hD⟩
      have HP3 := Aside0.mk (HP2.out.drawn hD)
      clear hD HP2 HC8 HC9
      rw [decide_eq_true (rfl : pk = pk)]
      go_wp2_with fail
      refine (mput_nilW gm _ d 0 0 0 sm w3 HP3.out.pm (by decide)).mono ?_
      rintro e w4 ⟨rfl, hB⟩
      have HP4 := Aside0.mk (HP3.out.make hB)
      clear hB HP3
      go_wp2_with fail
      refine (mseen_calls gm _ d sm w4 HP4.out.pm).mono ?_
      rintro e wx ⟨rfl, hw⟩
      replace hw := hw.symm
      subst hw
      go_wp2_with fail
      refine (rcount_calls A5 c5 sm w4 (Kd.R_reads' HP4.out.ps).2.2 (by omega)).mono ?_
      rintro e w5 ⟨rfl, hB⟩
      have HP5 := Aside0.mk (HP4.out.make hB)
      clear hB HP4
      go_wp2_with fail
      go_ret
      exact ⟨by simp, HP5.out.below⟩
end Go.Proofs.Ytghhfendjkocmaa.Model
