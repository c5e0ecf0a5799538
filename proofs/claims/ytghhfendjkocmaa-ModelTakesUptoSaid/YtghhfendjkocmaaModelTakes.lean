/- ModelTakes: the walk. -/
import Derived.Test.YtghhfendjkocmaaModelWords
namespace Go.Proofs.Ytghhfendjkocmaa.Model
open Go.RowKit Go.Proofs.Ytghhfendjkocmaa.Bits Go.Proofs.Ytghhfendjkocmaa.Rice Go.Proofs.YtghhfendjkocmaaW.PrintWords Go.Proofs.YtghhfendjkocmaaW.PrintMore Go.Proofs.Ytghhfendjkocmaa.BP
set_option linter.unusedVariables false
set_option linter.unusedSimpArgs false

set_option maxRecDepth 100000 in
set_option maxHeartbeats 4000000 in
theorem mtakes_one (d : Int) (A0 : Option Addr) (c0 : Nat) (b : List Int) (A : Option Addr) (c : Nat) (l : Seen) (w : World) (hC0 : Kd.C (Kd.int .u8) w A0 b.length b) (h8 : B8 b) (hb : b.length ≤ 1048576) (hC : seenK.C w A l.length l) (hlc : l.length ≤ c) (hl : l.length ≤ maxLen) :
    Calls Try.prog 4 #[.int .i64 d, .slice A0 b.length c0, .slice A l.length c] w fun e w' => e = .returned (.bool true) ∧ Below w.heap.size w w' := by
  have hu := Try.underlying36
  have hus := Try.underlying44
  have hup := Try.underlying34
  have HC0 := Aside0.mk hC0
  have HC := Aside0.mk (C_take hC 120)
  have H8 := Aside0.mk h8
  have HFew : Aside0 (∀ v, Calls Try.prog 10 #[.slice A l.length c] v fun e w' => e = .returned (.slice A (l.take 120).length c) ∧ w' = v) := ⟨fun v => few_calls A c l v hlc hl⟩
  obtain ⟨S, hS⟩ : ∃ S, l.take 120 = S := ⟨_, rfl⟩
  have hSl : S.length ≤ 120 := by rw [← hS, List.length_take]; omega
  rw [hS] at HC HFew
  clear hC0 hC h8 hS hl hlc
  by_cases hd : d < 1 ∨ 16 < d
  case pos =>
    have HD := Aside0.mk hd
    clear hd
    go_enter Try.func4, Try.ntmps4
    go_wp2_with fail
    refine (mnew_bad d HD.out _).mono ?_
    rintro e w1 ⟨rfl, hw⟩
    replace hw := hw.symm
    subst hw
    go_wp2_with fail
    refine (open_calls A0 c0 b w HC0.out H8.out (by omega)).mono ?_
    rintro e w2 ⟨gr, rfl, hR, hB⟩
    have HB2 := Aside0.mk hB
    clear hR hB
    go_wp2_with fail
    refine (mawake_calls _).mono ?_
    rintro e w3 ⟨rfl, hB⟩
    have HB3 := Aside0.mk (below_step HB2.out hB)
    clear hB
    go_wp2_with fail
    refine (mawake_calls _).mono ?_
    rintro e w4 ⟨rfl, hB⟩
    have HB4 := Aside0.mk (below_step HB3.out hB)
    clear hB
    go_wp2_with fail
    go_ret
    exact ⟨rfl, HB4.out⟩
  have hd1 : 1 ≤ d := by omega
  have hd2 : d ≤ 16 := by omega
  clear hd
  go_enter Try.func4, Try.ntmps4
  go_wp2_with fail
  refine (mnew_ok d hd1 hd2 _).mono ?_
  rintro e w1 ⟨gm, rfl, hM, hB⟩
  have HM1 : Aside0 (IsM w1 gm (T (upd (fun _ => 0) w.heap.size 1) 1) d []) := ⟨hM.mono (fun _ hk => T_upd (.inr hk))⟩
  have HB1 := Aside0.mk hB
  clear hM hB
  go_wp2_with fail
  refine (open_calls A0 c0 b w1 (Kd.C_below HC0.out HB1.out) H8.out (by omega)).mono ?_
  rintro e w2 ⟨gr, rfl, hR, hB⟩
  have HM2 := Aside0.mk (belM (t := 2) HM1.out hB)
  have HR2 : Aside0 (IsR w2 gr (T (upd (upd (fun _ => 0) w.heap.size 1) w1.heap.size 2) 2) b 0) := ⟨hR.mono (fun _ hk => T_upd (.inr hk))⟩
  have HB2 := Aside0.mk (below_step HB1.out hB)
  have hz1 := HB1.out.size
  have hz2 := hB.size
  clear hR hB HM1
  go_wp2_with fail
  refine (mawake_calls _).mono ?_
  rintro e w3 ⟨rfl, hB⟩
  have HM3 := Aside0.mk (belM (t := 7) HM2.out hB)
  have HR3 := Aside0.mk (belR (t := 7) HR2.out hB)
  have HB3 := Aside0.mk (below_step HB2.out hB)
  have hz3 := hB.size
  clear hB HM2 HR2
  go_wp2_with fail
  refine (HFew.out _).mono ?_
  rintro e w9 ⟨rfl, hw⟩
  replace hw := hw.symm
  subst hw
  go_wp2_with fail
  refine (refbits_calls A0 c0 b w3 (Kd.C_below HC0.out HB3.out) H8.out (by omega)).mono ?_
  rintro e w4 ⟨v, rfl, hR, hB⟩
  have hLl := bitsOf_len b
  obtain ⟨L, hL⟩ : ∃ L, bitsOf b = L := ⟨_, rfl⟩
  have H01 : Aside0 (B01 L) := ⟨by rw [← hL]; exact bitsOf_01 b⟩
  have HL := Aside0.mk hL
  rw [hL] at hR hLl
  obtain ⟨A1, c1, rfl⟩ := Kd.R_slice hR
  have hc1 := (Kd.R_reads' hR).2.1
  have HP : Aside0 (PT w (upd (upd (upd (upd (fun _ => 0) w.heap.size 1) w1.heap.size 2) w2.heap.size 7) w3.heap.size 3) gm gr d b 0 [] [] A1 c1 L (.slice none 0 0) w4) := ⟨by
    refine ⟨belM HM3.out hB, belR HR3.out hB, Kd.R_lower (Kd.R_mono (Kd.R_bound hR) (fun k hk => T_upd (.inr hk.2.1))) HB3.out.size, Kd.R_nil _ _ _ _ _, below_step HB3.out hB, fun k hk => ?_⟩
    unfold upd
    rw [if_pos (by omega), if_pos (by omega), if_pos (by omega), if_pos hk]⟩
  generalize (upd (upd (upd (upd (fun _ => 0) w.heap.size 1) w1.heap.size 2) w2.heap.size 7) w3.heap.size 3) = f0 at HP
  clear hR hB HM3 HR3 HB1 HB2 HB3 hL hz1 hz2 hz3
  have hLb : L.length ≤ 8388608 := by omega
  clear hLl
  go_wp2_with fail
  go_loopw [11, 12, 13] (fun v11 v12 v13 wr => ∃ (k p : Nat) (f : Nat → Nat) (sm : Seen) (A9 A5 : Option Addr) (c9 c5 : Nat) (D : List Int), k ≤ S.length ∧ sm.length ≤ k ∧ v11 = .slice A9 D.length c9 ∧ v12 = .slice A5 sm.length c5 ∧ v13 = .int .i64 k ∧ Aside0 (p ≤ L.length) ∧ Aside0 (L.drop p = D) ∧ Aside0 (D.length ≤ c9) ∧ Aside0 (∀ w', Kd.C (Kd.int .i64) w' A1 L.length L → Kd.C (Kd.int .i64) w' A9 D.length D) ∧ Aside0 (PT w f gm gr d b p sm sm A1 c1 L (.slice A5 sm.length c5) wr))
    (fun _ _ v13 _ => ((S.length : Int) - intOf v13).toNat)
  case atStart => exact ⟨0, 0, f0, [], A1, none, c1, 0, L, by omega, by simp, rfl, rfl, rfl, ⟨by omega⟩, ⟨rfl⟩, ⟨hc1⟩, ⟨fun w' h => h⟩, HP⟩
  case round =>
    clear HP
    obtain ⟨k, p, f, sm, A9, A5, c9, c5, D, hk, hsk, rfl, rfl, rfl, HPl, HDe, HC9, HA9, HP⟩ := hrel
    by_cases hlt : k < S.length
    · have t1 : decide ((k : Int) < (S.length : Int)) = true := decide_eq_true (by omega)
      have t2 : decide (k < S.length) = true := decide_eq_true hlt
      obtain ⟨ad, e1, hx0, hx1, hx2⟩ := seen_cells (Kd.C_below HC.out HP.out.below) k hlt
      cases e1
      obtain ⟨x, hx⟩ : ∃ x, S.getD k z3 = x := ⟨_, rfl⟩
      rw [hx] at hx0 hx1 hx2
      obtain ⟨xp, xc, xu⟩ := x
      simp only at hx0 hx1 hx2
      clear hx
      go_wp2_with fail
      have HP1 := Aside0.mk (HP.out.make (below_alloc (Below.refl _ _) (.cells #[.int .i64 xp, .int .i64 xc, .int .i64 xu] 34)))
      have HGX : Aside0 ((wr.alloc (.cells #[.int .i64 xp, .int .i64 xc, .int .i64 xu] 34)).heap[wr.heap.size]? = some (.cells #[.int .i64 xp, .int .i64 xc, .int .i64 xu] 34 (0, 0)) ∧ upd f wr.heap.size 7 wr.heap.size = 7) := ⟨heap_alloc_new _ _, by unfold upd; rw [if_neg (Nat.lt_irrefl _)]⟩
      generalize wr.alloc (.cells #[.int .i64 xp, .int .i64 xc, .int .i64 xu] 34) = wa at HP1 HGX ⊢
      generalize upd f wr.heap.size 7 = fa at HP1 HGX
      clear HP hx0 hx1 hx2
      generalize wr.heap.size = gx at HGX ⊢
      by_cases hkey : KeyOk xp xc
      · have HKey := Aside0.mk hkey
        obtain ⟨s0, s1, hs⟩ : ∃ s0 s1, stOf d xp xc sm = (s0, s1) := ⟨_, _, rfl⟩
        have HDl : Aside0 (D.length = L.length - p) := ⟨by rw [← HDe.out, List.length_drop]⟩
        have hDb : D.length ≤ 8388608 := by have := HDl.out; omega
        have HD01 : Aside0 (B01 D) := ⟨by rw [← HDe.out]; exact H01.out.drop _⟩
        obtain ⟨ts, hts⟩ : ∃ ts, takeS D s0 s1 d = ts := ⟨_, rfl⟩
        have HTS : Aside0 (takeS ((bitsOf b).drop ((p : Int)).toNat) (stOf d xp xc sm).1 (stOf d xp xc sm).2 d = ts) := ⟨by rw [HL.out, hs, Int.toNat_natCast, HDe.out]; exact hts⟩
        have HTS2 := Aside0.mk hts
        have hbd := @takeS_bd D HD01.out s0 s1 d
        have hzr := @takeS_zero D s0 s1 d
        rw [hts] at hbd hzr
        obtain ⟨u, kk, fe⟩ := ts
        simp only at hbd hzr
        have HS := Aside0.mk hs
        clear hs hkey hts
        refine (rstate_ok d A5 c5 sm xp xc _ (Kd.R_reads' HP1.out.ps).2.2 (by omega) HKey.out).mono ?_
        rintro e w5 ⟨rfl, hB⟩
        rw [HS.out]
        have HP2 := Aside0.mk (HP1.out.make hB)
        have HG2 := Aside0.mk (belO (t := 7) HGX.out hB)
        generalize upd fa wa.heap.size 7 = fb at HP2 HG2
        clear hB HP1 HGX
        have HP3 := Aside0.mk (HP2.out.make (below_alloc (Below.refl _ _) (.cells #[.int .i64 s0, .int .i64 s1] 36)))
        have HG3 := Aside0.mk (belO (t := 7) HG2.out (below_alloc (Below.refl _ _) (.cells #[.int .i64 s0, .int .i64 s1] 36)))
        have HN3 := Aside0.mk (heap_alloc_new w5 (.cells #[.int .i64 s0, .int .i64 s1] 36))
        generalize upd fb w5.heap.size 7 = fc at HP3 HG3
        have hy0 : (w5.alloc (.cells #[.int .i64 s0, .int .i64 s1] 36)).cell? ⟨w5.heap.size, 0, none⟩ = some (.int .i64 s0) := (blk_cell HN3.out 0).trans rfl
        have hy1 : (w5.alloc (.cells #[.int .i64 s0, .int .i64 s1] 36)).cell? ⟨w5.heap.size, 1, none⟩ = some (.int .i64 s1) := (blk_cell HN3.out 1).trans rfl
        clear HP2 HG2
        go_wp2_with fail
        refine (read_calls A9 c9 D s0 s1 d _ (HA9.out _ (Kd.R_reads' HP3.out.pl).2.2) HC9.out HD01.out (by omega)).mono ?_
        rintro e w6 ⟨rfl, hB⟩
        rw [HTS2.out]
        have HP4 := Aside0.mk (HP3.out.make hB)
        have HG4 := Aside0.mk (belO (t := 7) HG3.out hB)
        generalize upd fc (w5.alloc (.cells #[.int .i64 s0, .int .i64 s1] 36)).heap.size 7 = fd at HP4 HG4
        clear hB HP3 HG3 HN3 hy0 hy1
        have hx0 : w6.cell? ⟨gx, 0, none⟩ = some (.int .i64 xp) := (blk_cell HG4.out.1 0).trans rfl
        have hx1 : w6.cell? ⟨gx, 1, none⟩ = some (.int .i64 xc) := (blk_cell HG4.out.1 1).trans rfl
        have hx2 : w6.cell? ⟨gx, 2, none⟩ = some (.int .i64 xu) := (blk_cell HG4.out.1 2).trans rfl
        go_wp2_with fail
        refine (mtake_calls gm gr _ _ b p d xp xc sm w6 HP4.out.pm.bound HP4.out.pr.bound (fun j h1 h2 => by have a := h1.1; have c := h2.1; unfold T at a c; omega) HKey.out (by omega)).mono ?_
        rintro e w7 hT
        unfold MTake at hT
        rw [HTS.out] at hT
        simp only at hT
        rcases hT with ⟨rfl, rfl, hR, hM, hK⟩ | ⟨hne, rfl, ⟨q, hR⟩, hM, hK⟩
        · have HP5 := Aside0.mk (HP4.out.took hM hR hK)
          have HG5 := Aside0.mk (keepO (U := fun n => n = 2 ∨ n = 1) (t := 7) HG4.out.1 HG4.out.2 (hK.1.mono (fun k hk => hk.imp (fun h => h.1) (fun h => h.1))) (by omega))
          generalize upd fd w6.heap.size 7 = fg at HP5 HG5
          clear hM hR hK HP4 HG4 hx0 hx1 hx2 hzr
          have hbd := hbd rfl
          obtain ⟨m, rfl⟩ := Int.eq_ofNat_of_zero_le hbd.1
          obtain ⟨i022, hi022, _, hsz22, _⟩ := info_parts infoI
          obtain ⟨A8, hcut, hA8, hC8⟩ := print_drop_of (P := Try.prog) (Value.int .i64) 0 32 3 .i64 Try.underlying32 hi022 hsz22 A9 c9 D (m : Int) (by omega) (by omega) HC9.out
          have hmD : m ≤ D.length := by omega
          simp only [Int.toNat_natCast] at hcut hA8 hC8
          obtain ⟨E, hE⟩ : ∃ E, D.drop m = E := ⟨_, rfl⟩
          rw [hE] at hcut hA8 hC8
          have HC8 := Aside0.mk hC8
          have HA8 : Aside0 (∀ w', Kd.C (Kd.int .i64) w' A1 L.length L → Kd.C (Kd.int .i64) w' A8 E.length E) := ⟨fun w' h => Kd.C_of_reads (h1 := fun _ => rfl) (hA8 _ (Kd.reads_of_C (HA9.out w' h)))⟩
          have HD8 : Aside0 (L.drop (p + m) = E) := ⟨by rw [← hE, ← HDe.out, List.drop_drop]⟩
          have HPl8 : Aside0 (p + m ≤ L.length) := ⟨by have := HDl.out; have := HPl.out; omega⟩
          clear hE hi022 hsz22 hA8 hC8 hbd
          have hx0 : w7.cell? ⟨gx, 0, none⟩ = some (.int .i64 xp) := (blk_cell HG5.out.1 0).trans rfl
          have hx1 : w7.cell? ⟨gx, 1, none⟩ = some (.int .i64 xc) := (blk_cell HG5.out.1 1).trans rfl
          have hx2 : w7.cell? ⟨gx, 2, none⟩ = some (.int .i64 xu) := (blk_cell HG5.out.1 2).trans rfl
          have t3 : (u != u) = false := by simp
          go_wp2_with ((with_reducible refine gate_builtin (b := .append) (xs := #[.tmp 111, .tmp 118]) rfl ?_); at_builtin; refine Kd.R_append seenK (w0 := w) (W := w7) w.heap.size rfl (.tmp 111) (.tmp 118) 31 44 (.agg #[.int .i64 0, .int .i64 0, .int .i64 0]) 24 rfl Try.underlying31 infoSeen rfl (by decide) (by decide) (.slice A5 sm.length c5) sm (xp, xc, u) [.int .i64 xp, .int .i64 xc, .int .i64 u] (fun k => T fg 5 k ∨ w7.heap.size ≤ k) (fun _ => False) rfl rfl rfl (fun _ hk => hk.elim) (fun _ hk => .inr hk) (Kd.R_mono HP5.out.ps (fun _ hk => .inl hk)) HP5.out.below HP5.out.below.size (by omega) ?_; intro v1 w1 ho hb hg hat; have HP6 := Aside0.mk (HP5.out.apps ho hg hb); obtain ⟨A6, c6, rfl⟩ := Kd.R_slice ho; clear ho hb hg hat)
          go_wp2_with fail
          go_roundw
          case rel => exact ⟨k + 1, p + m, _, sm ++ [(xp, xc, u)], A8, A6, c9 - m, c6, E, by omega, by rw [List.length_append]; simp; omega, rfl, by first | rfl | (rw [List.length_append]; rfl), by go_num, HPl8, HD8, HC8, HA8, HP6⟩
          case measure => simp [intOf]; omega
        · have hu0 := hzr hne
          subst hu0
          have HP5 := Aside0.mk (HP4.out.took hM hR (hK.mono (fun k hk => .inl hk)))
          have t3 : (fe != 0) = true := bne_iff_ne.mpr hne
          have t4 : (fe != fe) = false := by simp
          clear hM hR hK HP4 HG4 hx0 hx1 hx2 hbd hzr hne
          go_wp2_with fail
          refine (mseen_calls gm _ d sm w7 HP5.out.pm).mono ?_
          rintro e wx ⟨rfl, hw⟩
          replace hw := hw.symm
          subst hw
          go_wp2_with fail
          refine (rcount_calls A5 c5 sm w7 (Kd.R_reads' HP5.out.ps).2.2 (by omega)).mono ?_
          rintro e wx ⟨rfl, hB⟩
          have HBx := Aside0.mk (below_step HP5.out.below hB)
          clear hB
          go_wp2_with fail
          go_ret
          exact ⟨by simp, HBx.out⟩
      · have HKey := Aside0.mk hkey
        clear hkey
        refine (rstate_bad d A5 c5 sm.length xp xc _ HKey.out).mono ?_
        rintro e w5 ⟨rfl, hB⟩
        have HP2 := Aside0.mk (HP1.out.make hB)
        have HG2 := Aside0.mk (belO (t := 7) HGX.out hB)
        generalize upd fa wa.heap.size 7 = fb at HP2 HG2
        clear hB HP1 HGX
        have HP3 := Aside0.mk (HP2.out.make (below_alloc (Below.refl _ _) (.cells #[.int .i64 0, .int .i64 0] 36)))
        have HG3 := Aside0.mk (belO (t := 7) HG2.out (below_alloc (Below.refl _ _) (.cells #[.int .i64 0, .int .i64 0] 36)))
        have hx0 : (w5.alloc (.cells #[.int .i64 0, .int .i64 0] 36)).cell? ⟨gx, 0, none⟩ = some (.int .i64 xp) := (blk_cell HG3.out.1 0).trans rfl
        have hx1 : (w5.alloc (.cells #[.int .i64 0, .int .i64 0] 36)).cell? ⟨gx, 1, none⟩ = some (.int .i64 xc) := (blk_cell HG3.out.1 1).trans rfl
        have hx2 : (w5.alloc (.cells #[.int .i64 0, .int .i64 0] 36)).cell? ⟨gx, 2, none⟩ = some (.int .i64 xu) := (blk_cell HG3.out.1 2).trans rfl
        go_wp2_with fail
        refine (mtake_bad gm _ xp xc _ HKey.out).mono ?_
        rintro e w6 ⟨rfl, hB⟩
        have HP4 := Aside0.mk (HP3.out.make hB)
        clear hB HP2 HG2 HP3 HG3 hx0 hx1 hx2
        go_wp2_with fail
        refine (mseen_calls gm _ d sm w6 HP4.out.pm).mono ?_
        rintro e wx ⟨rfl, hw⟩
        replace hw := hw.symm
        subst hw
        go_wp2_with fail
        refine (rcount_calls A5 c5 sm w6 (Kd.R_reads' HP4.out.ps).2.2 (by omega)).mono ?_
        rintro e wx ⟨rfl, hB⟩
        have HBx := Aside0.mk (below_step HP4.out.below hB)
        clear hB
        go_wp2_with fail
        go_ret
        exact ⟨by simp, HBx.out⟩
    · have t1 : decide ((k : Int) < (S.length : Int)) = false := decide_eq_false (by omega)
      have t2 : decide (k < S.length) = false := decide_eq_false hlt
      go_wp2_with fail
      refine (mseen_calls gm _ d sm wr HP.out.pm).mono ?_
      rintro e wx ⟨rfl, hw⟩
      replace hw := hw.symm
      subst hw
      go_wp2_with fail
      refine (rcount_calls A5 c5 sm wr (Kd.R_reads' HP.out.ps).2.2 (by omega)).mono ?_
      rintro e wx ⟨rfl, hB⟩
      have HBx := Aside0.mk (below_step HP.out.below hB)
      clear hB
      go_wp2_with fail
      go_ret
      exact ⟨by simp, HBx.out⟩
end Go.Proofs.Ytghhfendjkocmaa.Model
