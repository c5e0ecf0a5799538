/- ModelBack: the walk. -/
import Derived.Test.YtghhfendjkocmaaModelBackLaw
namespace Go.Proofs.Ytghhfendjkocmaa.Model
open Go.RowKit Go.Proofs.Ytghhfendjkocmaa.Bits Go.Proofs.Ytghhfendjkocmaa.Rice Go.Proofs.YtghhfendjkocmaaW.PrintWords Go.Proofs.YtghhfendjkocmaaW.PrintMore Go.Proofs.Ytghhfendjkocmaa.BP
set_option linter.unusedVariables false
set_option linter.unusedSimpArgs false

set_option maxRecDepth 100000 in
set_option maxHeartbeats 8000000 in
theorem mback_one (d : Int) (A : Option Addr) (c : Nat) (l : Seen) (w : World) (hC : seenK.C w A l.length l) (hlc : l.length ≤ c) (hl : l.length ≤ maxLen) :
    Calls Try.prog 6 #[.int .i64 d, .slice A l.length c] w fun e w' => e = .returned (.bool true) ∧ Below w.heap.size w w' := by
  have hu := Try.underlying36
  have hup := Try.underlying34
  have HC := Aside0.mk (C_take hC 120)
  have HFew : Aside0 (∀ v, Calls Try.prog 10 #[.slice A l.length c] v fun e w' => e = .returned (.slice A (l.take 120).length c) ∧ w' = v) := ⟨fun v => few_calls A c l v hlc hl⟩
  obtain ⟨S, hS⟩ : ∃ S, l.take 120 = S := ⟨_, rfl⟩
  have hSl : S.length ≤ 120 := by rw [← hS, List.length_take]; omega
  rw [hS] at HC HFew
  clear hC hS hl hlc
  by_cases hd : d < 1 ∨ 16 < d
  case pos =>
    have HD := Aside0.mk hd
    clear hd
    go_enter Try.func6, Try.ntmps6
    go_wp2_with fail
    refine (mnew_bad d HD.out _).mono ?_
    rintro e w1 ⟨rfl, hw⟩
    replace hw := hw.symm
    subst hw
    go_wp2_with fail
    refine (mnew_bad d HD.out _).mono ?_
    rintro e w1 ⟨rfl, hw⟩
    replace hw := hw.symm
    subst hw
    go_wp2_with fail
    refine (new_calls _).mono ?_
    rintro e w1 ⟨g1, rfl, hW, hB⟩
    have HB1 := Aside0.mk hB
    clear hW hB
    go_wp2_with fail
    refine (mawake_calls _).mono ?_
    rintro e w3 ⟨rfl, hB⟩
    have HB3 := Aside0.mk (below_step HB1.out hB)
    clear hB
    go_wp2_with fail
    refine (mawake_calls _).mono ?_
    rintro e w4 ⟨rfl, hB⟩
    have HB4 := Aside0.mk (below_step HB3.out hB)
    clear hB
    go_wp2_with fail
    go_ret
    exact ⟨rfl, HB4.out⟩
  have hd1 : 1 ≤ d := by omega
  have hd2 : d ≤ 16 := by omega
  clear hd
  go_enter Try.func6, Try.ntmps6
  go_wp2_with fail
  refine (mnew_ok d hd1 hd2 _).mono ?_
  rintro e w1 ⟨gm, rfl, hM, hB⟩
  have HM1 : Aside0 (IsM w1 gm (T (upd (fun _ => 0) w.heap.size 1) 1) d []) := ⟨hM.mono (fun _ hk => T_upd (.inr hk))⟩
  have HB1 := Aside0.mk hB
  have hz1 := hB.size
  clear hM hB
  go_wp2_with fail
  refine (mnew_ok d hd1 hd2 _).mono ?_
  rintro e w2 ⟨gn, rfl, hM, hB⟩
  have HM2 := Aside0.mk (belM (t := 2) HM1.out hB)
  have HN2 : Aside0 (IsM w2 gn (T (upd (upd (fun _ => 0) w.heap.size 1) w1.heap.size 2) 2) d []) := ⟨hM.mono (fun _ hk => T_upd (.inr hk))⟩
  have HB2 := Aside0.mk (below_step HB1.out hB)
  have hz2 := hB.size
  clear hM hB HM1
  go_wp2_with fail
  refine (new_calls _).mono ?_
  rintro e w3 ⟨gw, rfl, hW, hB⟩
  have HP0 : Aside0 (PB w (upd (upd (upd (fun _ => 0) w.heap.size 1) w1.heap.size 2) w2.heap.size 3) gm gn gw d [] none [] [] [] (.slice none 0 0) w3) := ⟨by
    refine ⟨belM HM2.out hB, belM HN2.out hB, hW.mono (fun _ hk => T_upd (.inr hk)), (fun _ _ _ e => by cases e), Kd.R_nil _ _ _ _ _, below_step HB2.out hB, fun k hk => ?_⟩
    unfold upd
    rw [if_pos (by omega), if_pos (by omega), if_pos hk]⟩
  generalize (upd (upd (upd (fun _ => 0) w.heap.size 1) w1.heap.size 2) w2.heap.size 3) = f0 at HP0
  clear hW hB HM2 HN2 HB1 HB2 hz1 hz2
  go_wp2_with fail
  refine (mawake_calls _).mono ?_
  rintro e w5 ⟨rfl, hB⟩
  have HP := Aside0.mk (HP0.out.make hB)
  generalize upd f0 w3.heap.size 7 = f1 at HP
  clear hB HP0
  go_wp2_with fail
  refine (HFew.out _).mono ?_
  rintro e w9 ⟨rfl, hw⟩
  replace hw := hw.symm
  subst hw
  go_wp2_with fail
  go_loopw [11, 12] (fun v11 v12 wr => ∃ (k : Nat) (f : Nat → Nat) (sm : Seen) (bw : List Int) (A5 : Option Addr) (c5 : Nat), k ≤ S.length ∧ sm.length ≤ k ∧ bw.length ≤ 36 * k ∧ v11 = .slice A5 sm.length c5 ∧ v12 = .int .i64 k ∧ Aside0 (bitsM d sm = bw) ∧ Aside0 (B01 bw) ∧ Aside0 (PB w f gm gn gw d bw none sm [] sm (.slice A5 sm.length c5) wr))
    (fun _ v12 _ => ((S.length : Int) - intOf v12).toNat)
  case atStart => exact ⟨0, f1, [], [], none, 0, by omega, by simp, by simp, rfl, rfl, ⟨rfl⟩, ⟨B01.nil⟩, HP⟩
  case round =>
    clear HP
    obtain ⟨k, f, sm, bw, A5, c5, hk, hsk, hbk, rfl, rfl, HBW, HB01, HP⟩ := hrel
    by_cases hlt : k < S.length
    · have t1 : decide ((k : Int) < (S.length : Int)) = true := decide_eq_true (by omega)
      have t2 : decide (k < S.length) = true := decide_eq_true hlt
      obtain ⟨ad, e1, hx0, hx1, hx2⟩ := seen_cells (Kd.C_below HC.out HP.out.below) k hlt
      cases e1
      obtain ⟨x, hx⟩ : ∃ x, S.getD k z3 = x := ⟨_, rfl⟩
      have HX := Aside0.mk hx
      rw [hx] at hx0 hx1 hx2
      obtain ⟨xp, xc, xu⟩ := x
      simp only at hx0 hx1 hx2
      clear hx
      go_wp2_with fail
      go_still_tail 17, (by kernel_rfl)
      change wpList _ _ _ _ _ wr.drew
      have HPd : Aside0 (PB w f gm gn gw d bw none sm [] sm (.slice A5 sm.length c5) wr.drew) := ⟨HP.out.drawn ⟨⟨1, rfl⟩⟩⟩
      generalize wr.drew = wa at HPd ⊢
      clear HP hx0 hx1 hx2
      by_cases hkey : KeyOk xp xc
      · have HKey := Aside0.mk hkey
        clear hkey
        by_cases hfit : FitsP (stOf d xp xc sm).1 (stOf d xp xc sm).2 d xu
        · have HFit := Aside0.mk hfit
          obtain ⟨bn, hbn⟩ : ∃ bn, bw ++ (codeL (stOf d xp xc sm).1 (stOf d xp xc sm).2 d xu).1 = bn := ⟨_, rfl⟩
          obtain ⟨sn1, hsn1⟩ : ∃ sn1, sm ++ [(xp, xc, xu)] = sn1 := ⟨_, rfl⟩
          have HSN := Aside0.mk hsn1
          have HBN := Aside0.mk hbn
          have HBW2 : Aside0 (bitsM d sn1 = bn) := ⟨by rw [← hsn1, bitsM_snoc, HBW.out, ← hbn]; rfl⟩
          have hbnl : bn.length ≤ 36 * (k + 1) := by rw [← hbn, List.length_append]; have := codeL_len (stOf d xp xc sm).1 (stOf d xp xc sm).2 d xu; omega
          have hsnl : sn1.length ≤ k + 1 := by rw [← hsn1, List.length_append]; simp; omega
          have HBN01 : Aside0 (B01 bn) := ⟨by rw [← hbn]; exact B01.append HB01.out (codeL_01 _ _ _ _)⟩
          clear hfit hbn hsn1
          go_wp2_with fail
          refine (mput_calls gm gw _ _ bw d xp xc xu sm wa HPd.out.pm.bound HPd.out.pw.bound (fun j h1 h2 => by have a := h1.1; have c := h2.1; unfold T at a c; omega) HKey.out (by omega) (by omega)).mono ?_
          rintro e w4 hT
          unfold MPut at hT
          rcases hT with ⟨_, rfl, hW, hM, hK⟩ | ⟨hn, _⟩
          rotate_left
          · exact absurd HFit.out hn
          rw [HBN.out] at hW
          rw [HSN.out] at hM
          have HP4 := Aside0.mk (HPd.out.putm hW hM hK)
          generalize upd f wa.heap.size 3 = fb at HP4
          clear hW hM hK HPd
          obtain ⟨ad', e1, hx0, hx1, hx2⟩ := seen_cells (Kd.C_below HC.out HP4.out.below) k hlt
          cases e1
          rw [HX.out] at hx0 hx1 hx2
          simp only at hx0 hx1 hx2
          go_wp2_with ((with_reducible refine gate_builtin (b := .append) (xs := #[.tmp 96, .tmp 101]) rfl ?_); at_builtin; refine Kd.R_append seenK (w0 := w) (W := w4) w.heap.size rfl (.tmp 96) (.tmp 101) 22 34 (.agg #[.int .i64 0, .int .i64 0, .int .i64 0]) 24 rfl Try.underlying22 infoStep rfl (by decide) (by decide) (.slice A5 sm.length c5) sm (xp, xc, xu) [.int .i64 xp, .int .i64 xc, .int .i64 xu] (fun k => T fb 5 k ∨ w4.heap.size ≤ k) (fun _ => False) rfl rfl rfl (fun _ hk => hk.elim) (fun _ hk => .inr hk) (Kd.R_mono HP4.out.ps (fun _ hk => .inl hk)) HP4.out.below HP4.out.below.size (by omega) ?_; intro v1 w5 ho hb hg hat; rw [HSN.out] at ho; have HP5 := Aside0.mk (HP4.out.apps ho hg hb); obtain ⟨A8, c8, rfl⟩ := Kd.R_slice ho; generalize upd fb w4.heap.size 5 = fc at HP5; clear ho hb hg hat)
          go_wp2_with fail
          go_roundw
          case rel => exact ⟨k + 1, _, sn1, bn, A8, c8, by omega, by omega, by omega, rfl, by go_num, HBW2, HBN01, HP5⟩
          case measure => simp [intOf]; omega
        · have HFit := Aside0.mk hfit
          clear hfit
          go_wp2_with fail
          refine (mput_calls gm gw _ _ bw d xp xc xu sm wa HPd.out.pm.bound HPd.out.pw.bound (fun j h1 h2 => by have a := h1.1; have c := h2.1; unfold T at a c; omega) HKey.out (by omega) (by omega)).mono ?_
          rintro e w4 hT
          unfold MPut at hT
          rcases hT with ⟨hn, _⟩ | ⟨_, rfl, hW, hM, hK⟩
          · exact absurd hn HFit.out
          have HP4 := Aside0.mk (HPd.out.putm hW hM (hK.mono (fun k hk => .inl hk)))
          clear hW hM hK HPd
          go_wp2_with fail
          go_roundw
          case rel => exact ⟨k + 1, _, sm, bw, A5, c5, by omega, by omega, by omega, rfl, by go_num, HBW, HB01, HP4⟩
          case measure => simp [intOf]; omega
      · have HKey := Aside0.mk hkey
        clear hkey
        go_wp2_with fail
        refine (mput_bad gm _ xp xc xu _ HKey.out).mono ?_
        rintro e w4 ⟨rfl, hB⟩
        have HP4 := Aside0.mk (HPd.out.make hB)
        clear hB HPd
        go_wp2_with fail
        go_roundw
        case rel => exact ⟨k + 1, _, sm, bw, A5, c5, by omega, by omega, by omega, rfl, by go_num, HBW, HB01, HP4⟩
        case measure => simp [intOf]; omega
    · have t1 : decide ((k : Int) < (S.length : Int)) = false := decide_eq_false (by omega)
      have t2 : decide (k < S.length) = false := decide_eq_false hlt
      have hpl := packB_len bw
      have hpad := bitsOf_packB HB01.out
      obtain ⟨pk, hpk⟩ : ∃ pk, packB bw = pk := ⟨_, rfl⟩
      have HP8 : Aside0 (B8 pk) := ⟨by rw [← hpk]; exact packB_B8 HB01.out⟩
      rw [hpk] at hpl hpad
      have hpb : pk.length ≤ 4000 := by omega
      have HPK := Aside0.mk hpk
      have HPad := Aside0.mk hpad
      clear hpk hpl hpad
      go_wp2_with fail
      refine (bytes_calls gw _ bw wr HP.out.pw (by omega)).mono ?_
      rintro e w1 ⟨v, rfl, hR, hB⟩
      rw [HPK.out] at hR
      obtain ⟨A9, c9, rfl⟩ := Kd.R_slice hR
      have HP1 := Aside0.mk (HP.out.make hB)
      have HC9 := Aside0.mk (Kd.R_reads' hR).2.2
      clear hR hB HP
      go_wp2_with fail
      refine (open_calls A9 c9 pk w1 HC9.out HP8.out (by omega)).mono ?_
      rintro e w2 ⟨gr, rfl, hR, hB⟩
      have HP2 : Aside0 (PB w (upd (upd f wr.heap.size 7) w1.heap.size 4) gm gn gw d bw (some (gr, pk, ((bitsM d (sm.take 0)).length : Int))) sm (sm.take 0) sm (.slice A5 sm.length c5) w2) := ⟨HP1.out.reads hR hB⟩
      generalize upd (upd f wr.heap.size 7) w1.heap.size 4 = f2 at HP2
      clear hR hB HP1 HC9
      have hGood := HP2.out.pm.2.2.1
      have HGood := Aside0.mk hGood
      clear hGood
      go_wp2_with fail
      go_loopw [14] (fun v14 wr => ∃ (j : Nat) (f : Nat → Nat), j ≤ sm.length ∧ v14 = .int .i64 j ∧ Aside0 (PB w f gm gn gw d bw (some (gr, pk, ((bitsM d (sm.take j)).length : Int))) sm (sm.take j) sm (.slice A5 sm.length c5) wr))
        (fun v14 _ => ((sm.length : Int) - intOf v14).toNat)
      case atStart => exact ⟨0, f2, by omega, rfl, HP2⟩
      case round =>
        clear HP2
        obtain ⟨j, f3, hj, rfl, HP⟩ := hrel
        by_cases hlj : j < sm.length
        · have u1 : decide ((j : Int) < (sm.length : Int)) = true := decide_eq_true (by omega)
          have u2 : decide (j < sm.length) = true := decide_eq_true hlj
          obtain ⟨ad, e1, hx0, hx1, hx2⟩ := seen_cells (Kd.R_reads' HP.out.ps).2.2 j hlj
          cases e1
          have hgj := HGood.out.at j hlj
          have HTake : Aside0 (∀ v, IsM v gn (fun k => T f3 2 k ∧ k < wr.heap.size) d (sm.take j) → IsR v gr (fun k => T f3 4 k ∧ k < wr.heap.size) pk ((bitsM d (sm.take j)).length : Int) → Calls Try.prog 24 #[.pointer (some ⟨gn, 0, none⟩), .pointer (some ⟨gr, 0, none⟩), .int .i64 (sm.getD j z3).1, .int .i64 (sm.getD j z3).2.1] v fun e w' => e = .returned (.tuple #[.int .i64 (sm.getD j z3).2.2, .int .i64 0]) ∧ IsR w' gr (fun k => T f3 4 k ∧ k < wr.heap.size) pk ((bitsM d (sm.take (j + 1))).length : Int) ∧ IsM w' gn (fun k => T f3 2 k ∧ k < wr.heap.size) d (sm.take (j + 1)) ∧ Kp v w' (fun k => (T f3 4 k ∧ k < wr.heap.size) ∨ (T f3 2 k ∧ k < wr.heap.size))) := ⟨fun v hM hR => by
            refine (mtake_calls gn gr _ _ pk _ d _ _ (sm.take j) v hM hR (fun j h1 h2 => by have a := h1.1; have c := h2.1; unfold T at a c; omega) hgj.1 (by rw [List.length_take]; omega)).mono ?_
            rintro e w' hT
            unfold MTake at hT
            rw [Int.toNat_natCast, mback_parts HGood.out hlj (by rw [HPad.out, HBW.out])] at hT
            rcases hT with ⟨_, rfl, hR, hM, hK⟩ | ⟨hn, _⟩
            · simp only at hR hM
              refine ⟨rfl, ?_, ?_, hK⟩
              · rw [show ((bitsM d (sm.take (j + 1))).length : Int) = ((bitsM d (sm.take j)).length : Int) + (((bitsM d (sm.take (j + 1))).length : Int) - ((bitsM d (sm.take j)).length : Int)) by omega]; exact hR
              · rw [take_snoc sm hlj]; exact hM
            · exact absurd rfl hn⟩
          obtain ⟨y, hy⟩ : ∃ y, sm.getD j z3 = y := ⟨_, rfl⟩
          have HY := Aside0.mk hy
          rw [hy] at hx0 hx1 hx2 HTake
          obtain ⟨yp, yc, yu⟩ := y
          simp only at hx0 hx1 hx2 HTake
          clear hy hgj
          have HMb := Aside0.mk HP.out.pn.bound
          have HRb := Aside0.mk (HP.out.pr _ _ _ rfl).bound
          go_wp2_with fail
          go_region_held3 (fun w' => w'.cell? (ad.add (j * 3)) = some (.int .i64 yp) ∧ w'.cell? ⟨(ad.add (j * 3)).block, (ad.add (j * 3)).off + 1, none⟩ = some (.int .i64 yc))
            (first | go_keep | exact ⟨hx0, hx1⟩ | exact ⟨hz0, hz1⟩)
            (first | (go_at_call 24; refine (HTake.out _ (by first | exact HMb.out | exact HMb.out.below (below_drew1 (Below.refl _ _))) (by first | exact HRb.out | exact HRb.out.below (below_drew1 (Below.refl _ _)))).mono ?_; rintro e w4 ⟨rfl, hR, hM, hK⟩; have HK4 : Aside0 (Kp wr w4 (fun k => (T f3 4 k ∧ k < wr.heap.size) ∨ (T f3 2 k ∧ k < wr.heap.size))) := ⟨by first | exact hK | exact (Kp.refl wr _).drew.then_ hK (fun k hk => .inl hk)⟩; have HP4 := Aside0.mk (HP.out.taken hM hR HK4.out); obtain ⟨ad', e1, hz0, hz1, hz2⟩ := seen_cells (Kd.R_reads' HP4.out.ps).2.2 j hlj; cases e1; rw [HY.out] at hz0 hz1 hz2; simp only at hz0 hz1 hz2; clear hM hR hK))
          clear HP HMb HRb hx0 hx1 hx2 HTake HK4
          have u3 : (yu != yu) = false := by simp
          go_wp2_with fail
          go_roundw
          case rel => exact ⟨j + 1, _, by omega, by go_num, HP4⟩
          case measure => simp [intOf]; omega
        · have u1 : decide ((j : Int) < (sm.length : Int)) = false := decide_eq_false (by omega)
          have u2 : decide (j < sm.length) = false := decide_eq_false hlj
          have hjl : j = sm.length := by omega
          subst hjl
          rw [List.take_length, HBW.out] at HP
          go_wp2_with fail
          go_loopw [17] (fun v17 wr => ∃ (j : Nat) (f : Nat → Nat), j ≤ sm.length ∧ v17 = .int .i64 j ∧ Aside0 (PB w f gm gn gw d bw (some (gr, pk, (bw.length : Int))) sm sm sm (.slice A5 sm.length c5) wr))
            (fun v17 _ => ((sm.length : Int) - intOf v17).toNat)
          case atStart => exact ⟨0, f3, by omega, rfl, HP⟩
          case round =>
            clear HP
            obtain ⟨j, f4, hj, rfl, HP⟩ := hrel
            by_cases hlj : j < sm.length
            · have u1 : decide ((j : Int) < (sm.length : Int)) = true := decide_eq_true (by omega)
              have u2 : decide (j < sm.length) = true := decide_eq_true hlj
              obtain ⟨ad, e1, hx0, hx1, hx2⟩ := seen_cells (Kd.R_reads' HP.out.ps).2.2 j hlj
              cases e1
              have hgj := HGood.out.at j hlj
              have HStm : Aside0 (∀ v, IsM v gm (T f4 1) d sm → Calls Try.prog 12 #[.pointer (some ⟨gm, 0, none⟩), .int .i64 (sm.getD j z3).1, .int .i64 (sm.getD j z3).2.1] v fun e w' => e = .returned (.tuple #[.agg #[.int .i64 (stOf d (sm.getD j z3).1 (sm.getD j z3).2.1 sm).1, .int .i64 (stOf d (sm.getD j z3).1 (sm.getD j z3).2.1 sm).2], .int .i64 0]) ∧ Below v.heap.size v w') := ⟨fun v h => mstate_ok gm _ d sm _ _ v h hgj.1⟩
              have HStn : Aside0 (∀ v (P : Nat → Prop), IsM v gn P d sm → Calls Try.prog 12 #[.pointer (some ⟨gn, 0, none⟩), .int .i64 (sm.getD j z3).1, .int .i64 (sm.getD j z3).2.1] v fun e w' => e = .returned (.tuple #[.agg #[.int .i64 (stOf d (sm.getD j z3).1 (sm.getD j z3).2.1 sm).1, .int .i64 (stOf d (sm.getD j z3).1 (sm.getD j z3).2.1 sm).2], .int .i64 0]) ∧ Below v.heap.size v w') := ⟨fun v P h => mstate_ok gn _ d sm _ _ v h hgj.1⟩
              generalize (stOf d (sm.getD j z3).1 (sm.getD j z3).2.1 sm).1 = s0 at HStm HStn
              generalize (stOf d (sm.getD j z3).1 (sm.getD j z3).2.1 sm).2 = s1 at HStm HStn
              obtain ⟨y, hy⟩ : ∃ y, sm.getD j z3 = y := ⟨_, rfl⟩
              have HY := Aside0.mk hy
              rw [hy] at hx0 hx1 hx2 HStm HStn
              obtain ⟨yp, yc, yu⟩ := y
              simp only at hx0 hx1 hx2 HStm HStn
              clear hy hgj
              go_wp2_with fail
              have hne0 := World.new_ne wr _ hx0
              go_region_held3 (fun w' => w'.cell? (ad.add (j * 3)) = some (.int .i64 yp) ∧ w'.cell? ⟨(ad.add (j * 3)).block, (ad.add (j * 3)).off + 1, none⟩ = some (.int .i64 yc))
                (first | go_keep | exact ⟨hx0, hx1⟩ | exact ⟨hz0, hz1⟩)
                (first | (go_at_call 12; refine (HStm.out _ (by first | exact HP.out.pm.below (below_drew1 (Below.refl _ _)) | exact HP.out.pm.below (below_alloc (below_drew1 (Below.refl _ _)) _))).mono ?_; rintro e w4 ⟨rfl, hB⟩; have HB4 : Aside0 (Below wr.heap.size wr w4) := ⟨below_step (by first | exact below_drew1 (Below.refl _ _) | exact below_alloc (below_drew1 (Below.refl _ _)) _) hB⟩; have hz0 := cell_later HB4.out hx0; have hz1 := cell_later HB4.out hx1; first | (have HGa : Aside0 (w4.heap[wr.heap.size]? = some (.cells #[.int .i64 0, .int .i64 0] 36 (0, 0))) := ⟨(hB.block _ (by simp)).trans (heap_alloc_new _ _)⟩; have hfz0 : w4.frozen? ⟨wr.heap.size, 0, none⟩ = false := blk_frozen HGa.out 0; have hfz1 : w4.frozen? ⟨wr.heap.size, 1, none⟩ = false := blk_frozen HGa.out 1; have hcz0 : w4.cell? ⟨wr.heap.size, 0, none⟩ = some (.int .i64 0) := (blk_cell HGa.out 0).trans rfl; have hcz1 : w4.cell? ⟨wr.heap.size, 1, none⟩ = some (.int .i64 0) := (blk_cell HGa.out 1).trans rfl; clear hB) | clear hB))
              · have HPa := Aside0.mk (HP.out.make HB4.out)
                have HP5 := Aside0.mk (HPa.out.make (below_alloc (Below.refl _ _) (.cells #[.int .i64 s0, .int .i64 s1] 36)))
                have HG5 : Aside0 ((w4.alloc (.cells #[.int .i64 s0, .int .i64 s1] 36)).heap[w4.heap.size]? = some (.cells #[.int .i64 s0, .int .i64 s1] 36 (0, 0))) := ⟨heap_alloc_new _ _⟩
                generalize upd (upd f4 wr.heap.size 7) w4.heap.size 7 = F5 at HP5
                generalize hW5 : w4.alloc (.cells #[.int .i64 s0, .int .i64 s1] 36) = W5 at HP5 HG5 ⊢
                clear hW5 HPa HB4 hz0 hz1 hne0 HP
                generalize w4.heap.size = g5 at HG5 ⊢
                obtain ⟨ad', e1, hq0, hq1, hq2⟩ := seen_cells (Kd.R_reads' HP5.out.ps).2.2 j hlj
                cases e1
                rw [HY.out] at hq0 hq1 hq2
                simp only at hq0 hq1 hq2
                clear hx0 hx1 hx2
                go_wp2_with fail
                have hne0 := World.new_ne W5 _ hq0
                go_region_held3 (fun w' => w'.cell? (ad.add (j * 3)) = some (.int .i64 yp) ∧ w'.cell? ⟨(ad.add (j * 3)).block, (ad.add (j * 3)).off + 1, none⟩ = some (.int .i64 yc))
                  (first | go_keep | exact ⟨hq0, hq1⟩ | exact ⟨hz0, hz1⟩)
                  (first | (go_at_call 12; refine (HStn.out _ _ (by first | exact HP5.out.pn.below (below_drew1 (Below.refl _ _)) | exact HP5.out.pn.below (below_alloc (below_drew1 (Below.refl _ _)) _))).mono ?_; rintro e w4 ⟨rfl, hB⟩; have HB4 : Aside0 (Below W5.heap.size W5 w4) := ⟨below_step (by first | exact below_drew1 (Below.refl _ _) | exact below_alloc (below_drew1 (Below.refl _ _)) _) hB⟩; have hz0 := cell_later HB4.out hq0; have hz1 := cell_later HB4.out hq1; first | (have HGa : Aside0 (w4.heap[W5.heap.size]? = some (.cells #[.int .i64 0, .int .i64 0] 36 (0, 0))) := ⟨(hB.block _ (by simp)).trans (heap_alloc_new _ _)⟩; have hfz0 : w4.frozen? ⟨W5.heap.size, 0, none⟩ = false := blk_frozen HGa.out 0; have hfz1 : w4.frozen? ⟨W5.heap.size, 1, none⟩ = false := blk_frozen HGa.out 1; have hcz0 : w4.cell? ⟨W5.heap.size, 0, none⟩ = some (.int .i64 0) := (blk_cell HGa.out 0).trans rfl; have hcz1 : w4.cell? ⟨W5.heap.size, 1, none⟩ = some (.int .i64 0) := (blk_cell HGa.out 1).trans rfl; clear hB) | clear hB))
                · have HPa := Aside0.mk (HP5.out.make HB4.out)
                  have HP7 := Aside0.mk (HPa.out.make (below_alloc (Below.refl _ _) (.cells #[.int .i64 s0, .int .i64 s1] 36)))
                  have HG7 : Aside0 ((w4.alloc (.cells #[.int .i64 s0, .int .i64 s1] 36)).heap[w4.heap.size]? = some (.cells #[.int .i64 s0, .int .i64 s1] 36 (0, 0))) := ⟨heap_alloc_new _ _⟩
                  have HH7 : Aside0 ((w4.alloc (.cells #[.int .i64 s0, .int .i64 s1] 36)).heap[g5]? = some (.cells #[.int .i64 s0, .int .i64 s1] 36 (0, 0))) := ⟨(heap_alloc_old _ _ (Nat.lt_of_lt_of_le (Go.Proofs.YtghhfendjkocmaaW.PrintWords.blk_lt HG5.out) HB4.out.size)).trans ((HB4.out.block _ (Go.Proofs.YtghhfendjkocmaaW.PrintWords.blk_lt HG5.out)).trans HG5.out)⟩
                  generalize upd (upd F5 W5.heap.size 7) w4.heap.size 7 = F7 at HP7
                  generalize hW7 : w4.alloc (.cells #[.int .i64 s0, .int .i64 s1] 36) = W7 at HP7 HG7 HH7 ⊢
                  clear hW7 HPa HB4 hz0 hz1 hne0 HP5 HG5
                  generalize w4.heap.size = g7 at HG7 ⊢
                  have hs0 : W7.cell? ⟨g5, 0, none⟩ = some (.int .i64 s0) := (blk_cell HH7.out 0).trans rfl
                  have hs1 : W7.cell? ⟨g5, 1, none⟩ = some (.int .i64 s1) := (blk_cell HH7.out 1).trans rfl
                  have ht0 : W7.cell? ⟨g7, 0, none⟩ = some (.int .i64 s0) := (blk_cell HG7.out 0).trans rfl
                  have ht1 : W7.cell? ⟨g7, 1, none⟩ = some (.int .i64 s1) := (blk_cell HG7.out 1).trans rfl
                  clear hq0 hq1 hq2
                  go_wp2_with fail
                  go_roundw
                  case rel => exact ⟨j + 1, _, by omega, by go_num, HP7⟩
                  case measure => simp [intOf]; omega
                · have HPa := Aside0.mk (HP5.out.make HB4.out)
                  have hlt4 := Go.Proofs.YtghhfendjkocmaaW.PrintWords.blk_lt HGa.out
                  have htg : upd F5 W5.heap.size 7 W5.heap.size = 7 := by unfold upd; rw [if_neg (Nat.lt_irrefl _)]
                  have HPb := Aside0.mk (HPa.out.put7 (k := 0) (u := .int .i64 s0) htg)
                  have htg2 : upd (upd F5 W5.heap.size 7) w4.heap.size 7 W5.heap.size = 7 := (if_pos hlt4).trans htg
                  have HP7 := Aside0.mk (HPb.out.put7 (k := 1) (u := .int .i64 s1) htg2)
                  have HG7 : Aside0 (((w4.setCell ⟨W5.heap.size, 0, none⟩ (.int .i64 s0)).setCell ⟨W5.heap.size, 1, none⟩ (.int .i64 s1)).heap[W5.heap.size]? = some (.cells #[.int .i64 s0, .int .i64 s1] 36 (0, 0))) := ⟨blk_put (blk_put HGa.out 0 _ rfl) 1 _ rfl⟩
                  have HH7 : Aside0 (((w4.setCell ⟨W5.heap.size, 0, none⟩ (.int .i64 s0)).setCell ⟨W5.heap.size, 1, none⟩ (.int .i64 s1)).heap[g5]? = some (.cells #[.int .i64 s0, .int .i64 s1] 36 (0, 0))) := ⟨by have hlg := Go.Proofs.YtghhfendjkocmaaW.PrintWords.blk_lt HG5.out; exact blk_far (blk_far ((HB4.out.block _ hlg).trans HG5.out) (p := ⟨W5.heap.size, 0, none⟩) (by simp; omega) _) (p := ⟨W5.heap.size, 1, none⟩) (by simp; omega) _⟩
                  generalize hF7 : upd _ _ 7 = F7 at HP7
                  generalize hW7 : ((w4.setCell ⟨W5.heap.size, 0, none⟩ (.int .i64 s0)).setCell ⟨W5.heap.size, 1, none⟩ (.int .i64 s1)) = W7 at HP7 HG7 HH7 ⊢
                  clear hW7 hF7 HPa HPb HB4 hz0 hz1 hne0 HGa hfz0 hfz1 hcz0 hcz1 htg htg2 hlt4 HP5 HG5
                  generalize W5.heap.size = g7 at HG7 ⊢
                  have hs0 : W7.cell? ⟨g5, 0, none⟩ = some (.int .i64 s0) := (blk_cell HH7.out 0).trans rfl
                  have hs1 : W7.cell? ⟨g5, 1, none⟩ = some (.int .i64 s1) := (blk_cell HH7.out 1).trans rfl
                  have ht0 : W7.cell? ⟨g7, 0, none⟩ = some (.int .i64 s0) := (blk_cell HG7.out 0).trans rfl
                  have ht1 : W7.cell? ⟨g7, 1, none⟩ = some (.int .i64 s1) := (blk_cell HG7.out 1).trans rfl
                  clear hq0 hq1 hq2
                  go_wp2_with fail
                  go_roundw
                  case rel => exact ⟨j + 1, _, by omega, by go_num, HP7⟩
                  case measure => simp [intOf]; omega
              · have HPa := Aside0.mk (HP.out.make HB4.out)
                have hlt4 := Go.Proofs.YtghhfendjkocmaaW.PrintWords.blk_lt HGa.out
                have htg : upd f4 wr.heap.size 7 wr.heap.size = 7 := by unfold upd; rw [if_neg (Nat.lt_irrefl _)]
                have HPb := Aside0.mk (HPa.out.put7 (k := 0) (u := .int .i64 s0) htg)
                have htg2 : upd (upd f4 wr.heap.size 7) w4.heap.size 7 wr.heap.size = 7 := (if_pos hlt4).trans htg
                have HP5 := Aside0.mk (HPb.out.put7 (k := 1) (u := .int .i64 s1) htg2)
                have HG5 : Aside0 (((w4.setCell ⟨wr.heap.size, 0, none⟩ (.int .i64 s0)).setCell ⟨wr.heap.size, 1, none⟩ (.int .i64 s1)).heap[wr.heap.size]? = some (.cells #[.int .i64 s0, .int .i64 s1] 36 (0, 0))) := ⟨blk_put (blk_put HGa.out 0 _ rfl) 1 _ rfl⟩
                generalize hF5 : upd _ _ 7 = F5 at HP5
                generalize hW5 : ((w4.setCell ⟨wr.heap.size, 0, none⟩ (.int .i64 s0)).setCell ⟨wr.heap.size, 1, none⟩ (.int .i64 s1)) = W5 at HP5 HG5 ⊢
                clear hW5 hF5 HPa HPb HB4 hz0 hz1 hne0 HGa hfz0 hfz1 hcz0 hcz1 htg htg2 hlt4 HP
                generalize wr.heap.size = g5 at HG5 ⊢
                obtain ⟨ad', e1, hq0, hq1, hq2⟩ := seen_cells (Kd.R_reads' HP5.out.ps).2.2 j hlj
                cases e1
                rw [HY.out] at hq0 hq1 hq2
                simp only at hq0 hq1 hq2
                clear hx0 hx1 hx2
                go_wp2_with fail
                have hne0 := World.new_ne W5 _ hq0
                go_region_held3 (fun w' => w'.cell? (ad.add (j * 3)) = some (.int .i64 yp) ∧ w'.cell? ⟨(ad.add (j * 3)).block, (ad.add (j * 3)).off + 1, none⟩ = some (.int .i64 yc))
                  (first | go_keep | exact ⟨hq0, hq1⟩ | exact ⟨hz0, hz1⟩)
                  (first | (go_at_call 12; refine (HStn.out _ _ (by first | exact HP5.out.pn.below (below_drew1 (Below.refl _ _)) | exact HP5.out.pn.below (below_alloc (below_drew1 (Below.refl _ _)) _))).mono ?_; rintro e w4 ⟨rfl, hB⟩; have HB4 : Aside0 (Below W5.heap.size W5 w4) := ⟨below_step (by first | exact below_drew1 (Below.refl _ _) | exact below_alloc (below_drew1 (Below.refl _ _)) _) hB⟩; have hz0 := cell_later HB4.out hq0; have hz1 := cell_later HB4.out hq1; first | (have HGa : Aside0 (w4.heap[W5.heap.size]? = some (.cells #[.int .i64 0, .int .i64 0] 36 (0, 0))) := ⟨(hB.block _ (by simp)).trans (heap_alloc_new _ _)⟩; have hfz0 : w4.frozen? ⟨W5.heap.size, 0, none⟩ = false := blk_frozen HGa.out 0; have hfz1 : w4.frozen? ⟨W5.heap.size, 1, none⟩ = false := blk_frozen HGa.out 1; have hcz0 : w4.cell? ⟨W5.heap.size, 0, none⟩ = some (.int .i64 0) := (blk_cell HGa.out 0).trans rfl; have hcz1 : w4.cell? ⟨W5.heap.size, 1, none⟩ = some (.int .i64 0) := (blk_cell HGa.out 1).trans rfl; clear hB) | clear hB))
                · have HPa := Aside0.mk (HP5.out.make HB4.out)
                  have HP7 := Aside0.mk (HPa.out.make (below_alloc (Below.refl _ _) (.cells #[.int .i64 s0, .int .i64 s1] 36)))
                  have HG7 : Aside0 ((w4.alloc (.cells #[.int .i64 s0, .int .i64 s1] 36)).heap[w4.heap.size]? = some (.cells #[.int .i64 s0, .int .i64 s1] 36 (0, 0))) := ⟨heap_alloc_new _ _⟩
                  have HH7 : Aside0 ((w4.alloc (.cells #[.int .i64 s0, .int .i64 s1] 36)).heap[g5]? = some (.cells #[.int .i64 s0, .int .i64 s1] 36 (0, 0))) := ⟨(heap_alloc_old _ _ (Nat.lt_of_lt_of_le (Go.Proofs.YtghhfendjkocmaaW.PrintWords.blk_lt HG5.out) HB4.out.size)).trans ((HB4.out.block _ (Go.Proofs.YtghhfendjkocmaaW.PrintWords.blk_lt HG5.out)).trans HG5.out)⟩
                  generalize upd (upd F5 W5.heap.size 7) w4.heap.size 7 = F7 at HP7
                  generalize hW7 : w4.alloc (.cells #[.int .i64 s0, .int .i64 s1] 36) = W7 at HP7 HG7 HH7 ⊢
                  clear hW7 HPa HB4 hz0 hz1 hne0 HP5 HG5
                  generalize w4.heap.size = g7 at HG7 ⊢
                  have hs0 : W7.cell? ⟨g5, 0, none⟩ = some (.int .i64 s0) := (blk_cell HH7.out 0).trans rfl
                  have hs1 : W7.cell? ⟨g5, 1, none⟩ = some (.int .i64 s1) := (blk_cell HH7.out 1).trans rfl
                  have ht0 : W7.cell? ⟨g7, 0, none⟩ = some (.int .i64 s0) := (blk_cell HG7.out 0).trans rfl
                  have ht1 : W7.cell? ⟨g7, 1, none⟩ = some (.int .i64 s1) := (blk_cell HG7.out 1).trans rfl
                  clear hq0 hq1 hq2
                  go_wp2_with fail
                  go_roundw
                  case rel => exact ⟨j + 1, _, by omega, by go_num, HP7⟩
                  case measure => simp [intOf]; omega
                · have HPa := Aside0.mk (HP5.out.make HB4.out)
                  have hlt4 := Go.Proofs.YtghhfendjkocmaaW.PrintWords.blk_lt HGa.out
                  have htg : upd F5 W5.heap.size 7 W5.heap.size = 7 := by unfold upd; rw [if_neg (Nat.lt_irrefl _)]
                  have HPb := Aside0.mk (HPa.out.put7 (k := 0) (u := .int .i64 s0) htg)
                  have htg2 : upd (upd F5 W5.heap.size 7) w4.heap.size 7 W5.heap.size = 7 := (if_pos hlt4).trans htg
                  have HP7 := Aside0.mk (HPb.out.put7 (k := 1) (u := .int .i64 s1) htg2)
                  have HG7 : Aside0 (((w4.setCell ⟨W5.heap.size, 0, none⟩ (.int .i64 s0)).setCell ⟨W5.heap.size, 1, none⟩ (.int .i64 s1)).heap[W5.heap.size]? = some (.cells #[.int .i64 s0, .int .i64 s1] 36 (0, 0))) := ⟨blk_put (blk_put HGa.out 0 _ rfl) 1 _ rfl⟩
                  have HH7 : Aside0 (((w4.setCell ⟨W5.heap.size, 0, none⟩ (.int .i64 s0)).setCell ⟨W5.heap.size, 1, none⟩ (.int .i64 s1)).heap[g5]? = some (.cells #[.int .i64 s0, .int .i64 s1] 36 (0, 0))) := ⟨by have hlg := Go.Proofs.YtghhfendjkocmaaW.PrintWords.blk_lt HG5.out; exact blk_far (blk_far ((HB4.out.block _ hlg).trans HG5.out) (p := ⟨W5.heap.size, 0, none⟩) (by simp; omega) _) (p := ⟨W5.heap.size, 1, none⟩) (by simp; omega) _⟩
                  generalize hF7 : upd _ _ 7 = F7 at HP7
                  generalize hW7 : ((w4.setCell ⟨W5.heap.size, 0, none⟩ (.int .i64 s0)).setCell ⟨W5.heap.size, 1, none⟩ (.int .i64 s1)) = W7 at HP7 HG7 HH7 ⊢
                  clear hW7 hF7 HPa HPb HB4 hz0 hz1 hne0 HGa hfz0 hfz1 hcz0 hcz1 htg htg2 hlt4 HP5 HG5
                  generalize W5.heap.size = g7 at HG7 ⊢
                  have hs0 : W7.cell? ⟨g5, 0, none⟩ = some (.int .i64 s0) := (blk_cell HH7.out 0).trans rfl
                  have hs1 : W7.cell? ⟨g5, 1, none⟩ = some (.int .i64 s1) := (blk_cell HH7.out 1).trans rfl
                  have ht0 : W7.cell? ⟨g7, 0, none⟩ = some (.int .i64 s0) := (blk_cell HG7.out 0).trans rfl
                  have ht1 : W7.cell? ⟨g7, 1, none⟩ = some (.int .i64 s1) := (blk_cell HG7.out 1).trans rfl
                  clear hq0 hq1 hq2
                  go_wp2_with fail
                  go_roundw
                  case rel => exact ⟨j + 1, _, by omega, by go_num, HP7⟩
                  case measure => simp [intOf]; omega

            · have u1 : decide ((j : Int) < (sm.length : Int)) = false := decide_eq_false (by omega)
              have u2 : decide (j < sm.length) = false := decide_eq_false hlj
              go_wp2_with fail
              refine (at_calls gr _ pk _ wr (HP.out.pr _ _ _ rfl)).mono ?_
              rintro e wx ⟨rfl, hw⟩
              replace hw := hw.symm
              subst hw
              go_wp2_with fail
              refine (len_calls gw _ bw wr HP.out.pw (by omega)).mono ?_
              rintro e w1 ⟨rfl, hD⟩
              have HP1 := Aside0.mk (HP.out.drawn hD)
              have u3 : (((bw.length : Nat) : Int) == (bw.length : Int)) = true := by simp
              clear hD HP
              go_wp2_with fail
              refine (end_calls gr _ pk _ w1 (HP1.out.pr _ _ _ rfl)).mono ?_
              rintro e w2 ⟨rfl, hD⟩
              have HE : Aside0 (endL ((bitsOf pk).drop ((bw.length : Int)).toNat) = 0) := ⟨by rw [Int.toNat_natCast, HPad.out]; exact endL_pad (by omega)⟩
              rw [HE.out]
              have HP2 := Aside0.mk (HP1.out.drawn hD)
              clear hD HP1
              go_wp2_with fail
              refine (mseen_calls gm _ d sm w2 HP2.out.pm).mono ?_
              rintro e wx ⟨rfl, hw⟩
              replace hw := hw.symm
              subst hw
              go_wp2_with fail
              refine (mseen_calls gn _ d sm w2 HP2.out.pn).mono ?_
              rintro e wx ⟨rfl, hw⟩
              replace hw := hw.symm
              subst hw
              go_wp2_with fail
              go_ret
              exact ⟨by simp, HP2.out.below⟩
end Go.Proofs.Ytghhfendjkocmaa.Model
