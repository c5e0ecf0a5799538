/- BitsPuts: the walk. -/
import Derived.Test.YthplmngignmieaaTags
import Derived.Test.YthplmngignmieaaBitsTold
import Derived.Test.YthplmngignmieaaRefApart
import Derived.Test.YthplmngignmieaaBitsAwake
namespace Go.Proofs.Ythplmngignmieaa.Bits
open Go.RowKit Go.Proofs.YthplmngignmieaaW.PrintWords Go.Proofs.YthplmngignmieaaW.PrintMore Go.Proofs.Ythplmngignmieaa.BP
set_option linter.unusedVariables false
set_option linter.unusedSimpArgs false

/-- Two writers and two lists of bits, each in blocks of its own. -/
structure PS (w : World) (f : Nat → Nat) (gv gw : Nat) (b1 b2 b3 b4 : List Int) (v5 v6 : Value) (wr : World) : Prop where
  pv : IsW wr gv (T f 1) b1
  pw : IsW wr gw (T f 2) b2
  pl : Kd.R (Kd.int .i64) 3 wr w.heap.size (T f 3) v5 b3
  pm : Kd.R (Kd.int .i64) 3 wr w.heap.size (T f 4) v6 b4
  below : Below w.heap.size w wr
  zero : ∀ b, b < w.heap.size → f b = 0
section
variable {w : World} {f : Nat → Nat} {gv gw : Nat} {b1 b2 b3 b4 : List Int} {v5 v6 : Value} {wr w1 : World}
theorem PS.at0 (h : PS w f gv gw b1 b2 b3 b4 v5 v6 wr) (t : Nat) : ∀ b, b < w.heap.size → upd f wr.heap.size t b = 0 := fun b hb => by
  unfold upd
  rw [if_pos (Nat.lt_of_lt_of_le hb h.below.size)]; exact h.zero b hb
theorem PS.ge (h : PS w f gv gw b1 b2 b3 b4 v5 v6 wr) {t : Nat} (ht : t ≠ 0) : ∀ b, T f t b → w.heap.size ≤ b := fun b hb => by
  rcases Nat.lt_or_ge b w.heap.size with h2 | h2
  · exact absurd (hb.symm.trans (h.zero b h2)) ht
  · exact h2
theorem PS.make (h : PS w f gv gw b1 b2 b3 b4 v5 v6 wr) (hB : Below wr.heap.size wr w1) (t : Nat) (ht : 5 ≤ t) : PS w (upd f wr.heap.size t) gv gw b1 b2 b3 b4 v5 v6 w1 :=
  have hk := Kept.of_below hB (T f t)
  ⟨mv_W h.pv hk (by omega), mv_W h.pw hk (by omega), mv_R h.pl hk (by omega), mv_R h.pm hk (by omega), below_step h.below hB, h.at0 t⟩
theorem below_R {α : Type} {d : Kd α} {e base : Nat} {s t : Nat} {v : Value} {xs : List α} (h : d.R e wr base (T f s) v xs) (hB : Below wr.heap.size wr w1) : d.R e w1 base (T (upd f wr.heap.size t) s) v xs := Kd.R_mono (Kd.R_below (Kd.R_bound h) hB) (fun b hb => T_old hb.1 hb.2.2.1)
theorem PS.drawn (h : PS w f gv gw b1 b2 b3 b4 v5 v6 wr) (hD : Drawn0 wr w1) : PS w f gv gw b1 b2 b3 b4 v5 v6 w1 := by
  obtain ⟨n, rfl⟩ := hD.out
  exact ⟨h.pv.below (pw_below_drewN (Below.refl _ _) n), h.pw.below (pw_below_drewN (Below.refl _ _) n), Kd.R_drewN h.pl n, Kd.R_drewN h.pm n, pw_below_drewN h.below n, h.zero⟩
theorem PS.putv {b : List Int} (h : PS w f gv gw b1 b2 b3 b4 v5 v6 wr) (hW : IsW w1 gv (fun k => T f 1 k ∨ wr.heap.size ≤ k) b) (hk : Kp wr w1 (T f 1)) : PS w (upd f wr.heap.size 1) gv gw b b2 b3 b4 v5 v6 w1 :=
  ⟨mine_W hW, mv_W h.pw hk.1 (by omega), mv_R h.pl hk.1 (by omega), mv_R h.pm hk.1 (by omega), below_kp h.below hk (h.ge (t := 1) (by omega)) (Nat.le_refl _), h.at0 1⟩
theorem PS.putw {b : List Int} (h : PS w f gv gw b1 b2 b3 b4 v5 v6 wr) (hW : IsW w1 gw (fun k => T f 2 k ∨ wr.heap.size ≤ k) b) (hk : Kp wr w1 (T f 2)) : PS w (upd f wr.heap.size 2) gv gw b1 b b3 b4 v5 v6 w1 :=
  ⟨mv_W h.pv hk.1 (by omega), mine_W hW, mv_R h.pl hk.1 (by omega), mv_R h.pm hk.1 (by omega), below_kp h.below hk (h.ge (t := 2) (by omega)) (Nat.le_refl _), h.at0 2⟩
theorem PS.appl {b : List Int} {v : Value} (h : PS w f gv gw b1 b2 b3 b4 v5 v6 wr) (hR : Kd.R (Kd.int .i64) 3 w1 w.heap.size (fun k => T f 3 k ∨ wr.heap.size ≤ k) v b) (hg : wr.grownBy w1 v5.ownBlock) (hB : Below w.heap.size w w1) : PS w (upd f wr.heap.size 3) gv gw b1 b2 b b4 v v6 w1 :=
  have hk := Kept.of_grown hg (Kept.refl wr (T f 3)) (fun k hk => .inl (h.pl.1 k hk))
  ⟨mv_W h.pv hk (by omega), mv_W h.pw hk (by omega), mine_R hR, mv_R h.pm hk (by omega), hB, h.at0 3⟩
theorem PS.appm {b : List Int} {v : Value} (h : PS w f gv gw b1 b2 b3 b4 v5 v6 wr) (hR : Kd.R (Kd.int .i64) 3 w1 w.heap.size (fun k => T f 4 k ∨ wr.heap.size ≤ k) v b) (hg : wr.grownBy w1 v6.ownBlock) (hB : Below w.heap.size w w1) : PS w (upd f wr.heap.size 4) gv gw b1 b2 b3 b v5 v w1 :=
  have hk := Kept.of_grown hg (Kept.refl wr (T f 4)) (fun k hk => .inl (h.pm.1 k hk))
  ⟨mv_W h.pv hk (by omega), mv_W h.pw hk (by omega), mv_R h.pl hk (by omega), mine_R hR, hB, h.at0 4⟩
theorem PS.other (h : PS w f gv gw b1 b2 b3 b4 v5 v6 wr) {g : Nat} {t : Nat} (ht : 5 ≤ t) (hg : f g = t) (k : Nat) (u : Value) : PS w f gv gw b1 b2 b3 b4 v5 v6 (wr.setCell ⟨g, k, none⟩ u) :=
  have hne : ∀ s, s < 5 → ∀ b, T f s b → b ≠ g := fun s hs b hb e => by unfold T at hb; rw [e, hg] at hb; omega
  have hk : Kept wr (wr.setCell ⟨g, k, none⟩ u) (fun b => b = g) := (Kept.refl wr (fun b => b = g)).setCell (p := ⟨g, k, Option.none⟩) (.inl rfl) u
  ⟨h.pv.kept hk (fun b hb e => hne 1 (by omega) b hb e), h.pw.kept hk (fun b hb e => hne 2 (by omega) b hb e), Kd.R_kept h.pl hk (fun b hb e => hne 3 (by omega) b hb e), Kd.R_kept h.pm hk (fun b hb e => hne 4 (by omega) b hb e),
    below_set h.below (h.ge (t := t) (by omega) g hg), h.zero⟩
end

set_option maxRecDepth 100000 in
set_option maxHeartbeats 4000000 in
theorem puts_one (A : Option Addr) (c : Nat) (l : List StepT) (w : World) (hC : stepK.C w A l.length l) (hl : l.length ≤ 1048576) (hN : ∀ s, s ∈ l → s.2.1 < 9223372036854775808) :
    Calls Try.prog 3 #[.slice A l.length c] w fun e w' => e = .returned (.bool true) ∧ Below w.heap.size w w' := by
  have HC := Aside0.mk hC
  have HN := Aside0.mk hN
  have hu := Try.underlying30
  clear hC hN
  go_enter Try.func3, Try.ntmps3
  go_wp2_with fail
  refine (new_calls _).mono ?_
  rintro e wa ⟨gv, rfl, hW, hB⟩
  have HWa := Aside0.mk hW
  have HBa := Aside0.mk hB
  clear hW hB
  go_wp2_with fail
  refine (new_calls _).mono ?_
  rintro e wb ⟨gw, rfl, hW, hB⟩
  have HP0 : Aside0 (PS w (upd (upd (fun _ => 0) w.heap.size 1) wa.heap.size 2) gv gw [] [] [] [] (.slice none 0 0) (.slice none 0 0) wb) := ⟨by
    have h1 : IsW wa gv (T (upd (fun _ => 0) w.heap.size 1) 1) [] := mine_W (HWa.out.mono (fun _ hk => .inr hk))
    refine ⟨mv_W h1 (Kept.of_below hB (T _ 2)) (by omega), mine_W (hW.mono (fun _ hk => .inr hk)), Kd.R_nil _ _ _ _ _, Kd.R_nil _ _ _ _ _, below_step HBa.out hB, fun b hb => ?_⟩
    unfold upd
    rw [if_pos (Nat.lt_of_lt_of_le hb HBa.out.size), if_pos hb]⟩
  clear hW hB HWa HBa
  go_wp2_with fail
  refine (awake_calls _).mono ?_
  rintro e wc ⟨rfl, hB⟩
  have HP1 := Aside0.mk (HP0.out.make hB 5 (by omega))
  clear HP0 hB
  go_wp2_with fail
  go_loopw [5, 6, 7] (fun v5 v6 v7 wr => ∃ (k : Nat) (f : Nat → Nat) (bl bm : List Int) (A5 A6 : Option Addr) (c5 c6 : Nat), k ≤ l.length ∧ v5 = .slice A5 bl.length c5 ∧ v6 = .slice A6 bm.length c6 ∧ v7 = .int .i64 k ∧ Aside0 (B01 bl ∧ B01 bm) ∧ Aside0 (bl.length ≤ 65 * k ∧ bm.length ≤ 65 * k) ∧ Aside0 (PS w f gv gw bl bm bl bm (.slice A5 bl.length c5) (.slice A6 bm.length c6) wr))
    (fun _ _ v7 _ => (l.length - intOf v7).toNat)
  case atStart => exact ⟨0, _, [], [], none, none, 0, 0, by omega, rfl, rfl, rfl, ⟨B01.nil, B01.nil⟩, ⟨by simp, by simp⟩, HP1⟩
  case round =>
    clear HP1
    obtain ⟨k, f, bl, bm, A5, A6, c5, c6, hk, rfl, rfl, rfl, H01, HLN, HP⟩ := hrel
    by_cases hlt : k < l.length
    · have t1 : decide ((k : Int) < (l.length : Int)) = true := decide_eq_true (by omega)
      have t2 : decide (k < l.length) = true := decide_eq_true hlt
      obtain ⟨ad, e1, hx0, hx1, hx2⟩ := step_cells HC.out k hlt
      cases e1
      have hn := HN.out _ (List.getElem_mem hlt)
      have hgs : l.getD k step0 = l[k] := by rw [List.getD_eq_getElem?_getD, List.getElem?_eq_getElem hlt]; rfl
      rw [← hgs] at hn
      generalize l.getD k step0 = s at hx0 hx1 hx2 hn
      clear hgs
      obtain ⟨o, n, m⟩ := s
      simp only at hx0 hx1 hx2 hn
      have HCell : Aside0 (∀ wx, Below w.heap.size w wx → wx.cell? (ad.add (k * 3)) = some (.bool o) ∧ wx.cell? ⟨(ad.add (k * 3)).block, (ad.add (k * 3)).off + 1, none⟩ = some (.int .i64 n) ∧ wx.cell? ⟨(ad.add (k * 3)).block, (ad.add (k * 3)).off + 2, none⟩ = some (.int .i64 m)) := ⟨fun wx hb => ⟨pw_cell_below hb hx0, pw_cell_below hb hx1, pw_cell_below hb hx2⟩⟩
      obtain ⟨hy0, hy1, hy2⟩ := HCell.out _ HP.out.below
      clear hx0 hx1 hx2
      go_wp2_with fail
      refine (told_calls o n m _ hn).mono ?_
      rintro e w2 ⟨v, ok, ys, rfl, hR, hB, hs1, hs2⟩
      obtain ⟨A2, c2, rfl⟩ := Kd.R_slice hR
      have HYR := Aside0.mk (Kd.R_reads' hR).2.2
      replace HP := Aside0.mk (HP.out.make hB 5 (by omega))
      generalize upd f wr.heap.size 5 = f at HP
      clear hR hB hy0 hy1 hy2 hn
      obtain ⟨hy0, hy1, hy2⟩ := HCell.out _ HP.out.below
      cases hst : stepL (o, n, m) with
      | none =>
        have hok := hs2 hst
        subst hok
        have HST := Aside0.mk hst
        clear hs1 hs2 hst
        have HY : Aside0 (Kd.C (Kd.int .i64) w2 Option.none ([] : List Int).length []) := ⟨Kd.C_nil _ _⟩
        by_cases hk4 : k % 4 = 3
        · have t3 : ((k : Int) % 4 == 3) = true := beq_iff_eq.mpr (by omega)
          go_wp2_with ((with_reducible refine gate_builtin (b := .append) (xs := #[.tmp 47, .tmp 48]) rfl ?_); at_builtin; refine Kd.R_append_row (Value.int .i64) 0 (w0 := w) (W := w2) w.heap.size rfl (.tmp 47) (.tmp 48) 26 3 (.int .i64 0) 8 rfl Try.underlying26 infoI rfl (by decide) (.slice A6 bm.length c6) bm ([] : List Int) Option.none 0 0 (fun k => T f 4 k ∨ w2.heap.size ≤ k) rfl rfl (fun _ hk => .inr hk) (Kd.R_mono HP.out.pm (fun _ hk => .inl hk)) HY.out HP.out.below HP.out.below.size (by have := HLN.out; simp; omega) ?_; intro v1 w1 ho hb hg hat; replace HP := Aside0.mk (HP.out.appm ho hg hb); generalize upd f w2.heap.size 4 = f at HP; rw [List.append_nil] at HP ho; obtain ⟨A7, c7, rfl⟩ := Kd.R_slice ho; clear ho hb hg hat hy0 hy1 hy2; obtain ⟨hy0, hy1, hy2⟩ := HCell.out _ HP.out.below)
          refine (puts_calls gw _ bm o n m _ HP.out.pw (by have := HLN.out; omega)).mono ?_
          rintro e w3 hS
          have hK := hS.2.2
          obtain ⟨he, hW⟩ := hS.2.1 HST.out
          subst he
          replace HP := Aside0.mk (HP.out.putw hW hK)
          generalize upd f w1.heap.size 2 = f at HP
          clear hW hK hS hy0 hy1 hy2
          go_wp2_with fail
          go_roundw
          case rel => exact ⟨k + 1, f, bl, bm, A5, A7, c5, c7, by omega, rfl, rfl, by go_num, ⟨H01.out.1, H01.out.2⟩, ⟨by have := HLN.out; omega, by have := HLN.out; omega⟩, HP⟩
          case measure => simp [intOf]; omega
        · have t3 : ((k : Int) % 4 == 3) = false := beq_eq_false_iff_ne.mpr (by omega)
          go_wp2_with ((with_reducible refine gate_builtin (b := .append) (xs := #[.tmp 58, .tmp 59]) rfl ?_); at_builtin; refine Kd.R_append_row (Value.int .i64) 0 (w0 := w) (W := w2) w.heap.size rfl (.tmp 58) (.tmp 59) 26 3 (.int .i64 0) 8 rfl Try.underlying26 infoI rfl (by decide) (.slice A5 bl.length c5) bl ([] : List Int) Option.none 0 0 (fun k => T f 3 k ∨ w2.heap.size ≤ k) rfl rfl (fun _ hk => .inr hk) (Kd.R_mono HP.out.pl (fun _ hk => .inl hk)) HY.out HP.out.below HP.out.below.size (by have := HLN.out; simp; omega) ?_; intro v1 w1 ho hb hg hat; replace HP := Aside0.mk (HP.out.appl ho hg hb); generalize upd f w2.heap.size 3 = f at HP; rw [List.append_nil] at HP ho; obtain ⟨A7, c7, rfl⟩ := Kd.R_slice ho; clear ho hb hg hat hy0 hy1 hy2; obtain ⟨hy0, hy1, hy2⟩ := HCell.out _ HP.out.below)
          refine (puts_calls gv _ bl o n m _ HP.out.pv (by have := HLN.out; omega)).mono ?_
          rintro e w3 hS
          have hK := hS.2.2
          obtain ⟨he, hW⟩ := hS.2.1 HST.out
          subst he
          replace HP := Aside0.mk (HP.out.putv hW hK)
          generalize upd f w1.heap.size 1 = f at HP
          clear hW hK hS hy0 hy1 hy2
          have hML : bl.length ≤ 68157440 := by have := HLN.out; omega
          have HM01 : Aside0 (B01 bl) := ⟨H01.out.1⟩
          have HMV := Aside0.mk HP.out.pv
          go_wp2_with fail
          refine (len_calls gv _ bl w3 HMV.out (by omega)).mono ?_
          rintro e w4 ⟨rfl, hD⟩
          replace HP := Aside0.mk (HP.out.drawn hD)
          clear hD HMV
          have t9 : ((bl.length : Int) != (bl.length : Int)) = false := by simp
          go_wp2_with fail
          refine (bytes_calls gv _ bl w4 HP.out.pv (by omega)).mono ?_
          rintro e w5 ⟨v9, rfl, hR, hB⟩
          have hpl := packB_len bl
          obtain ⟨pk, hpk⟩ : ∃ pk, packB bl = pk := ⟨_, rfl⟩
          rw [hpk] at hR hpl
          have hpb : pk.length ≤ 8519681 := by omega
          obtain ⟨A9, c9, rfl⟩ := Kd.R_slice hR
          have HRB := Aside0.mk (new_R (t := 5) (f := f) hR)
          replace HP := Aside0.mk (HP.out.make hB 5 (by omega))
          generalize upd f w4.heap.size 5 = f at HP HRB
          generalize w4.heap.size = Z at HRB
          have HPK := Aside0.mk hpk
          clear hR hB hpk hpl t9
          go_wp2_with fail
          refine (refbytes_calls A7 c7 bl w5 ((Kd.R_reads' HP.out.pl).2.2) HM01.out (by omega)).mono ?_
          rintro e w6 ⟨v8, rfl, hR, hB⟩
          rw [HPK.out] at hR
          obtain ⟨A8, c8, rfl⟩ := Kd.R_slice hR
          have HCB := Aside0.mk (Kd.R_reads' hR).2.2
          replace HRB := Aside0.mk (below_R (t := 5) HRB.out hB)
          replace HP := Aside0.mk (HP.out.make hB 5 (by omega))
          generalize upd f w5.heap.size 5 = f at HP HRB
          clear hR hB
          go_wp2_with fail
          refine (same_calls A9 A8 c9 c8 pk pk w6 (Kd.R_reads' HRB.out).2.2 HCB.out (by omega) (by omega)).mono ?_
          rintro e w7 ⟨rfl, hD⟩
          replace HP := Aside0.mk (HP.out.drawn hD)
          have HRB7 : Aside0 (Kd.R (Kd.int .u8) 5 w7 Z (T f 5) (.slice A9 pk.length c9) pk) := by obtain ⟨q, rfl⟩ := hD.out; exact ⟨Kd.R_drewN HRB.out q⟩
          clear hD HRB HCB
          go_wp2_with fail
          go_loopw [12] (fun v12 wr => ∃ (j : Nat) (xs : List Int), j ≤ pk.length ∧ v12 = .int .i64 j ∧ Aside0 (xs.length = pk.length) ∧ Aside0 (Kd.R (Kd.int .u8) 5 wr Z (T f 5) (.slice A9 pk.length c9) xs) ∧ Aside0 (PS w f gv gw bl bm bl bm (.slice A7 bl.length c7) (.slice A6 bm.length c6) wr)) (fun v12 _ => (pk.length - intOf v12).toNat)
          case atStart => exact ⟨0, pk, by omega, rfl, ⟨rfl⟩, HRB7, HP⟩
          case round =>
            clear HRB7 HP
            obtain ⟨j, xs, hj, rfl, HXL, HRB, HP⟩ := hrel
            by_cases hlj : j < pk.length
            · have t5 : decide ((j : Int) < (pk.length : Int)) = true := decide_eq_true (by omega)
              have t6 : decide (j < pk.length) = true := decide_eq_true hlj
              obtain ⟨g9, cap9, e9, _, _, _⟩ := Kd.R_form HRB.out (by rw [HXL.out]; omega)
              obtain ⟨rfl, _, rfl⟩ : A9 = some ⟨g9, 0, Option.none⟩ ∧ pk.length = xs.length ∧ c9 = cap9 := by simpa using e9
              obtain ⟨hx, hf⟩ := Kd.R_celln 0 HRB.out (j : Int) (by omega) (by omega)
              rw [Int.toNat_natCast] at hx hf
              have hPg := (Kd.R_putg HRB.out (j : Int) 255).1
              rw [Int.toNat_natCast] at hPg
              have HRB2 := Aside0.mk hPg
              have HP2 := Aside0.mk (HP.out.other (t := 5) (by omega) (HRB.out.1 g9 (by simp [Value.ownBlock])) j (.int .u8 255))
              have HXL2 : Aside0 ((xs.set j 255).length = pk.length) := ⟨by rw [List.length_set]; exact HXL.out⟩
              obtain ⟨x9, hx9⟩ : ∃ x9, Value.int .u8 (rdOf 0 xs (j : Int)) = x9 := ⟨_, rfl⟩
              rw [hx9] at hx
              clear hPg e9 hx9
              go_wp2_with fail
              go_roundw
              case rel => exact ⟨j + 1, _, by omega, by go_num, HXL2, HRB2, HP2⟩
              case measure => simp [intOf]; omega
            · have t5 : decide ((j : Int) < (pk.length : Int)) = false := decide_eq_false (by omega)
              have t6 : decide (j < pk.length) = false := decide_eq_false hlj
              go_wp2_with fail
              go_roundw
              case rel => exact ⟨k + 1, f, bl, bm, A7, A6, c7, c6, by omega, rfl, rfl, by go_num, ⟨HM01.out, H01.out.2⟩, ⟨by have := HLN.out; omega, by have := HLN.out; omega⟩, HP⟩
              case measure => simp [intOf]; omega
      | some z =>
        obtain ⟨hok, hyz⟩ := hs1 z hst
        subst hok
        subst hyz
        have HST := Aside0.mk hst
        have H02 := Aside0.mk (stepL_01 hst)
        have HYL := Aside0.mk (stepL_len hst)
        clear hs1 hs2 hst
        by_cases hk4 : k % 4 = 3
        · have t3 : ((k : Int) % 4 == 3) = true := beq_iff_eq.mpr (by omega)
          obtain ⟨bn, hbn⟩ : ∃ bn, bn = bm ++ ys := ⟨_, rfl⟩
          have HBN := Aside0.mk hbn
          have HBL : Aside0 (bn.length ≤ 65 * (k + 1)) := ⟨by rw [hbn, List.length_append]; have := HLN.out; have := HYL.out; omega⟩
          have HB01 : Aside0 (B01 bn) := ⟨by rw [hbn]; exact B01.append H01.out.2 H02.out⟩
          clear hbn
          go_wp2_with ((with_reducible refine gate_builtin (b := .append) (xs := #[.tmp 47, .tmp 48]) rfl ?_); at_builtin; refine Kd.R_append_row (Value.int .i64) 0 (w0 := w) (W := w2) w.heap.size rfl (.tmp 47) (.tmp 48) 26 3 (.int .i64 0) 8 rfl Try.underlying26 infoI rfl (by decide) (.slice A6 bm.length c6) bm ys A2 ys.length c2 (fun k => T f 4 k ∨ w2.heap.size ≤ k) rfl rfl (fun _ hk => .inr hk) (Kd.R_mono HP.out.pm (fun _ hk => .inl hk)) HYR.out HP.out.below HP.out.below.size (by have := HLN.out; have := HYL.out; omega) ?_; intro v1 w1 ho hb hg hat; replace HP := Aside0.mk (HP.out.appm ho hg hb); generalize upd f w2.heap.size 4 = f at HP; rw [← HBN.out] at HP ho; obtain ⟨A7, c7, rfl⟩ := Kd.R_slice ho; clear ho hb hg hat hy0 hy1 hy2; obtain ⟨hy0, hy1, hy2⟩ := HCell.out _ HP.out.below)
          refine (puts_calls gw _ bm o n m _ HP.out.pw (by have := HLN.out; omega)).mono ?_
          rintro e w3 hS
          have hK := hS.2.2
          obtain ⟨he, hW⟩ := hS.1 _ HST.out
          subst he
          rw [← HBN.out] at hW
          replace HP := Aside0.mk (HP.out.putw hW hK)
          generalize upd f w1.heap.size 2 = f at HP
          clear hW hK hS hy0 hy1 hy2
          go_wp2_with fail
          go_roundw
          case rel => exact ⟨k + 1, f, bl, bn, A5, A7, c5, c7, by omega, rfl, rfl, by go_num, ⟨H01.out.1, HB01.out⟩, ⟨by have := HLN.out; omega, HBL.out⟩, HP⟩
          case measure => simp [intOf]; omega
        · have t3 : ((k : Int) % 4 == 3) = false := beq_eq_false_iff_ne.mpr (by omega)
          obtain ⟨bn, hbn⟩ : ∃ bn, bn = bl ++ ys := ⟨_, rfl⟩
          have HBN := Aside0.mk hbn
          have HBL : Aside0 (bn.length ≤ 65 * (k + 1)) := ⟨by rw [hbn, List.length_append]; have := HLN.out; have := HYL.out; omega⟩
          have HB01 : Aside0 (B01 bn) := ⟨by rw [hbn]; exact B01.append H01.out.1 H02.out⟩
          clear hbn
          go_wp2_with ((with_reducible refine gate_builtin (b := .append) (xs := #[.tmp 58, .tmp 59]) rfl ?_); at_builtin; refine Kd.R_append_row (Value.int .i64) 0 (w0 := w) (W := w2) w.heap.size rfl (.tmp 58) (.tmp 59) 26 3 (.int .i64 0) 8 rfl Try.underlying26 infoI rfl (by decide) (.slice A5 bl.length c5) bl ys A2 ys.length c2 (fun k => T f 3 k ∨ w2.heap.size ≤ k) rfl rfl (fun _ hk => .inr hk) (Kd.R_mono HP.out.pl (fun _ hk => .inl hk)) HYR.out HP.out.below HP.out.below.size (by have := HLN.out; have := HYL.out; omega) ?_; intro v1 w1 ho hb hg hat; replace HP := Aside0.mk (HP.out.appl ho hg hb); generalize upd f w2.heap.size 3 = f at HP; rw [← HBN.out] at HP ho; obtain ⟨A7, c7, rfl⟩ := Kd.R_slice ho; clear ho hb hg hat hy0 hy1 hy2; obtain ⟨hy0, hy1, hy2⟩ := HCell.out _ HP.out.below)
          refine (puts_calls gv _ bl o n m _ HP.out.pv (by have := HLN.out; omega)).mono ?_
          rintro e w3 hS
          have hK := hS.2.2
          obtain ⟨he, hW⟩ := hS.1 _ HST.out
          subst he
          rw [← HBN.out] at hW
          replace HP := Aside0.mk (HP.out.putv hW hK)
          generalize upd f w1.heap.size 1 = f at HP
          clear hW hK hS hy0 hy1 hy2
          have hML : bn.length ≤ 68157440 := by have := HLN.out; have := HBL.out; omega
          have HM01 : Aside0 (B01 bn) := HB01
          have HMV := Aside0.mk HP.out.pv
          go_wp2_with fail
          refine (len_calls gv _ bn w3 HMV.out (by omega)).mono ?_
          rintro e w4 ⟨rfl, hD⟩
          replace HP := Aside0.mk (HP.out.drawn hD)
          clear hD HMV
          have t9 : ((bn.length : Int) != (bn.length : Int)) = false := by simp
          go_wp2_with fail
          refine (bytes_calls gv _ bn w4 HP.out.pv (by omega)).mono ?_
          rintro e w5 ⟨v9, rfl, hR, hB⟩
          have hpl := packB_len bn
          obtain ⟨pk, hpk⟩ : ∃ pk, packB bn = pk := ⟨_, rfl⟩
          rw [hpk] at hR hpl
          have hpb : pk.length ≤ 8519681 := by omega
          obtain ⟨A9, c9, rfl⟩ := Kd.R_slice hR
          have HRB := Aside0.mk (new_R (t := 5) (f := f) hR)
          replace HP := Aside0.mk (HP.out.make hB 5 (by omega))
          generalize upd f w4.heap.size 5 = f at HP HRB
          generalize w4.heap.size = Z at HRB
          have HPK := Aside0.mk hpk
          clear hR hB hpk hpl t9
          go_wp2_with fail
          refine (refbytes_calls A7 c7 bn w5 ((Kd.R_reads' HP.out.pl).2.2) HM01.out (by omega)).mono ?_
          rintro e w6 ⟨v8, rfl, hR, hB⟩
          rw [HPK.out] at hR
          obtain ⟨A8, c8, rfl⟩ := Kd.R_slice hR
          have HCB := Aside0.mk (Kd.R_reads' hR).2.2
          replace HRB := Aside0.mk (below_R (t := 5) HRB.out hB)
          replace HP := Aside0.mk (HP.out.make hB 5 (by omega))
          generalize upd f w5.heap.size 5 = f at HP HRB
          clear hR hB
          go_wp2_with fail
          refine (same_calls A9 A8 c9 c8 pk pk w6 (Kd.R_reads' HRB.out).2.2 HCB.out (by omega) (by omega)).mono ?_
          rintro e w7 ⟨rfl, hD⟩
          replace HP := Aside0.mk (HP.out.drawn hD)
          have HRB7 : Aside0 (Kd.R (Kd.int .u8) 5 w7 Z (T f 5) (.slice A9 pk.length c9) pk) := by obtain ⟨q, rfl⟩ := hD.out; exact ⟨Kd.R_drewN HRB.out q⟩
          clear hD HRB HCB
          go_wp2_with fail
          go_loopw [12] (fun v12 wr => ∃ (j : Nat) (xs : List Int), j ≤ pk.length ∧ v12 = .int .i64 j ∧ Aside0 (xs.length = pk.length) ∧ Aside0 (Kd.R (Kd.int .u8) 5 wr Z (T f 5) (.slice A9 pk.length c9) xs) ∧ Aside0 (PS w f gv gw bn bm bn bm (.slice A7 bn.length c7) (.slice A6 bm.length c6) wr)) (fun v12 _ => (pk.length - intOf v12).toNat)
          case atStart => exact ⟨0, pk, by omega, rfl, ⟨rfl⟩, HRB7, HP⟩
          case round =>
            clear HRB7 HP
            obtain ⟨j, xs, hj, rfl, HXL, HRB, HP⟩ := hrel
            by_cases hlj : j < pk.length
            · have t5 : decide ((j : Int) < (pk.length : Int)) = true := decide_eq_true (by omega)
              have t6 : decide (j < pk.length) = true := decide_eq_true hlj
              obtain ⟨g9, cap9, e9, _, _, _⟩ := Kd.R_form HRB.out (by rw [HXL.out]; omega)
              obtain ⟨rfl, _, rfl⟩ : A9 = some ⟨g9, 0, Option.none⟩ ∧ pk.length = xs.length ∧ c9 = cap9 := by simpa using e9
              obtain ⟨hx, hf⟩ := Kd.R_celln 0 HRB.out (j : Int) (by omega) (by omega)
              rw [Int.toNat_natCast] at hx hf
              have hPg := (Kd.R_putg HRB.out (j : Int) 255).1
              rw [Int.toNat_natCast] at hPg
              have HRB2 := Aside0.mk hPg
              have HP2 := Aside0.mk (HP.out.other (t := 5) (by omega) (HRB.out.1 g9 (by simp [Value.ownBlock])) j (.int .u8 255))
              have HXL2 : Aside0 ((xs.set j 255).length = pk.length) := ⟨by rw [List.length_set]; exact HXL.out⟩
              obtain ⟨x9, hx9⟩ : ∃ x9, Value.int .u8 (rdOf 0 xs (j : Int)) = x9 := ⟨_, rfl⟩
              rw [hx9] at hx
              clear hPg e9 hx9
              go_wp2_with fail
              go_roundw
              case rel => exact ⟨j + 1, _, by omega, by go_num, HXL2, HRB2, HP2⟩
              case measure => simp [intOf]; omega
            · have t5 : decide ((j : Int) < (pk.length : Int)) = false := decide_eq_false (by omega)
              have t6 : decide (j < pk.length) = false := decide_eq_false hlj
              go_wp2_with fail
              go_roundw
              case rel => exact ⟨k + 1, f, bn, bm, A7, A6, c7, c6, by omega, rfl, rfl, by go_num, ⟨HM01.out, H01.out.2⟩, ⟨HBL.out, by have := HLN.out; omega⟩, HP⟩
              case measure => simp [intOf]; omega
    · have t1 : decide ((k : Int) < (l.length : Int)) = false := decide_eq_false (by omega)
      have t2 : decide (k < l.length) = false := decide_eq_false hlt
      have hbl : bl.length ≤ 68157440 := by have := HLN.out; omega
      have hbm : bm.length ≤ 68157440 := by have := HLN.out; omega
      have hpl := packB_len bl
      have hql := packB_len bm
      obtain ⟨pk, hpk⟩ : ∃ pk, packB bl = pk := ⟨_, rfl⟩
      obtain ⟨qk, hqk⟩ : ∃ qk, packB bm = qk := ⟨_, rfl⟩
      rw [hpk] at hpl
      rw [hqk] at hql
      have hpb : pk.length ≤ 8519681 := by omega
      have hqb : qk.length ≤ 8519681 := by omega
      have HPKp := Aside0.mk hpk
      have HPKq := Aside0.mk hqk
      clear hpk hqk hpl hql
      go_wp2_with fail
      refine (bytes_calls gv _ bl wr HP.out.pv (by omega)).mono ?_
      rintro e w1 ⟨vx, rfl, hR, hB⟩
      rw [HPKp.out] at hR
      obtain ⟨Ax, cx, rfl⟩ := Kd.R_slice hR
      have HRx := Aside0.mk (Kd.R_lower (new_R (t := 6) (f := f) hR) (Nat.zero_le _))
      replace HP := Aside0.mk (HP.out.make hB 6 (by omega))
      generalize upd f wr.heap.size 6 = f at HP HRx
      clear hR hB
      go_wp2_with fail
      refine (bytes_calls gv _ bl w1 HP.out.pv (by omega)).mono ?_
      rintro e w2 ⟨vy, rfl, hR, hB⟩
      rw [HPKp.out] at hR
      obtain ⟨Ay, cy, rfl⟩ := Kd.R_slice hR
      have HRy := Aside0.mk (Kd.R_lower (new_R (t := 7) (f := f) hR) (Nat.zero_le _))
      replace HRx := Aside0.mk (below_R (t := 7) HRx.out hB)
      replace HP := Aside0.mk (HP.out.make hB 7 (by omega))
      generalize upd f w1.heap.size 7 = f at HP HRx HRy
      clear hR hB
      go_wp2_with fail
      refine (bytes_calls gw _ bm w2 HP.out.pw (by omega)).mono ?_
      rintro e w3 ⟨vz, rfl, hR, hB⟩
      rw [HPKq.out] at hR
      obtain ⟨Az, cz, rfl⟩ := Kd.R_slice hR
      have HRz := Aside0.mk (Kd.R_lower (new_R (t := 8) (f := f) hR) (Nat.zero_le _))
      replace HRx := Aside0.mk (below_R (t := 8) HRx.out hB)
      replace HRy := Aside0.mk (below_R (t := 8) HRy.out hB)
      replace HP := Aside0.mk (HP.out.make hB 8 (by omega))
      generalize upd f w2.heap.size 8 = f at HP HRx HRy HRz
      clear hR hB
      go_wp2_with fail
      refine (len_calls gw _ bm w3 HP.out.pw (by omega)).mono ?_
      rintro e w4 ⟨rfl, hD⟩
      replace HP := Aside0.mk (HP.out.drawn hD)
      obtain ⟨q, hq⟩ := hD.out
      replace HRx := Aside0.mk (hq ▸ Kd.R_drewN HRx.out q)
      replace HRy := Aside0.mk (hq ▸ Kd.R_drewN HRy.out q)
      replace HRz := Aside0.mk (hq ▸ Kd.R_drewN HRz.out q)
      clear hD hq
      have t9 : ((bm.length : Int) != (bm.length : Int)) = false := by simp
      go_wp2_with fail
      refine (refbytes_calls A5 c5 bl w4 (Kd.R_reads' HP.out.pl).2.2 H01.out.1 (by omega)).mono ?_
      rintro e w5 ⟨vp, rfl, hR, hB⟩
      rw [HPKp.out] at hR
      obtain ⟨Ap, cp, rfl⟩ := Kd.R_slice hR
      have HCp := Aside0.mk (Kd.R_reads' hR).2.2
      replace HRx := Aside0.mk (below_R (t := 5) HRx.out hB)
      replace HRy := Aside0.mk (below_R (t := 5) HRy.out hB)
      replace HRz := Aside0.mk (below_R (t := 5) HRz.out hB)
      replace HP := Aside0.mk (HP.out.make hB 5 (by omega))
      generalize upd f w4.heap.size 5 = f at HP HRx HRy HRz
      clear hR hB
      go_wp2_with fail
      refine (same_calls Ax Ap cx cp pk pk w5 (Kd.R_reads' HRx.out).2.2 HCp.out (by omega) (by omega)).mono ?_
      rintro e w6 ⟨rfl, hD⟩
      replace HP := Aside0.mk (HP.out.drawn hD)
      obtain ⟨q, hq⟩ := hD.out
      replace HRx := Aside0.mk (hq ▸ Kd.R_drewN HRx.out q)
      replace HRy := Aside0.mk (hq ▸ Kd.R_drewN HRy.out q)
      replace HRz := Aside0.mk (hq ▸ Kd.R_drewN HRz.out q)
      clear hD hq
      go_wp2_with fail
      refine (same_calls Ay Ax cy cx pk pk w6 (Kd.R_reads' HRy.out).2.2 (Kd.R_reads' HRx.out).2.2 (by omega) (by omega)).mono ?_
      rintro e w7 ⟨rfl, hD⟩
      replace HP := Aside0.mk (HP.out.drawn hD)
      obtain ⟨q, hq⟩ := hD.out
      replace HRx := Aside0.mk (hq ▸ Kd.R_drewN HRx.out q)
      replace HRy := Aside0.mk (hq ▸ Kd.R_drewN HRy.out q)
      replace HRz := Aside0.mk (hq ▸ Kd.R_drewN HRz.out q)
      clear hD hq
      go_wp2_with fail
      refine (refbytes_calls A6 c6 bm w7 (Kd.R_reads' HP.out.pm).2.2 H01.out.2 (by omega)).mono ?_
      rintro e w8 ⟨vq, rfl, hR, hB⟩
      rw [HPKq.out] at hR
      obtain ⟨Aq, cq, rfl⟩ := Kd.R_slice hR
      have HCq := Aside0.mk (Kd.R_reads' hR).2.2
      replace HRx := Aside0.mk (below_R (t := 5) HRx.out hB)
      replace HRy := Aside0.mk (below_R (t := 5) HRy.out hB)
      replace HRz := Aside0.mk (below_R (t := 5) HRz.out hB)
      replace HP := Aside0.mk (HP.out.make hB 5 (by omega))
      generalize upd f w7.heap.size 5 = f at HP HRx HRy HRz
      clear hR hB
      go_wp2_with fail
      refine (same_calls Az Aq cz cq qk qk w8 (Kd.R_reads' HRz.out).2.2 HCq.out (by omega) (by omega)).mono ?_
      rintro e w9 ⟨rfl, hD⟩
      replace HP := Aside0.mk (HP.out.drawn hD)
      obtain ⟨q, hq⟩ := hD.out
      replace HRx := Aside0.mk (hq ▸ Kd.R_drewN HRx.out q)
      replace HRy := Aside0.mk (hq ▸ Kd.R_drewN HRy.out q)
      replace HRz := Aside0.mk (hq ▸ Kd.R_drewN HRz.out q)
      clear hD hq
      obtain ⟨W, hW⟩ : ∃ W, W = w9.alloc (.cells #[.slice Ax pk.length cx, .slice Ay pk.length cy, .slice Az qk.length cz] 34) := ⟨_, rfl⟩
      have HBW : Aside0 (Below w9.heap.size w9 W) := ⟨by rw [hW]; exact below_alloc (Below.refl _ _) _⟩
      have HKW : Aside0 (W.heap[w9.heap.size]? = some (.cells #[.slice Ax pk.length cx, .slice Ay pk.length cy, .slice Az qk.length cz] 34 (0, 0))) := ⟨by rw [hW]; exact heap_alloc_new w9 _⟩
      have HSW : Aside0 (W.heap.size = w9.heap.size + 1) := ⟨by rw [hW]; simp⟩
      obtain ⟨rows, hrows⟩ : ∃ rows : List SV, rows = [(Ax, pk.length, cx), (Ay, pk.length, cy), (Az, qk.length, cz)] := ⟨_, rfl⟩
      have hrl : rows.length = 3 := by rw [hrows]; rfl
      have HCW : Aside0 (svK.C W (some ⟨w9.heap.size, 0, Option.none⟩) rows.length rows) := ⟨by
        refine Kd.C_of_reads (d := sv0) ⟨rfl, by rw [hrl]; decide, fun _ => ⟨_, rfl, fun j hj => ?_⟩⟩
        rw [add_plain, blk_cell HKW.out j, hrows]
        rw [hrl] at hj
        rcases (by omega : j = 0 ∨ j = 1 ∨ j = 2) with e | e | e <;> subst e <;> rfl⟩
      have HRW : Aside0 (Rows W rows (fun i b => T f (6 + i) b ∧ b < w9.heap.size) (fun i => if i = 2 then qk else pk)) := ⟨⟨fun i hi => by
        rw [hrl] at hi
        unfold rowV
        rw [hrows]
        rcases (by omega : i = 0 ∨ i = 1 ∨ i = 2) with e | e | e <;> subst e
        · exact Kd.R_mono (Kd.R_below (Kd.R_bound HRx.out) HBW.out) (fun b hb => ⟨hb.1, hb.2.2.1⟩)
        · exact Kd.R_mono (Kd.R_below (Kd.R_bound HRy.out) HBW.out) (fun b hb => ⟨hb.1, hb.2.2.1⟩)
        · exact Kd.R_mono (Kd.R_below (Kd.R_bound HRz.out) HBW.out) (fun b hb => ⟨hb.1, hb.2.2.1⟩)⟩⟩
      have HAP := apart_calls (some ⟨w9.heap.size, 0, Option.none⟩) 3 rows (fun i b => T f (6 + i) b ∧ b < w9.heap.size) (fun i => if i = 2 then qk else pk) W HCW.out (by omega) HRW.out (fun i b hb => by have := HSW.out; have := hb.2; omega) (fun i j b _ _ h1 h2 => by have a := h1.1; have c := h2.1; unfold T at a c; omega) (fun ad e b hb => by cases e; obtain ⟨i, _, hb⟩ := hb; have := hb.2; show b ≠ w9.heap.size; omega) (fun ad e _ => by cases e; have := HSW.out; show w9.heap.size < W.heap.size; omega) (fun i => by show (if i = 2 then qk else pk).length < 1099511627776; split <;> omega)
      rw [hrl] at HAP
      have HAPC := Aside0.mk HAP
      have HWE := Aside0.mk hW
      clear HAP hrows hrl HCW HRW hW
      go_wp2_with fail
      rw [← HWE.out]
      refine HAPC.out.mono ?_
      rintro e w10 ⟨rfl, hK⟩
      have HKK := Aside0.mk hK
      have hdis : ∀ s, s < 6 → ∀ b, T f s b → ¬ OwnOf 3 (fun i b => T f (6 + i) b ∧ b < w9.heap.size) b := fun s hs b hb ho => by
        obtain ⟨i, _, ho, _⟩ := ho
        unfold T at hb ho
        omega
      have HV10 : Aside0 (IsW w10 gv (T f 1) bl) := ⟨(HP.out.pv.below HBW.out).kept hK.1 (hdis 1 (by omega))⟩
      have HL10 : Aside0 (Kd.R (Kd.int .i64) 3 w10 w.heap.size (T f 3) (.slice A5 bl.length c5) bl) := ⟨Kd.R_kept (Kd.R_below HP.out.pl HBW.out) hK.1 (hdis 3 (by omega))⟩
      have HB10 : Aside0 (Below w.heap.size w w10) := ⟨below_kp (below_step HP.out.below HBW.out) hK (fun b hb => by obtain ⟨i, _, ho, _⟩ := hb; exact HP.out.ge (t := 6 + i) (by omega) b ho) (Nat.le_refl _)⟩
      clear hK hdis HKK HRx HRy HRz HP HKW HBW HSW HWE HAPC
      go_wp2_with fail
      refine (bytes_calls gv _ bl w10 HV10.out (by omega)).mono ?_
      rintro e w11 ⟨v11, rfl, hR, hB⟩
      rw [HPKp.out] at hR
      obtain ⟨A11, c11, rfl⟩ := Kd.R_slice hR
      have HR11 := Aside0.mk (Kd.R_reads' hR).2.2
      have HL11 := Aside0.mk (Kd.R_below HL10.out hB)
      have HB11 := Aside0.mk (below_step HB10.out hB)
      clear hR hB
      go_wp2_with fail
      refine (refbytes_calls A5 c5 bl w11 (Kd.R_reads' HL11.out).2.2 H01.out.1 (by omega)).mono ?_
      rintro e w12 ⟨v12, rfl, hR, hB⟩
      rw [HPKp.out] at hR
      obtain ⟨A12, c12, rfl⟩ := Kd.R_slice hR
      have HR12 := Aside0.mk (Kd.R_reads' hR).2.2
      have HR11b := Aside0.mk (Kd.C_below HR11.out hB)
      have HB12 := Aside0.mk (below_step HB11.out hB)
      clear hR hB
      go_wp2_with fail
      refine (same_calls A11 A12 c11 c12 pk pk w12 HR11b.out HR12.out (by omega) (by omega)).mono ?_
      rintro e w13 ⟨rfl, hD⟩
      have HB13 : Aside0 (Below w.heap.size w w13) := ⟨below_step HB12.out hD.below⟩
      clear hD
      go_wp2_with fail
      go_ret
      exact ⟨by simp, HB13.out⟩
end Go.Proofs.Ythplmngignmieaa.Bits
