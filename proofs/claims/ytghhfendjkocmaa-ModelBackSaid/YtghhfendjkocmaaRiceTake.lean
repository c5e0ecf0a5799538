/- Package rice: Take. -/
import Derived.Test.YtghhfendjkocmaaRiceCallsRead
import Derived.Test.YtghhfendjkocmaaRicePut
import Derived.Test.YtghhfendjkocmaaBitsRead2
import Derived.Lib.EndianBits
namespace Go.Proofs.Ytghhfendjkocmaa.Rice
open Go.RowKit Go.Proofs.Ytghhfendjkocmaa.Bits Go.Proofs.YtghhfendjkocmaaW.PrintWords Go.Proofs.YtghhfendjkocmaaW.PrintMore Go.Proofs.Ytghhfendjkocmaa.BP
set_option linter.unusedVariables false
set_option linter.unusedSimpArgs false


/-- Take of the reader, whatever the width. -/
theorem take_any (g : Nat) (S : Nat → Prop) (b : List Int) (p width : Int) (w : World) (h : IsR w g S b p) (hw0 : 0 ≤ width) (hw1 : width ≤ 32) :
    Calls Try.prog 48 #[.pointer (some ⟨g, 0, none⟩), .int .i64 width] w fun e w' => ∃ p', e = .returned (.tuple #[.int .i64 (takeL ((bitsOf b).drop p.toNat) width).1, .int .i64 (takeL ((bitsOf b).drop p.toNat) width).2]) ∧ IsR w' g S b p' ∧ Kp w w' S ∧ ((takeL ((bitsOf b).drop p.toNat) width).2 = 0 → p' = p + width) := by
  have hlen : ((bitsOf b).drop p.toNat).length = (8 * (b.length : Int) - p).toNat := by rw [List.length_drop, bitsOf_len]; have := h.2.1; omega
  by_cases hs : width ≤ 8 * (b.length : Int) - p
  · refine (take_ok g S b p width w h hw0 hw1 hs).mono ?_
    rintro e w' ⟨rfl, hR, hK⟩
    have e : takeL ((bitsOf b).drop p.toNat) width = (bval (((bitsOf b).drop p.toNat).take width.toNat), 0) := by
      unfold takeL
      rw [if_neg (by omega), if_neg (by omega)]
    rw [e]
    exact ⟨_, rfl, hR, hK, fun _ => rfl⟩
  · refine (take_short g S b p width w h hw0 hw1 (by omega)).mono ?_
    rintro e w' ⟨rfl, ⟨m, rfl⟩⟩
    have e : takeL ((bitsOf b).drop p.toNat) width = (0, 2) := by
      unfold takeL
      have hb := h.2.1
      rw [if_neg (by omega), if_pos (by omega)]
    rw [e]
    exact ⟨p, rfl, h.drewN m, (Kp.refl w S).drewN m, fun h => by simp at h⟩

def TakePost (w : World) (g : Nat) (S : Nat → Prop) (b : List Int) (p n s d : Int) (e : Ending) (w' : World) : Prop :=
  ∃ p', e = .returned (.tuple #[.int .i64 (takeS ((bitsOf b).drop p.toNat) n s d).1, .int .i64 (takeS ((bitsOf b).drop p.toNat) n s d).2.2]) ∧ IsR w' g S b p' ∧ Kp w w' S ∧ ((takeS ((bitsOf b).drop p.toNat) n s d).2.2 = 0 → p' = p + (takeS ((bitsOf b).drop p.toNat) n s d).2.1)

set_option maxRecDepth 100000 in
set_option maxHeartbeats 1000000 in
theorem rtake_bad (g : Nat) (S : Nat → Prop) (b : List Int) (p n s d : Int) (w : World) (h : IsR w g S b p) (hf : ¬ FitsP n s d 0) :
    Calls Try.prog 38 #[.pointer (some ⟨g, 0, none⟩), .agg #[.int .i64 n, .int .i64 s], .int .i64 d] w (TakePost w g S b p n s d) := by
  have hu := Try.underlying36
  have HB := Aside0.mk (below_alloc (Below.refl w.heap.size w) (.cells #[.int .i64 n, .int .i64 s] 36))
  have HP : Aside0 (paramL n s d = (0, 1)) := ⟨by unfold paramL; rw [if_neg hf]⟩
  have HT : Aside0 (takeS ((bitsOf b).drop p.toNat) n s d = (0, 0, 1)) := ⟨takeS_bad hf⟩
  have HI := Aside0.mk h
  clear h hf
  go_enter Try.func38, Try.ntmps38
  go_wp2_with fail
  refine (param_calls n s d _).mono ?_
  rintro e w1 ⟨rfl, hB⟩
  rw [HP.out]
  have HB1 := Aside0.mk (below_step HB.out hB)
  clear hB
  go_wp2
  go_ret2
  refine ⟨p, ?_, HI.out.below HB1.out, Kp.of_below HB1.out S, fun h => ?_⟩
  · show Ending.returned (.tuple #[.int .i64 0, .int .i64 1]) = _; rw [HT.out]
  · rw [HT.out] at h; simp at h

set_option maxRecDepth 100000 in
set_option maxHeartbeats 1000000 in
theorem rtake_ok (g : Nat) (S : Nat → Prop) (b : List Int) (p n s d : Int) (w : World) (h : IsR w g S b p) (hf : FitsP n s d 0) :
    Calls Try.prog 38 #[.pointer (some ⟨g, 0, none⟩), .agg #[.int .i64 n, .int .i64 s], .int .i64 d] w (TakePost w g S b p n s d) := by
  have hu := Try.underlying36
  have HB := Aside0.mk (below_alloc (Below.refl w.heap.size w) (.cells #[.int .i64 n, .int .i64 s] 36))
  have HP : Aside0 (paramL n s d = ((paramK n s d.toNat : Int), 0)) := ⟨by unfold paramL; rw [if_pos hf]⟩
  have HI := Aside0.mk h
  have HF := Aside0.mk hf
  have hd0 := hf.2.1
  have hd1 := hf.2.2.1
  have hk16 := paramK_16 hf
  have hkd := paramK_le n s d.toNat
  have hp0 := h.2.1.1
  obtain ⟨L, hL⟩ : ∃ L, L = (bitsOf b).drop p.toNat := ⟨_, rfl⟩
  have HL := Aside0.mk hL
  have H01 : Aside0 (B01 L) := ⟨by rw [hL]; exact (bitsOf_01 b).drop _⟩
  obtain ⟨k, hk⟩ : ∃ k, k = paramK n s d.toNat := ⟨_, rfl⟩
  have HK := Aside0.mk hk
  rw [← hk] at hk16 HP hkd
  clear h hf hL hk
  go_enter Try.func38, Try.ntmps38
  go_wp2_with fail
  refine (param_calls n s d _).mono ?_
  rintro e w1 ⟨rfl, hB⟩
  rw [HP.out]
  have HB1 := Aside0.mk (below_step HB.out hB)
  clear hB
  have HI1 : Aside0 (IsR w1 g S b p) := ⟨HI.out.below HB1.out⟩
  go_wp2_with fail
  refine (rones_ok g S b p 20 w1 HI1.out (by decide) (by decide)).mono ?_
  rintro e w2 ⟨q, e1, c, ho, rfl, hR, hK⟩
  rw [← HL.out] at ho
  have hO := onesL_20 L
  rw [ho] at hO
  simp only at hO
  have HO := Aside0.mk ho
  have HR := Aside0.mk hR
  have HK2 : Aside0 (Kp w w2 S) := ⟨(Kp.of_below HB1.out S).then_ hK (fun k hk => .inl hk)⟩
  clear ho hR hK HI1
  by_cases c1 : e1 = 0
  · subst c1
    rcases hO with ⟨_, rfl, rfl, hlen⟩ | ⟨_, hq0, hq1, rfl, hlen⟩ | h
    · have HTT : Aside0 (takeL ((bitsOf b).drop (p + 20).toNat) d = takeL (L.drop 20) d) := ⟨by rw [HL.out, List.drop_drop]; congr 2; try omega⟩
      go_wp2_with fail
      refine (take_any g S b (p + 20) d w2 HR.out (by omega) (by omega)).mono ?_
      rintro e w3 ⟨p', rfl, hR, hK, hp'⟩
      rw [HTT.out] at hp' ⊢
      have hbd := takeL_bd (w := d) (H01.out.drop 20)
      obtain ⟨x, hx⟩ : ∃ x, takeL (L.drop 20) d = x := ⟨_, rfl⟩
      rw [hx] at hp' hbd ⊢
      obtain ⟨x, e2⟩ := x
      simp only at hp' hbd ⊢
      have HTS := Aside0.mk (takeS_20 HF.out HO.out hx)
      have HR3 := Aside0.mk hR
      have HP3 := Aside0.mk hp'
      have HK3 : Aside0 (Kp w w3 S) := ⟨HK2.out.then_ hK (fun k hk => .inl hk)⟩
      clear hR hK hp' hx
      by_cases c2 : e2 = 0
      · subst c2
        have hbd := hbd rfl
        have hxd : x / 2 ^ d.toNat = 0 := (div0 hbd.2.2.1).mpr hbd.2.2.2.1
        have hxd1 : (x / 2 ^ d.toNat != 0) = false := by rw [hxd]; rfl
        obtain ⟨y, hy⟩ : ∃ y, x / 2 ^ k = y := ⟨_, rfl⟩
        have HY := Aside0.mk hy
        by_cases c3 : y < 20
        · have t1 : decide (20 ≤ y) = false := decide_eq_false (by omega)
          have HC3 := Aside0.mk c3
          clear hbd c3
          go_wp2
          go_ret2
          refine ⟨p', ?_, HR3.out, HK3.out, fun h => ?_⟩
          · show Ending.returned (.tuple #[.int .i64 0, .int .i64 3]) = _; rw [← HL.out, HTS.out, if_neg (by simp), ← HK.out, HY.out, if_pos HC3.out]
          · rw [← HL.out, HTS.out, if_neg (by simp), ← HK.out, HY.out, if_pos HC3.out] at h; simp at h
        · have t1 : decide (20 ≤ y) = true := decide_eq_true (by omega)
          have HC3 := Aside0.mk c3
          clear hbd c3
          go_wp2
          go_ret2
          refine ⟨p', ?_, HR3.out, HK3.out, fun h => ?_⟩
          · show Ending.returned (.tuple #[.int .i64 x, .int .i64 0]) = _; rw [← HL.out, HTS.out, if_neg (by simp), ← HK.out, HY.out, if_neg (by have := HC3.out; omega)]
          · rw [← HL.out, HTS.out, if_neg (by simp), ← HK.out, HY.out, if_neg (by have := HC3.out; omega), HP3.out (by first | trivial | rfl)]; simp only; omega
      · have b2 : (e2 != 0) = true := bne_iff_ne.mpr c2
        have HC2 := Aside0.mk c2
        clear c2 hbd
        go_wp2
        go_ret2
        refine ⟨p', ?_, HR3.out, HK3.out, fun h => ?_⟩
        · show Ending.returned (.tuple #[.int .i64 0, .int .i64 e2]) = _; rw [← HL.out, HTS.out, if_pos HC2.out]
        · rw [← HL.out, HTS.out, if_pos HC2.out] at h; exact absurd h HC2.out
    · have t0 : (q == 20) = false := beq_eq_false_iff_ne.mpr (by omega)
      have t0' : decide (q < 20) = true := decide_eq_true hq1
      have HTT : Aside0 (takeL ((bitsOf b).drop (p + (q + 1)).toNat) k = takeL (L.drop (q + 1).toNat) k) := ⟨by rw [HL.out, List.drop_drop]; congr 2; try omega⟩
      have HQ1 := Aside0.mk hq1
      go_wp2_with fail
      refine (take_any g S b (p + (q + 1)) k w2 HR.out (by omega) (by omega)).mono ?_
      rintro e w3 ⟨p', rfl, hR, hK, hp'⟩
      rw [HTT.out] at hp' ⊢
      have hbd := takeL_bd (w := (k : Int)) (H01.out.drop (q + 1).toNat)
      obtain ⟨x, hx⟩ : ∃ x, takeL (L.drop (q + 1).toNat) (k : Int) = x := ⟨_, rfl⟩
      rw [hx] at hp' hbd ⊢
      obtain ⟨x, e2⟩ := x
      simp only at hp' hbd ⊢
      have HTS := Aside0.mk (takeS_lt (x := x) (e := e2) HF.out HO.out HQ1.out (by rw [← HK.out]; exact hx))
      rw [← HK.out] at HTS
      have HR3 := Aside0.mk hR
      have HP3 := Aside0.mk hp'
      have HK3 : Aside0 (Kp w w3 S) := ⟨HK2.out.then_ hK (fun k hk => .inl hk)⟩
      clear hR hK hp' hx
      by_cases c2 : e2 = 0
      · subst c2
        have hbd := hbd rfl
        rw [Int.toNat_natCast] at hbd
        have hp := pow16 hk16
        have hm0 : 0 ≤ q * 2 ^ k := Int.mul_nonneg hq0 (by omega)
        have hm1 : q * 2 ^ k ≤ 20 * 65536 := Int.le_trans (Int.mul_le_mul_of_nonneg_right (show q ≤ 20 by omega) (by omega)) (Int.mul_le_mul_of_nonneg_left hp.2 (by omega))
        have hdiv : (q * 2 ^ k + x) / 2 ^ k = q := by
          rw [Int.add_comm, Int.add_mul_ediv_right _ _ (by omega), (div0 hbd.2.2.1).mpr hbd.2.2.2.1, Int.zero_add]
        have hor : bits .or .i64 x (wrap64 (q * 2 ^ k)) = q * 2 ^ k + x := by
          rw [w64 (by omega) (by omega), Int.add_comm]
          exact bits_join_low .i64 62 (by decide) (fun n h0 h1 => by rw [IntKind.wrap_i64]; omega) k x (q * 2 ^ k) hbd.2.2.1 hbd.2.2.2.1 (by omega) hm0 (Int.mul_emod_left _ _) (by omega)
        obtain ⟨u, hu⟩ : ∃ u, q * 2 ^ k + x = u := ⟨_, rfl⟩
        rw [hu] at hdiv hor HTS
        have t1 : decide (20 ≤ q) = false := decide_eq_false (by omega)
        obtain ⟨y, hy⟩ : ∃ y, u / 2 ^ d.toNat = y := ⟨_, rfl⟩
        have HY := Aside0.mk hy
        by_cases c3 : y = 0
        · have t2 : (y != 0) = false := by rw [c3]; rfl
          have HC3 := Aside0.mk c3
          clear hbd c3 hm0 hm1 hp hu
          go_wp2
          go_ret2
          refine ⟨p', ?_, HR3.out, HK3.out, fun h => ?_⟩
          · show Ending.returned (.tuple #[.int .i64 u, .int .i64 0]) = _; rw [← HL.out, HTS.out, if_neg (by simp), HY.out, if_neg (by rw [HC3.out]; simp)]
          · rw [← HL.out, HTS.out, if_neg (by simp), HY.out, if_neg (by rw [HC3.out]; simp), HP3.out (by first | trivial | rfl)]; simp only; omega
        · have t2 : (y != 0) = true := bne_iff_ne.mpr c3
          have HC3 := Aside0.mk c3
          clear hbd c3 hm0 hm1 hp hu
          go_wp2
          go_ret2
          refine ⟨p', ?_, HR3.out, HK3.out, fun h => ?_⟩
          · show Ending.returned (.tuple #[.int .i64 0, .int .i64 3]) = _; rw [← HL.out, HTS.out, if_neg (by simp), HY.out, if_pos HC3.out]
          · rw [← HL.out, HTS.out, if_neg (by simp), HY.out, if_pos HC3.out] at h; simp at h
      · have b2 : (e2 != 0) = true := bne_iff_ne.mpr c2
        have HC2 := Aside0.mk c2
        clear c2 hbd
        go_wp2
        go_ret2
        refine ⟨p', ?_, HR3.out, HK3.out, fun h => ?_⟩
        · show Ending.returned (.tuple #[.int .i64 0, .int .i64 e2]) = _; rw [← HL.out, HTS.out, if_pos HC2.out]
        · rw [← HL.out, HTS.out, if_pos HC2.out] at h; exact absurd h HC2.out
    · omega
  · have b1 : (e1 != 0) = true := bne_iff_ne.mpr c1
    have HTS := Aside0.mk (takeS_ones HF.out HO.out c1)
    have HC1 := Aside0.mk c1
    clear c1 hO
    go_wp2
    go_ret2
    refine ⟨_, ?_, HR.out, HK2.out, fun h => ?_⟩
    · show Ending.returned (.tuple #[.int .i64 0, .int .i64 e1]) = _; rw [← HL.out, HTS.out]
    · rw [← HL.out, HTS.out] at h; exact absurd h HC1.out

theorem rtake_calls (g : Nat) (S : Nat → Prop) (b : List Int) (p n s d : Int) (w : World) (h : IsR w g S b p) :
    Calls Try.prog 38 #[.pointer (some ⟨g, 0, none⟩), .agg #[.int .i64 n, .int .i64 s], .int .i64 d] w (TakePost w g S b p n s d) := by
  by_cases hf : FitsP n s d 0
  · exact rtake_ok g S b p n s d w h hf
  · exact rtake_bad g S b p n s d w h hf
set_option maxRecDepth 100000 in
theorem rtake_nil (w : World) : Calls Try.prog 38 #[.pointer none, .agg #[.int .i64 1, .int .i64 0], .int .i64 8] w fun e w' => e = .returned (.tuple #[.int .i64 0, .int .i64 1]) ∧ Below w.heap.size w w' := by
  have hu := Try.underlying36
  have HB := Aside0.mk (below_alloc (Below.refl w.heap.size w) (.cells #[.int .i64 1, .int .i64 0] 36))
  go_enter Try.func38, Try.ntmps38
  go_wp2_with fail
  refine (param_calls 1 0 8 _).mono ?_
  rintro e w1 ⟨rfl, hB⟩
  have HP : paramL 1 0 8 = (0, 0) := by decide
  rw [HP]
  have HB1 := Aside0.mk (below_step HB.out hB)
  clear hB HP
  go_wp2
  go_ret2
  exact ⟨rfl, HB1.out⟩
end Go.Proofs.Ytghhfendjkocmaa.Rice
