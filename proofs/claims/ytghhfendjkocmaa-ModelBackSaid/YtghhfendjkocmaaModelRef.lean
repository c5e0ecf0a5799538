/- The reference of chapter 26 and few, each walked once. -/
import Derived.Test.YtghhfendjkocmaaModelTake
import Derived.Deep.RegionLaw
namespace Go.Proofs.Ytghhfendjkocmaa.Model
open Go.RowKit Go.Proofs.Ytghhfendjkocmaa.Bits Go.Proofs.Ytghhfendjkocmaa.Rice Go.Proofs.YtghhfendjkocmaaW.PrintWords Go.Proofs.YtghhfendjkocmaaW.PrintMore Go.Proofs.Ytghhfendjkocmaa.BP
set_option linter.unusedVariables false
set_option linter.unusedSimpArgs false

def enc3 (s : Int × Int × Int) : List Value := [.int .i64 s.1, .int .i64 s.2.1, .int .i64 s.2.2]
def seenK : Kd (Int × Int × Int) := flatK 3 enc3 (fun _ => rfl) (fun x u hu => by
  simp only [enc3, List.mem_cons, List.not_mem_nil, or_false] at hu
  rcases hu with rfl | rfl | rfl <;> rfl)
theorem seen_cells {w : World} {A : Option Addr} {n : Nat} {xs : Seen} (h : seenK.C w A n xs) (k : Nat) (hk : k < n) :
    ∃ ad, A = some ad ∧ w.cell? (ad.add (k * 3)) = some (.int .i64 (xs.getD k z3).1) ∧ w.cell? ⟨(ad.add (k * 3)).block, (ad.add (k * 3)).off + 1, none⟩ = some (.int .i64 (xs.getD k z3).2.1) ∧ w.cell? ⟨(ad.add (k * 3)).block, (ad.add (k * 3)).off + 2, none⟩ = some (.int .i64 (xs.getD k z3).2.2) := by
  obtain ⟨ad, c, rfl, hl, hK, hc⟩ := Kd.C_get h z3 (k : Int) (by omega) (by omega)
  simp only [Int.toNat_natCast] at hK hc
  cases hK
  exact ⟨ad, rfl, hc 0 _ rfl, by rw [← add_next ad (k * 3) 1 (by decide)]; exact hc 1 _ rfl, by rw [← add_next ad (k * 3) 2 (by decide)]; exact hc 2 _ rfl⟩
theorem take_snoc (seen : Seen) {k : Nat} (hk : k < seen.length) : seen.take (k + 1) = seen.take k ++ [seen.getD k z3] := by
  rw [List.take_add_one, List.getElem?_eq_getElem hk, List.getD_eq_getElem?_getD, List.getElem?_eq_getElem hk]; rfl
theorem few_calls (A : Option Addr) (c : Nat) (l : Seen) (w : World) (hc : l.length ≤ c) (hl : l.length ≤ maxLen) :
    Calls Try.prog 10 #[.slice A l.length c] w fun e w' => e = .returned (.slice A (l.take 120).length c) ∧ w' = w := by
  unfold maxLen at hl
  rw [List.length_take]
  by_cases h : 120 < l.length
  · have b0 : decide ((120 : Int) < (l.length : Int)) = true := decide_eq_true (by omega)
    have b1 : 120 ≤ c := by omega
    rw [Nat.min_eq_left (by omega)]
    go_enter Try.func10, Try.ntmps10
    go_wp2
    go_ret
    exact ⟨rfl, rfl⟩
  · have b0 : decide ((120 : Int) < (l.length : Int)) = false := decide_eq_false (by omega)
    rw [Nat.min_eq_right (by omega)]
    go_enter Try.func10, Try.ntmps10
    go_wp2
    go_ret
    exact ⟨rfl, rfl⟩
theorem rstate_bad (d : Int) (A : Option Addr) (cA n : Nat) (p c : Int) (w : World) (hk : ¬ KeyOk p c) :
    Calls Try.prog 11 #[.int .i64 d, .slice A n cA, .int .i64 p, .int .i64 c] w fun e w' => e = .returned (.tuple #[.agg #[.int .i64 0, .int .i64 0], .int .i64 1]) ∧ Below w.heap.size w w' := by
  have hu := Try.underlying36
  have HB := Aside0.mk (below_alloc (Below.refl w.heap.size w) (.cells #[.int .i64 0, .int .i64 0] 36))
  by_cases c0 : p < 0
  · have b0 : decide (p < 0) = true := decide_eq_true c0
    clear hk
    go_enter Try.func11, Try.ntmps11
    go_wp2
    refine bodyPost_ret (results_ct rfl _ _ w.heap.size 36 #[.int .i64 0, .int .i64 0] (0, 0) _ rfl (heap_alloc_new w _) hu rfl (by kernel_rfl)) rfl ?_
    exact ⟨rfl, HB.out⟩
  have b0 : decide (p < 0) = false := decide_eq_false c0
  by_cases c1 : 3 < p
  · have b1 : decide (3 < p) = true := decide_eq_true c1
    clear hk
    go_enter Try.func11, Try.ntmps11
    go_wp2
    refine bodyPost_ret (results_ct rfl _ _ w.heap.size 36 #[.int .i64 0, .int .i64 0] (0, 0) _ rfl (heap_alloc_new w _) hu rfl (by kernel_rfl)) rfl ?_
    exact ⟨rfl, HB.out⟩
  have b1 : decide (3 < p) = false := decide_eq_false c1
  by_cases c2 : c < 0
  · have b2 : decide (c < 0) = true := decide_eq_true c2
    clear hk
    go_enter Try.func11, Try.ntmps11
    go_wp2
    refine bodyPost_ret (results_ct rfl _ _ w.heap.size 36 #[.int .i64 0, .int .i64 0] (0, 0) _ rfl (heap_alloc_new w _) hu rfl (by kernel_rfl)) rfl ?_
    exact ⟨rfl, HB.out⟩
  have b2 : decide (c < 0) = false := decide_eq_false c2
  have c3 : 255 < c := by unfold KeyOk at hk; omega
  have b3 : decide (255 < c) = true := decide_eq_true c3
  clear hk
  go_enter Try.func11, Try.ntmps11
  go_wp2
  refine bodyPost_ret (results_ct rfl _ _ w.heap.size 36 #[.int .i64 0, .int .i64 0] (0, 0) _ rfl (heap_alloc_new w _) hu rfl (by kernel_rfl)) rfl ?_
  exact ⟨rfl, HB.out⟩
theorem rstate_ok (d : Int) (A : Option Addr) (cA : Nat) (seen : Seen) (p c : Int) (w : World) (hC : seenK.C w A seen.length seen) (hl : seen.length ≤ 1099511627776) (hk : KeyOk p c) :
    Calls Try.prog 11 #[.int .i64 d, .slice A seen.length cA, .int .i64 p, .int .i64 c] w fun e w' => e = .returned (.tuple #[.agg #[.int .i64 (stOf d p c seen).1, .int .i64 (stOf d p c seen).2], .int .i64 0]) ∧ Below w.heap.size w w' := by
  have hu := Try.underlying36
  have hus := Try.underlying44
  have HC := Aside0.mk hC
  unfold KeyOk at hk
  have b0 : decide (p < 0) = false := decide_eq_false (by omega)
  have b1 : decide (3 < p) = false := decide_eq_false (by omega)
  have b2 : decide (c < 0) = false := decide_eq_false (by omega)
  have b3 : decide (255 < c) = false := decide_eq_false (by omega)
  clear hC hk
  go_enter Try.func11, Try.ntmps11
  go_wp2_with fail
  refine (refstart_calls d _).mono ?_
  rintro e w1 ⟨rfl, hB⟩
  have HB1 : Aside0 (Below w.heap.size w w1) := ⟨below_step (below_alloc (Below.refl _ _) _) hB⟩
  have HK1 : Aside0 (w1.heap[w.heap.size]? = some (.cells #[.int .i64 0, .int .i64 0] 36 (0, 0))) := ⟨(hB.block _ (by simp)).trans (heap_alloc_new w _)⟩
  clear hB
  go_wp2_with fail
  generalize hw2 : w1.alloc (.cells #[.int .i64 (startL d).1, .int .i64 (startL d).2] 36) = w2
  have HB2 : Aside0 (Below w.heap.size w w2) := ⟨by rw [← hw2]; exact below_alloc HB1.out _⟩
  have HK2 : Aside0 (w2.heap[w.heap.size]? = some (.cells #[.int .i64 0, .int .i64 0] 36 (0, 0))) := ⟨by rw [← hw2]; exact (heap_alloc_old _ _ (Go.Proofs.YtghhfendjkocmaaW.PrintWords.blk_lt HK1.out)).trans HK1.out⟩
  have HN2 : Aside0 (w2.heap[w1.heap.size]? = some (.cells #[.int .i64 (stOf d p c (seen.take 0)).1, .int .i64 (stOf d p c (seen.take 0)).2] 36 (0, 0))) := ⟨by rw [← hw2]; exact heap_alloc_new w1 _⟩
  have hne : w.heap.size < w1.heap.size := Go.Proofs.YtghhfendjkocmaaW.PrintWords.blk_lt HK1.out
  clear hw2 HB1 HK1
  go_loopw [11] (fun v11 wr => ∃ k : Nat, k ≤ seen.length ∧ v11 = .int .i64 k ∧ Aside0 (wr.heap[w.heap.size]? = some (.cells #[.int .i64 0, .int .i64 0] 36 (0, 0))) ∧ Aside0 (wr.heap[w1.heap.size]? = some (.cells #[.int .i64 (stOf d p c (seen.take k)).1, .int .i64 (stOf d p c (seen.take k)).2] 36 (0, 0))) ∧ Aside0 (Below w.heap.size w wr))
    (fun v11 _ => ((seen.length : Int) - intOf v11).toNat)
  case atStart => exact ⟨0, by omega, rfl, HK2, HN2, HB2⟩
  case round =>
    clear HK2 HN2 HB2
    obtain ⟨k, hk, rfl, HK, HN, HB⟩ := hrel
    by_cases hlt : k < seen.length
    · have t1 : decide ((k : Int) < (seen.length : Int)) = true := decide_eq_true (by omega)
      have t2 : decide (k < seen.length) = true := decide_eq_true hlt
      obtain ⟨ad, e1, hx0, hx1, hx2⟩ := seen_cells (Kd.C_below HC.out HB.out) k hlt
      cases e1
      have hsn : stOf d p c (seen.take (k + 1)) = stOne p c (stOf d p c (seen.take k)) (seen.getD k z3) := by rw [take_snoc seen hlt, stOf_snoc]
      have HSN := Aside0.mk hsn
      generalize stOf d p c (seen.take k) = s0 at hsn HN HSN
      obtain ⟨s0, s1⟩ := s0
      generalize seen.getD k z3 = x at hx0 hx1 hx2 HSN hsn
      obtain ⟨xp, xc, xu⟩ := x
      simp only at hx0 hx1 hx2 HN
      unfold stOne at hsn
      simp only at hsn
      by_cases hp : xp = p
      · have t3 : (xp == p) = true := beq_iff_eq.mpr hp
        by_cases hcc : xc = c
        · have t4 : (xc == c) = true := beq_iff_eq.mpr hcc
          rw [if_pos ⟨hp, hcc⟩] at hsn
          unfold stStep at hsn
          simp only at hsn
          have hy0 : wr.cell? ⟨w1.heap.size, 0, none⟩ = some (.int .i64 s0) := (blk_cell HN.out 0).trans rfl
          have hy1 : wr.cell? ⟨w1.heap.size, 1, none⟩ = some (.int .i64 s1) := (blk_cell HN.out 1).trans rfl
          have HNext : Aside0 (∀ v, Calls Try.prog 28 #[.agg #[.int .i64 s0, .int .i64 s1], .int .i64 xu] v fun e w' => e = .returned (.tuple #[.agg #[.int .i64 (nextL s0 s1 xu).1, .int .i64 (nextL s0 s1 xu).2.1], .int .i64 (nextL s0 s1 xu).2.2]) ∧ Below v.heap.size v w') := ⟨fun v => refnext_calls s0 s1 xu v⟩
          generalize (nextL s0 s1 xu).1 = n0 at hsn HNext
          generalize (nextL s0 s1 xu).2.1 = n1 at hsn HNext
          generalize (nextL s0 s1 xu).2.2 = n2 at HNext
          have HSE := Aside0.mk hsn
          clear hsn HSN hp hcc
          go_wp2_with fail
          go_region_law (first | (go_simp; go_at_call 28; refine (HNext.out _).mono ?_; rintro e w3 ⟨rfl, hB⟩; have HBc : Aside0 (Below wr.heap.size wr w3) := ⟨by first | exact hB | exact below0 hB⟩; have HK3 := Aside0.mk ((HBc.out.block _ (Go.Proofs.YtghhfendjkocmaaW.PrintWords.blk_lt HK.out)).trans HK.out); have HN3 := Aside0.mk ((HBc.out.block _ (Go.Proofs.YtghhfendjkocmaaW.PrintWords.blk_lt HN.out)).trans HN.out); have HB3 := Aside0.mk (below_step HB.out HBc.out); have hz0 : w3.cell? ⟨w1.heap.size, 0, none⟩ = some (.int .i64 s0) := (blk_cell HN3.out 0).trans rfl; have hz1 : w3.cell? ⟨w1.heap.size, 1, none⟩ = some (.int .i64 s1) := (blk_cell HN3.out 1).trans rfl; have hz2 : w3.frozen? ⟨w1.heap.size, 0, none⟩ = false := blk_frozen HN3.out 0; have hz3 : w3.frozen? ⟨w1.heap.size, 1, none⟩ = false := blk_frozen HN3.out 1; clear hB))
          all_goals
            have HN4 : Aside0 (((w3.setCell ⟨w1.heap.size, 0, none⟩ (.int .i64 n0)).setCell ⟨w1.heap.size, 1, none⟩ (.int .i64 n1)).heap[w1.heap.size]? = some (.cells #[.int .i64 n0, .int .i64 n1] 36 (0, 0))) := ⟨blk_put (blk_put HN3.out 0 _ rfl) 1 _ rfl⟩
            have HK4 : Aside0 (((w3.setCell ⟨w1.heap.size, 0, none⟩ (.int .i64 n0)).setCell ⟨w1.heap.size, 1, none⟩ (.int .i64 n1)).heap[w.heap.size]? = some (.cells #[.int .i64 0, .int .i64 0] 36 (0, 0))) := ⟨blk_far (blk_far HK3.out (p := ⟨w1.heap.size, 0, none⟩) (by simp; omega) _) (p := ⟨w1.heap.size, 1, none⟩) (by simp; omega) _⟩
            have HB4 : Aside0 (Below w.heap.size w ((w3.setCell ⟨w1.heap.size, 0, none⟩ (.int .i64 n0)).setCell ⟨w1.heap.size, 1, none⟩ (.int .i64 n1))) := ⟨below_set (below_set HB3.out (Nat.le_of_lt hne)) (Nat.le_of_lt hne)⟩
            go_wp2_with fail
            go_roundw
            case rel => exact ⟨k + 1, by omega, by go_num, HK4, ⟨by rw [HSE.out]; exact HN4.out⟩, HB4⟩
            case measure => simp [intOf]; omega
        · have t4 : (xc == c) = false := beq_eq_false_iff_ne.mpr hcc
          rw [if_neg (fun h => hcc h.2)] at hsn
          have HSE := Aside0.mk hsn
          clear hsn HSN hp hcc
          go_wp2_with fail
          go_roundw
          case rel => exact ⟨k + 1, by omega, by go_num, HK, ⟨by rw [HSE.out]; exact HN.out⟩, HB⟩
          case measure => simp [intOf]; omega
      · have t3 : (xp == p) = false := beq_eq_false_iff_ne.mpr hp
        rw [if_neg (fun h => hp h.1)] at hsn
        have HSE := Aside0.mk hsn
        clear hsn HSN hp
        go_wp2_with fail
        go_roundw
        case rel => exact ⟨k + 1, by omega, by go_num, HK, ⟨by rw [HSE.out]; exact HN.out⟩, HB⟩
        case measure => simp [intOf]; omega
    · have t1 : decide ((k : Int) < (seen.length : Int)) = false := decide_eq_false (by omega)
      have t2 : decide (k < seen.length) = false := decide_eq_false hlt
      have hks : seen.take k = seen := List.take_of_length_le (by omega)
      rw [hks] at HN
      obtain ⟨s0, s1, hs⟩ : ∃ s0 s1, stOf d p c seen = (s0, s1) := ⟨_, _, rfl⟩
      rw [hs] at HN
      have HS := Aside0.mk hs
      simp only at HN
      clear hs
      have hy0 : wr.cell? ⟨w1.heap.size, 0, none⟩ = some (.int .i64 s0) := (blk_cell HN.out 0).trans rfl
      have hy1 : wr.cell? ⟨w1.heap.size, 1, none⟩ = some (.int .i64 s1) := (blk_cell HN.out 1).trans rfl
      have hc00 : wr.cell? ⟨w.heap.size, 0, none⟩ = some (.int .i64 0) := (blk_cell HK.out 0).trans rfl
      have hc01 : wr.cell? ⟨w.heap.size, 1, none⟩ = some (.int .i64 0) := (blk_cell HK.out 1).trans rfl
      have hf00 : wr.frozen? ⟨w.heap.size, 0, none⟩ = false := blk_frozen HK.out 0
      have hf01 : wr.frozen? ⟨w.heap.size, 1, none⟩ = false := blk_frozen HK.out 1
      go_wp2_with fail
      refine bodyPost_ret (results_ct rfl _ _ w.heap.size 36 #[.int .i64 s0, .int .i64 s1] (0, 0) _ rfl (blk_put (blk_put HK.out 0 _ rfl) 1 _ rfl) hu rfl (by kernel_rfl)) rfl ?_
      exact ⟨by rw [HS.out]; rfl, below_set (below_set HB.out (by simp)) (by simp)⟩
theorem hasOf_step {pi ci : Int} {seen : Seen} {k : Nat} (hk : k < seen.length) : hasOf pi ci (seen.take (k + 1)) = (hasOf pi ci (seen.take k) || isAt pi ci (seen.getD k z3)) := by rw [take_snoc seen hk, hasOf_snoc]
theorem cntOf_step {seen : Seen} {k : Nat} (hk : k < seen.length) : cntOf (seen.take (k + 1)) = cntOf (seen.take k) + if hasOf (seen.getD k z3).1 (seen.getD k z3).2.1 (seen.take k) = true then 0 else 1 := by
  rw [take_snoc seen hk, cntOf_snoc]
set_option maxHeartbeats 1000000 in
theorem rcount_calls (A : Option Addr) (cA : Nat) (seen : Seen) (w : World) (hC : seenK.C w A seen.length seen) (hl : seen.length ≤ 1099511627776) :
    Calls Try.prog 17 #[.slice A seen.length cA] w fun e w' => e = .returned (.int .i64 (cntOf seen)) ∧ Below w.heap.size w w' := by
  have hus := Try.underlying44
  have HC := Aside0.mk hC
  clear hC
  go_enter Try.func17, Try.ntmps17
  go_wp2_with fail
  have HB0 : Aside0 (Below w.heap.size w w) := ⟨Below.refl _ _⟩
  go_loopw [3, 4] (fun v3 v4 wr => ∃ i : Nat, i ≤ seen.length ∧ v3 = .int .i64 (cntOf (seen.take i)) ∧ v4 = .int .i64 i ∧ Aside0 (Below w.heap.size w wr))
    (fun _ v4 _ => ((seen.length : Int) - intOf v4).toNat)
  case atStart => exact ⟨0, by omega, rfl, rfl, HB0⟩
  case round =>
    clear HB0
    obtain ⟨i, hi, rfl, rfl, HB⟩ := hrel
    by_cases hlt : i < seen.length
    · have t1 : decide ((i : Int) < (seen.length : Int)) = true := decide_eq_true (by omega)
      have t2 : decide (i < seen.length) = true := decide_eq_true hlt
      have hcs := cntOf_step hlt
      have hcl := cntOf_le (seen.take i)
      rw [List.length_take] at hcl
      obtain ⟨x, hx⟩ : ∃ x, seen.getD i z3 = x := ⟨_, rfl⟩
      have HX := Aside0.mk hx
      rw [hx] at hcs
      obtain ⟨xp, xc, xu⟩ := x
      simp only at hcs
      have HCS := Aside0.mk hcs
      clear hx hcs
      obtain ⟨wo, hwo⟩ : ∃ wo, wo = wr := ⟨_, rfl⟩
      subst hwo
      go_wp2_with fail
      go_loopw [5, 6] (fun v5 v6 wr => ∃ (k : Nat) (b : Bool), k ≤ i ∧ v5 = .bool b ∧ v6 = .int .i64 k ∧ Aside0 (hasOf xp xc (seen.take k) = !b) ∧ Aside0 (Below w.heap.size w wr))
        (fun _ v6 _ => ((i : Int) - intOf v6).toNat)
      case atStart => exact ⟨0, true, by omega, rfl, rfl, ⟨rfl⟩, HB⟩
      case round =>
        clear HB
        obtain ⟨k, b, hk, rfl, rfl, HH, HB⟩ := hrel
        by_cases hlk : k < i
        · have u1 : decide ((k : Int) < (i : Int)) = true := decide_eq_true (by omega)
          have u2 : decide (k < i) = true := decide_eq_true hlk
          have u3 : decide (k < seen.length) = true := decide_eq_true (by omega)
          obtain ⟨ad, e1, hx0, hx1, hx2⟩ := seen_cells (Kd.C_below HC.out HB.out) i hlt
          cases e1
          obtain ⟨ad1, e2, hy0, hy1, hy2⟩ := seen_cells (Kd.C_below HC.out HB.out) k (by omega)
          cases e2
          rw [HX.out] at hx0 hx1 hx2
          simp only at hx0 hx1 hx2
          have hst := hasOf_step (pi := xp) (ci := xc) (seen := seen) (k := k) (by omega)
          obtain ⟨y, hy⟩ : ∃ y, seen.getD k z3 = y := ⟨_, rfl⟩
          rw [hy] at hy0 hy1 hy2 hst
          obtain ⟨yp, yc, yu⟩ := y
          simp only at hy0 hy1 hy2
          clear hx2 hy2 hy
          have HBd : Aside0 (∀ n, Below w.heap.size w (wr.drewN n)) := ⟨fun n => pw_below_drewN HB.out n⟩
          cases b with
          | false =>
            rw [HH.out, Bool.not_false, Bool.true_or] at hst
            have HST := Aside0.mk hst
            clear hst HH
            go_wp2_with fail
            go_quiet (fail)
            go_wp2_with fail
            go_roundw
            case rel => exact ⟨k + 1, false, by omega, rfl, by go_num, ⟨by rw [HST.out]; rfl⟩, ⟨pw_below_drewN HB.out _⟩⟩
            case measure => simp [intOf]; omega
          | true =>
            rw [HH.out, Bool.not_true, Bool.false_or] at hst
            by_cases hp : yp = xp
            · have t3 : (yp != xp) = false := bne_eq_false_iff_eq.mpr hp
              by_cases hcc : yc = xc
              · have t4 : (yc != xc) = false := bne_eq_false_iff_eq.mpr hcc
                have HST : Aside0 (hasOf xp xc (seen.take (k + 1)) = true) := ⟨by rw [hst]; simp [isAt, hp, hcc]⟩
                clear hst HH hp hcc
                go_wp2_with fail
                go_quiet (fail)
                go_wp2_with fail
                go_roundw
                case rel => exact ⟨k + 1, false, by omega, rfl, by go_num, ⟨by rw [HST.out]; rfl⟩, ⟨pw_below_drewN HB.out _⟩⟩
                case measure => simp [intOf]; omega
              · have t4 : (yc != xc) = true := bne_iff_ne.mpr hcc
                have HST : Aside0 (hasOf xp xc (seen.take (k + 1)) = false) := ⟨by rw [hst]; simp [isAt, hcc]⟩
                clear hst HH hp hcc
                go_wp2_with fail
                go_quiet (fail)
                go_wp2_with fail
                go_roundw
                case rel => exact ⟨k + 1, true, by omega, rfl, by go_num, ⟨by rw [HST.out]; rfl⟩, ⟨pw_below_drewN HB.out _⟩⟩
                case measure => simp [intOf]; omega
            · have t3 : (yp != xp) = true := bne_iff_ne.mpr hp
              have HST : Aside0 (hasOf xp xc (seen.take (k + 1)) = false) := ⟨by rw [hst]; simp [isAt, hp]⟩
              clear hst HH hp
              go_wp2_with fail
              go_quiet (fail)
              go_wp2_with fail
              go_roundw
              case rel => exact ⟨k + 1, true, by omega, rfl, by go_num, ⟨by rw [HST.out]; rfl⟩, ⟨pw_below_drewN HB.out _⟩⟩
              case measure => simp [intOf]; omega
        · have u1 : decide ((k : Int) < (i : Int)) = false := decide_eq_false (by omega)
          have u2 : decide (k < i) = false := decide_eq_false hlk
          have hki : k = i := by omega
          subst hki
          cases b with
          | false =>
            have HN : Aside0 (cntOf (seen.take (k + 1)) = cntOf (seen.take k)) := ⟨by rw [HCS.out, HH.out]; rfl⟩
            clear HH
            go_wp2_with fail
            go_roundw
            case rel => exact ⟨k + 1, by omega, by rw [HN.out], by go_num, HB⟩
            case measure => simp [intOf]; omega
          | true =>
            have HN : Aside0 (cntOf (seen.take (k + 1)) = cntOf (seen.take k) + 1) := ⟨by rw [HCS.out, HH.out]; rfl⟩
            clear HH
            go_wp2_with fail
            go_roundw
            case rel => exact ⟨k + 1, by omega, by rw [HN.out]; go_num, by go_num, HB⟩
            case measure => simp [intOf]; omega
    · have t1 : decide ((i : Int) < (seen.length : Int)) = false := decide_eq_false (by omega)
      have t2 : decide (i < seen.length) = false := decide_eq_false hlt
      have hks : seen.take i = seen := List.take_of_length_le (by omega)
      rw [hks]
      go_wp2_with fail
      go_ret
      exact ⟨rfl, HB.out⟩
end Go.Proofs.Ytghhfendjkocmaa.Model
