/- awake, ModelNil. -/
import Derived.Test.YtghhfendjkocmaaModelTake
namespace Go.Proofs.Ytghhfendjkocmaa.Model
open Go.RowKit Go.Proofs.Ytghhfendjkocmaa.Bits Go.Proofs.Ytghhfendjkocmaa.Rice Go.Proofs.YtghhfendjkocmaaW.PrintWords Go.Proofs.YtghhfendjkocmaaW.PrintMore Go.Proofs.Ytghhfendjkocmaa.BP
set_option linter.unusedVariables false
set_option linter.unusedSimpArgs false

set_option maxHeartbeats 1000000 in
theorem mawake_calls (w : World) : Calls Try.prog 9 #[] w fun e w' => e = .returned (.bool true) ∧ Below w.heap.size w w' := by
  have hu := Try.underlying36
  have hst : stOf 8 0 3 [] = (1, 16) := by decide
  have hst2 : stOf 8 0 3 [(0, 3, 9)] = (2, 25) := by decide
  have hfit : FitsP 1 16 8 9 := by decide
  have hcnt : cntOf [(0, 3, 9)] = 1 := by decide
  have HST := Aside0.mk hst
  have HST2 := Aside0.mk hst2
  have HFT := Aside0.mk hfit
  have HCN := Aside0.mk hcnt
  clear hst hst2 hfit hcnt
  go_enter Try.func9, Try.ntmps9
  go_wp2_with fail
  refine (mnew_ok 8 (by decide) (by decide) _).mono ?_
  rintro e w1 ⟨g, rfl, hM, hB⟩
  have HM1 := Aside0.mk hM.bound
  have HB1 := Aside0.mk hB
  clear hM hB
  go_wp2_with fail
  refine (new_calls _).mono ?_
  rintro e w2 ⟨gw, rfl, hW, hB⟩
  have HW2 := Aside0.mk hW
  have HM2 := Aside0.mk (HM1.out.below hB)
  have HB2 := Aside0.mk (below_step HB1.out hB)
  clear hW hB HM1
  go_wp2_with fail
  refine (mput_calls g gw _ _ [] 8 0 3 9 [] w2 HM2.out HW2.out (fun k h1 h2 => by have := h1.2; omega) (by decide) (by decide) (by decide)).mono ?_
  rintro e w3 hP
  unfold MPut at hP
  rw [HST.out] at hP
  rcases hP with ⟨_, rfl, _, hM, hK⟩ | ⟨hn, _⟩
  rotate_left
  · exact absurd HFT.out hn
  have HM3 := Aside0.mk hM
  have HB3 : Aside0 (Below w.heap.size w w3) := ⟨below_kp HB2.out hK (fun k hk => hk.elim (fun h => Nat.le_trans HB1.out.size h) (fun h => h.1)) (Nat.le_refl _)⟩
  clear hM hK
  go_wp2_with fail
  refine (mstate_ok g _ 8 _ 0 3 w3 HM3.out (by decide)).mono ?_
  rintro e w4 ⟨rfl, hB⟩
  rw [List.nil_append, HST2.out]
  have HM4 := Aside0.mk (HM3.out.below hB)
  have HB4 := Aside0.mk (below_step HB3.out hB)
  clear hB HM3
  have HM5 := Aside0.mk (HM4.out.below (below_alloc (Below.refl _ _) (.cells #[.int .i64 2, .int .i64 25] 36)))
  have HB5 := Aside0.mk (below_step HB4.out (below_alloc (Below.refl _ _) (.cells #[.int .i64 2, .int .i64 25] 36)))
  go_wp2_with fail
  refine (mseen_calls g _ 8 _ _ HM5.out).mono ?_
  rintro e w6 ⟨rfl, hw⟩
  replace hw := hw.symm
  subst hw
  rw [List.nil_append, HCN.out]
  go_wp2_with fail
  all_goals go_ret
  all_goals exact ⟨rfl, HB5.out⟩
set_option maxHeartbeats 1000000 in
theorem mnil_calls (p c u : Int) (w : World) : Calls Try.prog 5 #[.int .i64 p, .int .i64 c, .int .i64 u] w fun e w' => e = .returned (.bool true) ∧ Below w.heap.size w w' := by
  have hu := Try.underlying36
  go_enter Try.func5, Try.ntmps5
  go_wp2_with fail
  refine (new_calls _).mono ?_
  rintro e w1 ⟨gw, rfl, hW, hB⟩
  have HW1 := Aside0.mk hW.bound
  have HB1 := Aside0.mk hB
  clear hW hB
  go_wp2_with fail
  generalize hw2 : w1.alloc (.cells #[.int .u8 0, .int .u8 0] 5) = w2
  have HB2 : Aside0 (Below w1.heap.size w1 w2) := ⟨by rw [← hw2]; exact below_alloc (Below.refl _ _) _⟩
  have HK2 : Aside0 (w2.heap[w1.heap.size]? = some (.cells #[.int .u8 0, .int .u8 0] 5 (0, 0))) := ⟨by rw [← hw2]; exact heap_alloc_new w1 _⟩
  have HC2 : Aside0 (Kd.C (Kd.int .u8) w2 (some ⟨w1.heap.size, 0, none⟩) ([0, 0] : List Int).length [0, 0]) := ⟨by
    refine Kd.C_of_reads (enc := Value.int .u8) (d := 0) (h1 := fun _ => rfl) ?_
    refine ⟨rfl, by decide, fun _ => ⟨_, rfl, fun j hj => ?_⟩⟩
    rw [add_plain, blk_cell HK2.out j]
    rcases (by simp at hj; omega : j = 0 ∨ j = 1) with e | e <;> subst e <;> rfl⟩
  have HW2 := Aside0.mk (HW1.out.below HB2.out)
  have HB3 := Aside0.mk (below_step HB1.out HB2.out)
  clear hw2 HW1
  refine (open_calls (some ⟨w1.heap.size, 0, none⟩) 2 [0, 0] w2 HC2.out (by intro x hx; simp at hx; omega) (by decide)).mono ?_
  rintro e w3 ⟨gr, rfl, hR, hB⟩
  have HW3 := Aside0.mk (HW2.out.below hB)
  have HB4 := Aside0.mk (below_step HB3.out hB)
  clear hR hB HW2 HC2 HK2 HB2
  go_wp2_with fail
  refine (mstate_nil p c _).mono ?_
  rintro e w4 ⟨rfl, hB⟩
  have HW5 := Aside0.mk ((HW3.out.below hB).below (below_alloc (Below.refl _ _) (.cells #[.int .i64 0, .int .i64 0] 36)))
  have HB5 := Aside0.mk (below_step (below_step HB4.out hB) (below_alloc (Below.refl _ _) (.cells #[.int .i64 0, .int .i64 0] 36)))
  have HK5 := Aside0.mk (heap_alloc_new w4 (.cells #[.int .i64 0, .int .i64 0] 36))
  have hs5 : w4.heap.size < (w4.alloc (.cells #[.int .i64 0, .int .i64 0] 36)).heap.size := by simp
  clear hB
  go_wp2_with fail
  generalize w4.alloc (.cells #[.int .i64 0, .int .i64 0] 36) = w5 at HW5 HB5 HK5 hs5 ⊢
  refine (mtake_nilM _ p c _).mono ?_
  rintro e w6 ⟨rfl, hB⟩
  have HW6 := Aside0.mk (HW5.out.below hB)
  have HB6 := Aside0.mk (below_step HB5.out hB)
  have HK6 := Aside0.mk ((hB.block _ hs5).trans HK5.out)
  have hs6 := Go.Proofs.YtghhfendjkocmaaW.PrintWords.blk_lt HK6.out
  clear hB hs5 HW5 HK5
  go_wp2_with fail
  refine (mawake_calls _).mono ?_
  rintro e w7 ⟨rfl, hB⟩
  have HW7 := Aside0.mk (HW6.out.below hB)
  have HB7 := Aside0.mk (below_step HB6.out hB)
  have HK7 := Aside0.mk ((hB.block _ hs6).trans HK6.out)
  have hc0 : w7.cell? ⟨w4.heap.size, 0, none⟩ = some (.int .i64 0) := (blk_cell HK7.out 0).trans rfl
  have hc1 : w7.cell? ⟨w4.heap.size, 1, none⟩ = some (.int .i64 0) := (blk_cell HK7.out 1).trans rfl
  clear hB hs6 HW6 HK6
  go_wp2_with fail
  refine (mput_nilM _ p c u _).mono ?_
  rintro e w8 ⟨rfl, hB⟩
  have HW8 := Aside0.mk (HW7.out.below hB)
  have HB8 := Aside0.mk (below_step HB7.out hB)
  clear hB hc0 hc1 HW7
  go_wp2_with fail
  refine (mseen_nil _).mono ?_
  rintro e w9 ⟨rfl, hw⟩
  replace hw := hw.symm
  subst hw
  go_wp2_with fail
  refine (len_calls gw _ [] _ HW8.out (by decide)).mono ?_
  rintro e w9 ⟨rfl, hD⟩
  have HB9 : Aside0 (Below w.heap.size w w9) := ⟨below_step HB8.out hD.below⟩
  clear hD
  go_wp2_with fail
  go_ret
  exact ⟨rfl, HB9.out⟩
end Go.Proofs.Ytghhfendjkocmaa.Model
