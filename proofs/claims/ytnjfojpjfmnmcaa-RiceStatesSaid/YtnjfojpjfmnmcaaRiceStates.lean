/- RiceStates: the walk. -/
import Derived.Test.YtnjfojpjfmnmcaaRiceAwake
import Derived.Deep.RegionHeld3
namespace Go.Proofs.Ytnjfojpjfmnmcaa.Rice
open Go.RowKit Go.Proofs.Ytnjfojpjfmnmcaa.Bits Go.Proofs.YtnjfojpjfmnmcaaW.PrintWords Go.Proofs.YtnjfojpjfmnmcaaW.PrintMore Go.Proofs.Ytnjfojpjfmnmcaa.BP
set_option linter.unusedVariables false
set_option linter.unusedSimpArgs false


theorem get_lt {w : World} {g : Nat} {o : Obj} (h : w.heap[g]? = some o) : g < w.heap.size := (Array.getElem?_eq_some_iff.mp h).1
theorem keep_alloc {w : World} {g : Nat} {o : Obj} (h : w.heap[g]? = some o) (o2 : Obj) : (w.alloc o2).heap[g]? = some o := ((below_alloc (Below.refl w.heap.size w) o2).block g (get_lt h)).trans h
set_option maxRecDepth 100000 in
set_option maxHeartbeats 2000000 in
theorem states_calls (n s d u : Int) (w : World) : Calls Try.prog 4 #[.agg #[.int .i64 n, .int .i64 s], .int .i64 d, .int .i64 u] w fun e w' => e = .returned (.bool true) ∧ Below w.heap.size w w' := by
  have hu := Try.underlying30
  have HB0 := Aside0.mk (below_alloc (Below.refl w.heap.size w) (.cells #[.int .i64 n, .int .i64 s] 30))
  have HP0 : Aside0 ((w.alloc (.cells #[.int .i64 n, .int .i64 s] 30)).heap[w.heap.size]? = some (.cells #[.int .i64 n, .int .i64 s] 30 (0, 0))) := ⟨heap_alloc_new w _⟩
  obtain ⟨p1, hp1⟩ : ∃ p, (paramL n s d).1 = p := ⟨_, rfl⟩
  obtain ⟨p2, hp2⟩ : ∃ p, (paramL n s d).2 = p := ⟨_, rfl⟩
  obtain ⟨x1, hx1⟩ : ∃ p, (nextL n s u).1 = p := ⟨_, rfl⟩
  obtain ⟨x2, hx2⟩ : ∃ p, (nextL n s u).2.1 = p := ⟨_, rfl⟩
  obtain ⟨x3, hx3⟩ : ∃ p, (nextL n s u).2.2 = p := ⟨_, rfl⟩
  obtain ⟨c2, hc2⟩ : ∃ p, (codeL n s d u).2 = p := ⟨_, rfl⟩
  obtain ⟨l, hl⟩ : ∃ p, (codeL n s d u).1 = p := ⟨_, rfl⟩
  obtain ⟨y1, hy1⟩ : ∃ p, (startL d).1 = p := ⟨_, rfl⟩
  obtain ⟨y2, hy2⟩ : ∃ p, (startL d).2 = p := ⟨_, rfl⟩
  obtain ⟨bm, hbm⟩ : ∃ p, decide (MayP n s) = p := ⟨_, rfl⟩
  have HNP := Aside0.mk (And.intro hp1 hp2)
  have HNX := Aside0.mk (And.intro hx1 (And.intro hx2 hx3))
  have HNC := Aside0.mk (And.intro hl hc2)
  have HNY := Aside0.mk (And.intro hy1 hy2)
  have HNM := Aside0.mk hbm
  clear hp1 hp2 hx1 hx2 hx3 hc2 hl hy1 hy2 hbm
  go_enter Try.func4, Try.ntmps4
  go_wp2_with fail
  refine (param_calls n s d _).mono ?_
  rintro e w1 ⟨rfl, hB⟩
  have HB1 := Aside0.mk (below_step HB0.out hB)
  have HP1 : Aside0 (w1.heap[w.heap.size]? = some (.cells #[.int .i64 n, .int .i64 s] 30 (0, 0))) := ⟨(hB.block _ (get_lt HP0.out)).trans HP0.out⟩
  clear hB HP0 HB0
  rw [HNP.out.1, HNP.out.2]
  have hP1_0 : w1.cell? ⟨w.heap.size, 0, none⟩ = some (.int .i64 n) := (blk_cell HP1.out 0).trans rfl
  have hP1_1 : w1.cell? ⟨w.heap.size, 1, none⟩ = some (.int .i64 s) := (blk_cell HP1.out 1).trans rfl
  go_wp2_with fail
  refine (refparam_calls n s d _).mono ?_
  rintro e w2 ⟨rfl, hB⟩
  have HB2 := Aside0.mk (below_step HB1.out hB)
  have HP2 : Aside0 (w2.heap[w.heap.size]? = some (.cells #[.int .i64 n, .int .i64 s] 30 (0, 0))) := ⟨(hB.block _ (get_lt HP1.out)).trans HP1.out⟩
  clear hP1_0 hP1_1
  clear hB HP1 HB1
  rw [HNP.out.1, HNP.out.2]
  have hP2_0 : w2.cell? ⟨w.heap.size, 0, none⟩ = some (.int .i64 n) := (blk_cell HP2.out 0).trans rfl
  have hP2_1 : w2.cell? ⟨w.heap.size, 1, none⟩ = some (.int .i64 s) := (blk_cell HP2.out 1).trans rfl
  go_wp2_with fail
  refine (next_calls n s u _).mono ?_
  rintro e w3 ⟨rfl, hB⟩
  have HB3 := Aside0.mk (below_step HB2.out hB)
  have HP3 : Aside0 (w3.heap[w.heap.size]? = some (.cells #[.int .i64 n, .int .i64 s] 30 (0, 0))) := ⟨(hB.block _ (get_lt HP2.out)).trans HP2.out⟩
  clear hP2_0 hP2_1
  clear hB HP2 HB2
  rw [HNX.out.1, HNX.out.2.1, HNX.out.2.2]
  replace HB3 : Aside0 (Below w.heap.size w (w3.alloc (.cells #[.int .i64 x1, .int .i64 x2] 30))) := ⟨below_alloc HB3.out _⟩
  replace HP3 : Aside0 ((w3.alloc (.cells #[.int .i64 x1, .int .i64 x2] 30)).heap[w.heap.size]? = some (.cells #[.int .i64 n, .int .i64 s] 30 (0, 0))) := ⟨keep_alloc HP3.out _⟩
  have HA3 : Aside0 ((w3.alloc (.cells #[.int .i64 x1, .int .i64 x2] 30)).heap[w3.heap.size]? = some (.cells #[.int .i64 x1, .int .i64 x2] 30 (0, 0))) := ⟨heap_alloc_new w3 _⟩
  have hP3_0 : (w3.alloc (.cells #[.int .i64 x1, .int .i64 x2] 30)).cell? ⟨w.heap.size, 0, none⟩ = some (.int .i64 n) := (blk_cell HP3.out 0).trans rfl
  have hP3_1 : (w3.alloc (.cells #[.int .i64 x1, .int .i64 x2] 30)).cell? ⟨w.heap.size, 1, none⟩ = some (.int .i64 s) := (blk_cell HP3.out 1).trans rfl
  have hA3_0 : (w3.alloc (.cells #[.int .i64 x1, .int .i64 x2] 30)).cell? ⟨w3.heap.size, 0, none⟩ = some (.int .i64 x1) := (blk_cell HA3.out 0).trans rfl
  have hA3_1 : (w3.alloc (.cells #[.int .i64 x1, .int .i64 x2] 30)).cell? ⟨w3.heap.size, 1, none⟩ = some (.int .i64 x2) := (blk_cell HA3.out 1).trans rfl
  go_wp2_with fail
  refine (refnext_calls n s u _).mono ?_
  rintro e w4 ⟨rfl, hB⟩
  have HB4 := Aside0.mk (below_step HB3.out hB)
  have HP4 : Aside0 (w4.heap[w.heap.size]? = some (.cells #[.int .i64 n, .int .i64 s] 30 (0, 0))) := ⟨(hB.block _ (get_lt HP3.out)).trans HP3.out⟩
  clear hP3_0 hP3_1
  have HA4 : Aside0 (w4.heap[w3.heap.size]? = some (.cells #[.int .i64 x1, .int .i64 x2] 30 (0, 0))) := ⟨(hB.block _ (get_lt HA3.out)).trans HA3.out⟩
  clear hA3_0 hA3_1
  clear hB HP3 HA3 HB3
  rw [HNX.out.1, HNX.out.2.1, HNX.out.2.2]
  replace HB4 : Aside0 (Below w.heap.size w (w4.alloc (.cells #[.int .i64 x1, .int .i64 x2] 30))) := ⟨below_alloc HB4.out _⟩
  replace HP4 : Aside0 ((w4.alloc (.cells #[.int .i64 x1, .int .i64 x2] 30)).heap[w.heap.size]? = some (.cells #[.int .i64 n, .int .i64 s] 30 (0, 0))) := ⟨keep_alloc HP4.out _⟩
  replace HA4 : Aside0 ((w4.alloc (.cells #[.int .i64 x1, .int .i64 x2] 30)).heap[w3.heap.size]? = some (.cells #[.int .i64 x1, .int .i64 x2] 30 (0, 0))) := ⟨keep_alloc HA4.out _⟩
  have HC4 : Aside0 ((w4.alloc (.cells #[.int .i64 x1, .int .i64 x2] 30)).heap[w4.heap.size]? = some (.cells #[.int .i64 x1, .int .i64 x2] 30 (0, 0))) := ⟨heap_alloc_new w4 _⟩
  have hP4_0 : (w4.alloc (.cells #[.int .i64 x1, .int .i64 x2] 30)).cell? ⟨w.heap.size, 0, none⟩ = some (.int .i64 n) := (blk_cell HP4.out 0).trans rfl
  have hP4_1 : (w4.alloc (.cells #[.int .i64 x1, .int .i64 x2] 30)).cell? ⟨w.heap.size, 1, none⟩ = some (.int .i64 s) := (blk_cell HP4.out 1).trans rfl
  have hA4_0 : (w4.alloc (.cells #[.int .i64 x1, .int .i64 x2] 30)).cell? ⟨w3.heap.size, 0, none⟩ = some (.int .i64 x1) := (blk_cell HA4.out 0).trans rfl
  have hA4_1 : (w4.alloc (.cells #[.int .i64 x1, .int .i64 x2] 30)).cell? ⟨w3.heap.size, 1, none⟩ = some (.int .i64 x2) := (blk_cell HA4.out 1).trans rfl
  have hC4_0 : (w4.alloc (.cells #[.int .i64 x1, .int .i64 x2] 30)).cell? ⟨w4.heap.size, 0, none⟩ = some (.int .i64 x1) := (blk_cell HC4.out 0).trans rfl
  have hC4_1 : (w4.alloc (.cells #[.int .i64 x1, .int .i64 x2] 30)).cell? ⟨w4.heap.size, 1, none⟩ = some (.int .i64 x2) := (blk_cell HC4.out 1).trans rfl
  go_wp2_with fail
  refine (bits_calls n s d u _).mono ?_
  rintro e w5 ⟨rfl, hB⟩
  have HB5 := Aside0.mk (below_step HB4.out hB)
  have HP5 : Aside0 (w5.heap[w.heap.size]? = some (.cells #[.int .i64 n, .int .i64 s] 30 (0, 0))) := ⟨(hB.block _ (get_lt HP4.out)).trans HP4.out⟩
  clear hP4_0 hP4_1
  have HA5 : Aside0 (w5.heap[w3.heap.size]? = some (.cells #[.int .i64 x1, .int .i64 x2] 30 (0, 0))) := ⟨(hB.block _ (get_lt HA4.out)).trans HA4.out⟩
  clear hA4_0 hA4_1
  have HC5 : Aside0 (w5.heap[w4.heap.size]? = some (.cells #[.int .i64 x1, .int .i64 x2] 30 (0, 0))) := ⟨(hB.block _ (get_lt HC4.out)).trans HC4.out⟩
  clear hC4_0 hC4_1
  clear hB HP4 HA4 HC4 HB4
  rw [show (bitsL n s d u).1 = ((codeL n s d u).1.length : Int) from rfl, show (bitsL n s d u).2 = (codeL n s d u).2 from rfl, HNC.out.1, HNC.out.2]
  have hP5_0 : w5.cell? ⟨w.heap.size, 0, none⟩ = some (.int .i64 n) := (blk_cell HP5.out 0).trans rfl
  have hP5_1 : w5.cell? ⟨w.heap.size, 1, none⟩ = some (.int .i64 s) := (blk_cell HP5.out 1).trans rfl
  have hA5_0 : w5.cell? ⟨w3.heap.size, 0, none⟩ = some (.int .i64 x1) := (blk_cell HA5.out 0).trans rfl
  have hA5_1 : w5.cell? ⟨w3.heap.size, 1, none⟩ = some (.int .i64 x2) := (blk_cell HA5.out 1).trans rfl
  have hC5_0 : w5.cell? ⟨w4.heap.size, 0, none⟩ = some (.int .i64 x1) := (blk_cell HC5.out 0).trans rfl
  have hC5_1 : w5.cell? ⟨w4.heap.size, 1, none⟩ = some (.int .i64 x2) := (blk_cell HC5.out 1).trans rfl
  go_wp2_with fail
  refine (code_calls n s d u _).mono ?_
  rintro e w6 ⟨v, rfl, hR, hB⟩
  have HB6 := Aside0.mk (below_step HB5.out hB)
  have HP6 : Aside0 (w6.heap[w.heap.size]? = some (.cells #[.int .i64 n, .int .i64 s] 30 (0, 0))) := ⟨(hB.block _ (get_lt HP5.out)).trans HP5.out⟩
  clear hP5_0 hP5_1
  have HA6 : Aside0 (w6.heap[w3.heap.size]? = some (.cells #[.int .i64 x1, .int .i64 x2] 30 (0, 0))) := ⟨(hB.block _ (get_lt HA5.out)).trans HA5.out⟩
  clear hA5_0 hA5_1
  have HC6 : Aside0 (w6.heap[w4.heap.size]? = some (.cells #[.int .i64 x1, .int .i64 x2] 30 (0, 0))) := ⟨(hB.block _ (get_lt HC5.out)).trans HC5.out⟩
  clear hC5_0 hC5_1
  clear hB HP5 HA5 HC5 HB5
  rw [HNC.out.1] at hR
  obtain ⟨A0, c0, rfl⟩ := Kd.R_slice hR
  clear hR
  rw [HNC.out.2]
  have hP6_0 : w6.cell? ⟨w.heap.size, 0, none⟩ = some (.int .i64 n) := (blk_cell HP6.out 0).trans rfl
  have hP6_1 : w6.cell? ⟨w.heap.size, 1, none⟩ = some (.int .i64 s) := (blk_cell HP6.out 1).trans rfl
  have hA6_0 : w6.cell? ⟨w3.heap.size, 0, none⟩ = some (.int .i64 x1) := (blk_cell HA6.out 0).trans rfl
  have hA6_1 : w6.cell? ⟨w3.heap.size, 1, none⟩ = some (.int .i64 x2) := (blk_cell HA6.out 1).trans rfl
  have hC6_0 : w6.cell? ⟨w4.heap.size, 0, none⟩ = some (.int .i64 x1) := (blk_cell HC6.out 0).trans rfl
  have hC6_1 : w6.cell? ⟨w4.heap.size, 1, none⟩ = some (.int .i64 x2) := (blk_cell HC6.out 1).trans rfl
  go_wp2_with fail
  refine (awake_calls _).mono ?_
  rintro e w7 ⟨rfl, hB⟩
  have HB7 := Aside0.mk (below_step HB6.out hB)
  have HP7 : Aside0 (w7.heap[w.heap.size]? = some (.cells #[.int .i64 n, .int .i64 s] 30 (0, 0))) := ⟨(hB.block _ (get_lt HP6.out)).trans HP6.out⟩
  clear hP6_0 hP6_1
  have HA7 : Aside0 (w7.heap[w3.heap.size]? = some (.cells #[.int .i64 x1, .int .i64 x2] 30 (0, 0))) := ⟨(hB.block _ (get_lt HA6.out)).trans HA6.out⟩
  clear hA6_0 hA6_1
  have HC7 : Aside0 (w7.heap[w4.heap.size]? = some (.cells #[.int .i64 x1, .int .i64 x2] 30 (0, 0))) := ⟨(hB.block _ (get_lt HC6.out)).trans HC6.out⟩
  clear hC6_0 hC6_1
  clear hB HP6 HA6 HC6 HB6
  have hP7_0 : w7.cell? ⟨w.heap.size, 0, none⟩ = some (.int .i64 n) := (blk_cell HP7.out 0).trans rfl
  have hP7_1 : w7.cell? ⟨w.heap.size, 1, none⟩ = some (.int .i64 s) := (blk_cell HP7.out 1).trans rfl
  have hA7_0 : w7.cell? ⟨w3.heap.size, 0, none⟩ = some (.int .i64 x1) := (blk_cell HA7.out 0).trans rfl
  have hA7_1 : w7.cell? ⟨w3.heap.size, 1, none⟩ = some (.int .i64 x2) := (blk_cell HA7.out 1).trans rfl
  have hC7_0 : w7.cell? ⟨w4.heap.size, 0, none⟩ = some (.int .i64 x1) := (blk_cell HC7.out 0).trans rfl
  have hC7_1 : w7.cell? ⟨w4.heap.size, 1, none⟩ = some (.int .i64 x2) := (blk_cell HC7.out 1).trans rfl
  go_wp2_with fail
  have HMay : Aside0 (∀ w : World, Calls Try.prog 21 #[.agg #[.int .i64 n, .int .i64 s]] w fun e w' => e = .returned (.bool bm) ∧ Below w.heap.size w w') := ⟨fun w => by rw [← HNM.out]; exact may_calls n s w⟩
  have HRMay : Aside0 (∀ w : World, Calls Try.prog 22 #[.agg #[.int .i64 n, .int .i64 s]] w fun e w' => e = .returned (.bool bm) ∧ Below w.heap.size w w') := ⟨fun w => by rw [← HNM.out]; exact refmay_calls n s w⟩
  have HSt : Aside0 (∀ w : World, Calls Try.prog 23 #[.int .i64 d] w fun e w' => e = .returned (.agg #[.int .i64 y1, .int .i64 y2]) ∧ Below w.heap.size w w') := ⟨fun w => by rw [← HNY.out.1, ← HNY.out.2]; exact start_calls d w⟩
  have HRSt : Aside0 (∀ w : World, Calls Try.prog 24 #[.int .i64 d] w fun e w' => e = .returned (.agg #[.int .i64 y1, .int .i64 y2]) ∧ Below w.heap.size w w') := ⟨fun w => by rw [← HNY.out.1, ← HNY.out.2]; exact refstart_calls d w⟩
  have HB := HB7
  have HP := HP7
  clear HB7 HP7 HA7 HC7 hA7_0 hA7_1 hC7_0 hC7_1
  go_region_held3 (fun w' => w'.cell? ⟨w.heap.size, 0, none⟩ = some (.int .i64 n) ∧ w'.cell? ⟨w.heap.size, 1, none⟩ = some (.int .i64 s)) (first | exact ⟨(blk_cell HP.out 0).trans rfl, (blk_cell HP.out 1).trans rfl⟩ | go_keep)
    (first
     | (go_at_call 21; refine (HMay.out _).mono ?_; rintro e w8 ⟨rfl, hB⟩; replace HB := Aside0.mk (below_step (by first | exact HB.out | exact below_drew1 HB.out | exact pw_below_drewN HB.out _ : Below w.heap.size w _) hB); replace HP := Aside0.mk (show w8.heap[w.heap.size]? = some (.cells #[.int .i64 n, .int .i64 s] 30 (0, 0)) from (hB.block _ (get_lt HP.out)).trans HP.out); clear hB)
     | (go_at_call 22; refine (HRMay.out _).mono ?_; rintro e w9 ⟨rfl, hB⟩; replace HB := Aside0.mk (below_step (by first | exact HB.out | exact below_drew1 HB.out | exact pw_below_drewN HB.out _ : Below w.heap.size w _) hB); replace HP := Aside0.mk (show w9.heap[w.heap.size]? = some (.cells #[.int .i64 n, .int .i64 s] 30 (0, 0)) from (hB.block _ (get_lt HP.out)).trans HP.out); clear hB)
     | (go_at_call 23; refine (HSt.out _).mono ?_; rintro e w10 ⟨rfl, hB⟩; replace HB := Aside0.mk (below_step (by first | exact HB.out | exact below_drew1 HB.out | exact pw_below_drewN HB.out _ : Below w.heap.size w _) hB); replace HP := Aside0.mk (show w10.heap[w.heap.size]? = some (.cells #[.int .i64 n, .int .i64 s] 30 (0, 0)) from (hB.block _ (get_lt HP.out)).trans HP.out); clear hB)
     | (go_at_call 24; refine (HRSt.out _).mono ?_; rintro e w11 ⟨rfl, hB⟩; replace HB := Aside0.mk (below_step (by first | exact HB.out | exact below_drew1 HB.out | exact pw_below_drewN HB.out _ : Below w.heap.size w _) hB); replace HP := Aside0.mk (show w11.heap[w.heap.size]? = some (.cells #[.int .i64 n, .int .i64 s] 30 (0, 0)) from (hB.block _ (get_lt HP.out)).trans HP.out); clear hB))
  all_goals (go_wp2; go_ret; exact ⟨rfl, by repeat (first | exact HB.out | apply pw_below_drewN | apply below_drew1)⟩)
end Go.Proofs.Ytnjfojpjfmnmcaa.Rice
