/- The model's functions, each walked once. -/
import Derived.Test.YtghhfendjkocmaaModelSpec
import Derived.Test.YtghhfendjkocmaaRicePut
import Derived.Test.YtghhfendjkocmaaRiceTake
import Derived.Test.YtghhfendjkocmaaTags
import Derived.Maps.OwnOps
import Derived.StillTailTactics
import Derived.Deep.RegionHeld3
namespace Go.Proofs.Ytghhfendjkocmaa.Model
open Go.RowKit Go.Proofs.Ytghhfendjkocmaa.Bits Go.Proofs.Ytghhfendjkocmaa.Rice Go.Proofs.YtghhfendjkocmaaW.PrintWords Go.Proofs.YtghhfendjkocmaaW.PrintMore Go.Proofs.Ytghhfendjkocmaa.BP
set_option linter.unusedVariables false
set_option linter.unusedSimpArgs false

theorem mnew_bad (d : Int) (h : d < 1 ∨ 16 < d) (w : World) : Calls Try.prog 7 #[.int .i64 d] w fun e w' => e = .returned (.tuple #[.pointer none, .int .i64 1]) ∧ w' = w := by
  by_cases c0 : d < 1
  · have b0 : decide (d < 1) = true := decide_eq_true c0
    clear h
    go_enter Try.func7, Try.ntmps7
    go_wp2
    go_ret2
    exact ⟨rfl, rfl⟩
  · have b0 : decide (d < 1) = false := decide_eq_false c0
    have b1 : decide (16 < d) = true := decide_eq_true (by omega)
    clear h
    go_enter Try.func7, Try.ntmps7
    go_wp2
    go_ret2
    exact ⟨rfl, rfl⟩
theorem mnew_ok (d : Int) (h1 : 1 ≤ d) (h2 : d ≤ 16) (w : World) : Calls Try.prog 7 #[.int .i64 d] w fun e w' => ∃ g, e = .returned (.tuple #[.pointer (some ⟨g, 0, none⟩), .int .i64 0]) ∧ IsM w' g (fun k => w.heap.size ≤ k) d [] ∧ Below w.heap.size w w' := by
  have hmm := @run_makeMap Try.prog
  have b0 : decide (d < 1) = false := decide_eq_false (by omega)
  have b1 : decide (16 < d) = false := decide_eq_false (by omega)
  have HM : Aside0 (IsM ((w.alloc (.map #[] 0)).alloc (.cells #[.int .i64 d, .map (some w.heap.size)] 64)) (w.heap.size + 1) (fun k => w.heap.size ≤ k) d []) := ⟨h1, h2, .nil, w.heap.size, .map [], by simp, Nat.le_refl _, by simp, by have h := heap_alloc_new (w.alloc (.map #[] 0)) (.cells #[.int .i64 d, .map (some w.heap.size)] 64); simpa using h, owns_same (World.ownsMap_made w _ _ _) (heap_alloc_old _ _ (by simp)), .nil d⟩
  have HB : Aside0 (Below w.heap.size w ((w.alloc (.map #[] 0)).alloc (.cells #[.int .i64 d, .map (some w.heap.size)] 64))) := ⟨below_alloc (below_alloc (Below.refl _ _) _) _⟩
  clear h1 h2
  go_enter Try.func7, Try.ntmps7
  go_wp2
  go_ret2
  exact ⟨_, rfl, HM.out, HB.out⟩
theorem look_model {P : Program} (w : World) {ops : Array Oper} {rest : List Oper} {o : Oper} {a : Act} {Q : Exit → Act → World → Prop} (hP : P = Try.prog) (hg : o.guard = none) (m x : Operand) (hop : o.op = Op.lookup 62 m x true)
    (b n : Nat) (D : DataW Unit) (hm : a.eval m = .map (some b)) (hown : w.ownsMap Try.prog 70 stElem b n D) {d : Int} {seen : Seen} (hv : MView d seen D) {p c : Int} (hx : a.eval x = .agg #[.int .i64 p, .int .i64 c]) (hk : KeyOk p c)
    {bh : Bool} {s0 s1 : Int} (hb : hasOf p c seen = bh) (hs : (if bh = true then stOf d p c seen else (0, 0)) = (s0, s1))
    (hK : wpList P ops Q rest (a.put o.dst (.tuple #[.agg #[.int .i64 s0, .int .i64 s1], .bool bh])) w) : wpList P ops Q (o :: rest) a w := by
  subst hP
  refine wpList_lookup_own_ok w hg m x _ hop _ 36 keyLaw Try.underlying62 stElem (z := .agg #[.int .i64 0, .int .i64 0]) (by kernel_rfl) (encM (0, 0)) [] rfl b n D hm hown _ (klM p c) hx (keyOfM hk) ?_
  intro v ps hR
  rw [hv.has _ _ hk, hb]
  have e : D.atKey (klM p c) (encM (0, 0)) = encM (s0, s1) := by
    cases bh with
    | true => rw [hv.at_ _ _ hk hb, ← hs]; rfl
    | false =>
      rw [Maps.atKey_of_not_has (by rw [hv.has _ _ hk, hb]), ← hs]; rfl
  rw [e] at hR
  rw [stElem_inv hR]
  exact hK
def stateL (d p c : Int) (seen : Seen) : (Int × Int) × Int := if KeyOk p c then (stOf d p c seen, 0) else ((0, 0), 1)
theorem mstate_nil (p c : Int) (w : World) : Calls Try.prog 12 #[.pointer none, .int .i64 p, .int .i64 c] w fun e w' => e = .returned (.tuple #[.agg #[.int .i64 0, .int .i64 0], .int .i64 1]) ∧ Below w.heap.size w w' := by
  have hu := Try.underlying36
  have HB := Aside0.mk (below_alloc (Below.refl w.heap.size w) (.cells #[.int .i64 0, .int .i64 0] 36))
  go_enter Try.func12, Try.ntmps12
  go_wp2
  refine bodyPost_ret (results_ct rfl _ _ w.heap.size 36 #[.int .i64 0, .int .i64 0] (0, 0) _ rfl (heap_alloc_new w _) hu rfl (by kernel_rfl)) rfl ?_
  exact ⟨rfl, HB.out⟩
theorem mstate_bad (g : Nat) (p c : Int) (w : World) (hk : ¬ KeyOk p c) : Calls Try.prog 12 #[.pointer (some ⟨g, 0, none⟩), .int .i64 p, .int .i64 c] w fun e w' => e = .returned (.tuple #[.agg #[.int .i64 0, .int .i64 0], .int .i64 1]) ∧ Below w.heap.size w w' := by
  have hu := Try.underlying36
  have HB := Aside0.mk (below_alloc (Below.refl w.heap.size w) (.cells #[.int .i64 0, .int .i64 0] 36))
  by_cases c0 : p < 0
  · have b0 : decide (p < 0) = true := decide_eq_true c0
    clear hk
    go_enter Try.func12, Try.ntmps12
    go_wp2
    refine bodyPost_ret (results_ct rfl _ _ w.heap.size 36 #[.int .i64 0, .int .i64 0] (0, 0) _ rfl (heap_alloc_new w _) hu rfl (by kernel_rfl)) rfl ?_
    exact ⟨rfl, HB.out⟩
  have b0 : decide (p < 0) = false := decide_eq_false c0
  by_cases c1 : 4 ≤ p
  · have b1 : decide (4 ≤ p) = true := decide_eq_true c1
    clear hk
    go_enter Try.func12, Try.ntmps12
    go_wp2
    refine bodyPost_ret (results_ct rfl _ _ w.heap.size 36 #[.int .i64 0, .int .i64 0] (0, 0) _ rfl (heap_alloc_new w _) hu rfl (by kernel_rfl)) rfl ?_
    exact ⟨rfl, HB.out⟩
  have b1 : decide (4 ≤ p) = false := decide_eq_false c1
  by_cases c2 : c < 0
  · have b2 : decide (c < 0) = true := decide_eq_true c2
    clear hk
    go_enter Try.func12, Try.ntmps12
    go_wp2
    refine bodyPost_ret (results_ct rfl _ _ w.heap.size 36 #[.int .i64 0, .int .i64 0] (0, 0) _ rfl (heap_alloc_new w _) hu rfl (by kernel_rfl)) rfl ?_
    exact ⟨rfl, HB.out⟩
  have b2 : decide (c < 0) = false := decide_eq_false c2
  have c3 : 256 ≤ c := by unfold KeyOk at hk; omega
  have b3 : decide (256 ≤ c) = true := decide_eq_true c3
  clear hk
  go_enter Try.func12, Try.ntmps12
  go_wp2
  refine bodyPost_ret (results_ct rfl _ _ w.heap.size 36 #[.int .i64 0, .int .i64 0] (0, 0) _ rfl (heap_alloc_new w _) hu rfl (by kernel_rfl)) rfl ?_
  exact ⟨rfl, HB.out⟩
theorem mstate_ok (g : Nat) (S : Nat → Prop) (d : Int) (seen : Seen) (p c : Int) (w : World) (h : IsM w g S d seen) (hk : KeyOk p c) : Calls Try.prog 12 #[.pointer (some ⟨g, 0, none⟩), .int .i64 p, .int .i64 c] w fun e w' => e = .returned (.tuple #[.agg #[.int .i64 (stOf d p c seen).1, .int .i64 (stOf d p c seen).2], .int .i64 0]) ∧ Below w.heap.size w w' := by
  have hu := Try.underlying36
  have hum := Try.underlying64
  obtain ⟨hd1, hd2, hG, b, D, hg, hb, hne, hc, ho, hv⟩ := h
  have HK := Aside0.mk hk
  unfold KeyOk at hk
  have b0 : decide (p < 0) = false := decide_eq_false (by omega)
  have b1 : decide (4 ≤ p) = false := decide_eq_false (by omega)
  have b2 : decide (c < 0) = false := decide_eq_false (by omega)
  have b3 : decide (256 ≤ c) = false := decide_eq_false (by omega)
  have hgl := blk_lt hc
  have hc0 : w.cell? ⟨g, 0, none⟩ = some (.int .i64 d) := (blk_cell hc 0).trans rfl
  have hc1 : w.cell? ⟨g, 1, none⟩ = some (.map (some b)) := (blk_cell hc 1).trans rfl
  have HO := Aside0.mk ho
  have HV := Aside0.mk hv
  have HBl := Aside0.mk (owns_lt ho)
  have HS : Aside0 (hasOf p c seen = false → stOf d p c seen = startL d) := ⟨stOf_not⟩
  clear hk hc ho hv hG hg hb hne
  cases hh : hasOf p c seen with
  | true =>
    have HH := Aside0.mk hh
    obtain ⟨s0, s1, hs⟩ : ∃ s0 s1, stOf d p c seen = (s0, s1) := ⟨_, _, rfl⟩
    rw [hs]
    have HE := Aside0.mk hs
    clear hs hh
    go_enter Try.func12, Try.ntmps12
    go_wp2_with (at_lookup; refine look_model _ rfl rfl _ _ rfl b _ D rfl (owns_same HO.out (heap_alloc_old _ _ HBl.out)) HV.out rfl HK.out HH.out (by rw [if_pos rfl, HE.out]) ?_)
    refine bodyPost_ret (results_ct rfl _ _ w.heap.size 36 #[.int .i64 s0, .int .i64 s1] (0, 0) _ rfl ((heap_alloc_old _ _ (by simp)).trans (heap_alloc_new w _)) hu rfl (by kernel_rfl)) rfl ?_
    exact ⟨rfl, below_alloc (below_alloc (Below.refl _ _) _) _⟩
  | false =>
    have HH := Aside0.mk hh
    rw [HS.out hh]
    obtain ⟨s0, s1, hs⟩ : ∃ s0 s1, startL d = (s0, s1) := ⟨_, _, rfl⟩
    rw [hs]
    have HE := Aside0.mk hs
    clear hh hs
    go_enter Try.func12, Try.ntmps12
    go_wp2_with (at_lookup; refine look_model _ rfl rfl _ _ rfl b _ D rfl (owns_same HO.out (heap_alloc_old _ _ HBl.out)) HV.out rfl HK.out HH.out (by rw [if_neg (by decide)]) ?_)
    refine (start_calls d _).mono ?_
    rintro e w1 ⟨rfl, hB⟩
    rw [HE.out]
    have HB1 : Aside0 (Below w.heap.size w w1) := ⟨below_step (below_alloc (below_alloc (Below.refl _ _) _) _) hB⟩
    have HK1 : Aside0 (w1.heap[w.heap.size]? = some (.cells #[.int .i64 0, .int .i64 0] 36 (0, 0))) := ⟨(hB.block _ (by simp; omega)).trans ((heap_alloc_old _ _ (by simp)).trans (heap_alloc_new w _))⟩
    have hc00 : w1.cell? ⟨w.heap.size, 0, none⟩ = some (.int .i64 0) := (blk_cell HK1.out 0).trans rfl
    have hc01 : w1.cell? ⟨w.heap.size, 1, none⟩ = some (.int .i64 0) := (blk_cell HK1.out 1).trans rfl
    have hf00 : w1.frozen? ⟨w.heap.size, 0, none⟩ = false := blk_frozen HK1.out 0
    have hf01 : w1.frozen? ⟨w.heap.size, 1, none⟩ = false := blk_frozen HK1.out 1
    clear hB
    go_wp2
    refine bodyPost_ret (results_ct rfl _ _ w.heap.size 36 #[.int .i64 s0, .int .i64 s1] (0, 0) _ rfl (blk_put (blk_put HK1.out 0 _ rfl) 1 _ rfl) hu rfl (by kernel_rfl)) rfl ?_
    exact ⟨rfl, below_set (below_set HB1.out (by simp)) (by simp)⟩
theorem mseen_nil (w : World) : Calls Try.prog 16 #[.pointer none] w fun e w' => e = .returned (.int .i64 0) ∧ w' = w := by
  go_enter Try.func16, Try.ntmps16
  go_wp2
  go_ret
  exact ⟨rfl, rfl⟩
theorem mseen_calls (g : Nat) (S : Nat → Prop) (d : Int) (seen : Seen) (w : World) (h : IsM w g S d seen) : Calls Try.prog 16 #[.pointer (some ⟨g, 0, none⟩)] w fun e w' => e = .returned (.int .i64 (cntOf seen)) ∧ w' = w := by
  have hum := Try.underlying64
  obtain ⟨hd1, hd2, hG, b, D, hg, hb, hne, hc, ho, hv⟩ := h
  have hc1 : w.cell? ⟨g, 1, none⟩ = some (.map (some b)) := (blk_cell hc 1).trans rfl
  have HO := Aside0.mk ho
  have HV := Aside0.mk hv.size
  clear hc ho hv hG hg hb hne
  go_enter Try.func16, Try.ntmps16
  go_wp2_with (at_len; refine wpList_len_own _ rfl _ _ rfl _ _ Try.underlying62 stElem b _ D rfl HO.out ?_)
  go_ret
  exact ⟨by rw [← HV.out]; rfl, rfl⟩
def NotePost (w : World) (g : Nat) (S : Nat → Prop) (d p c u : Int) (seen : Seen) (e : Ending) (w' : World) : Prop :=
  e = .returned (.int .i64 0) ∧ IsM w' g S d (seen ++ [(p, c, u)]) ∧ Kp w w' S
theorem mnote_calls (g : Nat) (S : Nat → Prop) (d p c u : Int) (seen : Seen) (w : World) (h : IsM w g S d seen) (hk : KeyOk p c) (hf : FitsP (stOf d p c seen).1 (stOf d p c seen).2 d u) (hl : seen.length < 1048576) :
    Calls Try.prog 35 #[.pointer (some ⟨g, 0, none⟩), .agg #[.int .i64 (stOf d p c seen).1, .int .i64 (stOf d p c seen).2], .int .i64 p, .int .i64 c, .int .i64 u] w (NotePost w g S d p c u seen) := by
  have hu := Try.underlying36
  have hum := Try.underlying64
  have hnx := next_mayM hf
  obtain ⟨s0, s1, hs⟩ : ∃ s0 s1, stOf d p c seen = (s0, s1) := ⟨_, _, rfl⟩
  have hst : stStep (stOf d p c seen) u = ((nextL s0 s1 u).1, (nextL s0 s1 u).2.1) := by rw [hs]; rfl
  rw [hs] at hf hnx ⊢
  simp only at hf hnx ⊢
  have HNext : Aside0 (∀ w, Calls Try.prog 46 #[.agg #[.int .i64 s0, .int .i64 s1], .int .i64 u] w fun e w' => e = .returned (.tuple #[.agg #[.int .i64 (nextL s0 s1 u).1, .int .i64 (nextL s0 s1 u).2.1], .int .i64 0]) ∧ Below w.heap.size w w') := ⟨fun w => by
    have q := next_calls s0 s1 u w
    have e : (nextL s0 s1 u).2.2 = 0 := by rw [hnx.1]
    rw [e] at q
    exact q⟩
  generalize (nextL s0 s1 u).1 = n0 at HNext hst
  generalize (nextL s0 s1 u).2.1 = n1 at HNext hst
  obtain ⟨hd1, hd2, hG, b, D, hg, hb, hne, hc, ho, hv⟩ := h
  have HST := Aside0.mk hst
  have HGood : Aside0 (Good d (seen ++ [(p, c, u)])) := ⟨.snoc hG hk (by rw [hs]; exact hf)⟩
  have HV2 := Aside0.mk (hv.put (u := u) hk)
  have HK := Aside0.mk hk
  have HC := Aside0.mk hc
  have HO := Aside0.mk ho
  have HD := Aside0.mk (And.intro hd1 hd2)
  have HSS := Aside0.mk (And.intro hg (And.intro hb hne))
  have HBl := Aside0.mk (owns_lt ho)
  clear hst hf hnx hG hc ho hv hg hb hne hd1 hd2 hk hs
  go_enter Try.func35, Try.ntmps35
  go_wp2_with fail
  refine (HNext.out _).mono ?_
  rintro e w1 ⟨rfl, hB⟩
  have HB1 : Aside0 (Below w.heap.size w w1) := ⟨below_step (below_alloc (Below.refl _ _) _) hB⟩
  have HC1 := Aside0.mk ((HB1.out.block _ (blk_lt HC.out)).trans HC.out)
  have HO1 := Aside0.mk (owns_same HO.out (HB1.out.block _ HBl.out))
  clear hB HC HO
  go_wp2_with fail
  generalize hw2 : w1.alloc (.cells #[.int .i64 n0, .int .i64 n1] 36) = w2
  have HB2 : Aside0 (Below w1.heap.size w1 w2) := ⟨by rw [← hw2]; exact below_alloc (Below.refl _ _) _⟩
  have HC2 := Aside0.mk ((HB2.out.block _ (blk_lt HC1.out)).trans HC1.out)
  have HO2 := Aside0.mk (owns_same HO1.out (HB2.out.block _ (owns_lt HO1.out)))
  have HN2 : Aside0 (w2.heap[w1.heap.size]? = some (.cells #[.int .i64 n0, .int .i64 n1] 36 (0, 0))) := ⟨by rw [← hw2]; exact heap_alloc_new w1 _⟩
  have hx1 : w2.cell? ⟨g, 1, none⟩ = some (.map (some b)) := (blk_cell HC2.out 1).trans rfl
  have hy0 : w2.cell? ⟨w1.heap.size, 0, none⟩ = some (.int .i64 n0) := (blk_cell HN2.out 0).trans rfl
  have hy1 : w2.cell? ⟨w1.heap.size, 1, none⟩ = some (.int .i64 n1) := (blk_cell HN2.out 1).trans rfl
  clear hw2 HC1 HO1
  go_still_tail 8, (by kernel_rfl)
  change wpList _ _ _ _ _ w2.drew
  have HB3 : Aside0 (Below w.heap.size w w2.drew) := ⟨below_drew1 (below_step HB1.out HB2.out)⟩
  have HC3 : Aside0 (w2.drew.heap[g]? = some (.cells #[.int .i64 d, .map (some b)] 64 (0, 0))) := ⟨HC2.out⟩
  have HO3 : Aside0 (w2.drew.ownsMap Try.prog 70 stElem b seen.length D) := ⟨HO2.out⟩
  generalize w2.drew = w3 at HB3 HC3 HO3 ⊢
  clear HC2 HO2 HN2 hx1 hy0 hy1 HB2
  go_wp2_with (at_mapUpdate; refine wpList_mapUpdate_own _ rfl _ _ _ 62 rfl 70 36 keyLaw Try.underlying62 stElem b _ D rfl HO3.out (by unfold maxLen; omega) _ _ _ rfl rfl (keyOfM HK.out) _ [] (stElem_mk n0 n1) ?_; intro w4 hown4 hg4; have HO4 := Aside0.mk hown4; have HG4 := Aside0.mk hg4; clear hown4 hg4)
  go_ret
  refine ⟨rfl, ⟨HD.out.1, HD.out.2, HGood.out, b, _, HSS.out.1, HSS.out.2.1, HSS.out.2.2, ?_, ?_, HV2.out⟩, ?_⟩
  · exact (HG4.out.block g (blk_lt HC3.out) (fun e => HSS.out.2.2 (Option.some.inj e))).trans HC3.out
  · rw [List.length_append, HST.out]; exact HO4.out
  · exact ⟨Kept.of_grown HG4.out (Kept.of_below HB3.out S) (fun k hk => .inl ((Option.some.inj hk) ▸ HSS.out.2.1)), (HB3.out.mono (Nat.zero_le _)).grown HG4.out (Nat.zero_le _) (fun _ _ => Nat.zero_le _)⟩
theorem rput_nilS (n s d u : Int) (w : World) : Calls Try.prog 34 #[.pointer none, .agg #[.int .i64 n, .int .i64 s], .int .i64 d, .int .i64 u] w fun e w' => e = .returned (.int .i64 1) ∧ Below w.heap.size w w' := by
  have hu := Try.underlying36
  have HB := Aside0.mk (below_alloc (Below.refl w.heap.size w) (.cells #[.int .i64 n, .int .i64 s] 36))
  have HK := Aside0.mk (heap_alloc_new w (.cells #[.int .i64 n, .int .i64 s] 36))
  go_enter Try.func34, Try.ntmps34
  go_wp2_with fail
  refine (param_calls n s d _).mono ?_
  rintro e w1 ⟨rfl, hB⟩
  have HB1 := Aside0.mk (below_step HB.out hB)
  generalize (paramL n s d).1 = x
  generalize (paramL n s d).2 = y
  clear hB
  go_wp2
  go_ret
  exact ⟨rfl, HB1.out⟩
theorem mput_bad (g : Nat) (pw : Option Addr) (p c u : Int) (w : World) (hk : ¬ KeyOk p c) : Calls Try.prog 14 #[.pointer (some ⟨g, 0, none⟩), .pointer pw, .int .i64 p, .int .i64 c, .int .i64 u] w fun e w' => e = .returned (.int .i64 1) ∧ Below w.heap.size w w' := by
  have hu := Try.underlying36
  have HK := Aside0.mk hk
  clear hk
  go_enter Try.func14, Try.ntmps14
  go_wp2_with fail
  refine (mstate_bad g p c _ HK.out).mono ?_
  rintro e w1 ⟨rfl, hB⟩
  have HB1 : Aside0 (Below w.heap.size w (w1.alloc (.cells #[.int .i64 0, .int .i64 0] 36))) := ⟨below_alloc hB _⟩
  clear hB
  go_wp2
  go_ret
  exact ⟨rfl, HB1.out⟩
theorem mput_nilM (pw : Option Addr) (p c u : Int) (w : World) : Calls Try.prog 14 #[.pointer none, .pointer pw, .int .i64 p, .int .i64 c, .int .i64 u] w fun e w' => e = .returned (.int .i64 1) ∧ Below w.heap.size w w' := by
  have hu := Try.underlying36
  go_enter Try.func14, Try.ntmps14
  go_wp2_with fail
  refine (mstate_nil p c _).mono ?_
  rintro e w1 ⟨rfl, hB⟩
  have HB1 : Aside0 (Below w.heap.size w (w1.alloc (.cells #[.int .i64 0, .int .i64 0] 36))) := ⟨below_alloc hB _⟩
  clear hB
  go_wp2
  go_ret
  exact ⟨rfl, HB1.out⟩
def MPut (w : World) (g gw : Nat) (S R : Nat → Prop) (bs : List Int) (d p c u : Int) (seen : Seen) (e : Ending) (w' : World) : Prop :=
  (FitsP (stOf d p c seen).1 (stOf d p c seen).2 d u ∧ e = .returned (.int .i64 0) ∧ IsW w' gw (fun k => S k ∨ w.heap.size ≤ k) (bs ++ (codeL (stOf d p c seen).1 (stOf d p c seen).2 d u).1) ∧ IsM w' g R d (seen ++ [(p, c, u)]) ∧ Kp w w' (fun k => S k ∨ R k)) ∨
  (¬ FitsP (stOf d p c seen).1 (stOf d p c seen).2 d u ∧ e = .returned (.int .i64 1) ∧ IsW w' gw (fun k => S k ∨ w.heap.size ≤ k) bs ∧ IsM w' g R d seen ∧ Kp w w' S)
set_option maxHeartbeats 1000000 in
theorem mput_calls (g gw : Nat) (S R : Nat → Prop) (bs : List Int) (d p c u : Int) (seen : Seen) (w : World) (h : IsM w g R d seen) (hW : IsW w gw S bs) (hdis : ∀ k, R k → ¬ S k) (hk : KeyOk p c) (hl : seen.length < 1048576) (hbl : bs.length < 1099511627600) :
    Calls Try.prog 14 #[.pointer (some ⟨g, 0, none⟩), .pointer (some ⟨gw, 0, none⟩), .int .i64 p, .int .i64 c, .int .i64 u] w (MPut w g gw S R bs d p c u seen) := by
  have hu := Try.underlying36
  have hum := Try.underlying64
  have HM0 := Aside0.mk h.bound
  have HW0 := Aside0.mk hW.bound
  have HD := Aside0.mk hdis
  have HK := Aside0.mk hk
  obtain ⟨s0, s1, hs⟩ : ∃ s0 s1, stOf d p c seen = (s0, s1) := ⟨_, _, rfl⟩
  have HState : Aside0 (∀ v, IsM v g (fun k => R k ∧ k < w.heap.size) d seen → Calls Try.prog 12 #[.pointer (some ⟨g, 0, none⟩), .int .i64 p, .int .i64 c] v fun e w' => e = .returned (.tuple #[.agg #[.int .i64 s0, .int .i64 s1], .int .i64 0]) ∧ Below v.heap.size v w') := ⟨fun v h => by
    have q := mstate_ok g _ d seen p c v h hk
    rw [hs] at q
    exact q⟩
  have HNote : Aside0 (FitsP s0 s1 d u → ∀ v, IsM v g (fun k => R k ∧ k < w.heap.size) d seen → Calls Try.prog 35 #[.pointer (some ⟨g, 0, none⟩), .agg #[.int .i64 s0, .int .i64 s1], .int .i64 p, .int .i64 c, .int .i64 u] v (NotePost v g (fun k => R k ∧ k < w.heap.size) d p c u seen)) := ⟨fun hf v h => by
    have q := mnote_calls g _ d p c u seen v h hk (by rw [hs]; exact hf) hl
    rw [hs] at q
    exact q⟩
  unfold MPut
  rw [hs]
  simp only
  clear hs h hW hdis hk hl
  go_enter Try.func14, Try.ntmps14
  go_wp2_with fail
  refine (HState.out _ HM0.out).mono ?_
  rintro e w1 ⟨rfl, hB⟩
  have HBa := Aside0.mk hB
  clear hB
  go_wp2_with fail
  generalize hw2 : w1.alloc (.cells #[.int .i64 s0, .int .i64 s1] 36) = w2
  have HB2 : Aside0 (Below w.heap.size w w2) := ⟨by rw [← hw2]; exact below_alloc HBa.out _⟩
  have HN2 : Aside0 (w2.heap[w1.heap.size]? = some (.cells #[.int .i64 s0, .int .i64 s1] 36 (0, 0))) := ⟨by rw [← hw2]; exact heap_alloc_new w1 _⟩
  have HZ : Aside0 (w.heap.size ≤ w1.heap.size) := ⟨HBa.out.size⟩
  clear hw2 HBa
  have HM2 := Aside0.mk (HM0.out.below HB2.out)
  have HW2 := Aside0.mk (HW0.out.below HB2.out)
  obtain ⟨hd1, hd2, hG, b, D, hg, hb, hne, hc, ho, hv⟩ := HM2.out
  have hx0 : w2.cell? ⟨g, 0, none⟩ = some (.int .i64 d) := (blk_cell hc 0).trans rfl
  have hy0 : w2.cell? ⟨w1.heap.size, 0, none⟩ = some (.int .i64 s0) := (blk_cell HN2.out 0).trans rfl
  have hy1 : w2.cell? ⟨w1.heap.size, 1, none⟩ = some (.int .i64 s1) := (blk_cell HN2.out 1).trans rfl
  clear hG ho hv hc hg hb hne
  go_still_tail 7, (by kernel_rfl)
  change wpList _ _ _ _ _ w2.drew
  have HB3 : Aside0 (Below w.heap.size w w2.drew) := ⟨below_drew1 HB2.out⟩
  have HN3 : Aside0 (w2.drew.heap[w1.heap.size]? = some (.cells #[.int .i64 s0, .int .i64 s1] 36 (0, 0))) := ⟨HN2.out⟩
  have HM3 : Aside0 (IsM w2.drew g (fun k => R k ∧ k < w.heap.size) d seen) := ⟨HM2.out⟩
  have HW3 : Aside0 (IsW w2.drew gw (fun k => S k ∧ k < w.heap.size) bs) := ⟨HW2.out⟩
  generalize w2.drew = w3 at HB3 HN3 HM3 HW3 ⊢
  clear HB2 HN2 HM2 HW2 hx0 hy0 hy1
  have hbl2 := hbl
  go_wp2_with fail
  refine (rput_calls gw _ bs s0 s1 d u w3 HW3.out hbl2).mono ?_
  rintro e w4 ⟨rfl, hW4, hK4⟩
  have HW4 := Aside0.mk hW4
  have HK4 := Aside0.mk hK4
  have HN4 : Aside0 (w4.heap[w1.heap.size]? = some (.cells #[.int .i64 s0, .int .i64 s1] 36 (0, 0))) := ⟨(hK4.1.2 _ (blk_lt HN3.out) (fun h => by have := h.2; have := HZ.out; omega)).trans HN3.out⟩
  have HM4 : Aside0 (IsM w4 g (fun k => R k ∧ k < w.heap.size) d seen) := ⟨HM3.out.kept hK4.1 (fun k hk h => HD.out k hk.1 h.1)⟩
  clear hW4 hK4
  by_cases hf : FitsP s0 s1 d u
  · have hcode : codeL s0 s1 d u = ((codeL s0 s1 d u).1, 0) := by unfold codeL; rw [if_pos hf]
    rw [hcode]
    have HF := Aside0.mk hf
    have hy0 : w4.cell? ⟨w1.heap.size, 0, none⟩ = some (.int .i64 s0) := (blk_cell HN4.out 0).trans rfl
    have hy1 : w4.cell? ⟨w1.heap.size, 1, none⟩ = some (.int .i64 s1) := (blk_cell HN4.out 1).trans rfl
    clear hcode hf
    go_wp2_with fail
    refine (HNote.out HF.out _ HM4.out).mono ?_
    rintro e w5 ⟨rfl, hM5, hK5⟩
    have HM5 := Aside0.mk hM5
    have HK5 := Aside0.mk hK5
    have HW5 : Aside0 (IsW w5 gw (fun k => S k ∨ w.heap.size ≤ k) (bs ++ (codeL s0 s1 d u).1)) := ⟨(HW4.out.kept hK5.1 (fun k hk h => by
      rcases hk with hk | hk
      · exact HD.out k h.1 hk.1
      · have := h.2; have := HB3.out.size; omega)).mono (fun k hk => hk.elim (fun h => .inl h.1) (fun h => .inr (Nat.le_trans HB3.out.size h)))⟩
    clear hM5 hK5 hy0 hy1
    go_wp2_with fail
    go_ret
    exact .inl ⟨HF.out, rfl, HW5.out, HM5.out.mono (fun k hk => hk.1), ((Kp.of_below HB3.out (fun k => S k ∨ R k)).then_ HK4.out (fun k hk => .inl (.inl hk.1))).then_ HK5.out (fun k hk => .inl (.inr hk.1))⟩
  · have hcode : codeL s0 s1 d u = ([], 1) := by unfold codeL; rw [if_neg hf]
    rw [hcode]
    have HF := Aside0.mk hf
    clear hf
    rw [hcode, List.append_nil] at HW4
    clear hcode
    go_wp2_with fail
    go_ret
    exact .inr ⟨HF.out, rfl, HW4.out.mono (fun k hk => hk.elim (fun h => .inl h.1) (fun h => .inr (Nat.le_trans HB3.out.size h))), HM4.out.mono (fun k hk => hk.1), (Kp.of_below HB3.out S).then_ HK4.out (fun k hk => .inl hk.1)⟩
end Go.Proofs.Ytghhfendjkocmaa.Model
