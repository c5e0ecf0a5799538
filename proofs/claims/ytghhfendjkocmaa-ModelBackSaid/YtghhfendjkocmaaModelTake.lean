/- The model's Take, walked. -/
import Derived.Test.YtghhfendjkocmaaModelWalk
import Derived.Test.YtghhfendjkocmaaRiceOne
namespace Go.Proofs.Ytghhfendjkocmaa.Model
open Go.RowKit Go.Proofs.Ytghhfendjkocmaa.Bits Go.Proofs.Ytghhfendjkocmaa.Rice Go.Proofs.YtghhfendjkocmaaW.PrintWords Go.Proofs.YtghhfendjkocmaaW.PrintMore Go.Proofs.Ytghhfendjkocmaa.BP
set_option linter.unusedVariables false
set_option linter.unusedSimpArgs false

theorem takeS_fits {l : List Int} (h01 : B01 l) {n s d u c : Int} (h : takeS l n s d = (u, c, 0)) : FitsP n s d u := by
  have q := (takeS_code h01 h).1
  rcases codeL_two n s d u with ⟨hf, _⟩ | ⟨_, e⟩
  · exact hf
  · rw [e] at q
    have := congrArg Prod.snd q
    simp at this
theorem takeS_zero {l : List Int} {n s d : Int} (h : (takeS l n s d).2.2 ≠ 0) : (takeS l n s d).1 = 0 := by
  revert h
  unfold takeS
  repeat' split
  all_goals simp
theorem mput_nilW (g : Nat) (R : Nat → Prop) (d p c u : Int) (seen : Seen) (w : World) (h : IsM w g R d seen) (hk : KeyOk p c) :
    Calls Try.prog 14 #[.pointer (some ⟨g, 0, none⟩), .pointer none, .int .i64 p, .int .i64 c, .int .i64 u] w fun e w' => e = .returned (.int .i64 1) ∧ Below w.heap.size w w' := by
  have hu := Try.underlying36
  have hum := Try.underlying64
  have HM0 := Aside0.mk h
  have HState : Aside0 (∀ v, IsM v g R d seen → Calls Try.prog 12 #[.pointer (some ⟨g, 0, none⟩), .int .i64 p, .int .i64 c] v fun e w' => e = .returned (.tuple #[.agg #[.int .i64 (stOf d p c seen).1, .int .i64 (stOf d p c seen).2], .int .i64 0]) ∧ Below v.heap.size v w') := ⟨fun v h => mstate_ok g R d seen p c v h hk⟩
  generalize (stOf d p c seen).1 = s0 at HState
  generalize (stOf d p c seen).2 = s1 at HState
  clear h hk
  go_enter Try.func14, Try.ntmps14
  go_wp2_with fail
  refine (HState.out _ HM0.out).mono ?_
  rintro e w1 ⟨rfl, hB⟩
  have HBa := Aside0.mk hB
  clear hB
  go_wp2_with fail
  generalize hw2 : w1.alloc (.cells #[.int .i64 s0, .int .i64 s1] 36) = w2
  have HB2 : Aside0 (Below w.heap.size w w2) := ⟨by rw [← hw2]; exact below_alloc HBa.out _⟩
  have HN2 : Aside0 (w2.heap[w1.heap.size]? = some (.cells #[.int .i64 s0, .int .i64 s1] 36 (0, 0))) := ⟨by rw [← hw2]; exact heap_alloc_new w1 _⟩
  clear hw2 HBa
  have HM2 := Aside0.mk (HM0.out.below HB2.out)
  obtain ⟨hd1, hd2, hG, b, D, hg, hb, hne, hc, ho, hv⟩ := HM2.out
  have hx0 : w2.cell? ⟨g, 0, none⟩ = some (.int .i64 d) := (blk_cell hc 0).trans rfl
  have hy0 : w2.cell? ⟨w1.heap.size, 0, none⟩ = some (.int .i64 s0) := (blk_cell HN2.out 0).trans rfl
  have hy1 : w2.cell? ⟨w1.heap.size, 1, none⟩ = some (.int .i64 s1) := (blk_cell HN2.out 1).trans rfl
  clear hG ho hv hc hg hb hne
  go_still_tail 7, (by kernel_rfl)
  change wpList _ _ _ _ _ w2.drew
  have HB3 : Aside0 (Below w.heap.size w w2.drew) := ⟨below_drew1 HB2.out⟩
  generalize w2.drew = w3 at HB3 ⊢
  clear HB2 HN2 HM2 hx0 hy0 hy1
  go_wp2_with fail
  refine (rput_nilS s0 s1 d u w3).mono ?_
  rintro e w4 ⟨rfl, hB⟩
  have HB4 := Aside0.mk (below_step HB3.out hB)
  clear hB
  go_wp2_with fail
  go_ret
  exact ⟨rfl, HB4.out⟩
theorem mtake_bad (g : Nat) (pr : Option Addr) (p c : Int) (w : World) (hk : ¬ KeyOk p c) : Calls Try.prog 24 #[.pointer (some ⟨g, 0, none⟩), .pointer pr, .int .i64 p, .int .i64 c] w fun e w' => e = .returned (.tuple #[.int .i64 0, .int .i64 1]) ∧ Below w.heap.size w w' := by
  have hu := Try.underlying36
  have HK := Aside0.mk hk
  clear hk
  go_enter Try.func24, Try.ntmps24
  go_wp2_with fail
  refine (mstate_bad g p c _ HK.out).mono ?_
  rintro e w1 ⟨rfl, hB⟩
  have HB1 : Aside0 (Below w.heap.size w (w1.alloc (.cells #[.int .i64 0, .int .i64 0] 36))) := ⟨below_alloc hB _⟩
  clear hB
  go_wp2
  go_ret2
  exact ⟨rfl, HB1.out⟩
theorem mtake_nilM (pr : Option Addr) (p c : Int) (w : World) : Calls Try.prog 24 #[.pointer none, .pointer pr, .int .i64 p, .int .i64 c] w fun e w' => e = .returned (.tuple #[.int .i64 0, .int .i64 1]) ∧ Below w.heap.size w w' := by
  have hu := Try.underlying36
  go_enter Try.func24, Try.ntmps24
  go_wp2_with fail
  refine (mstate_nil p c _).mono ?_
  rintro e w1 ⟨rfl, hB⟩
  have HB1 : Aside0 (Below w.heap.size w (w1.alloc (.cells #[.int .i64 0, .int .i64 0] 36))) := ⟨below_alloc hB _⟩
  clear hB
  go_wp2
  go_ret2
  exact ⟨rfl, HB1.out⟩
theorem IsM.depth {w : World} {g : Nat} {S : Nat → Prop} {d : Int} {seen : Seen} (h : IsM w g S d seen) : w.cell? ⟨g, 0, none⟩ = some (.int .i64 d) := by
  obtain ⟨h1, h2, h3, b, D, hg, hb, hne, hc, ho, hv⟩ := h
  exact (blk_cell hc 0).trans rfl
/-- What Take answers: t is what the bits ahead say. -/
def MTake (w : World) (g gr : Nat) (S R : Nat → Prop) (by_ : List Int) (pos d p c : Int) (seen : Seen) (t : Int × Int × Int) (e : Ending) (w' : World) : Prop :=
  (t.2.2 = 0 ∧ e = .returned (.tuple #[.int .i64 t.1, .int .i64 0]) ∧ IsR w' gr S by_ (pos + t.2.1) ∧ IsM w' g R d (seen ++ [(p, c, t.1)]) ∧ Kp w w' (fun k => S k ∨ R k)) ∨
  (t.2.2 ≠ 0 ∧ e = .returned (.tuple #[.int .i64 0, .int .i64 t.2.2]) ∧ (∃ q, IsR w' gr S by_ q) ∧ IsM w' g R d seen ∧ Kp w w' S)
set_option maxHeartbeats 1000000 in
theorem mtake_calls (g gr : Nat) (S R : Nat → Prop) (by_ : List Int) (pos d p c : Int) (seen : Seen) (w : World) (h : IsM w g R d seen) (hR : IsR w gr S by_ pos) (hdis : ∀ k, R k → ¬ S k) (hk : KeyOk p c) (hl : seen.length < 1048576) :
    Calls Try.prog 24 #[.pointer (some ⟨g, 0, none⟩), .pointer (some ⟨gr, 0, none⟩), .int .i64 p, .int .i64 c] w (MTake w g gr S R by_ pos d p c seen (takeS ((bitsOf by_).drop pos.toNat) (stOf d p c seen).1 (stOf d p c seen).2 d)) := by
  have hu := Try.underlying36
  have hum := Try.underlying64
  have HM0 := Aside0.mk h.bound
  have HR0 := Aside0.mk hR.bound
  have HD := Aside0.mk hdis
  have HK := Aside0.mk hk
  obtain ⟨s0, s1, hs⟩ : ∃ s0 s1, stOf d p c seen = (s0, s1) := ⟨_, _, rfl⟩
  have HState : Aside0 (∀ v, IsM v g (fun k => R k ∧ k < w.heap.size) d seen → Calls Try.prog 12 #[.pointer (some ⟨g, 0, none⟩), .int .i64 p, .int .i64 c] v fun e w' => e = .returned (.tuple #[.agg #[.int .i64 s0, .int .i64 s1], .int .i64 0]) ∧ Below v.heap.size v w') := ⟨fun v h => by
    have q := mstate_ok g _ d seen p c v h hk
    rw [hs] at q
    exact q⟩
  have HNote : Aside0 (∀ u, FitsP s0 s1 d u → ∀ v, IsM v g (fun k => R k ∧ k < w.heap.size) d seen → Calls Try.prog 35 #[.pointer (some ⟨g, 0, none⟩), .agg #[.int .i64 s0, .int .i64 s1], .int .i64 p, .int .i64 c, .int .i64 u] v (NotePost v g (fun k => R k ∧ k < w.heap.size) d p c u seen)) := ⟨fun u hf v h => by
    have q := mnote_calls g _ d p c u seen v h hk (by rw [hs]; exact hf) hl
    rw [hs] at q
    exact q⟩
  rw [hs]
  simp only
  have hzero := @takeS_zero ((bitsOf by_).drop pos.toNat) s0 s1 d
  have hfit := fun u k => @takeS_fits ((bitsOf by_).drop pos.toNat) ((bitsOf_01 by_).drop _) s0 s1 d u k
  have hpost := fun v h => rtake_calls gr (fun k => S k ∧ k < w.heap.size) by_ pos s0 s1 d v h
  unfold TakePost at hpost
  generalize takeS ((bitsOf by_).drop pos.toNat) s0 s1 d = ts at hzero hfit hpost
  obtain ⟨u, k, f⟩ := ts
  simp only at hzero hpost
  have HFit : Aside0 (f = 0 → FitsP s0 s1 d u) := ⟨fun e => hfit u k (by rw [e])⟩
  have HZero := Aside0.mk hzero
  have HPost := Aside0.mk hpost
  clear hs h hR hdis hk hl hzero hfit hpost
  go_enter Try.func24, Try.ntmps24
  go_wp2_with fail
  refine (HState.out _ HM0.out).mono ?_
  rintro e w1 ⟨rfl, hB⟩
  have HBa := Aside0.mk hB
  clear hB
  go_wp2_with fail
  generalize hw2 : w1.alloc (.cells #[.int .i64 s0, .int .i64 s1] 36) = w2
  have HB2 : Aside0 (Below w.heap.size w w2) := ⟨by rw [← hw2]; exact below_alloc HBa.out _⟩
  have HN2 : Aside0 (w2.heap[w1.heap.size]? = some (.cells #[.int .i64 s0, .int .i64 s1] 36 (0, 0))) := ⟨by rw [← hw2]; exact heap_alloc_new w1 _⟩
  have HZ : Aside0 (w.heap.size ≤ w1.heap.size) := ⟨HBa.out.size⟩
  clear hw2 HBa
  have HM2 := Aside0.mk (HM0.out.below HB2.out)
  have HR2 := Aside0.mk (HR0.out.below HB2.out)
  obtain ⟨hd1, hd2, hG, b, D, hg, hb, hne, hc, ho, hv⟩ := HM2.out
  have hx0 : w2.cell? ⟨g, 0, none⟩ = some (.int .i64 d) := (blk_cell hc 0).trans rfl
  have hy0 : w2.cell? ⟨w1.heap.size, 0, none⟩ = some (.int .i64 s0) := (blk_cell HN2.out 0).trans rfl
  have hy1 : w2.cell? ⟨w1.heap.size, 1, none⟩ = some (.int .i64 s1) := (blk_cell HN2.out 1).trans rfl
  clear hG ho hv hc hg hb hne
  go_region_held3 (fun w' => w'.cell? ⟨g, 0, none⟩ = some (.int .i64 d) ∧ w'.cell? ⟨w1.heap.size, 0, none⟩ = some (.int .i64 s0) ∧ w'.cell? ⟨w1.heap.size, 1, none⟩ = some (.int .i64 s1))
    (first | go_keep | exact ⟨hx0, hy0, hy1⟩ | exact ⟨hx4, hy4, hy5⟩)
    (first | (go_at_call 38; refine (HPost.out _ (by first | exact HR2.out | exact HR2.out.below (below_drew1 (Below.refl _ _)))).mono ?_; rintro e w4 ⟨q, rfl, hR4, hK4, hq⟩; have HK4 : Aside0 (Kp w2 w4 (fun k => S k ∧ k < w.heap.size)) := ⟨by first | exact hK4 | exact (Kp.refl w2 _).drew.then_ hK4 (fun k hk => .inl hk)⟩; have HR4 := Aside0.mk hR4; have HQ4 := Aside0.mk hq; have HM4 : Aside0 (IsM w4 g (fun k => R k ∧ k < w.heap.size) d seen) := ⟨HM2.out.kept HK4.out.1 (fun k hk h => HD.out k hk.1 h.1)⟩; have HN4 : Aside0 (w4.heap[w1.heap.size]? = some (.cells #[.int .i64 s0, .int .i64 s1] 36 (0, 0))) := ⟨(HK4.out.1.2 _ (Go.Proofs.YtghhfendjkocmaaW.PrintWords.blk_lt HN2.out) (fun h => by have := h.2; have := HZ.out; omega)).trans HN2.out⟩; have hx4 := HM4.out.depth; have hy4 : w4.cell? ⟨w1.heap.size, 0, none⟩ = some (.int .i64 s0) := (blk_cell HN4.out 0).trans rfl; have hy5 : w4.cell? ⟨w1.heap.size, 1, none⟩ = some (.int .i64 s1) := (blk_cell HN4.out 1).trans rfl; clear hK4 hR4 hq))
  clear HM2 HR2 HN2 hx0 hy0 hy1
  by_cases hf : f = 0
  · subst hf
    have HF := Aside0.mk (HFit.out rfl)
    have HP := Aside0.mk (HQ4.out rfl)
    clear HQ4
    go_wp2_with fail
    refine (HNote.out u HF.out _ HM4.out).mono ?_
    rintro e w5 ⟨rfl, hM5, hK5⟩
    have HM5 := Aside0.mk hM5
    have HK5 := Aside0.mk hK5
    have HR5 : Aside0 (IsR w5 gr (fun k => S k ∧ k < w.heap.size) by_ (pos + k)) := ⟨by rw [← HP.out]; exact HR4.out.kept hK5.1 (fun k hk h => HD.out k h.1 hk.1)⟩
    clear hM5 hK5 hx4 hy4 hy5
    go_wp2_with fail
    go_ret2
    exact Or.inl ⟨rfl, rfl, HR5.out.mono (fun k hk => hk.1), HM5.out.mono (fun k hk => hk.1), ((Kp.of_below HB2.out (fun k => S k ∨ R k)).then_ HK4.out (fun k hk => .inl (.inl hk.1))).then_ HK5.out (fun k hk => .inl (.inr hk.1))⟩
  · have t1 : (f != 0) = true := bne_iff_ne.mpr hf
    have HF := Aside0.mk hf
    clear hf
    go_wp2_with fail
    go_ret2
    exact Or.inr ⟨HF.out, rfl, ⟨_, HR4.out.mono (fun k hk => hk.1)⟩, HM4.out.mono (fun k hk => hk.1), (Kp.of_below HB2.out S).then_ HK4.out (fun k hk => .inl hk.1)⟩
end Go.Proofs.Ytghhfendjkocmaa.Model
