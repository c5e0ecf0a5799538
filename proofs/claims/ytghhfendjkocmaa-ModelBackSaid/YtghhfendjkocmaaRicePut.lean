/- Package rice: its calls, as they are meant; Put. -/
import Derived.Test.YtghhfendjkocmaaRiceCalls
import Derived.Test.YtghhfendjkocmaaRefBits3
namespace Go.Proofs.Ytghhfendjkocmaa.Rice
open Go.RowKit Go.Proofs.Ytghhfendjkocmaa.Bits Go.Proofs.YtghhfendjkocmaaW.PrintWords Go.Proofs.YtghhfendjkocmaaW.PrintMore Go.Proofs.Ytghhfendjkocmaa.BP
set_option linter.unusedVariables false
set_option linter.unusedSimpArgs false


theorem numBits_mod (u : Int) (k : Nat) : 0 ≤ u % 2 ^ k ∧ u % 2 ^ k / 2 ^ k = 0 := by
  have hp : (0 : Int) < 2 ^ k := Int.pow_pos (by decide)
  have h0 := Int.emod_nonneg u (show (2 : Int) ^ k ≠ 0 by omega)
  exact ⟨h0, Int.ediv_eq_zero_of_lt h0 (Int.emod_lt_of_pos _ hp)⟩
theorem and_mask {u : Int} {k : Nat} (h0 : 0 ≤ u) (h1 : u < 65536) (hk : k ≤ 16) : bits .and .i64 u (2 ^ k - 1) = u % 2 ^ k :=
  bits_mask .i64 62 (by decide) (fun n h0 h1 => by rw [IntKind.wrap_i64]; omega) k (by omega) u h0 (by omega)

set_option maxRecDepth 100000 in
theorem rput_bad1 (g : Nat) (S : Nat → Prop) (bs : List Int) (n s d u : Int) (w : World) (h : IsW w g S bs) (hl : bs.length < 1099511627600) (hf : ¬ FitsP n s d 0) :
    Calls Try.prog 34 #[.pointer (some ⟨g, 0, none⟩), .agg #[.int .i64 n, .int .i64 s], .int .i64 d, .int .i64 u] w fun e w' => e = .returned (.int .i64 1) ∧ Below w.heap.size w w' := by
  have hu := Try.underlying36
  have HB := Aside0.mk (below_alloc (Below.refl w.heap.size w) (.cells #[.int .i64 n, .int .i64 s] 36))
  have HP : Aside0 (paramL n s d = (0, 1)) := ⟨by unfold paramL; rw [if_neg hf]⟩
  clear h hf
  go_enter Try.func34, Try.ntmps34
  go_wp2_with fail
  refine (param_calls n s d _).mono ?_
  rintro e w1 ⟨rfl, hB⟩
  rw [HP.out]
  have HB1 := Aside0.mk (below_step HB.out hB)
  have hb : w1.heap[w.heap.size]? = some (.cells #[.int .i64 n, .int .i64 s] 36 (0, 0)) := (hB.block _ (by simp)).trans (heap_alloc_new w _)
  have hc0 : w1.cell? ⟨w.heap.size, 0, none⟩ = some (.int .i64 n) := (blk_cell hb 0).trans rfl
  have hc1 : w1.cell? ⟨w.heap.size, 1, none⟩ = some (.int .i64 s) := (blk_cell hb 1).trans rfl
  clear hB hb
  go_wp2
  go_ret
  exact ⟨rfl, HB1.out⟩

set_option maxRecDepth 100000 in
theorem rput_bad2 (g : Nat) (S : Nat → Prop) (bs : List Int) (n s d u : Int) (w : World) (h : IsW w g S bs) (hl : bs.length < 1099511627600) (hf : FitsP n s d 0) (hf2 : ¬ FitsP n s d u) :
    Calls Try.prog 34 #[.pointer (some ⟨g, 0, none⟩), .agg #[.int .i64 n, .int .i64 s], .int .i64 d, .int .i64 u] w fun e w' => e = .returned (.int .i64 1) ∧ Below w.heap.size w w' := by
  have hu := Try.underlying36
  have HB := Aside0.mk (below_alloc (Below.refl w.heap.size w) (.cells #[.int .i64 n, .int .i64 s] 36))
  have HP : Aside0 (paramL n s d = ((paramK n s d.toNat : Int), 0)) := ⟨by unfold paramL; rw [if_pos hf]⟩
  have HD := Aside0.mk (decide_eq_false hf2)
  clear h hf hf2
  go_enter Try.func34, Try.ntmps34
  go_wp2_with fail
  refine (param_calls n s d _).mono ?_
  rintro e w1 ⟨rfl, hB⟩
  rw [HP.out]
  have HB1 := Aside0.mk (below_step HB.out hB)
  have hb : w1.heap[w.heap.size]? = some (.cells #[.int .i64 n, .int .i64 s] 36 (0, 0)) := (hB.block _ (by simp)).trans (heap_alloc_new w _)
  have hc0 : w1.cell? ⟨w.heap.size, 0, none⟩ = some (.int .i64 n) := (blk_cell hb 0).trans rfl
  have hc1 : w1.cell? ⟨w.heap.size, 1, none⟩ = some (.int .i64 s) := (blk_cell hb 1).trans rfl
  clear hB hb
  go_wp2_with fail
  refine (fits_calls n s d u _).mono ?_
  rintro e w2 ⟨rfl, hB⟩
  have HB2 := Aside0.mk (below_step HB1.out hB)
  clear hB
  rw [HD.out]
  go_wp2
  go_ret
  exact ⟨rfl, HB2.out⟩

set_option maxRecDepth 100000 in
set_option maxHeartbeats 1000000 in
theorem rput_ok (g : Nat) (S : Nat → Prop) (bs : List Int) (n s d u : Int) (w : World) (h : IsW w g S bs) (hl : bs.length < 1099511627600) (hf : FitsP n s d u) :
    Calls Try.prog 34 #[.pointer (some ⟨g, 0, none⟩), .agg #[.int .i64 n, .int .i64 s], .int .i64 d, .int .i64 u] w fun e w' => e = .returned (.int .i64 0) ∧ IsW w' g (fun k => S k ∨ w.heap.size ≤ k) (bs ++ symL (paramK n s d.toNat) d.toNat u) ∧ Kp w w' S := by
  have hu := Try.underlying36
  have HB := Aside0.mk (below_alloc (Below.refl w.heap.size w) (.cells #[.int .i64 n, .int .i64 s] 36))
  have HP : Aside0 (paramL n s d = ((paramK n s d.toNat : Int), 0)) := ⟨by unfold paramL; rw [if_pos (fits_zero hf)]⟩
  have HD := Aside0.mk (decide_eq_true hf)
  have hul := fits_lt hf
  have hk16 := paramK_16 hf
  obtain ⟨k, hk⟩ : ∃ k, k = paramK n s d.toNat := ⟨_, rfl⟩
  rw [← hk] at hk16 HP ⊢
  clear hk
  have hd0 := hf.2.1
  have hd1 := hf.2.2.1
  have HQ := Aside0.mk hf.2.2.2.2
  have HU := Aside0.mk hul
  have hu0 := hul.1
  obtain ⟨q, hq⟩ : ∃ q, q = u / 2 ^ k := ⟨_, rfl⟩
  have hq0 : 0 ≤ q := by rw [hq]; exact Int.ediv_nonneg hul.1 (Int.le_of_lt (Int.pow_pos (by decide)))
  have hq' : u / 2 ^ k = q := hq.symm
  have hq'' : u / 2 ^ min ((k : Int)).toNat 64 = q := by rw [hq, Int.toNat_natCast, Nat.min_eq_left (by omega)]
  have hkk : (0 : Int) ≤ (k : Int) := by omega
  have hkk1 : decide ((0 : Int) ≤ (k : Int)) = true := decide_eq_true hkk
  have hk64 : (k : Int) ≤ 64 := by omega
  have HW := Aside0.mk h
  have HSY : Aside0 (symL k d.toNat u = if 20 ≤ q then List.replicate 20 1 ++ numBits u d.toNat else List.replicate q.toNat 1 ++ [0] ++ numBits (u % 2 ^ k) k) := ⟨by unfold symL; rw [hq]⟩
  have HQE := Aside0.mk hq
  clear h hf hul hq
  by_cases hc : 20 ≤ q
  · have c1 : decide (q < 20) = false := decide_eq_false (by omega)
    have HC := Aside0.mk hc
    clear hc
    go_enter Try.func34, Try.ntmps34
    go_wp2_with fail
    refine (param_calls n s d _).mono ?_
    rintro e w1 ⟨rfl, hB⟩
    rw [HP.out]
    have HB1 := Aside0.mk (below_step HB.out hB)
    have hb : w1.heap[w.heap.size]? = some (.cells #[.int .i64 n, .int .i64 s] 36 (0, 0)) := (hB.block _ (by simp)).trans (heap_alloc_new w _)
    have hc0 : w1.cell? ⟨w.heap.size, 0, none⟩ = some (.int .i64 n) := (blk_cell hb 0).trans rfl
    have hc1 : w1.cell? ⟨w.heap.size, 1, none⟩ = some (.int .i64 s) := (blk_cell hb 1).trans rfl
    clear hB hb
    have HW1 : Aside0 (IsW w1 g S bs) := ⟨HW.out.below HB1.out⟩
    go_wp2_with fail
    refine (fits_calls n s d u _).mono ?_
    rintro e w2 ⟨rfl, hB⟩
    have HB2 := Aside0.mk (below_step HB1.out hB)
    have HW2 : Aside0 (IsW w2 g S bs) := ⟨HW.out.below HB2.out⟩
    clear hB
    rw [HD.out]
    go_wp2_with fail
    refine (ones_ok g S bs 20 20 _ HW2.out (by decide) (by decide) (by decide) (by decide) (by omega)).mono ?_
    rintro e w3 ⟨rfl, hW, hK⟩
    have HW3 := Aside0.mk hW
    have HK3 := Aside0.mk ((Kp.of_below HB2.out S).then_ hK (fun k hk => .inl hk))
    clear hW hK
    go_wp2_with fail
    refine (put_ok g _ _ u d _ HW3.out (by omega) (by omega) hu0 HQ.out (by simp; omega)).mono ?_
    rintro e w4 ⟨rfl, hW, hK⟩
    have HW4 := Aside0.mk hW
    have HK4 := Aside0.mk (HK3.out.then_ hK (fun k hk => hk.elim .inl (fun h => .inr (Nat.le_trans HB2.out.size h))))
    clear hW hK
    go_wp2
    go_ret
    refine ⟨rfl, ?_, HK4.out⟩
    rw [HSY.out, if_pos HC.out]
    have q := HW4.out
    simp only [List.append_assoc] at q ⊢
    have e20 : (20 : Int).toNat = 20 := rfl
    rw [e20, if_neg (by decide)] at q
    exact q.mono (fun k hk => hk.elim (fun h => h.elim .inl (fun h => .inr (Nat.le_trans HB2.out.size h))) (fun h => .inr (Nat.le_trans HK3.out.size h)))
  · have c1 : decide (q < 20) = true := decide_eq_true (by omega)
    have HC := Aside0.mk hc
    have hc20 : q ≤ 20 := by omega
    have hp := pow16 hk16
    have hma : bits .and .i64 u (wrap64 (wrap64 (2 ^ k) - 1)) = u % 2 ^ k := by
      rw [w64 (x := (2 : Int) ^ k) (by omega) (by omega), w64 (by omega) (by omega)]
      exact and_mask hu0 HU.out.2.2 hk16
    have hm2 := numBits_mod u k
    obtain ⟨y, hy⟩ : ∃ y, y = u % 2 ^ k := ⟨_, rfl⟩
    rw [← hy] at hma hm2
    have HY := Aside0.mk hy
    have HM2 := Aside0.mk hm2
    have hy0 := hm2.1
    have HMA := Aside0.mk hma
    clear hc hp hy hm2 hma
    go_enter Try.func34, Try.ntmps34
    go_wp2_with fail
    refine (param_calls n s d _).mono ?_
    rintro e w1 ⟨rfl, hB⟩
    rw [HP.out]
    have HB1 := Aside0.mk (below_step HB.out hB)
    have hb : w1.heap[w.heap.size]? = some (.cells #[.int .i64 n, .int .i64 s] 36 (0, 0)) := (hB.block _ (by simp)).trans (heap_alloc_new w _)
    have hc0 : w1.cell? ⟨w.heap.size, 0, none⟩ = some (.int .i64 n) := (blk_cell hb 0).trans rfl
    have hc1 : w1.cell? ⟨w.heap.size, 1, none⟩ = some (.int .i64 s) := (blk_cell hb 1).trans rfl
    clear hB hb
    have HW1 : Aside0 (IsW w1 g S bs) := ⟨HW.out.below HB1.out⟩
    go_wp2_with fail
    refine (fits_calls n s d u _).mono ?_
    rintro e w2 ⟨rfl, hB⟩
    have HB2 := Aside0.mk (below_step HB1.out hB)
    have HW2 : Aside0 (IsW w2 g S bs) := ⟨HW.out.below HB2.out⟩
    clear hB
    rw [HD.out]
    go_wp2_with fail
    refine (ones_ok g S bs q 20 _ HW2.out (by decide) (by decide) hq0 hc20 (by omega)).mono ?_
    rintro e w3 ⟨rfl, hW, hK⟩
    have HW3 := Aside0.mk hW
    have HK3 := Aside0.mk ((Kp.of_below HB2.out S).then_ hK (fun k hk => .inl hk))
    clear hW hK
    go_wp2_with fail
    rw [HMA.out]
    refine (put_ok g _ _ y k _ HW3.out (by omega) (by omega) hy0 (by simpa using HM2.out.2) (by rw [List.length_append, List.length_append, List.length_replicate]; split <;> simp <;> omega)).mono ?_
    rintro e w4 ⟨rfl, hW, hK⟩
    have HW4 := Aside0.mk hW
    have HK4 := Aside0.mk (HK3.out.then_ hK (fun k hk => hk.elim .inl (fun h => .inr (Nat.le_trans HB2.out.size h))))
    clear hW hK
    go_wp2
    go_ret
    refine ⟨rfl, ?_, HK4.out⟩
    rw [HSY.out, if_neg (by have := HC.out; omega)]
    have q9 := HW4.out
    rw [if_pos (by have := HC.out; omega), Int.toNat_natCast, HY.out, List.append_assoc] at q9
    exact q9.mono (fun k hk => hk.elim (fun h => h.elim .inl (fun h => .inr (Nat.le_trans HB2.out.size h))) (fun h => .inr (Nat.le_trans HK3.out.size h)))

def PutPost (w : World) (g : Nat) (S : Nat → Prop) (bs : List Int) (n s d u : Int) (e : Ending) (w' : World) : Prop :=
  e = .returned (.int .i64 (codeL n s d u).2) ∧ IsW w' g (fun k => S k ∨ w.heap.size ≤ k) (bs ++ (codeL n s d u).1) ∧ Kp w w' S
/-- What Put does. -/
theorem rput_calls (g : Nat) (S : Nat → Prop) (bs : List Int) (n s d u : Int) (w : World) (h : IsW w g S bs) (hl : bs.length < 1099511627600) :
    Calls Try.prog 34 #[.pointer (some ⟨g, 0, none⟩), .agg #[.int .i64 n, .int .i64 s], .int .i64 d, .int .i64 u] w (PutPost w g S bs n s d u) := by
  by_cases hf : FitsP n s d u
  · refine (rput_ok g S bs n s d u w h hl hf).mono ?_
    rintro e w' ⟨rfl, hW, hK⟩
    unfold PutPost codeL
    rw [if_pos hf]
    exact ⟨rfl, hW, hK⟩
  · have key : ∀ e w', (e = .returned (.int .i64 1) ∧ Below w.heap.size w w') → PutPost w g S bs n s d u e w' := by
      rintro e w' ⟨rfl, hB⟩
      unfold PutPost codeL
      rw [if_neg hf]
      exact ⟨rfl, by rw [List.append_nil]; exact (h.below hB).mono (fun k hk => .inl hk), Kp.of_below hB S⟩
    by_cases hf0 : FitsP n s d 0
    · exact (rput_bad2 g S bs n s d u w h hl hf0 hf).mono key
    · exact (rput_bad1 g S bs n s d u w h hl hf0).mono key

set_option maxRecDepth 100000 in
theorem rput_nil (w : World) : Calls Try.prog 34 #[.pointer none, .agg #[.int .i64 1, .int .i64 0], .int .i64 8, .int .i64 0] w fun e w' => e = .returned (.int .i64 1) ∧ Below w.heap.size w w' := by
  have hu := Try.underlying36
  have HB := Aside0.mk (below_alloc (Below.refl w.heap.size w) (.cells #[.int .i64 1, .int .i64 0] 36))
  go_enter Try.func34, Try.ntmps34
  go_wp2_with fail
  refine (param_calls 1 0 8 _).mono ?_
  rintro e w1 ⟨rfl, hB⟩
  have HP : paramL 1 0 8 = (0, 0) := by decide
  rw [HP]
  have HB1 := Aside0.mk (below_step HB.out hB)
  clear hB HP
  go_wp2
  go_ret
  exact ⟨rfl, HB1.out⟩
end Go.Proofs.Ytghhfendjkocmaa.Rice
