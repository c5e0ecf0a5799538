/- What the calls of package bits do, 2: Put, Ones, Len, Bytes, New. -/
import Derived.Test.YtghhfendjkocmaaBitsWalk
namespace Go.Proofs.Ytghhfendjkocmaa.Bits
open Go.RowKit Go.Proofs.YtghhfendjkocmaaW.PrintWords Go.Proofs.YtghhfendjkocmaaW.PrintMore Go.Proofs.Ytghhfendjkocmaa.BP
set_option linter.unusedVariables false
set_option linter.unusedSimpArgs false


theorem and1 {x : Int} (h0 : 0 ≤ x) (h1 : x < 2 ^ 62) : bits .and .i64 x 1 = x % 2 :=
  bits_mask .i64 62 (by decide) (fun n h0 h1 => by rw [IntKind.wrap_i64]; omega) 1 (by decide) x h0 h1

theorem pow_le32 {m : Nat} (h : m ≤ 32) : (2 : Int) ^ m ≤ 2 ^ 32 := by
  have := Nat.pow_le_pow_right (n := 2) (by decide) h
  exact_mod_cast this
theorem put_bit {n width : Int} {k : Nat} (hn : 0 ≤ n) (hw0 : 0 ≤ width) (hw1 : width ≤ 32) (hq : n / 2 ^ width.toNat = 0) (hk : k < width.toNat) :
    bits .and .i64 (n / 2 ^ (width.toNat - 1 - k)) 1 % 256 = n / 2 ^ (width.toNat - 1 - k) % 2 := by
  have hp : (0 : Int) < 2 ^ (width.toNat - 1 - k) := Int.pow_pos (by decide)
  have h0 : 0 ≤ n / 2 ^ (width.toNat - 1 - k) := Int.ediv_nonneg hn (Int.le_of_lt hp)
  have hle : n / 2 ^ (width.toNat - 1 - k) ≤ n := Int.ediv_le_self _ hn
  have hlt : n < 2 ^ width.toNat := by
    have hp2 : (0 : Int) < 2 ^ width.toNat := Int.pow_pos (by decide)
    have := Int.lt_mul_ediv_self_add (x := n) hp2
    rw [hq] at this
    omega
  have hpw : (2 : Int) ^ width.toNat ≤ 2 ^ 32 := pow_le32 (by omega)
  rw [and1 h0 (by omega)]
  omega

set_option maxHeartbeats 400000 in
theorem put_ok (g : Nat) (S : Nat → Prop) (bs : List Int) (n width : Int) (w : World) (h : IsW w g S bs) (hw0 : 0 ≤ width) (hw1 : width ≤ 32) (hn : 0 ≤ n) (hq : n / 2 ^ width.toNat = 0) (hl : bs.length < 1099511627700) :
    Calls Try.prog 45 #[.pointer (some ⟨g, 0, none⟩), .int .i64 n, .int .i64 width] w fun e w' => e = .returned (.int .i64 0) ∧ IsW w' g (fun k => S k ∨ w.heap.size ≤ k) (bs ++ numBits n width.toNat) ∧ Kp w w' S := by
  have b1 : decide (width < 0) = false := decide_eq_false (by omega)
  have b2 : decide (32 < width) = false := decide_eq_false (by omega)
  have b3 : decide (n < 0) = false := decide_eq_false (by omega)
  have b4 : (n / 2 ^ width.toNat != 0) = false := by rw [hq]; rfl
  have H := Aside0.mk h
  have HQ := Aside0.mk hq
  clear h hq
  go_enter Try.func45, Try.ntmps45
  go_wp2_with fail
  go_loopw [7] (fun v7 wr => ∃ k : Nat, (k : Int) ≤ width ∧ v7 = .int .i64 (width - 1 - k) ∧ Aside0 (IsW wr g (fun k => S k ∨ w.heap.size ≤ k) (bs ++ (numBits n width.toNat).take k)) ∧ Aside0 (Kp w wr S))
    (fun v7 _ => (intOf v7 + 1).toNat)
  case atStart => exact ⟨0, by omega, by simp, ⟨by simpa using H.out.mono (fun k hk => .inl hk)⟩, ⟨Kp.refl _ _⟩⟩
  case round =>
    obtain ⟨k, hk, rfl, HW, HK⟩ := hrel
    by_cases hlt : (k : Int) < width
    · have t1 : decide (0 ≤ width - 1 - (k : Int)) = true := decide_eq_true (by omega)
      have t2 : 0 ≤ width - 1 - (k : Int) := by omega
      have t3 : width - 1 - (k : Int) ≤ 64 := by omega
      have hv := put_bit hn hw0 hw1 HQ.out (show k < width.toNat by omega)
      have hlen : (bs ++ (numBits n width.toNat).take k).length < 1099511627776 := by
        have := List.length_take_le k (numBits n width.toNat); rw [List.length_append]; omega
      have HV := Aside0.mk hv
      clear hv
      go_wp2_with fail
      refine (bit_calls g _ _ _ _ HW.out (by rw [HV.out]; omega) hlen).mono ?_
      rintro e w' ⟨rfl, q1, q2⟩
      have HW2 := Aside0.mk q1
      have HK2 := Aside0.mk q2
      clear q1 q2
      go_wp2
      go_roundw
      case rel =>
        refine ⟨k + 1, by omega, by first | (simp; omega) | (congr 1; omega), ⟨?_⟩, ⟨?_⟩⟩
        · rw [numBits_take (show k < width.toNat by omega), ← List.append_assoc]
          have q := HW2.out
          rw [HV.out] at q
          exact q.mono (fun k hk => hk.elim id (fun hk => .inr (Nat.le_trans HK.out.size hk)))
        · exact HK.out.then_ HK2.out (fun k hk => hk)
      case measure => simp [intOf]; omega
    · have t1 : decide (0 ≤ width - 1 - (k : Int)) = false := decide_eq_false (by omega)
      go_wp2
      go_ret
      obtain rfl : k = width.toNat := by omega
      refine ⟨rfl, ?_, HK.out⟩
      have h := HW.out
      rwa [List.take_of_length_le (by rw [numBits_len]; exact Nat.le_refl _)] at h

set_option maxHeartbeats 400000 in
theorem put_no (g : Nat) (n width : Int) (w : World) (h : width < 0 ∨ 32 < width ∨ n < 0 ∨ n / 2 ^ width.toNat ≠ 0) :
    Calls Try.prog 45 #[.pointer (some ⟨g, 0, none⟩), .int .i64 n, .int .i64 width] w fun e w' => e = .returned (.int .i64 1) ∧ w' = w := by
  by_cases c1 : width < 0
  · have b1 : decide (width < 0) = true := decide_eq_true c1
    clear h
    go_enter Try.func45, Try.ntmps45
    go_wp2
    go_ret
    exact ⟨rfl, rfl⟩
  have b1 : decide (width < 0) = false := decide_eq_false c1
  by_cases c2 : 32 < width
  · have b2 : decide (32 < width) = true := decide_eq_true c2
    clear h
    go_enter Try.func45, Try.ntmps45
    go_wp2
    go_ret
    exact ⟨rfl, rfl⟩
  have b2 : decide (32 < width) = false := decide_eq_false c2
  by_cases c3 : n < 0
  · have b3 : decide (n < 0) = true := decide_eq_true c3
    clear h
    go_enter Try.func45, Try.ntmps45
    go_wp2
    go_ret
    exact ⟨rfl, rfl⟩
  have b3 : decide (n < 0) = false := decide_eq_false c3
  have c4 : n / 2 ^ width.toNat ≠ 0 := by
    rcases h with h | h | h | h
    · exact absurd h c1
    · exact absurd h c2
    · exact absurd h c3
    · exact h
  have b4 : (n / 2 ^ width.toNat != 0) = true := bne_iff_ne.mpr c4
  have w0 : 0 ≤ width := by omega
  have w1 : width ≤ 64 := by omega
  clear h c4
  go_enter Try.func45, Try.ntmps45
  go_wp2
  go_ret
  exact ⟨rfl, rfl⟩

theorem put_nil (n width : Int) (w : World) :
    Calls Try.prog 45 #[.pointer none, .int .i64 n, .int .i64 width] w fun e w' => e = .returned (.int .i64 1) ∧ w' = w := by
  go_enter Try.func45, Try.ntmps45
  go_wp2
  go_ret
  exact ⟨rfl, rfl⟩

set_option maxHeartbeats 400000 in
theorem ones_ok (g : Nat) (S : Nat → Prop) (bs : List Int) (n most : Int) (w : World) (h : IsW w g S bs) (hm0 : 0 ≤ most) (hm1 : most ≤ 64) (hn : 0 ≤ n) (hnm : n ≤ most) (hl : bs.length < 1099511627700) :
    Calls Try.prog 44 #[.pointer (some ⟨g, 0, none⟩), .int .i64 n, .int .i64 most] w fun e w' => e = .returned (.int .i64 0) ∧ IsW w' g (fun k => S k ∨ w.heap.size ≤ k) (bs ++ (List.replicate n.toNat 1 ++ if n < most then [0] else [])) ∧ Kp w w' S := by
  have b1 : decide (most < 0) = false := decide_eq_false (by omega)
  have b2 : decide (64 < most) = false := decide_eq_false (by omega)
  have b3 : decide (n < 0) = false := decide_eq_false (by omega)
  have b4 : decide (most < n) = false := decide_eq_false (by omega)
  generalize htl : (if n < most then [(0 : Int)] else []) = tl
  have HT := Aside0.mk htl
  have H := Aside0.mk h
  clear h htl
  go_enter Try.func44, Try.ntmps44
  go_wp2_with fail
  go_loopw [27] (fun v27 wr => ∃ k : Nat, (k : Int) ≤ n ∧ v27 = .int .i64 k ∧ Aside0 (IsW wr g (fun k => S k ∨ w.heap.size ≤ k) (bs ++ List.replicate k 1)) ∧ Aside0 (Kp w wr S))
    (fun v27 _ => (n - intOf v27).toNat)
  case atStart => exact ⟨0, by omega, by simp, ⟨by simpa using H.out.mono (fun k hk => .inl hk)⟩, ⟨Kp.refl _ _⟩⟩
  case round =>
    obtain ⟨k, hk, rfl, HW, HK⟩ := hrel
    by_cases hlt : (k : Int) < n
    · have t1 : decide ((k : Int) < n) = true := decide_eq_true (by omega)
      have hlen : (bs ++ List.replicate k 1).length < 1099511627776 := by simp; omega
      go_wp2_with fail
      refine (bit_calls g _ _ _ _ HW.out (.inr rfl) hlen).mono ?_
      rintro e w' ⟨rfl, q1, q2⟩
      have HW2 := Aside0.mk q1
      have HK2 := Aside0.mk q2
      clear q1 q2
      go_wp2
      go_roundw
      case rel =>
        refine ⟨k + 1, by omega, by first | (simp; done) | (simp; omega) | (congr 1; omega), ⟨?_⟩, ⟨?_⟩⟩
        · have q := HW2.out
          rw [List.append_assoc, ← List.replicate_succ'] at q
          exact q.mono (fun k hk => hk.elim id (fun hk => .inr (Nat.le_trans HK.out.size hk)))
        · exact HK.out.then_ HK2.out (fun k hk => hk)
      case measure => simp [intOf]; omega
    · have t1 : decide ((k : Int) < n) = false := decide_eq_false (by omega)
      obtain rfl : k = n.toNat := by omega
      by_cases hnm2 : n < most
      · have t2 : decide (n < most) = true := decide_eq_true hnm2
        have hlen : (bs ++ List.replicate n.toNat 1).length < 1099511627776 := by simp; omega
        go_wp2_with fail
        refine (bit_calls g _ _ _ _ HW.out (.inl rfl) hlen).mono ?_
        rintro e w' ⟨rfl, q1, q2⟩
        have HW2 := Aside0.mk q1
        have HK2 := Aside0.mk q2
        clear q1 q2
        go_wp2
        go_ret
        refine ⟨rfl, ?_, HK.out.then_ HK2.out (fun k hk => hk)⟩
        rw [← HT.out, if_pos (of_decide_eq_true t2), ← List.append_assoc]
        exact HW2.out.mono (fun k hk => hk.elim id (fun hk => .inr (Nat.le_trans HK.out.size hk)))
      · have t2 : decide (n < most) = false := decide_eq_false hnm2
        go_wp2
        go_ret
        refine ⟨rfl, ?_, HK.out⟩
        rw [← HT.out, if_neg (of_decide_eq_false t2), List.append_nil]
        exact HW.out

set_option maxHeartbeats 400000 in
theorem ones_no (g : Nat) (n most : Int) (w : World) (h : most < 0 ∨ 64 < most ∨ n < 0 ∨ most < n) :
    Calls Try.prog 44 #[.pointer (some ⟨g, 0, none⟩), .int .i64 n, .int .i64 most] w fun e w' => e = .returned (.int .i64 1) ∧ w' = w := by
  by_cases c1 : most < 0
  · have b1 : decide (most < 0) = true := decide_eq_true c1
    clear h
    go_enter Try.func44, Try.ntmps44
    go_wp2
    go_ret
    exact ⟨rfl, rfl⟩
  have b1 : decide (most < 0) = false := decide_eq_false c1
  by_cases c2 : 64 < most
  · have b2 : decide (64 < most) = true := decide_eq_true c2
    clear h
    go_enter Try.func44, Try.ntmps44
    go_wp2
    go_ret
    exact ⟨rfl, rfl⟩
  have b2 : decide (64 < most) = false := decide_eq_false c2
  by_cases c3 : n < 0
  · have b3 : decide (n < 0) = true := decide_eq_true c3
    clear h
    go_enter Try.func44, Try.ntmps44
    go_wp2
    go_ret
    exact ⟨rfl, rfl⟩
  have b3 : decide (n < 0) = false := decide_eq_false c3
  have c4 : most < n := by omega
  have b4 : decide (most < n) = true := decide_eq_true c4
  clear h
  go_enter Try.func44, Try.ntmps44
  go_wp2
  go_ret
  exact ⟨rfl, rfl⟩

theorem ones_nil (n most : Int) (w : World) :
    Calls Try.prog 44 #[.pointer none, .int .i64 n, .int .i64 most] w fun e w' => e = .returned (.int .i64 1) ∧ w' = w := by
  go_enter Try.func44, Try.ntmps44
  go_wp2
  go_ret
  exact ⟨rfl, rfl⟩

theorem len_nil (w : World) : Calls Try.prog 15 #[.pointer none] w fun e w' => e = .returned (.int .i64 0) ∧ w' = w := by
  go_enter Try.func15, Try.ntmps15
  go_wp2
  go_ret
  exact ⟨rfl, rfl⟩

theorem len_calls (g : Nat) (S : Nat → Prop) (bs : List Int) (w : World) (h : IsW w g S bs) (hl : bs.length < 1099511627776) :
    Calls Try.prog 15 #[.pointer (some ⟨g, 0, none⟩)] w fun e w' => e = .returned (.int .i64 bs.length) ∧ Drawn0 w w' := by
  obtain ⟨h1, v, hb, hS, hR⟩ := h
  obtain ⟨A, c, rfl⟩ := Kd.R_slice hR
  have hc0 : w.cell? ⟨g, 0, none⟩ = some (.slice A (fullB bs).length c) := (blk_cell hb 0).trans rfl
  have hc2 : w.cell? ⟨g, 2, none⟩ = some (.int .i64 ((bs.length % 8 : Nat) : Int)) := (blk_cell hb 2).trans rfl
  have hf := Aside0.mk (fullB_len bs)
  have hfl : (fullB bs).length < 1099511627776 := by rw [hf.out]; omega
  clear hb hR
  go_enter Try.func15, Try.ntmps15
  go_wp2
  go_quiet (fail)
  go_wp2
  go_ret
  have q := hf.out
  exact ⟨congrArg (fun z => Ending.returned (Value.int .i64 z)) (show (8 * ((fullB bs).length : Int) + (bs.length : Int) % 8) = bs.length from by omega), ⟨_, rfl⟩⟩

theorem bytes_nil (w : World) : Calls Try.prog 19 #[.pointer none] w fun e w' => e = .returned (.slice none 0 0) ∧ w' = w := by
  go_enter Try.func19, Try.ntmps19
  go_wp2
  go_ret
  exact ⟨rfl, rfl⟩

set_option maxHeartbeats 400000 in
theorem new_calls (w : World) : Calls Try.prog 8 #[] w fun e w' => ∃ g, e = .returned (.pointer (some ⟨g, 0, none⟩)) ∧ IsW w' g (fun k => w.heap.size ≤ k) [] ∧ Below w.heap.size w w' := by
  have hu := Try.underlying66
  go_enter Try.func8, Try.ntmps8
  go_wp2
  go_ret
  exact ⟨_, rfl, ⟨B01.nil, .slice none 0 0, heap_alloc_new w _, Nat.le_refl _, Kd.R_nil _ _ _ _ _⟩, below_alloc (Below.refl _ _) _⟩

/-- An empty literal. -/
theorem R_empty {α : Type} (enc : α → Value) {h1 : ∀ x : α, (enc x).oneCell' = true} (w : World) (e : TypeId) : (Kd.scalar enc h1).R e (w.alloc (.cells #[] e)) w.heap.size (fun _ => True) (.slice (some ⟨w.heap.size, 0, none⟩) 0 0) [] :=
  Kd.R_of_own (World.ownsRow_made w #[] 0 (Nat.le_refl _) (Nat.zero_le _) rfl) (fun _ _ => trivial)

theorem bytes_aux (g : Nat) (A : Option Addr) (c : Nat) (xs : List Int) (p n : Int) (w : World) (hb : w.heap[g]? = some (.cells #[.slice A xs.length c, .int .u8 p, .int .i64 n] 66 (0, 0))) (ok : Nat → Prop)
    (hR : Kd.R (Kd.int .u8) 5 w 0 ok (.slice A xs.length c) xs) (hl : xs.length < 1099511627776) :
    Calls Try.prog 19 #[.pointer (some ⟨g, 0, none⟩)] w fun e w' => ∃ v, e = .returned v ∧ Kd.R (Kd.int .u8) 5 w' w.heap.size (fun _ => True) v (xs ++ if 0 < n then [p] else []) ∧ Below w.heap.size w w' := by
  generalize htl : (if 0 < n then [p] else []) = tl
  have HT := Aside0.mk htl
  have hc0 : w.cell? ⟨g, 0, none⟩ = some (.slice A xs.length c) := (blk_cell hb 0).trans rfl
  have hc1 : w.cell? ⟨g, 1, none⟩ = some (.int .u8 p) := (blk_cell hb 1).trans rfl
  have hc2 : w.cell? ⟨g, 2, none⟩ = some (.int .i64 n) := (blk_cell hb 2).trans rfl
  have hgl := blk_lt hb
  have hC := (Kd.R_reads' hR).2.2
  have HC := Aside0.mk (Kd.C_below hC (below_alloc (Below.refl _ _) (.cells #[] 5)))
  have HE := Aside0.mk (R_empty (Value.int .u8) (h1 := fun _ => rfl) w 5)
  have HB0 := Aside0.mk (below_alloc (Below.refl w.heap.size w) (.cells #[] 5))
  have hsz : w.heap.size ≤ (w.alloc (.cells #[] 5)).heap.size := (below_alloc (Below.refl w.heap.size w) (.cells #[] 5)).size
  have HSZ := Aside0.mk hsz
  clear hb hR hC htl hsz
  by_cases hn : ¬ 0 < n
  · have t1 : decide (0 < n) = false := decide_eq_false hn
    clear hn
    go_enter Try.func19, Try.ntmps19
    go_wp2_with ((with_reducible refine gate_builtin (b := .append) (xs := #[.tmp 6, .tmp 10]) rfl ?_); at_builtin; refine Kd.R_append_row (Value.int .u8) 0 (w0 := w) (W := w.alloc (.cells #[] 5)) w.heap.size rfl (.tmp 6) (.tmp 10) 48 5 (.int .u8 0) 1 rfl Try.underlying48 infoU8 rfl (by decide) (.slice (some ⟨w.heap.size, 0, none⟩) 0 0) [] xs A xs.length c (fun _ => True) rfl rfl (fun _ _ => trivial) HE.out HC.out HB0.out HSZ.out (by simp; omega) ?_; intro v1 w1 ho hb hg hat; obtain ⟨A1, c1, rfl⟩ := Kd.R_slice ho; rw [List.nil_append] at ho; have HO := Aside0.mk ho; have HB1 := Aside0.mk hb; have hd1 : w1.cell? ⟨g, 1, none⟩ = some (.int .u8 p) := (hb.cell (p := ⟨g, 1, none⟩) hgl).trans hc1; have hd2 : w1.cell? ⟨g, 2, none⟩ = some (.int .i64 n) := (hb.cell (p := ⟨g, 2, none⟩) hgl).trans hc2; have hz1 := Aside0.mk hb.size; clear ho hb hg hat)
    go_ret
    refine ⟨_, rfl, ?_, HB1.out⟩
    rw [← HT.out, if_neg (of_decide_eq_false t1), List.append_nil]
    exact HO.out
  · have t1 : decide (0 < n) = true := decide_eq_true (Decidable.not_not.mp hn)
    clear hn
    go_enter Try.func19, Try.ntmps19
    go_wp2_with (first | ((with_reducible refine gate_builtin (b := .append) (xs := #[.tmp 6, .tmp 10]) rfl ?_); at_builtin; refine Kd.R_append_row (Value.int .u8) 0 (w0 := w) (W := w.alloc (.cells #[] 5)) w.heap.size rfl (.tmp 6) (.tmp 10) 48 5 (.int .u8 0) 1 rfl Try.underlying48 infoU8 rfl (by decide) (.slice (some ⟨w.heap.size, 0, none⟩) 0 0) [] xs A xs.length c (fun _ => True) rfl rfl (fun _ _ => trivial) HE.out HC.out HB0.out HSZ.out (by simp; omega) ?_; intro v1 w1 ho hb hg hat; obtain ⟨A1, c1, rfl⟩ := Kd.R_slice ho; rw [List.nil_append] at ho; have HO := Aside0.mk ho; have HB1 := Aside0.mk hb; have hd1 : w1.cell? ⟨g, 1, none⟩ = some (.int .u8 p) := (hb.cell (p := ⟨g, 1, none⟩) hgl).trans hc1; have hd2 : w1.cell? ⟨g, 2, none⟩ = some (.int .i64 n) := (hb.cell (p := ⟨g, 2, none⟩) hgl).trans hc2; have hz1 := Aside0.mk hb.size; clear ho hb hg hat) | ((with_reducible refine gate_builtin (b := .append) (xs := #[.tmp 17, .tmp 22]) rfl ?_); at_builtin; refine Kd.R_append (Kd.int .u8) (w0 := w) (W := w1) w.heap.size rfl (.tmp 17) (.tmp 22) 48 5 (.int .u8 0) 1 rfl Try.underlying48 infoU8 rfl (by decide) (by decide) (.slice A1 xs.length c1) xs p [.int .u8 p] (fun _ => True) (fun _ => False) rfl rfl rfl (fun _ hk => hk.elim) (fun _ _ => trivial) HO.out HB1.out hz1.out (by omega) ?_; intro v2 w2 ho hb hg hat; have HO2 := Aside0.mk ho; have HB2 := Aside0.mk hb; clear ho hb hg hat))
    go_ret
    refine ⟨_, rfl, ?_, HB2.out⟩
    rw [← HT.out, if_pos (of_decide_eq_true t1)]
    exact HO2.out

theorem bytes_calls (g : Nat) (S : Nat → Prop) (bs : List Int) (w : World) (h : IsW w g S bs) (hl : bs.length < 1099511627776) :
    Calls Try.prog 19 #[.pointer (some ⟨g, 0, none⟩)] w fun e w' => ∃ v, e = .returned v ∧ Kd.R (Kd.int .u8) 5 w' w.heap.size (fun _ => True) v (packB bs) ∧ Below w.heap.size w w' := by
  obtain ⟨h1, v, hb, hS, hR⟩ := h
  obtain ⟨A, c, rfl⟩ := Kd.R_slice hR
  have hfl := fullB_len bs
  refine (bytes_aux g A c (fullB bs) _ _ w hb _ hR (by omega)).mono ?_
  rintro e w' ⟨v, rfl, hv, hB⟩
  refine ⟨v, rfl, ?_, hB⟩
  by_cases h0 : bs.length % 8 = 0
  · rw [if_neg (by omega), List.append_nil] at hv
    rw [packB_full h0]; exact hv
  · rw [if_pos (by omega)] at hv
    rw [packB_part h0]; exact hv
end Go.Proofs.Ytghhfendjkocmaa.Bits
