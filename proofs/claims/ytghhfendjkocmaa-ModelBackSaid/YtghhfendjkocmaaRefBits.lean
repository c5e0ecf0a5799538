/- The references of layers 1 and 2 walked: Same, Plain, Ones, Bytes, Bits, Take, Count, End. -/
import Derived.Test.YtghhfendjkocmaaBitsRead3
namespace Go.Proofs.Ytghhfendjkocmaa.Bits
open Go.RowKit Go.Proofs.YtghhfendjkocmaaW.PrintWords Go.Proofs.YtghhfendjkocmaaW.PrintMore Go.Proofs.Ytghhfendjkocmaa.BP
set_option linter.unusedVariables false
set_option linter.unusedSimpArgs false

theorem infoI : (Try.prog.info? 3).map (fun i => (i.zero, i.size, i.bytes)) = some (some (.int .i64 0), 1, 8) := by kernel_rfl

theorem drawnN {w w1 : World} (h : Drawn0 w w1) (m : Nat) : Drawn0 w (w1.drewN m) := by
  obtain ⟨⟨n, rfl⟩⟩ := h
  exact ⟨n + m, by simp [World.drewN, Nat.add_assoc]⟩
theorem eq_of_getD {a b : List Int} (hl : a.length = b.length) (h : ∀ i, i < a.length → a.getD i 0 = b.getD i 0) : a = b := by
  refine List.ext_getElem? fun i => ?_
  rcases Nat.lt_or_ge i a.length with hi | hi
  · have := h i hi
    rw [List.getD_eq_getElem?_getD, List.getD_eq_getElem?_getD, List.getElem?_eq_getElem hi, List.getElem?_eq_getElem (by omega)] at this
    rw [List.getElem?_eq_getElem hi, List.getElem?_eq_getElem (by omega)]
    simpa using this
  · rw [List.getElem?_eq_none hi, List.getElem?_eq_none (by omega)]
theorem maxl {n : Nat} (h : n < 1099511627776) : (n : Int) < 1099511627776 := by omega

set_option maxHeartbeats 400000 in
theorem same_calls (A B : Option Addr) (ca cb : Nat) (a b : List Int) (w : World) (ha : Kd.C (Kd.int .u8) w A a.length a) (hb : Kd.C (Kd.int .u8) w B b.length b) (hla : a.length < 1099511627776) (hlb : b.length < 1099511627776) :
    Calls Try.prog 18 #[.slice A a.length ca, .slice B b.length cb] w fun e w' => e = .returned (.bool (decide (a = b))) ∧ Drawn0 w w' := by
  have HA := Aside0.mk ha
  have HB := Aside0.mk hb
  generalize hr : decide (a = b) = r
  have HR := Aside0.mk hr
  clear ha hb hr
  by_cases hl : a.length = b.length
  · have t0 : ((a.length : Int) != (b.length : Int)) = false := by rw [hl]; simp
    have t0' : (a.length != b.length) = false := by rw [hl]; simp
    have HL := Aside0.mk hl
    clear hl
    go_enter Try.func18, Try.ntmps18
    go_wp2_with fail
    go_loopw [5] (fun v5 wr => ∃ k : Int, 0 ≤ k ∧ k ≤ a.length ∧ v5 = .int .i64 k ∧ Aside0 (∀ i, i < k.toNat → a.getD i 0 = b.getD i 0) ∧ Aside0 (Drawn0 w wr)) (fun v5 _ => a.length - (intOf v5).toNat)
    case atStart => exact ⟨0, by omega, by omega, rfl, ⟨fun i hi => by omega⟩, ⟨⟨0, rfl⟩⟩⟩
    case round =>
      obtain ⟨k, hk0, hk, rfl, HI, HD⟩ := hrel
      by_cases hlt : k < (a.length : Int)
      · have t1 : decide (k < (a.length : Int)) = true := decide_eq_true hlt
        have hltb : k < (b.length : Int) := by have := HL.out; omega
        obtain ⟨ad, e1, hx⟩ := Kd.at_int HA.out k hk0 hlt
        obtain ⟨bd, e2, hy⟩ := Kd.at_int HB.out k hk0 hltb
        cases e1
        cases e2
        have hxe : rd a k = a.getD k.toNat 0 := rfl
        have hye : rd b k = b.getD k.toNat 0 := rfl
        rw [hxe] at hx
        rw [hye] at hy
        obtain ⟨m, rfl⟩ := HD.out.out
        clear hxe hye
        generalize hxv : a.getD k.toNat 0 = x at hx
        generalize hyv : b.getD k.toNat 0 = y at hy
        have HX := Aside0.mk hxv
        have HY := Aside0.mk hyv
        clear hxv hyv
        by_cases hxy : x = y
        · subst hxy
          go_wp2_with fail
          go_quiet (fail)
          go_wp2_with fail
          go_roundw
          case rel =>
            refine ⟨k + 1, by omega, by omega, rfl, ⟨fun i hi => ?_⟩, ⟨⟨_, rfl⟩⟩⟩
            rcases Nat.lt_or_ge i k.toNat with h | h
            · exact HI.out i h
            · rw [show i = k.toNat from by omega, HX.out, HY.out]
          case measure => simp [intOf]; omega
        · have t3 : (x != y) = true := bne_iff_ne.mpr hxy
          go_wp2_with fail
          go_quiet (fail)
          go_wp2_with fail
          go_ret
          refine ⟨?_, drawnN HD.out _⟩
          rw [← HR.out, decide_eq_false (fun h => hxy (by rw [← HX.out, ← HY.out, h]))]
          rfl
      · have t1 : decide (k < (a.length : Int)) = false := decide_eq_false hlt
        go_wp2_with fail
        go_ret
        refine ⟨?_, HD.out⟩
        rw [← HR.out, decide_eq_true (eq_of_getD HL.out (fun i hi => HI.out i (by omega)))]
        rfl
  · have t0 : ((a.length : Int) != (b.length : Int)) = true := by simp; omega
    have t0' : (a.length != b.length) = true := by simpa using hl
    go_enter Try.func18, Try.ntmps18
    go_wp2
    go_ret
    refine ⟨?_, ⟨0, rfl⟩⟩
    rw [← HR.out, decide_eq_false (fun h => hl (by rw [h]))]
    rfl

/-- What Plain answers: the bits, and whether they are all. -/
def plainL (n width : Int) : List Int × Bool := if width < 0 ∨ 32 < width ∨ n < 0 then ([], false) else (numBits n width.toNat, decide (n / 2 ^ width.toNat = 0))

theorem plain_bad (n width : Int) (w : World) (h : width < 0 ∨ 32 < width ∨ n < 0) :
    Calls Try.prog 33 #[.int .i64 n, .int .i64 width] w fun e w' => e = .returned (.tuple #[.slice none 0 0, .bool false]) ∧ w' = w := by
  by_cases c1 : width < 0
  · have b1 : decide (width < 0) = true := decide_eq_true c1
    clear h
    go_enter Try.func33, Try.ntmps33
    go_wp2
    go_ret2
    exact ⟨rfl, rfl⟩
  have b1 : decide (width < 0) = false := decide_eq_false c1
  by_cases c2 : 32 < width
  · have b2 : decide (32 < width) = true := decide_eq_true c2
    clear h
    go_enter Try.func33, Try.ntmps33
    go_wp2
    go_ret2
    exact ⟨rfl, rfl⟩
  have b2 : decide (32 < width) = false := decide_eq_false c2
  have b3 : decide (n < 0) = true := decide_eq_true (by omega)
  clear h
  go_enter Try.func33, Try.ntmps33
  go_wp2
  go_ret2
  exact ⟨rfl, rfl⟩

/-- The bits from place j on are told; those ahead are noughts yet. -/
def partBits (n : Int) (w j : Nat) : List Int := List.replicate j 0 ++ (numBits n w).drop j
theorem partBits_set {n : Int} {w j : Nat} (h : j < w) : (partBits n w (j + 1)).set j (n / 2 ^ (w - 1 - j) % 2) = partBits n w j := by
  unfold partBits
  rw [List.replicate_succ', List.append_assoc, List.set_append_right _ _ (by simp), List.length_replicate, Nat.sub_self, List.singleton_append, List.set_cons_zero]
  congr 1
  rw [List.drop_eq_getElem_cons (i := j) (by rw [numBits_len]; exact h)]
  congr 1
  have := numBits_get (n := n) h
  rw [List.getElem?_eq_getElem (by rw [numBits_len]; exact h)] at this
  simpa using this.symm
theorem partBits_len {n : Int} {w j : Nat} (h : j ≤ w) : (partBits n w j).length = w := by simp [partBits, numBits_len]; omega

set_option maxHeartbeats 400000 in
theorem plain_ok (n width : Int) (w : World) (h0 : 0 ≤ width) (h1 : width ≤ 32) (hn : 0 ≤ n) (hn2 : n < 9223372036854775808) :
    Calls Try.prog 33 #[.int .i64 n, .int .i64 width] w fun e w' => ∃ v, e = .returned (.tuple #[v, .bool (decide (n / 2 ^ width.toNat = 0))]) ∧ Kd.R (Kd.int .i64) 3 w' w.heap.size (fun _ => True) v (numBits n width.toNat) ∧ Below w.heap.size w w' := by
  have b1 : decide (width < 0) = false := decide_eq_false (by omega)
  have b2 : decide (32 < width) = false := decide_eq_false (by omega)
  have b3 : decide (n < 0) = false := decide_eq_false (by omega)
  generalize hr : decide (n / 2 ^ width.toNat = 0) = r
  have HR := Aside0.mk hr
  clear hr
  go_enter Try.func33, Try.ntmps33
  go_wp2_with (first | ((with_reducible refine gate_dst (N := 19) rfl ?_); refine Kd.R_make (Kd.int .i64) (w0 := w) w.heap.size 3 rfl (N := 19) rfl 32 _ _ rfl width rfl rfl Try.underlying32 (.int .i64 0) 8 infoI rfl (by decide) (by decide) 0 (ok := fun _ => True) (okp := fun _ => True) rfl (fun _ hk => hk) trivial h0 (by omega) (Below.refl _ _) (Nat.le_refl _) ?_; intro v1 w1 ho hb hg hat; have HO := Aside0.mk ho; have HB := Aside0.mk hb; clear ho hb hg hat))
  go_loopw [0, 7] (fun v0 v7 wr => ∃ k : Nat, (k : Int) ≤ width ∧ v0 = .int .i64 (n / 2 ^ k) ∧ v7 = .int .i64 (width - 1 - k) ∧ Aside0 (Kd.R (Kd.int .i64) 3 wr w.heap.size (fun _ => True) v1 (partBits n width.toNat (width.toNat - k))) ∧ Aside0 (Below w.heap.size w wr))
    (fun _ v7 _ => (intOf v7 + 1).toNat)
  case atStart =>
    refine ⟨0, by omega, by simp, by simp, ⟨?_⟩, HB⟩
    have := HO.out
    rwa [show partBits n width.toNat (width.toNat - 0) = List.replicate width.toNat 0 from by simp [partBits, numBits_len]]
  case round =>
    obtain ⟨k, hk, rfl, rfl, HO2, HB2⟩ := hrel
    have hp : (0 : Int) < 2 ^ k := Int.pow_pos (by decide)
    have hq0 : 0 ≤ n / 2 ^ k := Int.ediv_nonneg hn (Int.le_of_lt hp)
    have hq1 : n / 2 ^ k ≤ n := Int.ediv_le_self _ hn
    have hs : n / 2 ^ k / 2 = n / 2 ^ (k + 1) := by rw [Int.pow_succ, Int.ediv_ediv_of_nonneg (by omega)]
    have HS := Aside0.mk hs
    clear hs
    by_cases hlt : (k : Int) < width
    · have t1 : decide (0 ≤ width - 1 - (k : Int)) = true := decide_eq_true (by omega)
      have hl := partBits_len (n := n) (w := width.toNat) (j := width.toNat - k) (by omega)
      obtain ⟨g, cap, rfl, hg1, hg2, cl, hcl⟩ := Kd.R_form HO2.out (by rw [hl]; omega)
      have p0 : 0 ≤ width - 1 - (k : Int) := by omega
      have p1 : width - 1 - (k : Int) < ((partBits n width.toNat (width.toNat - k)).length : Int) := by rw [hl]; omega
      obtain ⟨hx, hf⟩ := Kd.R_celln 0 HO2.out (width - 1 - (k : Int)) p0 p1
      have hix : (width - 1 - (k : Int)).toNat = width.toNat - 1 - k := by omega
      have hP := Kd.R_putg HO2.out (width - 1 - (k : Int)) (n / 2 ^ k % 2)
      rw [hix, show partBits n width.toNat (width.toNat - k) = partBits n width.toNat ((width.toNat - 1 - k) + 1) from by rw [show width.toNat - k = (width.toNat - 1 - k) + 1 from by omega], show n / 2 ^ k % 2 = n / 2 ^ (width.toNat - 1 - (width.toNat - 1 - k)) % 2 from by rw [show width.toNat - 1 - (width.toNat - 1 - k) = k from by omega], partBits_set (by omega), ← show n / 2 ^ k % 2 = n / 2 ^ (width.toNat - 1 - (width.toNat - 1 - k)) % 2 from by rw [show width.toNat - 1 - (width.toNat - 1 - k) = k from by omega], ← show partBits n width.toNat (width.toNat - k) = partBits n width.toNat ((width.toNat - 1 - k) + 1) from by rw [show width.toNat - k = (width.toNat - 1 - k) + 1 from by omega]] at hP
      have HP := Aside0.mk hP
      clear hP
      have HIX := Aside0.mk hix
      have HG := Aside0.mk hg1
      rw [hix] at hx hf
      clear hcl hix hl
      generalize hq : n / 2 ^ k = q at hq0 hq1 HP HS ⊢
      have HQ := Aside0.mk hq
      clear hq
      go_wp2_with fail
      go_roundw
      case rel =>
        refine ⟨k + 1, by omega, by rw [HS.out], by congr 1; omega, ⟨?_⟩, ⟨below_set HB2.out HG.out⟩⟩
        rw [show width.toNat - (k + 1) = width.toNat - 1 - k from by omega]
        exact HP.out.1
      case measure => simp [intOf]; omega
    · have t1 : decide (0 ≤ width - 1 - (k : Int)) = false := decide_eq_false (by omega)
      obtain rfl : k = width.toNat := by omega
      generalize hq : n / 2 ^ width.toNat = q at hq0 hq1 ⊢
      have HQ := Aside0.mk hq
      clear hq HS
      go_wp2_with fail
      go_ret2
      refine ⟨v1, congrArg (fun z => Ending.returned (.tuple #[v1, .bool z])) (show (q == 0) = r from by rw [← HR.out, HQ.out]; rfl), ?_, HB2.out⟩
      · have h := HO2.out
        rwa [show partBits n width.toNat (width.toNat - width.toNat) = numBits n width.toNat from by simp [partBits]] at h

theorem rones_bad2 (n most : Int) (w : World) (h : most < 0 ∨ 64 < most ∨ n < 0 ∨ most < n) :
    Calls Try.prog 32 #[.int .i64 n, .int .i64 most] w fun e w' => e = .returned (.tuple #[.slice none 0 0, .bool false]) ∧ w' = w := by
  by_cases c1 : most < 0
  · have b1 : decide (most < 0) = true := decide_eq_true c1
    clear h
    go_enter Try.func32, Try.ntmps32
    go_wp2
    go_ret2
    exact ⟨rfl, rfl⟩
  have b1 : decide (most < 0) = false := decide_eq_false c1
  by_cases c2 : 64 < most
  · have b2 : decide (64 < most) = true := decide_eq_true c2
    clear h
    go_enter Try.func32, Try.ntmps32
    go_wp2
    go_ret2
    exact ⟨rfl, rfl⟩
  have b2 : decide (64 < most) = false := decide_eq_false c2
  by_cases c3 : n < 0
  · have b3 : decide (n < 0) = true := decide_eq_true c3
    clear h
    go_enter Try.func32, Try.ntmps32
    go_wp2
    go_ret2
    exact ⟨rfl, rfl⟩
  have b3 : decide (n < 0) = false := decide_eq_false c3
  have b4 : decide (most < n) = true := decide_eq_true (by omega)
  clear h
  go_enter Try.func32, Try.ntmps32
  go_wp2
  go_ret2
  exact ⟨rfl, rfl⟩

set_option maxHeartbeats 400000 in
theorem refones_ok (n most : Int) (w : World) (hm0 : 0 ≤ most) (hm1 : most ≤ 64) (hn : 0 ≤ n) (hnm : n ≤ most) :
    Calls Try.prog 32 #[.int .i64 n, .int .i64 most] w fun e w' => ∃ v, e = .returned (.tuple #[v, .bool true]) ∧ Kd.R (Kd.int .i64) 3 w' w.heap.size (fun _ => True) v (List.replicate n.toNat 1 ++ if n < most then [0] else []) ∧ Below w.heap.size w w' := by
  have b1 : decide (most < 0) = false := decide_eq_false (by omega)
  have b2 : decide (64 < most) = false := decide_eq_false (by omega)
  have b3 : decide (n < 0) = false := decide_eq_false (by omega)
  have b4 : decide (most < n) = false := decide_eq_false (by omega)
  generalize htl : (if n < most then [(0 : Int)] else []) = tl
  have HT := Aside0.mk htl
  clear htl
  go_enter Try.func32, Try.ntmps32
  go_wp2_with fail
  go_loopw [6, 7] (fun v6 v7 wr => ∃ (k : Nat) (xs : List Int), (k : Int) ≤ n ∧ v7 = .int .i64 k ∧ Aside0 (xs = List.replicate k 1) ∧ Aside0 (Kd.R (Kd.int .i64) 3 wr w.heap.size (fun _ => True) v6 xs) ∧ Aside0 (Below w.heap.size w wr))
    (fun _ v7 _ => (n - intOf v7).toNat)
  case atStart => exact ⟨0, [], by omega, rfl, ⟨rfl⟩, ⟨Kd.R_nil _ _ _ _ _⟩, ⟨Below.refl _ _⟩⟩
  case round =>
    obtain ⟨k, xs, hk, rfl, HX, HO, HB⟩ := hrel
    have hz := Aside0.mk HB.out.size
    obtain ⟨A1, c1, rfl⟩ := Kd.R_slice HO.out
    have HRL : Aside0 (xs.length = k) := ⟨by rw [HX.out]; simp⟩
    by_cases hlt : (k : Int) < n
    · have t1 : decide ((k : Int) < n) = true := decide_eq_true (by omega)
      go_wp2_with ((with_reducible refine gate_builtin (b := .append) (xs := #[.tmp 28, .tmp 29]) rfl ?_); at_builtin; refine Kd.R_append (Kd.int .i64) (w0 := w) (W := wr) w.heap.size rfl (.tmp 28) (.tmp 29) 32 3 (.int .i64 0) 8 rfl Try.underlying32 infoI rfl (by decide) (by decide) (.slice A1 xs.length c1) xs 1 [.int .i64 1] (fun _ => True) (fun _ => False) rfl rfl rfl (fun _ hk => hk.elim) (fun _ _ => trivial) HO.out HB.out hz.out (by have := HRL.out; omega) ?_; intro v1 w1 ho hb hg hat; have HO2 := Aside0.mk ho; have HB2 := Aside0.mk hb; clear ho hb hg hat)
      go_roundw
      case rel =>
        exact ⟨k + 1, xs ++ [1], by omega, by first | (simp; done) | (congr 1; omega), ⟨by rw [List.replicate_succ', HX.out]⟩, HO2, HB2⟩
      case measure => simp [intOf]; omega
    · have t1 : decide ((k : Int) < n) = false := decide_eq_false (by omega)
      obtain rfl : k = n.toNat := by omega
      by_cases hnm2 : n < most
      · have t2 : decide (n < most) = true := decide_eq_true hnm2
        clear hnm2
        go_wp2_with ((with_reducible refine gate_builtin (b := .append) (xs := #[.tmp 34, .tmp 35]) rfl ?_); at_builtin; refine Kd.R_append (Kd.int .i64) (w0 := w) (W := wr) w.heap.size rfl (.tmp 34) (.tmp 35) 32 3 (.int .i64 0) 8 rfl Try.underlying32 infoI rfl (by decide) (by decide) (.slice A1 xs.length c1) xs 0 [.int .i64 0] (fun _ => True) (fun _ => False) rfl rfl rfl (fun _ hk => hk.elim) (fun _ _ => trivial) HO.out HB.out hz.out (by have := HRL.out; omega) ?_; intro v1 w1 ho hb hg hat; have HO2 := Aside0.mk ho; have HB2 := Aside0.mk hb; clear ho hb hg hat)
        go_ret2
        refine ⟨_, rfl, ?_, HB2.out⟩
        rw [← HT.out, if_pos (of_decide_eq_true t2), ← HX.out]
        exact HO2.out
      · have t2 : decide (n < most) = false := decide_eq_false hnm2
        go_wp2
        go_ret2
        refine ⟨_, rfl, ?_, HB.out⟩
        rw [← HT.out, if_neg (of_decide_eq_false t2), List.append_nil, ← HX.out]
        exact HO.out
end Go.Proofs.Ytghhfendjkocmaa.Bits
