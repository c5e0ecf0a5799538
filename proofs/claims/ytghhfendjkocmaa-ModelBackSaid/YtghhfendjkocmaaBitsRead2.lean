/- What the calls of package bits do, 4: Take, Ones, End, Open. -/
import Derived.Test.YtghhfendjkocmaaBitsRead
namespace Go.Proofs.Ytghhfendjkocmaa.Bits
open Go.RowKit Go.Proofs.YtghhfendjkocmaaW.PrintWords Go.Proofs.YtghhfendjkocmaaW.PrintMore Go.Proofs.Ytghhfendjkocmaa.BP
set_option linter.unusedVariables false
set_option linter.unusedSimpArgs false



theorem take_bad (g : Nat) (width : Int) (w : World) (h : width < 0 ∨ 32 < width) :
    Calls Try.prog 48 #[.pointer (some ⟨g, 0, none⟩), .int .i64 width] w fun e w' => e = .returned (.tuple #[.int .i64 0, .int .i64 1]) ∧ w' = w := by
  by_cases c1 : width < 0
  · have b1 : decide (width < 0) = true := decide_eq_true c1
    clear h
    go_enter Try.func48, Try.ntmps48
    go_wp2
    go_ret2
    exact ⟨rfl, rfl⟩
  have b1 : decide (width < 0) = false := decide_eq_false c1
  have b2 : decide (32 < width) = true := decide_eq_true (by omega)
  clear h
  go_enter Try.func48, Try.ntmps48
  go_wp2
  go_ret2
  exact ⟨rfl, rfl⟩

theorem take_short (g : Nat) (S : Nat → Prop) (b : List Int) (p width : Int) (w : World) (h : IsR w g S b p) (hw0 : 0 ≤ width) (hw1 : width ≤ 32) (hs : 8 * (b.length : Int) - p < width) :
    Calls Try.prog 48 #[.pointer (some ⟨g, 0, none⟩), .int .i64 width] w fun e w' => e = .returned (.tuple #[.int .i64 0, .int .i64 2]) ∧ Drawn0 w w' := by
  have b1 : decide (width < 0) = false := decide_eq_false (by omega)
  have b2 : decide (32 < width) = false := decide_eq_false (by omega)
  have b3 : decide (8 * (b.length : Int) - p < width) = true := decide_eq_true hs
  have H := Aside0.mk h
  clear h
  go_enter Try.func48, Try.ntmps48
  go_wp2_with fail
  refine (left_calls g _ _ _ _ H.out).mono ?_
  rintro e w' ⟨rfl, ⟨m, rfl⟩⟩
  go_wp2
  go_ret2
  exact ⟨rfl, ⟨_, rfl⟩⟩

theorem bitsOf_drop_get {b : List Int} {p k : Nat} (h : p + k < 8 * b.length) : ((bitsOf b).drop p)[k]? = some (bitAt b (p + k)) := by
  rw [List.getElem?_drop, bitsOf_get h]
theorem bval_take_succ {b : List Int} {p k : Nat} (h : p + k < 8 * b.length) : bval (((bitsOf b).drop p).take (k + 1)) = 2 * bval (((bitsOf b).drop p).take k) + bitAt b (p + k) := by
  rw [List.take_add_one, bitsOf_drop_get h, Option.toList_some, bval_snoc]

theorem or64 {n y : Int} (h0 : 0 ≤ n) (h1 : n < 4294967296) (h2 : 0 ≤ y) (h3 : y < 2) : bits .or .u64 (n * 2) y = n * 2 + y :=
  bits_join .u64 62 (by decide) (fun n h0 h1 => by simp [IntKind.wrap, IntKind.bits, IntKind.signed]; omega) 1 _ _ (by omega) (by omega) (by omega) h2 (by omega) (by omega)
theorem IsR.own {w : World} {g : Nat} {S : Nat → Prop} {b : List Int} {p : Int} (h : IsR w g S b p) : S g := by
  obtain ⟨_, _, _, _, hS, _⟩ := h; exact hS
theorem IsR.set {w : World} {g : Nat} {S : Nat → Prop} {b : List Int} {p q : Int} (h : IsR w g S b p) (h0 : 0 ≤ q) (h1 : q ≤ 8 * b.length) : IsR (w.setCell ⟨g, 1, none⟩ (.int .i64 q)) g S b q := by
  obtain ⟨h8, hp, v, hb, hS, hR⟩ := h
  refine ⟨h8, ⟨h0, h1, hp.2.2⟩, v, ?_, hS, Kd.R_far hR (p := ⟨g, 1, none⟩) (fun _ hk => hk.2) _⟩
  have := blk_set hb 1 (.int .i64 q)
  simpa using this

set_option maxHeartbeats 400000 in
theorem take_ok (g : Nat) (S : Nat → Prop) (b : List Int) (p width : Int) (w : World) (h : IsR w g S b p) (hw0 : 0 ≤ width) (hw1 : width ≤ 32) (hs : width ≤ 8 * (b.length : Int) - p) :
    Calls Try.prog 48 #[.pointer (some ⟨g, 0, none⟩), .int .i64 width] w fun e w' => e = .returned (.tuple #[.int .i64 (bval (((bitsOf b).drop p.toNat).take width.toNat)), .int .i64 0]) ∧ IsR w' g S b (p + width) ∧ Kp w w' S := by
  have b1 : decide (width < 0) = false := decide_eq_false (by omega)
  have b2 : decide (32 < width) = false := decide_eq_false (by omega)
  have b3 : decide (8 * (b.length : Int) - p < width) = false := decide_eq_false (by omega)
  have hp := h.2.1
  have H := Aside0.mk h
  clear h
  go_enter Try.func48, Try.ntmps48
  go_wp2_with fail
  refine (left_calls g _ _ _ _ H.out).mono ?_
  rintro e w' ⟨rfl, ⟨m, rfl⟩⟩
  have H1 : Aside0 (IsR (w.drewN m) g S b p) := H
  have HK : Aside0 (Kp w (w.drewN m) S) := ⟨(Kp.refl w S).drewN m⟩
  generalize w.drewN m = w1 at H1 HK ⊢
  clear H
  have hc1 : w1.cell? ⟨g, 1, none⟩ = some (.int .i64 p) := by
    obtain ⟨_, _, v, hb, _⟩ := H1.out
    exact (blk_cell hb 1).trans rfl
  have hf1 : w1.frozen? ⟨g, 1, none⟩ = false := by
    obtain ⟨_, _, v, hb, _⟩ := H1.out
    exact blk_frozen hb 1
  go_wp2_with fail
  go_loop [6, 25] (fun v6 v25 => ∃ k : Nat, (k : Int) ≤ width ∧ v6 = .int .u64 (bval (((bitsOf b).drop p.toNat).take k)) ∧ v25 = .int .i64 k)
    (fun _ v25 => (width - intOf v25).toNat)
  case atStart => exact ⟨0, by omega, rfl, by simp⟩
  case round =>
    obtain ⟨k, hk, rfl, rfl⟩ := hrel
    by_cases hlt : (k : Int) < width
    · have t1 : decide ((k : Int) < width) = true := decide_eq_true (by omega)
      have hbb := bval_bd (((bitsOf_01 b).drop p.toNat).take k)
      have hlk : (((bitsOf b).drop p.toNat).take k).length ≤ k := List.length_take_le _ _
      have hsu := bval_take_succ (b := b) (p := p.toNat) (k := k) (by omega)
      have hpw : (2 : Int) ^ (((bitsOf b).drop p.toNat).take k).length ≤ 2 ^ 32 := pow_le32 (by omega)
      have hba := bitAt_01 b (p.toNat + k)
      generalize hn : bval (((bitsOf b).drop p.toNat).take k) = n at hbb hsu ⊢
      have hn0 : 0 ≤ n := hbb.1
      have hn1 : n < 4294967296 := by omega
      have HS := Aside0.mk hsu
      clear hbb hlk hsu hpw hn
      go_wp2_with fail
      refine (look_calls g _ _ _ _ _ H1.out (by omega) (by omega)).mono ?_
      rintro e w' ⟨rfl, rfl⟩
      rw [show (p + (k : Int)).toNat = p.toNat + k from by omega]
      generalize hy : bitAt b (p.toNat + k) = y at hba HS ⊢
      have hy0 : 0 ≤ y := by omega
      have hy1 : y < 2 := by omega
      clear hba hy
      go_wp2
      go_round
      case rel =>
        refine ⟨k + 1, by omega, ?_, by first | (simp; done) | (congr 1; omega)⟩
        rw [HS.out]
        exact congrArg (Value.int .u64) ((or64 hn0 hn1 hy0 hy1).trans (by omega))
      case measure => simp [intOf]; omega
    · have t1 : decide ((k : Int) < width) = false := decide_eq_false (by omega)
      obtain rfl : k = width.toNat := by omega
      have hbb := bval_bd (((bitsOf_01 b).drop p.toNat).take width.toNat)
      have hlk : (((bitsOf b).drop p.toNat).take width.toNat).length ≤ width.toNat := List.length_take_le _ _
      have hpw : (2 : Int) ^ (((bitsOf b).drop p.toNat).take width.toNat).length ≤ 2 ^ 32 := pow_le32 (by omega)
      generalize hn : bval (((bitsOf b).drop p.toNat).take width.toNat) = n at hbb ⊢
      have HN := Aside0.mk hn
      clear hn
      have hn0 : 0 ≤ n := hbb.1
      have hn1 : n < 4294967296 := by omega
      clear hbb hlk hpw
      go_wp2
      go_ret2
      refine ⟨congrArg (fun z => Ending.returned (.tuple #[.int .i64 z, .int .i64 0])) HN.out.symm, H1.out.set (by omega) (by omega), HK.out.setCell (p := ⟨g, 1, none⟩) (.inl H1.out.own) _⟩

theorem rones_bad (g : Nat) (most : Int) (w : World) (h : most < 0 ∨ 64 < most) :
    Calls Try.prog 47 #[.pointer (some ⟨g, 0, none⟩), .int .i64 most] w fun e w' => e = .returned (.tuple #[.int .i64 0, .int .i64 1]) ∧ w' = w := by
  by_cases c1 : most < 0
  · have b1 : decide (most < 0) = true := decide_eq_true c1
    clear h
    go_enter Try.func47, Try.ntmps47
    go_wp2
    go_ret2
    exact ⟨rfl, rfl⟩
  have b1 : decide (most < 0) = false := decide_eq_false c1
  have b2 : decide (64 < most) = true := decide_eq_true (by omega)
  clear h
  go_enter Try.func47, Try.ntmps47
  go_wp2
  go_ret2
  exact ⟨rfl, rfl⟩

/-- What stands behind Ones: the answer, and where the reader is. -/
def OnesPost (w : World) (g : Nat) (S : Nat → Prop) (b : List Int) (p most : Int) (e : Ending) (w' : World) : Prop :=
  ∃ n err d : Int, onesL ((bitsOf b).drop p.toNat) most = (n, err, d) ∧ e = .returned (.tuple #[.int .i64 n, .int .i64 err]) ∧ IsR w' g S b (p + d) ∧ Kp w w' S

set_option maxHeartbeats 400000 in
theorem rones_ok (g : Nat) (S : Nat → Prop) (b : List Int) (p most : Int) (w : World) (h : IsR w g S b p) (hm0 : 0 ≤ most) (hm1 : most ≤ 64) :
    Calls Try.prog 47 #[.pointer (some ⟨g, 0, none⟩), .int .i64 most] w fun e w' => OnesPost w g S b p most e w' := by
  have b1 : decide (most < 0) = false := decide_eq_false (by omega)
  have b2 : decide (64 < most) = false := decide_eq_false (by omega)
  have hp := h.2.1
  have H := Aside0.mk h
  clear h
  go_enter Try.func47, Try.ntmps47
  go_wp2_with fail
  go_loopw [6] (fun v6 wr => ∃ k : Nat, (k : Int) ≤ most ∧ v6 = .int .i64 k ∧ Aside0 (∀ i, i < k → ((bitsOf b).drop p.toNat).getD i 0 = 1) ∧ Aside0 (k ≤ ((bitsOf b).drop p.toNat).length) ∧ Aside0 (IsR wr g S b p) ∧ Aside0 (Kp w wr S))
    (fun v6 _ => (most - intOf v6).toNat)
  case atStart => exact ⟨0, by omega, rfl, ⟨fun i hi => by omega⟩, ⟨by omega⟩, H, ⟨Kp.refl _ _⟩⟩
  case round =>
    obtain ⟨k, hk, rfl, HI, HL, H1, HK⟩ := hrel
    clear H
    have hll : ((bitsOf b).drop p.toNat).length = 8 * b.length - p.toNat := by rw [List.length_drop, bitsOf_len]
    have HLL := Aside0.mk hll
    have hkl : (k : Int) ≤ 8 * b.length - p := by have := HL.out; omega
    clear hll
    have hc1 : wr.cell? ⟨g, 1, none⟩ = some (.int .i64 p) := by
      obtain ⟨_, _, v, hb, _⟩ := H1.out
      exact (blk_cell hb 1).trans rfl
    have hf1 : wr.frozen? ⟨g, 1, none⟩ = false := by
      obtain ⟨_, _, v, hb, _⟩ := H1.out
      exact blk_frozen hb 1
    by_cases hlt : (k : Int) = most
    · have t1 : ((k : Int) == most) = true := beq_iff_eq.mpr hlt
      have HE := Aside0.mk hlt
      clear hlt
      go_wp2_with fail
      go_ret2
      refine ⟨k, 0, k, ?_, rfl, H1.out.set (by omega) (by omega), HK.out.setCell (p := ⟨g, 1, none⟩) (.inl H1.out.own) _⟩
      have h := ones_at _ k most.toNat HI.out (by have := HE.out; omega) HL.out (.inl (by have := HE.out; omega))
      unfold onesL
      rw [h, if_neg (by omega), if_pos HE.out, ← HE.out]
    · have t1 : ((k : Int) == most) = false := beq_eq_false_iff_ne.mpr hlt
      have hkm : (k : Int) < most := by omega
      clear hlt
      go_wp2_with fail
      refine (left_calls g _ _ _ _ H1.out).mono ?_
      rintro e w' ⟨rfl, ⟨m, rfl⟩⟩
      have H2 : Aside0 (IsR (wr.drewN m) g S b p) := H1
      have HK2 : Aside0 (Kp w (wr.drewN m) S) := ⟨HK.out.drewN m⟩
      have hd1 : (wr.drewN m).cell? ⟨g, 1, none⟩ = some (.int .i64 p) := hc1
      have hg1 : (wr.drewN m).frozen? ⟨g, 1, none⟩ = false := hf1
      generalize wr.drewN m = w2 at H2 HK2 hd1 hg1 ⊢
      clear H1 HK hc1 hf1
      by_cases hle : 8 * (b.length : Int) - p ≤ k
      · have t2 : decide (8 * (b.length : Int) - p ≤ k) = true := decide_eq_true hle
        go_wp2_with fail
        go_ret2
        refine ⟨0, 2, 0, ?_, rfl, by simpa using H2.out, HK2.out⟩
        have h := ones_at _ k most.toNat HI.out (by omega) HL.out (.inr (.inl (by have := HLL.out; omega)))
        unfold onesL
        rw [h, if_neg (by omega), if_neg (by omega), if_pos (by have := HLL.out; omega)]
      · have t2 : decide (8 * (b.length : Int) - p ≤ k) = false := decide_eq_false hle
        have hlt2 : (k : Int) < 8 * b.length - p := by omega
        clear hle
        have hbg := bitsOf_drop_get (b := b) (p := p.toNat) (k := k) (by omega)
        have hgd : ((bitsOf b).drop p.toNat).getD k 0 = bitAt b (p.toNat + k) := by rw [List.getD_eq_getElem?_getD, hbg]; rfl
        have HG := Aside0.mk hgd
        clear hbg hgd
        go_wp2_with fail
        refine (look_calls g _ _ _ _ _ H2.out (by omega) (by omega)).mono ?_
        rintro e w' ⟨rfl, rfl⟩
        rw [show (p + (k : Int)).toNat = p.toNat + k from by omega]
        have hba := bitAt_01 b (p.toNat + k)
        generalize bitAt b (p.toNat + k) = y at hba HG ⊢
        rcases hba with rfl | rfl
        · go_wp2_with fail
          go_ret2
          refine ⟨k, 0, k + 1, ?_, rfl, H2.out.set (by omega) (by omega), HK2.out.setCell (p := ⟨g, 1, none⟩) (.inl H2.out.own) _⟩
          have h := ones_at _ k most.toNat HI.out (by omega) HL.out (.inr (.inr (by rw [HG.out]; decide)))
          unfold onesL
          rw [h, if_neg (by omega), if_neg (by omega), if_neg (by have := HLL.out; omega)]
        · go_wp2_with fail
          go_roundw
          case rel =>
            refine ⟨k + 1, by omega, by first | (simp; done) | (congr 1; omega), ⟨fun i hi => ?_⟩, ⟨by have := HLL.out; omega⟩, H2, HK2⟩
            rcases Nat.lt_or_ge i k with h | h
            · exact HI.out i h
            · rw [show i = k from by omega]; exact HG.out
          case measure => simp [intOf]; omega
end Go.Proofs.Ytghhfendjkocmaa.Bits
