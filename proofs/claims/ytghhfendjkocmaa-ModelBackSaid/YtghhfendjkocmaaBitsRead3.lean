/- What the calls of package bits do, 5: End, Open. -/
import Derived.Test.YtghhfendjkocmaaBitsRead2
namespace Go.Proofs.Ytghhfendjkocmaa.Bits
open Go.RowKit Go.Proofs.YtghhfendjkocmaaW.PrintWords Go.Proofs.YtghhfendjkocmaaW.PrintMore Go.Proofs.Ytghhfendjkocmaa.BP
set_option linter.unusedVariables false
set_option linter.unusedSimpArgs false



theorem endL_zero {l : List Int} (h : l.length < 8) (hz : ∀ i, i < l.length → l.getD i 0 = 0) : endL l = 0 := by
  unfold endL
  rw [if_neg (by omega), if_pos]
  rw [List.all_eq_true]
  intro x hx
  obtain ⟨i, hi, rfl⟩ := List.getElem_of_mem hx
  have := hz i hi
  rw [List.getD_eq_getElem?_getD, List.getElem?_eq_getElem hi] at this
  simpa using this
theorem endL_one {l : List Int} (h : l.length < 8) {i : Nat} (hi : i < l.length) (hz : l.getD i 0 ≠ 0) : endL l = 3 := by
  unfold endL
  rw [if_neg (by omega), if_neg]
  intro ha
  rw [List.all_eq_true] at ha
  have := ha _ (getD_mem hi)
  exact hz (by simpa using this)

set_option maxHeartbeats 400000 in
theorem end_calls (g : Nat) (S : Nat → Prop) (b : List Int) (p : Int) (w : World) (h : IsR w g S b p) :
    Calls Try.prog 26 #[.pointer (some ⟨g, 0, none⟩)] w fun e w' => e = .returned (.int .i64 (endL ((bitsOf b).drop p.toNat))) ∧ Drawn0 w w' := by
  have hp := h.2.1
  have hll : ((bitsOf b).drop p.toNat).length = 8 * b.length - p.toNat := by rw [List.length_drop, bitsOf_len]
  have HLL := Aside0.mk hll
  have H := Aside0.mk h
  generalize hE : endL ((bitsOf b).drop p.toNat) = en
  have HE := Aside0.mk hE
  clear h hll hE
  by_cases h8 : 8 ≤ 8 * (b.length : Int) - p
  · have t1 : decide (8 ≤ 8 * (b.length : Int) - p) = true := decide_eq_true h8
    go_enter Try.func26, Try.ntmps26
    go_wp2_with fail
    refine (left_calls g _ _ _ _ H.out).mono ?_
    rintro e w' ⟨rfl, ⟨m, rfl⟩⟩
    go_wp2
    go_ret
    refine ⟨?_, ⟨_, rfl⟩⟩
    rw [← HE.out, endL, if_pos (by have := HLL.out; omega)]
    rfl
  · have t1 : decide (8 ≤ 8 * (b.length : Int) - p) = false := decide_eq_false h8
    have hlt : 8 * (b.length : Int) - p < 8 := by omega
    clear h8
    go_enter Try.func26, Try.ntmps26
    go_wp2_with fail
    refine (left_calls g _ _ _ _ H.out).mono ?_
    rintro e w' ⟨rfl, ⟨m, rfl⟩⟩
    have H1 : Aside0 (IsR (w.drewN m) g S b p) := H
    have HD : Aside0 (Drawn0 w (w.drewN m)) := ⟨⟨m, rfl⟩⟩
    generalize w.drewN m = w1 at H1 HD ⊢
    clear H
    have hc1 : w1.cell? ⟨g, 1, none⟩ = some (.int .i64 p) := by
      obtain ⟨_, _, v, hb, _⟩ := H1.out
      exact (blk_cell hb 1).trans rfl
    have hsl : ∃ A c, w1.cell? ⟨g, 0, none⟩ = some (.slice A b.length c) := by
      obtain ⟨_, _, v, hb, _, hR⟩ := H1.out
      obtain ⟨A, c, rfl⟩ := Kd.R_slice hR
      exact ⟨A, c, (blk_cell hb 0).trans rfl⟩
    obtain ⟨A, c, hc0⟩ := hsl
    go_wp2_with fail
    go_loop [3] (fun v3 => ∃ k : Nat, (k : Int) ≤ 8 * b.length - p ∧ v3 = .int .i64 (p + k) ∧ Aside0 (∀ i, i < k → ((bitsOf b).drop p.toNat).getD i 0 = 0))
      (fun v3 => (8 * (b.length : Int) - intOf v3).toNat)
    case atStart => exact ⟨0, by omega, by simp, ⟨fun i hi => by omega⟩⟩
    case round =>
      obtain ⟨k, hk, rfl, HI⟩ := hrel
      by_cases hkl : p + (k : Int) < 8 * b.length
      · have t2 : decide (p + (k : Int) < 8 * b.length) = true := decide_eq_true hkl
        have hbg := bitsOf_drop_get (b := b) (p := p.toNat) (k := k) (by omega)
        have hgd : ((bitsOf b).drop p.toNat).getD k 0 = bitAt b (p.toNat + k) := by rw [List.getD_eq_getElem?_getD, hbg]; rfl
        have HG := Aside0.mk hgd
        clear hbg hgd
        go_wp2_with fail
        refine (look_calls g _ _ _ _ _ H1.out (by omega) (by omega)).mono ?_
        rintro e w' ⟨rfl, rfl⟩
        rw [show (p + (k : Int)).toNat = p.toNat + k from by omega]
        have hba := bitAt_01 b (p.toNat + k)
        generalize bitAt b (p.toNat + k) = y at hba HG ⊢
        rcases hba with rfl | rfl
        · go_wp2_with fail
          go_round
          case rel =>
            refine ⟨k + 1, by omega, by first | (simp; done) | (simp; omega) | (congr 1; omega), ⟨fun i hi => ?_⟩⟩
            rcases Nat.lt_or_ge i k with h | h
            · exact HI.out i h
            · rw [show i = k from by omega]; exact HG.out
          case measure => simp [intOf]; omega
        · go_wp2_with fail
          go_ret
          refine ⟨?_, HD.out⟩
          rw [← HE.out, endL_one (by have := HLL.out; omega) (i := k) (by have := HLL.out; omega) (by rw [HG.out]; decide)]
          rfl
      · have t2 : decide (p + (k : Int) < 8 * b.length) = false := decide_eq_false hkl
        go_wp2_with fail
        go_ret
        refine ⟨?_, HD.out⟩
        rw [← HE.out, endL_zero (by have := HLL.out; omega) (fun i hi => HI.out i (by have := HLL.out; omega))]
        rfl

set_option maxHeartbeats 400000 in
theorem open_calls (A : Option Addr) (c : Nat) (b : List Int) (w : World) (hC : Kd.C (Kd.int .u8) w A b.length b) (h8 : B8 b) (hl : b.length < 1099511627776) :
    Calls Try.prog 21 #[.slice A b.length c] w fun e w' => ∃ g, e = .returned (.pointer (some ⟨g, 0, none⟩)) ∧ IsR w' g (fun k => w.heap.size ≤ k) b 0 ∧ Below w.heap.size w w' := by
  have HC := Aside0.mk (Kd.C_below hC (below_alloc (Below.refl _ _) (.cells #[] 5)))
  have HE := Aside0.mk (R_empty (Value.int .u8) (h1 := fun _ => rfl) w 5)
  have HB0 := Aside0.mk (below_alloc (Below.refl w.heap.size w) (.cells #[] 5))
  have hsz : w.heap.size ≤ (w.alloc (.cells #[] 5)).heap.size := (below_alloc (Below.refl w.heap.size w) (.cells #[] 5)).size
  have HSZ := Aside0.mk hsz
  have hu := Try.underlying79
  clear hC hsz
  go_enter Try.func21, Try.ntmps21
  go_wp2_with ((with_reducible refine gate_builtin (b := .append) (xs := #[.tmp 3, .tmp 4]) rfl ?_); at_builtin; refine Kd.R_append_row (Value.int .u8) 0 (w0 := w) (W := w.alloc (.cells #[] 5)) w.heap.size rfl (.tmp 3) (.tmp 4) 48 5 (.int .u8 0) 1 rfl Try.underlying48 infoU8 rfl (by decide) (.slice (some ⟨w.heap.size, 0, none⟩) 0 0) [] b A b.length c (fun _ => True) rfl rfl (fun _ _ => trivial) HE.out HC.out HB0.out HSZ.out (by simp; omega) ?_; intro v1 w1 ho hb hg hat; obtain ⟨A1, c1, rfl⟩ := Kd.R_slice ho; rw [List.nil_append] at ho; have HO := Aside0.mk ho; have HB1 := Aside0.mk hb; clear ho hb hg hat)
  go_ret
  refine ⟨w1.heap.size, rfl, ⟨h8, ⟨by omega, by omega, hl⟩, _, heap_alloc_new w1 _, HB1.out.size, ?_⟩, below_alloc HB1.out _⟩
  exact Kd.R_alloc (Kd.R_lower (Kd.R_mono (Kd.R_bound HO.out) (fun k hk => ⟨hk.2.1, fun e => by have := hk.2.2.1; omega⟩)) (Nat.zero_le _)) _
end Go.Proofs.Ytghhfendjkocmaa.Bits
