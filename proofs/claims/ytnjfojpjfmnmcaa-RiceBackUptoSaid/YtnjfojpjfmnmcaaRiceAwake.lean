/- What the laws of layer 25 lean on: awake. -/
import Derived.Test.YtnjfojpjfmnmcaaRicePut
import Derived.Test.YtnjfojpjfmnmcaaRefBits
namespace Go.Proofs.Ytnjfojpjfmnmcaa.Rice
open Go.RowKit Go.Proofs.Ytnjfojpjfmnmcaa.Bits Go.Proofs.YtnjfojpjfmnmcaaW.PrintWords Go.Proofs.YtnjfojpjfmnmcaaW.PrintMore Go.Proofs.Ytnjfojpjfmnmcaa.BP
set_option linter.unusedVariables false
set_option linter.unusedSimpArgs false


theorem lit_C (k : IntKind) (W : World) (e : TypeId) (xs : List Int) (hm : xs.length ≤ 9223372036854775807) : Kd.C (Kd.int k) (W.alloc (.cells (encs (Value.int k) xs).toArray e)) (some ⟨W.heap.size, 0, none⟩) xs.length xs :=
  (Kd.R_reads' (Kd.R_of_own (enc := Value.int k) (h1 := fun _ => rfl) (own_lit_of W 0 e xs (Nat.zero_le _) hm) (fun _ _ => trivial : ∀ _, _ → True))).2.2
theorem code_awake : codeL 1 4 8 5 = ([1, 0, 0, 1], 0) := by decide
set_option maxRecDepth 100000 in
set_option maxHeartbeats 800000 in
theorem awake_calls (w : World) : Calls Try.prog 9 #[] w fun e w' => e = .returned (.bool true) ∧ Below w.heap.size w w' := by
  have hu := Try.underlying30
  go_enter Try.func9, Try.ntmps9
  go_wp2_with fail
  refine (new_calls _).mono ?_
  rintro e w1 ⟨g, rfl, hW, hB⟩
  have HW := Aside0.mk hW
  have HB := Aside0.mk hB
  clear hW hB
  go_wp2_with fail
  refine (rput_calls g _ _ 1 4 8 5 w1 HW.out (by decide)).mono ?_
  rintro e w2 ⟨rfl, hW, hK⟩
  rw [code_awake] at hW
  rw [code_awake]
  have HW2 : Aside0 (IsW w2 g (fun k => w.heap.size ≤ k) [1, 0, 0, 1]) := ⟨hW.mono (fun k hk => hk.elim id (fun h => Nat.le_trans HB.out.size h))⟩
  have HB2 : Aside0 (Below w.heap.size w w2) := ⟨below_kp HB.out hK (fun k hk => hk) (Nat.le_refl _)⟩
  clear hW hK HW HB
  go_wp2_with fail
  refine (len_calls g _ _ w2 HW2.out (by decide)).mono ?_
  rintro e w4 ⟨rfl, ⟨m, rfl⟩⟩
  have HW4 : Aside0 (IsW (w2.drewN m) g (fun k => w.heap.size ≤ k) [1, 0, 0, 1]) := HW2
  have HB4 : Aside0 (Below w.heap.size w (w2.drewN m)) := ⟨pw_below_drewN HB2.out m⟩
  generalize w2.drewN m = w4 at HW4 HB4 ⊢
  clear HW2 HB2
  go_wp2_with fail
  refine (bytes_calls g _ _ w4 HW4.out (by decide)).mono ?_
  rintro e w5 ⟨v, rfl, hR, hB⟩
  rw [show packB [1, 0, 0, 1] = [144] from by decide] at hR
  obtain ⟨A, c, rfl⟩ := Kd.R_slice hR
  have HB5 : Aside0 (Below w.heap.size w w5) := ⟨below_step HB4.out hB⟩
  have HC1 : Aside0 (Kd.C (Kd.int .u8) (w5.alloc (.cells #[.int .u8 144] 5)) A 1 [144]) := ⟨Kd.C_below (Kd.R_reads' hR).2.2 (below_alloc (Below.refl _ _) _)⟩
  have HC2 : Aside0 (Kd.C (Kd.int .u8) (w5.alloc (.cells #[.int .u8 144] 5)) (some ⟨w5.heap.size, 0, none⟩) 1 [144]) := ⟨lit_C .u8 w5 5 [144] (by decide)⟩
  have HB6 : Aside0 (Below w.heap.size w (w5.alloc (.cells #[.int .u8 144] 5))) := ⟨below_alloc HB5.out _⟩
  clear hR hB HW4 HB4
  go_wp2_with fail
  refine (same_calls A _ c 1 [144] [144] _ HC1.out HC2.out (by decide) (by decide)).mono ?_
  rintro e w6 ⟨rfl, ⟨m2, rfl⟩⟩
  go_wp2
  go_ret
  exact ⟨rfl, pw_below_drewN HB6.out _⟩
end Go.Proofs.Ytnjfojpjfmnmcaa.Rice
