/- RiceStates: states, parameters, sizes, the state behind a symbol, as the reference tells them, for every state, depth and symbol. -/
import Derived.Test.YtnjfojpjfmnmcaaRows
import Derived.Test.YtnjfojpjfmnmcaaOpen
import Derived.Test.YtnjfojpjfmnmcaaRiceStates
import Derived.WalkKit
import Derived.ProofKit
import Derived.OpenShut
import Derived.ShutString
import Derived.ChangeOld
import Derived.Below
import Derived.SizedLaws
namespace Go.Proofs.Ytnjfojpjfmnmcaa.riceStates
open Go.ChangeShapes Go.WideShapes Go.ChangeAt Go.RowKit Go.Proofs.YtnjfojpjfmnmcaaW.PrintWords
open Go.ChangeMaps (open_string shut_string)
set_option linter.unusedVariables false
theorem own : ownKnob Try.prog.godebug = none := by kernel_rfl
theorem laidOut : laidOutB Try.prog = true := by kernel_rfl
/-- A state that comes in. -/
theorem openState : Opens.Opens 30 (Kd.pair (Kd.int .i64) (Kd.int .i64)) (fun s => (Lit.int .i64 s.1).wf = true ∧ (Lit.int .i64 s.2).wf = true) (fun _ => 2) :=
  Opens.opens_struct2 Try.underlying30 (Opens.opens_int Try.underlying3) (Opens.opens_int Try.underlying3) (by kernel_rfl) rfl rfl (by kernel_rfl) (by kernel_rfl)
theorem state_cs {w : World} {a : Int × Int} {cs : Array Value} (h : (Kd.pair (Kd.int .i64) (Kd.int .i64)).K w a (Value.agg cs).cells.toList) : cs = #[.int .i64 a.1, .int .i64 a.2] := by
  obtain ⟨_, _, e, rfl, rfl⟩ := h
  have e2 := congrArg List.toArray e
  simpa [Value.cells] using e2
set_option maxHeartbeats 1000000 in
set_option maxRecDepth 100000 in
theorem lifted (os : Os) (started : os.Started) (H : Type) (enc : TypeId × Value → H) :
    ReturnsInHanded {} Try.checked os 4 .any (Rows.riceStatesSpec.pre6 enc Try.prog Try.f4 Rows.riceStatesRow.domain false) (Rows.riceStatesSpec.post enc Try.prog Try.f4 false true false false) := by
  refine returnsInHanded_of_change_sized (C := Try.checked) own started (by kernel_rfl) Try.func4
    (ChangeSpec.witness6 (enc := enc) (C := Try.checked) false ⟨#[], #[.agg #[.int .i64 0, .int .i64 0], .int .i64 0, .int .i64 0], []⟩ 8 (by kernel_rfl) (by kernel_rfl) (by kernel_rfl) (by kernel_rfl)) ?_
  intro W base args ds gs before hval0 hW hcnd hsz0 _
  have hval : ∀ (j : Nat) t v, Try.f4.params[j]? = some t → args[j]? = some v → Value.okWide Try.prog W .any base t v := hval0
  have hW' := hW
  obtain ⟨p, q, hA0, hV, rfl, hfz, hnd⟩ := hW
  have hA : DataW.TrodAll enc Try.prog W 0 (fun _ => true) true Try.f4.params.toList args.toList ds p := hA0
  rw [Try.params4] at hA hval
  obtain ⟨v0, vs0, d0, ds0, p0, q0, hargs, rfl, rfl, h0, r0⟩ := trodAll_cons hA
  obtain ⟨v1, vs1, d1, ds1, p1, q1, rfl, rfl, rfl, h1, r1⟩ := trodAll_cons r0
  obtain ⟨v2, vs2, d2, ds2, p2, q2, rfl, rfl, rfl, h2, r2⟩ := trodAll_cons r1
  obtain ⟨rfl, rfl, rfl⟩ := trodAll_nil r2
  obtain rfl : args = #[v0, v1, v2] := by cases args; simp_all
  obtain ⟨rfl, rfl⟩ := trodVars_none hV
  obtain ⟨cs0, rfl, hcs0⟩ := okWide_struct Try.underlying30 (hval 0 30 v0 rfl rfl)
  have k0 := h0
  have lt0 : ∀ x ∈ p0, x.block < W.heap.size := by obtain ⟨m, hm⟩ := k0; exact DataW.trod_lt m _ _ _ hm
  obtain ⟨a0, e0⟩ : ∃ a : Int × Int, cs0 = #[.int .i64 a.1, .int .i64 a.2]
  · obtain ⟨fuel, hf⟩ := h0
    obtain ⟨a, K, _, _⟩ := openState H enc W 0 _ _ fuel _ _ hf
    exact ⟨a, state_cs K⟩
  subst e0
  obtain ⟨a1, rfl, rfl, rfl, w1⟩ := open_int Try.underlying3 (hval 1 3 v1 rfl rfl) h1
  have x1 : -9223372036854775808 ≤ a1 ∧ a1 ≤ 9223372036854775807 := by simpa [Lit.wf, IntKind.min, IntKind.max, IntKind.signed, IntKind.bits] using w1
  obtain ⟨a2, rfl, rfl, rfl, w2⟩ := open_int Try.underlying3 (hval 2 3 v2 rfl rfl) h2
  have x2 : -9223372036854775808 ≤ a2 ∧ a2 ≤ 9223372036854775807 := by simpa [Lit.wf, IntKind.min, IntKind.max, IntKind.signed, IntKind.bits] using w2
  clear hA0 hval0 hsz0
  refine (Rice.states_calls a0.1 a0.2 a1 a2 W).mono fun e W' ⟨he, bel⟩ => ?_
  subst he
  exact ⟨_, rfl, _, _, _, [], _, [], hW', trodAll_mk1 (shut_bool Try.underlying4 _), (trodAll_cons_mk (Below.trod laidOut (by kernel_rfl) (of_decide_eq_true (by kernel_rfl)) k0 bel lt0) (trodAll_cons_mk (shut_int Try.underlying3 w1) (trodAll_cons_mk (shut_int Try.underlying3 w2) trodAll_mk0))), rfl, bel.frame _, fun h => by cases h⟩
theorem over : Rows.riceStatesRow.holds Try.pinned (OpenSpec.ofChange Rows.riceStatesSpec) :=
  OpenClaim.holds_of_wide 4 Try.f4 rfl rfl rfl rfl rfl rfl rfl ⟨rfl, rfl, rfl, rfl, rfl⟩ rfl rfl rfl rfl rfl (by kernel_rfl) Try.func4 (by kernel_rfl)
    (of_decide_eq_true (by kernel_rfl)) (by unfold Func.isWrapper; first | (rw [if_pos (by decide +kernel)]; kernel_rfl) | (rw [if_neg (by decide +kernel)]; exact ⟨rfl, rfl⟩))
    (fun os started H enc _ => lifted os started H enc)
theorem proved : Rows.RiceStatesSaid := over
#print axioms proved
end Go.Proofs.Ytnjfojpjfmnmcaa.riceStates
namespace Go.Proofs.Ytnjfojpjfmnmcaa
/-- The row, under a short name, for the claim. -/
theorem riceStates_holds : Rows.RiceStatesSaid := riceStates.proved
end Go.Proofs.Ytnjfojpjfmnmcaa
