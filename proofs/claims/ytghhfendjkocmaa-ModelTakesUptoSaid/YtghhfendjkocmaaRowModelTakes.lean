/- ModelTakes: every symbol that is read of all bytes, up to the first refusal, and every state; for inputs of bulk at most 1048576. -/
import Derived.Test.YtghhfendjkocmaaRows
import Derived.Test.YtghhfendjkocmaaOpen
import Derived.Test.YtghhfendjkocmaaModelTakes
import Derived.WalkKit
import Derived.ProofKit
import Derived.OpenShut
import Derived.ShutString
import Derived.ChangeOld
import Derived.Below
import Derived.SizedLaws
import Derived.JoinedCond
namespace Go.Proofs.Ytghhfendjkocmaa.modelTakes
open Go.ChangeShapes Go.WideShapes Go.ChangeAt Go.RowKit Go.Proofs.YtghhfendjkocmaaW.PrintWords
open Go.ChangeMaps (open_string shut_string)
set_option linter.unusedVariables false
theorem own : ownKnob Try.prog.godebug = none := by kernel_rfl
theorem laidOut : laidOutB Try.prog = true := by kernel_rfl
/-- The steps that come in. -/
theorem openStep : Opens.Opens 34 Model.seenK (fun _ => True) (fun _ => 1) :=
  (Opens.opens_struct3 Try.underlying34 (Opens.opens_int Try.underlying3) (Opens.opens_int Try.underlying3) (Opens.opens_int Try.underlying3) (by kernel_rfl) rfl rfl rfl (by kernel_rfl) (by kernel_rfl) (by kernel_rfl)).map (fun s => s)
    (fun w s cs h => by
      obtain ⟨_, _, rfl, rfl, _, _, rfl, rfl, rfl⟩ := h
      rfl) (fun _ _ => trivial) (fun _ _ => by omega)
theorem openSteps : Opens.Opens 22 (Kd.slice 34 Model.seenK) (fun l => l.length ≤ maxLen ∧ ∀ x, x ∈ l → True) (fun l => (l.map fun _ => 1).sum + 1) := Opens.opens_slice Try.underlying22 (by kernel_rfl) openStep
theorem sum_ones {α : Type} (l : List α) : (l.map fun _ => 1).sum = l.length := by
  induction l with
  | nil => rfl
  | cons x t ih => simp only [List.map_cons, List.sum_cons, ih, List.length_cons]; omega
theorem openBytes : Opens.Opens 48 (Kd.slice 5 (Kd.int .u8)) (fun l => l.length ≤ maxLen ∧ ∀ x, x ∈ l → (Lit.int .u8 x).wf = true) (fun l => (l.map fun _ => 1).sum + 1) := Opens.opens_slice Try.underlying48 (by kernel_rfl) (Opens.opens_int Try.underlying5)
theorem bytes_8 {l : List Int} (h : l.length ≤ maxLen ∧ ∀ x, x ∈ l → (Lit.int .u8 x).wf = true) : BP.B8 l := fun x hx => by
  have := h.2 x hx
  have : 0 ≤ x ∧ x ≤ 255 := by simpa [Lit.wf, IntKind.min, IntKind.max, IntKind.signed, IntKind.bits] using this
  omega
set_option maxRecDepth 100000 in
theorem contract (H : Type) (enc : TypeId × Value → H) (W : World) (base : Nat) (args : Array Value) (ds gs : List (DataW H)) (before : List MemPlace)
    (hval0 : ∀ (j : Nat) t v, Try.f4.params[j]? = some t → args[j]? = some v → Value.okWide Try.prog W .any base t v)
    (hW : DataW.Whole enc Try.prog Try.f4.params.toList Rows.modelTakesSpec.vars false W args.toList ds gs before) (hk0 : Rows.uptoSmall H (ds ++ gs) = true) :
    Calls Try.prog 4 args W fun e W' => ∃ v, e = .returned v ∧ Rows.modelTakesSpec.post enc Try.prog Try.f4 false true false false W args v W' := by
  have hval : ∀ (j : Nat) t v, Try.f4.params[j]? = some t → args[j]? = some v → Value.okWide Try.prog W .any base t v := hval0
  have hW' := hW
  obtain ⟨p, q, hA0, hV, rfl, hfz, hnd⟩ := hW
  have hA : DataW.TrodAll enc Try.prog W 0 (fun _ => true) true Try.f4.params.toList args.toList ds p := hA0
  rw [Try.params4] at hA hval
  obtain ⟨v0, vs0, d0, ds0, p0, q0, hargs, rfl, rfl, h0, r0⟩ := trodAll_cons hA
  obtain ⟨v1, vs1, d1, ds1, p1, q1, rfl, rfl, rfl, h1, r1⟩ := trodAll_cons r0
  obtain ⟨v2, vs2, d2, ds2, p2, q2, rfl, rfl, rfl, h2, r2⟩ := trodAll_cons r1
  obtain ⟨rfl, rfl, rfl⟩ := trodAll_nil r2
  obtain rfl : args = #[v0, v1, v2] := by cases args; simp_all
  obtain ⟨rfl, rfl⟩ := trodVars_none hV
  have hk : Rows.uptoBulkAll ([d0, d1, d2] : List (DataW H)) ≤ 1048576 := by
    have h := of_decide_eq_true hk0
    simpa only [List.append_nil] using h
  simp only [Rows.uptoBulkAll] at hk
  obtain ⟨a0, rfl, rfl, rfl, w0⟩ := open_int Try.underlying3 (hval 0 3 v0 rfl rfl) h0
  have x0 : -9223372036854775808 ≤ a0 ∧ a0 ≤ 9223372036854775807 := by simpa [Lit.wf, IntKind.min, IntKind.max, IntKind.signed, IntKind.bits] using w0
  obtain ⟨A1, len1, c1, rfl⟩ := okWide_slice Try.underlying48 (hval 1 48 v1 rfl rfl)
  have k1 := h1
  have lt1 : ∀ x ∈ p1, x.block < W.heap.size := by obtain ⟨m, hm⟩ := k1; exact DataW.trod_lt m _ _ _ hm
  obtain ⟨fuel1, hf1⟩ := h1
  obtain ⟨l1, ⟨B1, e1, hcs1, L1, C1⟩, R1, b1⟩ := openBytes H enc W 0 _ _ fuel1 _ _ hf1
  simp [Value.cells] at hcs1
  obtain ⟨rfl, rfl, rfl⟩ := hcs1
  obtain ⟨A2, len2, c2, rfl⟩ := okWide_slice Try.underlying22 (hval 2 22 v2 rfl rfl)
  have k2 := h2
  have lt2 : ∀ x ∈ p2, x.block < W.heap.size := by obtain ⟨m, hm⟩ := k2; exact DataW.trod_lt m _ _ _ hm
  obtain ⟨fuel2, hf2⟩ := h2
  obtain ⟨l2, ⟨B2, e2, hcs2, L2, C2⟩, R2, b2⟩ := openSteps H enc W 0 _ _ fuel2 _ _ hf2
  simp [Value.cells] at hcs2
  obtain ⟨rfl, rfl, rfl⟩ := hcs2
  clear hA0 hval0 hk0
  refine (Model.mtakes_one a0 _ _ l1 _ _ l2 W C1 (bytes_8 R1) (by have b := b1; simp only [sum_ones] at b; omega) C2 L2 R2.1).mono fun e W' ⟨he, bel⟩ => ?_
  subst he
  exact ⟨_, rfl, _, _, _, [], _, [], hW', trodAll_mk1 (shut_bool Try.underlying4 _), (trodAll_cons_mk (shut_int Try.underlying3 w0) (trodAll_cons_mk (Below.trod laidOut (by kernel_rfl) (of_decide_eq_true (by kernel_rfl)) k1 bel lt1) (trodAll_cons_mk (Below.trod laidOut (by kernel_rfl) (of_decide_eq_true (by kernel_rfl)) k2 bel lt2) trodAll_mk0))), rfl, bel.frame _, fun h => by cases h⟩
set_option maxRecDepth 100000 in
theorem lifted (os : Os) (started : os.Started) (H : Type) (enc : TypeId × Value → H) (F : Stop.Interp) :
    ReturnsInHanded {} Try.checked os 4 .any ((Rows.OpenSpec.upto Rows.modelTakesSpec).pre6 enc Try.prog Try.f4 Rows.modelTakesUptoRow.domain false) (((Rows.OpenSpec.upto Rows.modelTakesSpec).at F).post enc Try.prog Try.f4 false true false false) := by
  refine returnsInHanded_of_cond (C := Try.checked) (s := Rows.OpenSpec.upto Rows.modelTakesSpec) (k := Rows.uptoSmall) rfl own started (by kernel_rfl) Try.func4
    (OpenSpec.witness (enc := enc) (C := Try.checked) (s := Rows.OpenSpec.upto Rows.modelTakesSpec) (k := Rows.uptoSmall) rfl false ⟨#[], #[.int .i64 0, .slice none 0 0, .slice none 0 0], []⟩ 8 (by kernel_rfl) (by kernel_rfl) (by kernel_rfl)
      (x := ([.lit (.int .i64 0), .nil, .nil], [], [])) (by kernel_rfl) rfl (by kernel_rfl)) ?_
  intro W base args ds gs before hval hW _ hk _
  exact contract H enc W base args ds gs before hval hW hk
theorem over : Rows.modelTakesUptoRow.holds Try.pinned (Rows.OpenSpec.upto Rows.modelTakesSpec) :=
  OpenClaim.holds_of_cond 4 Try.f4 rfl rfl rfl rfl rfl rfl rfl ⟨rfl, rfl, rfl, rfl, rfl⟩ rfl rfl rfl rfl rfl (by kernel_rfl) Try.func4 (by kernel_rfl)
    (of_decide_eq_true (by kernel_rfl)) (by unfold Func.isWrapper; first | (rw [if_pos (by decide +kernel)]; kernel_rfl) | (rw [if_neg (by decide +kernel)]; exact ⟨rfl, rfl⟩))
    (fun os started H enc _ F => lifted os started H enc F)
theorem proved : Rows.ModelTakesUptoSaid := over
#print axioms proved
end Go.Proofs.Ytghhfendjkocmaa.modelTakes
namespace Go.Proofs.Ytghhfendjkocmaa
/-- The row, under a short name, for the claim. -/
theorem modelTakes_holds : Rows.ModelTakesUptoSaid := modelTakes.proved
end Go.Proofs.Ytghhfendjkocmaa
