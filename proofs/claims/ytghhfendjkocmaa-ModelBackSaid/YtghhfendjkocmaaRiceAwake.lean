/- What the laws of layer 25 lean on: awake. -/
import Derived.Test.YtghhfendjkocmaaRicePut
import Derived.Test.YtghhfendjkocmaaRefBits
namespace Go.Proofs.Ytghhfendjkocmaa.Rice
open Go.RowKit Go.Proofs.Ytghhfendjkocmaa.Bits Go.Proofs.YtghhfendjkocmaaW.PrintWords Go.Proofs.YtghhfendjkocmaaW.PrintMore Go.Proofs.Ytghhfendjkocmaa.BP
set_option linter.unusedVariables false
set_option linter.unusedSimpArgs false


theorem lit_C (k : IntKind) (W : World) (e : TypeId) (xs : List Int) (hm : xs.length ≤ 9223372036854775807) : Kd.C (Kd.int k) (W.alloc (.cells (encs (Value.int k) xs).toArray e)) (some ⟨W.heap.size, 0, none⟩) xs.length xs :=
  (Kd.R_reads' (Kd.R_of_own (enc := Value.int k) (h1 := fun _ => rfl) (own_lit_of W 0 e xs (Nat.zero_le _) hm) (fun _ _ => trivial : ∀ _, _ → True))).2.2
theorem code_awake : codeL 1 4 8 5 = ([1, 0, 0, 1], 0) := by decide
end Go.Proofs.Ytghhfendjkocmaa.Rice
