/- Whose a block is, told by a number: what one owner does leaves the others' as they were. -/
import Derived.Test.YtghhfendjkocmaaBitsRead3
namespace Go.Proofs.Ytghhfendjkocmaa.Bits
open Go.RowKit Go.Proofs.YtghhfendjkocmaaW.PrintWords Go.Proofs.YtghhfendjkocmaaW.PrintMore Go.Proofs.Ytghhfendjkocmaa.BP
set_option linter.unusedVariables false
set_option linter.unusedSimpArgs false

/-- The blocks with this number. -/
def T (f : Nat → Nat) (t : Nat) : Nat → Prop := fun b => f b = t
/-- New blocks get the number t. -/
def upd (f : Nat → Nat) (n t : Nat) : Nat → Nat := fun b => if b < n then f b else t
theorem T_upd {f : Nat → Nat} {n t b : Nat} (h : T f t b ∨ n ≤ b) : T (upd f n t) t b := by
  unfold T upd at *
  split
  · rcases h with h | h
    · exact h
    · omega
  · rfl
theorem T_old {f : Nat → Nat} {n s t b : Nat} (h : T f s b) (hb : b < n) : T (upd f n t) s b := by
  unfold T upd at *
  rw [if_pos hb]; exact h
theorem mv_W {w w1 : World} {g : Nat} {f : Nat → Nat} {s t : Nat} {bs : List Int} (h : IsW w g (T f s) bs) (hk : Kept w w1 (T f t)) (hne : s ≠ t) : IsW w1 g (T (upd f w.heap.size t) s) bs :=
  (h.bound.kept hk (fun b hb h2 => hne (hb.1.symm.trans h2))).mono (fun b hb => T_old hb.1 hb.2)
theorem mine_W {w1 : World} {g n : Nat} {f : Nat → Nat} {t : Nat} {bs : List Int} (h : IsW w1 g (fun b => T f t b ∨ n ≤ b) bs) : IsW w1 g (T (upd f n t) t) bs := h.mono (fun b hb => T_upd hb)
theorem mv_R {α : Type} {d : Kd α} {e base : Nat} {w w1 : World} {f : Nat → Nat} {s t : Nat} {v : Value} {xs : List α} (h : d.R e w base (T f s) v xs) (hk : Kept w w1 (T f t)) (hne : s ≠ t) : d.R e w1 base (T (upd f w.heap.size t) s) v xs :=
  Kd.R_mono (Kd.R_kept (Kd.R_bound h) hk (fun b hb h2 => hne (hb.1.symm.trans h2))) (fun b hb => T_old hb.1 hb.2.2.1)
theorem mine_R {α : Type} {d : Kd α} {e base n : Nat} {w1 : World} {f : Nat → Nat} {t : Nat} {v : Value} {xs : List α} (h : d.R e w1 base (fun b => T f t b ∨ n ≤ b) v xs) : d.R e w1 base (T (upd f n t) t) v xs := Kd.R_mono h (fun b hb => T_upd hb)
theorem new_R {α : Type} {d : Kd α} {e n : Nat} {w1 : World} {f : Nat → Nat} {t : Nat} {ok : Nat → Prop} {v : Value} {xs : List α} (h : d.R e w1 n ok v xs) : d.R e w1 n (T (upd f n t) t) v xs := Kd.R_mono (Kd.R_bound h) (fun b hb => T_upd (.inr hb.2.1))
end Go.Proofs.Ytghhfendjkocmaa.Bits
