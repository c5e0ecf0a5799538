/- RiceTakes: the walk. -/
import Derived.Test.YtghhfendjkocmaaRiceTake
import Derived.Test.YtghhfendjkocmaaRicePuts
import Derived.Test.YtghhfendjkocmaaBitsRead3
import Derived.Deep.RegionHeld3
import Derived.WalkSpells
namespace Go.Proofs.Ytghhfendjkocmaa.Rice
open Go.RowKit Go.Proofs.Ytghhfendjkocmaa.Bits Go.Proofs.YtghhfendjkocmaaW.PrintLast Go.Proofs.YtghhfendjkocmaaW.PrintWords Go.Proofs.YtghhfendjkocmaaW.PrintMore Go.Proofs.Ytghhfendjkocmaa.BP
set_option linter.unusedVariables false
set_option linter.unusedSimpArgs false


theorem takeS_bd {l : List Int} (h01 : B01 l) {n s d : Int} (h : (takeS l n s d).2.2 = 0) : 0 ≤ (takeS l n s d).2.1 ∧ (takeS l n s d).2.1 ≤ l.length := by
  by_cases hf : FitsP n s d 0
  · have hO := onesL_20 l
    have hd0 := hf.2.1
    obtain ⟨o, ho⟩ : ∃ o, onesL l 20 = o := ⟨_, rfl⟩
    rw [ho] at hO
    obtain ⟨q, e, c⟩ := o
    simp only at hO
    rcases hO with ⟨rfl, rfl, rfl, hlen⟩ | ⟨rfl, hq0, hq1, rfl, hlen⟩ | rfl
    · have hb := takeL_bd (w := d) (h01.drop 20)
      obtain ⟨x, hx⟩ : ∃ x, takeL (l.drop 20) d = x := ⟨_, rfl⟩
      rw [hx] at hb
      obtain ⟨x, e2⟩ := x
      rw [takeS_20 (x := x) (e := e2) hf ho hx] at h ⊢
      by_cases c1 : e2 = 0
      · subst c1
        have hb := hb rfl
        rw [List.length_drop] at hb
        rw [if_neg (by simp)] at h ⊢
        split
        · simp
        · simp only; omega
      · rw [if_pos c1] at h; exact absurd h c1
    · have hb := takeL_bd (w := (paramK n s d.toNat : Int)) (h01.drop (q + 1).toNat)
      obtain ⟨x, hx⟩ : ∃ x, takeL (l.drop (q + 1).toNat) (paramK n s d.toNat : Int) = x := ⟨_, rfl⟩
      rw [hx] at hb
      obtain ⟨x, e2⟩ := x
      rw [takeS_lt (x := x) (e := e2) hf ho hq1 hx] at h ⊢
      by_cases c1 : e2 = 0
      · subst c1
        have hb := hb rfl
        rw [List.length_drop] at hb
        rw [if_neg (by simp)] at h ⊢
        split
        · simp
        · simp only; omega
      · rw [if_pos c1] at h; exact absurd h c1
    · rw [takeS_ones hf ho (by decide)] at h; simp at h
  · rw [takeS_bad hf] at h; simp at h

end Go.Proofs.Ytghhfendjkocmaa.Rice
