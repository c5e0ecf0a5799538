/- Two models, two writers and two lists, each in blocks of its own number. -/
import Derived.Test.YtghhfendjkocmaaModelWords
namespace Go.Proofs.Ytghhfendjkocmaa.Model
open Go.RowKit Go.Proofs.Ytghhfendjkocmaa.Bits Go.Proofs.Ytghhfendjkocmaa.Rice Go.Proofs.YtghhfendjkocmaaW.PrintWords Go.Proofs.YtghhfendjkocmaaW.PrintMore Go.Proofs.Ytghhfendjkocmaa.BP
set_option linter.unusedVariables false
set_option linter.unusedSimpArgs false

structure PM (w : World) (f : Nat → Nat) (gm gn gw gv : Nat) (d : Int) (bw bv : List Int) (sm sn sg : Seen) (v13 : Value) (ll : List Int) (v14 : Value) (wr : World) : Prop where
  pm : IsM wr gm (T f 1) d sm
  pn : IsM wr gn (T f 2) d sn
  pw : IsW wr gw (T f 3) bw
  pv : IsW wr gv (T f 4) bv
  ps : seenK.R 44 wr w.heap.size (T f 5) v13 sg
  pl : Kd.R (Kd.int .i64) 3 wr w.heap.size (T f 6) v14 ll
  below : Below w.heap.size w wr
  zero : ∀ b, b < w.heap.size → f b = 0
section
variable {w : World} {f : Nat → Nat} {gm gn gw gv : Nat} {d : Int} {bw bv : List Int} {sm sn sg : Seen} {v13 : Value} {ll : List Int} {v14 : Value} {wr w1 : World}
theorem PM.at0 (h : PM w f gm gn gw gv d bw bv sm sn sg v13 ll v14 wr) (t : Nat) : ∀ k, k < w.heap.size → upd f wr.heap.size t k = 0 := fun k hk => by
  unfold upd
  rw [if_pos (Nat.lt_of_lt_of_le hk h.below.size)]; exact h.zero k hk
theorem PM.ge (h : PM w f gm gn gw gv d bw bv sm sn sg v13 ll v14 wr) {t : Nat} (ht : t ≠ 0) : ∀ k, T f t k → w.heap.size ≤ k := fun k hk => by
  rcases Nat.lt_or_ge k w.heap.size with h2 | h2
  · exact absurd (hk.symm.trans (h.zero k h2)) ht
  · exact h2
theorem PM.make (h : PM w f gm gn gw gv d bw bv sm sn sg v13 ll v14 wr) (hB : Below wr.heap.size wr w1) : PM w (upd f wr.heap.size 7) gm gn gw gv d bw bv sm sn sg v13 ll v14 w1 :=
  ⟨belM h.pm hB, belM h.pn hB, belW h.pw hB, belW h.pv hB, belL h.ps hB, belL h.pl hB, below_step h.below hB, h.at0 7⟩
theorem PM.drawn (h : PM w f gm gn gw gv d bw bv sm sn sg v13 ll v14 wr) (hD : Drawn0 wr w1) : PM w f gm gn gw gv d bw bv sm sn sg v13 ll v14 w1 := by
  obtain ⟨q, rfl⟩ := hD.out
  exact ⟨h.pm.below (pw_below_drewN (Below.refl _ _) q), h.pn.below (pw_below_drewN (Below.refl _ _) q), h.pw.below (pw_below_drewN (Below.refl _ _) q), h.pv.below (pw_below_drewN (Below.refl _ _) q), Kd.R_drewN h.ps q, Kd.R_drewN h.pl q, pw_below_drewN h.below q, h.zero⟩
theorem PM.putm {b' : List Int} {s' : Seen} (h : PM w f gm gn gw gv d bw bv sm sn sg v13 ll v14 wr) (hW : IsW w1 gw (fun k => (T f 3 k ∧ k < wr.heap.size) ∨ wr.heap.size ≤ k) b') (hM : IsM w1 gm (fun k => T f 1 k ∧ k < wr.heap.size) d s') (hK : Kp wr w1 (fun k => (T f 3 k ∧ k < wr.heap.size) ∨ (T f 1 k ∧ k < wr.heap.size))) :
    PM w (upd f wr.heap.size 3) gm gn gw gv d b' bv s' sn sg v13 ll v14 w1 := by
  have hk : Kept wr w1 (fun k => (fun n => n = 3 ∨ n = 1) (f k)) := hK.1.mono (fun k hk => hk.imp (fun h => h.1) (fun h => h.1))
  exact ⟨hM.mono (fun k hk => T_old hk.1 hk.2), keepM (U := fun n => n = 3 ∨ n = 1) h.pn hk (by omega), hW.mono (fun k hk => T_upd (hk.imp (fun h => h.1) id)), keepW (U := fun n => n = 3 ∨ n = 1) h.pv hk (by omega), keepL (U := fun n => n = 3 ∨ n = 1) h.ps hk (by omega), keepL (U := fun n => n = 3 ∨ n = 1) h.pl hk (by omega), below_kp h.below hK (fun k hk => hk.elim (fun h2 => h.ge (t := 3) (by omega) k h2.1) (fun h2 => h.ge (t := 1) (by omega) k h2.1)) (Nat.le_refl _), h.at0 3⟩
theorem PM.putn {b' : List Int} {s' : Seen} (h : PM w f gm gn gw gv d bw bv sm sn sg v13 ll v14 wr) (hW : IsW w1 gv (fun k => (T f 4 k ∧ k < wr.heap.size) ∨ wr.heap.size ≤ k) b') (hM : IsM w1 gn (fun k => T f 2 k ∧ k < wr.heap.size) d s') (hK : Kp wr w1 (fun k => (T f 4 k ∧ k < wr.heap.size) ∨ (T f 2 k ∧ k < wr.heap.size))) :
    PM w (upd f wr.heap.size 4) gm gn gw gv d bw b' sm s' sg v13 ll v14 w1 := by
  have hk : Kept wr w1 (fun k => (fun n => n = 4 ∨ n = 2) (f k)) := hK.1.mono (fun k hk => hk.imp (fun h => h.1) (fun h => h.1))
  exact ⟨keepM (U := fun n => n = 4 ∨ n = 2) h.pm hk (by omega), hM.mono (fun k hk => T_old hk.1 hk.2), keepW (U := fun n => n = 4 ∨ n = 2) h.pw hk (by omega), hW.mono (fun k hk => T_upd (hk.imp (fun h => h.1) id)), keepL (U := fun n => n = 4 ∨ n = 2) h.ps hk (by omega), keepL (U := fun n => n = 4 ∨ n = 2) h.pl hk (by omega), below_kp h.below hK (fun k hk => hk.elim (fun h2 => h.ge (t := 4) (by omega) k h2.1) (fun h2 => h.ge (t := 2) (by omega) k h2.1)) (Nat.le_refl _), h.at0 4⟩
theorem PM.apps {b' : Seen} {v' : Value} (h : PM w f gm gn gw gv d bw bv sm sn sg v13 ll v14 wr) (hR : seenK.R 44 w1 w.heap.size (fun k => T f 5 k ∨ wr.heap.size ≤ k) v' b') (hg : wr.grownBy w1 v13.ownBlock) (hB : Below w.heap.size w w1) : PM w (upd f wr.heap.size 5) gm gn gw gv d bw bv sm sn b' v' ll v14 w1 := by
  have hk : Kept wr w1 (fun k => (fun n => n = 5) (f k)) := Kept.of_grown hg (Kept.refl wr _) (fun k hk => .inl (h.ps.1 k hk))
  exact ⟨keepM (U := fun n => n = 5) h.pm hk (by omega), keepM (U := fun n => n = 5) h.pn hk (by omega), keepW (U := fun n => n = 5) h.pw hk (by omega), keepW (U := fun n => n = 5) h.pv hk (by omega), mine_R hR, keepL (U := fun n => n = 5) h.pl hk (by omega), hB, h.at0 5⟩
theorem PM.appl {b' : List Int} {v' : Value} (h : PM w f gm gn gw gv d bw bv sm sn sg v13 ll v14 wr) (hR : Kd.R (Kd.int .i64) 3 w1 w.heap.size (fun k => T f 6 k ∨ wr.heap.size ≤ k) v' b') (hg : wr.grownBy w1 v14.ownBlock) (hB : Below w.heap.size w w1) : PM w (upd f wr.heap.size 6) gm gn gw gv d bw bv sm sn sg v13 b' v' w1 ∧ (∀ {b : Nat} {o : Obj} {s : Nat}, wr.heap[b]? = some o ∧ f b = s → s ≠ 6 → w1.heap[b]? = some o ∧ upd f wr.heap.size 6 b = s) := by
  have hk : Kept wr w1 (fun k => (fun n => n = 6) (f k)) := Kept.of_grown hg (Kept.refl wr _) (fun k hk => .inl (h.pl.1 k hk))
  exact ⟨⟨keepM (U := fun n => n = 6) h.pm hk (by omega), keepM (U := fun n => n = 6) h.pn hk (by omega), keepW (U := fun n => n = 6) h.pw hk (by omega), keepW (U := fun n => n = 6) h.pv hk (by omega), keepL (U := fun n => n = 6) h.ps hk (by omega), mine_R hR, hB, h.at0 6⟩, fun h1 hs => keepO (U := fun n => n = 6) h1.1 h1.2 hk hs⟩
end
end Go.Proofs.Ytghhfendjkocmaa.Model
