/- What one model has put another takes: the plain law, and what stands side by side. -/
import Derived.Test.YtghhfendjkocmaaModelPair
import Derived.Test.YtghhfendjkocmaaRiceBackLaw
namespace Go.Proofs.Ytghhfendjkocmaa.Model
open Go.RowKit Go.Proofs.Ytghhfendjkocmaa.Bits Go.Proofs.Ytghhfendjkocmaa.Rice Go.Proofs.YtghhfendjkocmaaW.PrintWords Go.Proofs.YtghhfendjkocmaaW.PrintMore Go.Proofs.Ytghhfendjkocmaa.BP
set_option linter.unusedVariables false
set_option linter.unusedSimpArgs false

def bitM (d : Int) (seen : Seen) (x : Int × Int × Int) : List Int := (codeL (stOf d x.1 x.2.1 seen).1 (stOf d x.1 x.2.1 seen).2 d x.2.2).1
/-- All bits that were put. -/
def bitsM (d : Int) (seen : Seen) : List Int := (List.range seen.length).flatMap fun i => bitM d (seen.take i) (seen.getD i z3)
theorem bitsM_snoc (d : Int) (seen : Seen) (x : Int × Int × Int) : bitsM d (seen ++ [x]) = bitsM d seen ++ bitM d seen x := by
  unfold bitsM
  rw [List.length_append, List.length_singleton, List.range_succ, List.flatMap_append]
  have e1 : (List.range seen.length).flatMap (fun i => bitM d ((seen ++ [x]).take i) ((seen ++ [x]).getD i z3)) = (List.range seen.length).flatMap (fun i => bitM d (seen.take i) (seen.getD i z3)) := by
    simp only [List.flatMap_def]
    congr 1
    refine List.map_congr_left fun i hi => ?_
    have hi := List.mem_range.1 hi
    rw [List.take_append_of_le_length (by omega)]
    simp only [List.getD_eq_getElem?_getD, List.getElem?_append_left hi]
  rw [e1]
  congr 1
  have e2 : (seen ++ [x]).getD seen.length z3 = x := by simp
  have e3 : (seen ++ [x]).take seen.length = seen := by simp
  simp [e2]
theorem bitsM_nil (d : Int) : bitsM d [] = [] := rfl
theorem bitsM_app (d : Int) : ∀ (b a : Seen), ∃ r, bitsM d (a ++ b) = bitsM d a ++ r
  | [], a => ⟨[], by simp⟩
  | x :: b, a => by
    obtain ⟨r, hr⟩ := bitsM_app d b (a ++ [x])
    rw [List.append_assoc] at hr
    exact ⟨bitM d a x ++ r, by rw [show a ++ x :: b = a ++ ([x] ++ b) from rfl, hr, bitsM_snoc, List.append_assoc]⟩
theorem Good.at {d : Int} {s : Seen} (h : Good d s) : ∀ j, j < s.length → KeyOk (s.getD j z3).1 (s.getD j z3).2.1 ∧ FitsP (stOf d (s.getD j z3).1 (s.getD j z3).2.1 (s.take j)).1 (stOf d (s.getD j z3).1 (s.getD j z3).2.1 (s.take j)).2 d (s.getD j z3).2.2 := by
  induction h with
  | nil => intro j hj; simp at hj
  | snoc hs hk hf ih =>
    rename_i s0 p c u
    intro j hj
    rw [List.length_append, List.length_singleton] at hj
    by_cases hlt : j < s0.length
    · have e1 : (s0 ++ [(p, c, u)]).getD j z3 = s0.getD j z3 := by simp only [List.getD_eq_getElem?_getD, List.getElem?_append_left hlt]
      rw [e1, List.take_append_of_le_length (by omega)]
      exact ih j hlt
    · have e : j = s0.length := by omega
      subst e
      have e2 : (s0 ++ [(p, c, u)]).getD s0.length z3 = (p, c, u) := by simp
      have e3 : (s0 ++ [(p, c, u)]).take s0.length = s0 := by simp
      rw [e2, e3]
      exact ⟨hk, hf⟩
theorem mback_parts {d : Int} {sm : Seen} {pk : List Int} {m j : Nat} (hg : Good d sm) (hj : j < sm.length) (hpk : bitsOf pk = bitsM d sm ++ List.replicate m 0) :
    takeS ((bitsOf pk).drop (bitsM d (sm.take j)).length) (stOf d (sm.getD j z3).1 (sm.getD j z3).2.1 (sm.take j)).1 (stOf d (sm.getD j z3).1 (sm.getD j z3).2.1 (sm.take j)).2 d = ((sm.getD j z3).2.2, ((bitsM d (sm.take (j + 1))).length : Int) - (bitsM d (sm.take j)).length, 0) := by
  have hf := (hg.at j hj).2
  obtain ⟨r, hr⟩ := bitsM_app d (sm.drop (j + 1)) (sm.take (j + 1))
  rw [List.take_append_drop, take_snoc sm hj, bitsM_snoc] at hr
  rw [hpk, hr, List.append_assoc, List.append_assoc, List.drop_left, take_snoc sm hj, bitsM_snoc, List.length_append]
  unfold bitM
  rw [takeS_put hf]
  congr 2
  omega
/-- A model that puts (1), one that takes (2), a writer (3), a reader (4), what was taken on (5). -/
structure PB (w : World) (f : Nat → Nat) (gm gn gw : Nat) (d : Int) (bw : List Int) (rd : Option (Nat × List Int × Int)) (sm sn sg : Seen) (v11 : Value) (wr : World) : Prop where
  pm : IsM wr gm (T f 1) d sm
  pn : IsM wr gn (T f 2) d sn
  pw : IsW wr gw (T f 3) bw
  pr : ∀ g b p, rd = some (g, b, p) → IsR wr g (T f 4) b p
  ps : seenK.R 34 wr w.heap.size (T f 5) v11 sg
  below : Below w.heap.size w wr
  zero : ∀ b, b < w.heap.size → f b = 0
section
variable {w : World} {f : Nat → Nat} {gm gn gw gr : Nat} {d pos : Int} {bw pk : List Int} {rd : Option (Nat × List Int × Int)} {sm sn sg : Seen} {v11 : Value} {wr w1 : World}
theorem PB.at0 (h : PB w f gm gn gw d bw rd sm sn sg v11 wr) (t : Nat) : ∀ k, k < w.heap.size → upd f wr.heap.size t k = 0 := fun k hk => by
  unfold upd
  rw [if_pos (Nat.lt_of_lt_of_le hk h.below.size)]; exact h.zero k hk
theorem PB.ge (h : PB w f gm gn gw d bw rd sm sn sg v11 wr) {t : Nat} (ht : t ≠ 0) : ∀ k, T f t k → w.heap.size ≤ k := fun k hk => by
  rcases Nat.lt_or_ge k w.heap.size with h2 | h2
  · exact absurd (hk.symm.trans (h.zero k h2)) ht
  · exact h2
theorem PB.make (h : PB w f gm gn gw d bw rd sm sn sg v11 wr) (hB : Below wr.heap.size wr w1) : PB w (upd f wr.heap.size 7) gm gn gw d bw rd sm sn sg v11 w1 :=
  ⟨belM h.pm hB, belM h.pn hB, belW h.pw hB, fun g b p e => belR (h.pr g b p e) hB, belL h.ps hB, below_step h.below hB, h.at0 7⟩
theorem PB.reads (h : PB w f gm gn gw d bw none sm sn sg v11 wr) (hR : IsR w1 gr (fun k => wr.heap.size ≤ k) pk pos) (hB : Below wr.heap.size wr w1) : PB w (upd f wr.heap.size 4) gm gn gw d bw (some (gr, pk, pos)) sm sn sg v11 w1 :=
  ⟨belM h.pm hB, belM h.pn hB, belW h.pw hB, fun g b p e => by cases e; exact hR.mono (fun _ hk => T_upd (.inr hk)), belL h.ps hB, below_step h.below hB, h.at0 4⟩
theorem PB.drawn (h : PB w f gm gn gw d bw rd sm sn sg v11 wr) (hD : Drawn0 wr w1) : PB w f gm gn gw d bw rd sm sn sg v11 w1 := by
  obtain ⟨q, rfl⟩ := hD.out
  exact ⟨h.pm.below (pw_below_drewN (Below.refl _ _) q), h.pn.below (pw_below_drewN (Below.refl _ _) q), h.pw.below (pw_below_drewN (Below.refl _ _) q), fun g b p e => (h.pr g b p e).drewN q, Kd.R_drewN h.ps q, pw_below_drewN h.below q, h.zero⟩
theorem PB.putm {b' : List Int} {s' : Seen} (h : PB w f gm gn gw d bw rd sm sn sg v11 wr) (hW : IsW w1 gw (fun k => (T f 3 k ∧ k < wr.heap.size) ∨ wr.heap.size ≤ k) b') (hM : IsM w1 gm (fun k => T f 1 k ∧ k < wr.heap.size) d s') (hK : Kp wr w1 (fun k => (T f 3 k ∧ k < wr.heap.size) ∨ (T f 1 k ∧ k < wr.heap.size))) :
    PB w (upd f wr.heap.size 3) gm gn gw d b' rd s' sn sg v11 w1 := by
  have hk : Kept wr w1 (fun k => (fun n => n = 3 ∨ n = 1) (f k)) := hK.1.mono (fun k hk => hk.imp (fun h => h.1) (fun h => h.1))
  exact ⟨hM.mono (fun k hk => T_old hk.1 hk.2), keepM (U := fun n => n = 3 ∨ n = 1) h.pn hk (by omega), hW.mono (fun k hk => T_upd (hk.imp (fun h => h.1) id)), fun g b p e => keepR (U := fun n => n = 3 ∨ n = 1) (h.pr g b p e) hk (by omega), keepL (U := fun n => n = 3 ∨ n = 1) h.ps hk (by omega), below_kp h.below hK (fun k hk => hk.elim (fun h2 => h.ge (t := 3) (by omega) k h2.1) (fun h2 => h.ge (t := 1) (by omega) k h2.1)) (Nat.le_refl _), h.at0 3⟩
theorem PB.taken {p : Int} {s' : Seen} (h : PB w f gm gn gw d bw (some (gr, pk, pos)) sm sn sg v11 wr) (hM : IsM w1 gn (fun k => T f 2 k ∧ k < wr.heap.size) d s') (hR : IsR w1 gr (fun k => T f 4 k ∧ k < wr.heap.size) pk p) (hK : Kp wr w1 (fun k => (T f 4 k ∧ k < wr.heap.size) ∨ (T f 2 k ∧ k < wr.heap.size))) :
    PB w (upd f wr.heap.size 7) gm gn gw d bw (some (gr, pk, p)) sm s' sg v11 w1 := by
  have hk : Kept wr w1 (fun k => (fun n => n = 4 ∨ n = 2) (f k)) := hK.1.mono (fun k hk => hk.imp (fun h => h.1) (fun h => h.1))
  exact ⟨keepM (U := fun n => n = 4 ∨ n = 2) h.pm hk (by omega), hM.mono (fun k hk => T_old hk.1 hk.2), keepW (U := fun n => n = 4 ∨ n = 2) h.pw hk (by omega), (fun g b q e => by cases e; exact hR.mono (fun k hk => T_old hk.1 hk.2)), keepL (U := fun n => n = 4 ∨ n = 2) h.ps hk (by omega), below_kp h.below hK (fun k hk => hk.elim (fun h2 => h.ge (t := 4) (by omega) k h2.1) (fun h2 => h.ge (t := 2) (by omega) k h2.1)) (Nat.le_refl _), h.at0 7⟩
theorem PB.put7 {g k : Nat} {u : Value} (h : PB w f gm gn gw d bw rd sm sn sg v11 wr) (hg : f g = 7) : PB w (upd f wr.heap.size 7) gm gn gw d bw rd sm sn sg v11 (wr.setCell ⟨g, k, none⟩ u) := by
  have hk : Kept wr (wr.setCell ⟨g, k, none⟩ u) (fun b => (fun n => n = 7) (f b)) := ((Kept.refl wr (fun b => b = g)).setCell (p := ⟨g, k, Option.none⟩) (.inl rfl) u).mono (fun b hb => by rw [hb]; exact hg)
  exact ⟨keepM (U := fun n => n = 7) h.pm hk (by omega), keepM (U := fun n => n = 7) h.pn hk (by omega), keepW (U := fun n => n = 7) h.pw hk (by omega), fun g b p e => keepR (U := fun n => n = 7) (h.pr g b p e) hk (by omega), keepL (U := fun n => n = 7) h.ps hk (by omega), below_set h.below (h.ge (t := 7) (by omega) g hg), h.at0 7⟩
theorem PB.apps {b' : Seen} {v' : Value} (h : PB w f gm gn gw d bw rd sm sn sg v11 wr) (hR : seenK.R 34 w1 w.heap.size (fun k => T f 5 k ∨ wr.heap.size ≤ k) v' b') (hg : wr.grownBy w1 v11.ownBlock) (hB : Below w.heap.size w w1) : PB w (upd f wr.heap.size 5) gm gn gw d bw rd sm sn b' v' w1 := by
  have hk : Kept wr w1 (fun k => (fun n => n = 5) (f k)) := Kept.of_grown hg (Kept.refl wr _) (fun k hk => .inl (h.ps.1 k hk))
  exact ⟨keepM (U := fun n => n = 5) h.pm hk (by omega), keepM (U := fun n => n = 5) h.pn hk (by omega), keepW (U := fun n => n = 5) h.pw hk (by omega), fun g b p e => keepR (U := fun n => n = 5) (h.pr g b p e) hk (by omega), mine_R hR, hB, h.at0 5⟩
end
theorem bitM_len (d : Int) (s : Seen) (x : Int × Int × Int) : (bitM d s x).length ≤ 36 := codeL_len _ _ _ _
theorem infoStep : (Try.prog.info? 34).map (fun i => (i.zero, i.size, i.bytes)) = some (some (.agg #[.int .i64 0, .int .i64 0, .int .i64 0]), 3, 24) := by kernel_rfl
end Go.Proofs.Ytghhfendjkocmaa.Model
