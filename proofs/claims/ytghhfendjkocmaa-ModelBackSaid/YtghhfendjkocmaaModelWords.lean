/- What stands side by side, each in blocks of its own number. -/
import Derived.Test.YtghhfendjkocmaaModelRef
import Derived.Test.YtghhfendjkocmaaModelNil
namespace Go.Proofs.Ytghhfendjkocmaa.Model
open Go.RowKit Go.Proofs.Ytghhfendjkocmaa.Bits Go.Proofs.Ytghhfendjkocmaa.Rice Go.Proofs.YtghhfendjkocmaaW.PrintWords Go.Proofs.YtghhfendjkocmaaW.PrintMore Go.Proofs.Ytghhfendjkocmaa.BP
set_option linter.unusedVariables false
set_option linter.unusedSimpArgs false

theorem infoSeen : (Try.prog.info? 44).map (fun i => (i.zero, i.size, i.bytes)) = some (some (.agg #[.int .i64 0, .int .i64 0, .int .i64 0]), 3, 24) := by kernel_rfl
theorem C_take {w : World} {A : Option Addr} {l : Seen} (h : seenK.C w A l.length l) (k : Nat) : seenK.C w A (l.take k).length (l.take k) := by
  obtain ⟨h1, h2, h3⟩ := h
  refine ⟨rfl, Nat.le_trans (by rw [List.length_take]; exact Nat.min_le_right _ _) h2, fun hn => ?_⟩
  rw [List.length_take] at hn
  obtain ⟨ad, e, hc⟩ := h3 (by omega)
  exact ⟨ad, e, fun j p hj => hc j p (by
    rw [List.getElem?_take] at hj
    split at hj
    · exact hj
    · cases hj)⟩
section
variable {w w1 wb : World} {f : Nat → Nat} {s t : Nat} {U : Nat → Prop}
theorem no_tag {P : Nat → Prop} (hs : ¬ U s) : ∀ b, (T f s b ∧ P b) → ¬ U (f b) := fun b hb hu => hs (by have := hb.1; unfold T at this; rwa [this] at hu)
theorem keepM {g : Nat} {d : Int} {seen : Seen} (h : IsM w g (T f s) d seen) (hk : Kept w w1 (fun b => U (f b))) (hs : ¬ U s) : IsM w1 g (T (upd f w.heap.size t) s) d seen :=
  (h.bound.kept hk (no_tag hs)).mono (fun b hb => T_old hb.1 hb.2)
theorem keepW {g : Nat} {bs : List Int} (h : IsW w g (T f s) bs) (hk : Kept w w1 (fun b => U (f b))) (hs : ¬ U s) : IsW w1 g (T (upd f w.heap.size t) s) bs :=
  (h.bound.kept hk (no_tag hs)).mono (fun b hb => T_old hb.1 hb.2)
theorem keepR {g : Nat} {bs : List Int} {p : Int} (h : IsR w g (T f s) bs p) (hk : Kept w w1 (fun b => U (f b))) (hs : ¬ U s) : IsR w1 g (T (upd f w.heap.size t) s) bs p :=
  (h.bound.kept hk (no_tag hs)).mono (fun b hb => T_old hb.1 hb.2)
theorem keepL {α : Type} {d : Kd α} {e base : Nat} {v : Value} {xs : List α} (h : d.R e w base (T f s) v xs) (hk : Kept w w1 (fun b => U (f b))) (hs : ¬ U s) : d.R e w1 base (T (upd f w.heap.size t) s) v xs :=
  Kd.R_mono (Kd.R_kept (Kd.R_bound h) hk (no_tag hs)) (fun b hb => T_old hb.1 hb.2.2.1)
theorem keepO {b : Nat} {o : Obj} (h : w.heap[b]? = some o) (hf : f b = s) (hk : Kept w w1 (fun b => U (f b))) (hs : ¬ U s) : w1.heap[b]? = some o ∧ upd f w.heap.size t b = s :=
  ⟨(hk.2 b (Go.Proofs.YtghhfendjkocmaaW.PrintWords.blk_lt h) (fun hu => hs (by have h2 : U (f b) := hu; rwa [hf] at h2))).trans h, by unfold upd; rw [if_pos (Go.Proofs.YtghhfendjkocmaaW.PrintWords.blk_lt h)]; exact hf⟩
theorem belM {g : Nat} {d : Int} {seen : Seen} (h : IsM w g (T f s) d seen) (hB : Below w.heap.size w w1) : IsM w1 g (T (upd f w.heap.size t) s) d seen := keepM (U := fun _ => False) h (Kept.of_below hB _) id
theorem belW {g : Nat} {bs : List Int} (h : IsW w g (T f s) bs) (hB : Below w.heap.size w w1) : IsW w1 g (T (upd f w.heap.size t) s) bs := keepW (U := fun _ => False) h (Kept.of_below hB _) id
theorem belR {g : Nat} {bs : List Int} {p : Int} (h : IsR w g (T f s) bs p) (hB : Below w.heap.size w w1) : IsR w1 g (T (upd f w.heap.size t) s) bs p := keepR (U := fun _ => False) h (Kept.of_below hB _) id
theorem belL {α : Type} {d : Kd α} {e base : Nat} {v : Value} {xs : List α} (h : d.R e w base (T f s) v xs) (hB : Below w.heap.size w w1) : d.R e w1 base (T (upd f w.heap.size t) s) v xs := keepL (U := fun _ => False) h (Kept.of_below hB _) id
theorem belO {b : Nat} {o : Obj} (h : w.heap[b]? = some o ∧ f b = s) (hB : Below w.heap.size w w1) : w1.heap[b]? = some o ∧ upd f w.heap.size t b = s := keepO (U := fun _ => False) h.1 h.2 (Kept.of_below hB _) id
theorem kept_none (hB : Below w.heap.size w w1) : Kept w w1 (fun b => (fun _ => False) (f b)) := Kept.of_below hB _
end
/-- A model (1), a reader (2), a list of bits (3), what was seen (5). -/
structure PT (w : World) (f : Nat → Nat) (gm gr : Nat) (d : Int) (b : List Int) (pos : Int) (sm sg : Seen) (A1 : Option Addr) (c1 : Nat) (L : List Int) (v : Value) (wr : World) : Prop where
  pm : IsM wr gm (T f 1) d sm
  pr : IsR wr gr (T f 2) b pos
  pl : Kd.R (Kd.int .i64) 3 wr w.heap.size (T f 3) (.slice A1 L.length c1) L
  ps : seenK.R 44 wr w.heap.size (T f 5) v sg
  below : Below w.heap.size w wr
  zero : ∀ b, b < w.heap.size → f b = 0
section
variable {w : World} {f : Nat → Nat} {gm gr : Nat} {d : Int} {b : List Int} {pos : Int} {sm sg : Seen} {A1 : Option Addr} {c1 : Nat} {L : List Int} {v : Value} {wr w1 : World}
theorem PT.at0 (h : PT w f gm gr d b pos sm sg A1 c1 L v wr) (t : Nat) : ∀ k, k < w.heap.size → upd f wr.heap.size t k = 0 := fun k hk => by
  unfold upd
  rw [if_pos (Nat.lt_of_lt_of_le hk h.below.size)]; exact h.zero k hk
theorem PT.ge (h : PT w f gm gr d b pos sm sg A1 c1 L v wr) {t : Nat} (ht : t ≠ 0) : ∀ k, T f t k → w.heap.size ≤ k := fun k hk => by
  rcases Nat.lt_or_ge k w.heap.size with h2 | h2
  · exact absurd (hk.symm.trans (h.zero k h2)) ht
  · exact h2
theorem PT.make (h : PT w f gm gr d b pos sm sg A1 c1 L v wr) (hB : Below wr.heap.size wr w1) : PT w (upd f wr.heap.size 7) gm gr d b pos sm sg A1 c1 L v w1 :=
  have hk := kept_none (f := f) hB
  ⟨keepM (U := fun _ => False) h.pm hk id, keepR (U := fun _ => False) h.pr hk id, keepL (U := fun _ => False) h.pl hk id, keepL (U := fun _ => False) h.ps hk id, below_step h.below hB, h.at0 7⟩
theorem PT.took {b' : Seen} {p : Int} (h : PT w f gm gr d b pos sm sg A1 c1 L v wr) (hM : IsM w1 gm (fun k => T f 1 k ∧ k < wr.heap.size) d b') (hR : IsR w1 gr (fun k => T f 2 k ∧ k < wr.heap.size) b p) (hK : Kp wr w1 (fun k => (T f 2 k ∧ k < wr.heap.size) ∨ (T f 1 k ∧ k < wr.heap.size))) :
    PT w (upd f wr.heap.size 7) gm gr d b p b' sg A1 c1 L v w1 := by
  have hk : Kept wr w1 (fun k => (fun n => n = 2 ∨ n = 1) (f k)) := hK.1.mono (fun k hk => hk.imp (fun h => h.1) (fun h => h.1))
  exact ⟨hM.mono (fun k hk => T_old hk.1 hk.2), hR.mono (fun k hk => T_old hk.1 hk.2), keepL (U := fun n => n = 2 ∨ n = 1) h.pl hk (by omega), keepL (U := fun n => n = 2 ∨ n = 1) h.ps hk (by omega), below_kp h.below hK (fun k hk => hk.elim (fun h2 => h.ge (t := 2) (by omega) k h2.1) (fun h2 => h.ge (t := 1) (by omega) k h2.1)) (Nat.le_refl _), h.at0 7⟩
theorem PT.apps {b' : Seen} {v' : Value} (h : PT w f gm gr d b pos sm sg A1 c1 L v wr) (hR : seenK.R 44 w1 w.heap.size (fun k => T f 5 k ∨ wr.heap.size ≤ k) v' b') (hg : wr.grownBy w1 v.ownBlock) (hB : Below w.heap.size w w1) : PT w (upd f wr.heap.size 5) gm gr d b pos sm b' A1 c1 L v' w1 := by
  have hk : Kept wr w1 (fun k => (fun n => n = 5) (f k)) := Kept.of_grown hg (Kept.refl wr _) (fun k hk => .inl (h.ps.1 k hk))
  exact ⟨keepM (U := fun n => n = 5) h.pm hk (by omega), keepR (U := fun n => n = 5) h.pr hk (by omega), keepL (U := fun n => n = 5) h.pl hk (by omega), mine_R hR, hB, h.at0 5⟩
end
end Go.Proofs.Ytghhfendjkocmaa.Model
