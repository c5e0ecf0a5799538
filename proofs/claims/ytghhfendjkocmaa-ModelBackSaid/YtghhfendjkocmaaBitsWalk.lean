/- What the calls of package bits do: the Writer's, the Reader's. -/
import Derived.Test.YtghhfendjkocmaaProg
import Derived.Test.YtghhfendjkocmaaBitsPure
import Derived.Below
import Derived.Deep.Draws
import Derived.Deep.AppendLies
import Derived.Maps.AppendAt
import Derived.OwnWalk
import Derived.Laws.BytesArg
import Derived.Laws.MakeOwn
import Derived.Laws.OwnMore
import Derived.Deep.OwnRows
import Derived.Tactics
import Derived.Lib.ConvBytes
import Derived.Laws.Slices
import Derived.WalkKit
import Derived.KernelRfl
import Derived.RowKit3
import Derived.Deep.LoopGhost
import Derived.Deep.QuietTactic
import Derived.BigQuiet
import Derived.WideLaws
import Derived.Deep.DeepCutAuto
import Derived.Deep.CutBlock
import Derived.Deep.RegionHeld3
import Derived.Laws.Rows
import Derived.Lib.AppendStr
import Derived.ArgAppend
import Derived.Laws.IdiomCopy
import Derived.OrdersHeld
import Derived.Laws.BitsLemmas
import Derived.RowKit
import Derived.Deep.RegionLaw
import Derived.Test.YtghhfendjkocmaaWMore
import Derived.Test.YtghhfendjkocmaaWKept
namespace Go.Proofs.Ytghhfendjkocmaa.Bits
open Go.RowKit Go.Proofs.YtghhfendjkocmaaW.PrintWords Go.Proofs.YtghhfendjkocmaaW.PrintMore Go.Proofs.Ytghhfendjkocmaa.BP
set_option linter.unusedVariables false
set_option linter.unusedSimpArgs false

theorem infoU8 : (Try.prog.info? 5).map (fun i => (i.zero, i.size, i.bytes)) = some (some (.int .u8 0), 1, 1) := by kernel_rfl

/-- Outside of S the elder blocks are as they were, and so are the streams. -/
def Kp (w w' : World) (S : Nat → Prop) : Prop := Kept w w' S ∧ Below 0 w w'
theorem Kp.refl (w : World) (S : Nat → Prop) : Kp w w S := ⟨Kept.refl w S, Below.refl _ _⟩
theorem Kp.size {w w' : World} {S : Nat → Prop} (h : Kp w w' S) : w.heap.size ≤ w'.heap.size := h.1.1
theorem Kp.mono {w w' : World} {S S' : Nat → Prop} (h : Kp w w' S) (hs : ∀ k, S k → S' k) : Kp w w' S' := ⟨h.1.mono hs, h.2⟩
theorem Kp.then_ {w w1 w2 : World} {S S2 : Nat → Prop} (h : Kp w w1 S) (k : Kp w1 w2 S2) (hs : ∀ k, S2 k → S k ∨ w.heap.size ≤ k) : Kp w w2 S := ⟨h.1.then_ k.1 hs, h.2.trans k.2⟩
theorem Kp.setCell {w w1 : World} {S : Nat → Prop} (h : Kp w w1 S) {p : Addr} (hp : S p.block ∨ w.heap.size ≤ p.block) (u : Value) : Kp w (w1.setCell p u) S := ⟨h.1.setCell hp u, h.2.setCell (Nat.zero_le _) u⟩
theorem Kp.drewN {w w1 : World} {S : Nat → Prop} (h : Kp w w1 S) (m : Nat) : Kp w (w1.drewN m) S := ⟨h.1.drewN m, pw_below_drewN h.2 m⟩
theorem Kp.drew {w w1 : World} {S : Nat → Prop} (h : Kp w w1 S) : Kp w w1.drew S := ⟨h.1.drew, below_drew1 h.2⟩
theorem Kp.drawn {w w1 w2 : World} {S : Nat → Prop} (h : Kp w w1 S) (hd : Drawn0 w1 w2) : Kp w w2 S := by
  obtain ⟨m, rfl⟩ := hd.out; exact h.drewN m
theorem Kp.alloc {w w1 : World} {S : Nat → Prop} (h : Kp w w1 S) (o : Obj) : Kp w (w1.alloc o) S := ⟨h.1.alloc o, h.2.alloc (Nat.zero_le _) o⟩
theorem Kp.of_below {w w1 : World} (h : Below w.heap.size w w1) (S : Nat → Prop) : Kp w w1 S := ⟨Kept.of_below h S, h.mono (Nat.zero_le _)⟩
theorem Kp.below {w w1 w2 : World} {S : Nat → Prop} (h : Kp w w1 S) (hb : Below w1.heap.size w1 w2) : Kp w w2 S := h.then_ (Kp.of_below hb (fun _ => False)) (fun _ hk => hk.elim)
theorem below_kp {B : Nat} {w0 w1 w2 : World} {S : Nat → Prop} (h : Below B w0 w1) (hk : Kp w1 w2 S) (hs : ∀ k, S k → B ≤ k) (hB : B ≤ w0.heap.size) : Below B w0 w2 :=
  ⟨hk.2.os.trans h.os, hk.2.tape.trans h.tape, hk.2.output.trans h.output, Nat.le_trans h.size hk.2.size, fun k hlt => (hk.1.2 k (Nat.lt_of_lt_of_le hlt (Nat.le_trans hB h.size)) (fun hS => absurd (hs k hS) (by omega))).trans (h.block k hlt)⟩

/-- A writer at block g that holds these bits; what it is made of lies within S. -/
def IsW (w : World) (g : Nat) (S : Nat → Prop) (bs : List Int) : Prop :=
  B01 bs ∧ ∃ v, w.heap[g]? = some (.cells #[v, .int .u8 (byteAt bs (bs.length / 8)), .int .i64 ((bs.length % 8 : Nat) : Int)] 66 (0, 0)) ∧ S g ∧ Kd.R (Kd.int .u8) 5 w 0 (fun k => S k ∧ k ≠ g) v (fullB bs)

theorem IsW.mono {w : World} {g : Nat} {S S' : Nat → Prop} {bs : List Int} (h : IsW w g S bs) (hs : ∀ k, S k → S' k) : IsW w g S' bs := by
  obtain ⟨h1, v, hb, hS, hR⟩ := h
  exact ⟨h1, v, hb, hs _ hS, Kd.R_mono hR (fun k hk => ⟨hs k hk.1, hk.2⟩)⟩
theorem IsW.kept {w w1 : World} {g : Nat} {S R : Nat → Prop} {bs : List Int} (h : IsW w g S bs) (hk : Kept w w1 R) (hd : ∀ k, S k → ¬ R k) : IsW w1 g S bs := by
  obtain ⟨h1, v, hb, hS, hR⟩ := h
  exact ⟨h1, v, blk_kept hb hk (hd g hS), hS, Kd.R_kept hR hk (fun k h => hd k h.1)⟩
theorem IsW.below {w w1 : World} {g : Nat} {S : Nat → Prop} {bs : List Int} (h : IsW w g S bs) (hk : Below w.heap.size w w1) : IsW w1 g S bs := h.kept (Kept.of_below hk (fun _ => False)) (fun _ _ h => h)
/-- Only what lies in the heap counts. -/
theorem IsW.bound {w : World} {g : Nat} {S : Nat → Prop} {bs : List Int} (h : IsW w g S bs) : IsW w g (fun k => S k ∧ k < w.heap.size) bs := by
  obtain ⟨h1, v, hb, hS, hR⟩ := h
  exact ⟨h1, v, hb, ⟨hS, blk_lt hb⟩, Kd.R_mono (Kd.R_bound hR) (fun k hk => ⟨⟨hk.1.1, hk.2.2.1⟩, hk.1.2⟩)⟩

theorem mod8 (n : Nat) : n = 8 * (n / 8) + n % 8 := by omega

set_option maxHeartbeats 400000 in
theorem bit_part (g : Nat) (v : Value) (part n x : Int) (w : World) (hb : w.heap[g]? = some (.cells #[v, .int .u8 part, .int .i64 n] 66 (0, 0)))
    (hn0 : 0 ≤ n) (hn : n < 7) (hp0 : 0 ≤ part) (hp : part < 256) (hx0 : 0 ≤ x) (hx : x < 2) :
    Calls Try.prog 50 #[.pointer (some ⟨g, 0, none⟩), .int .u8 x] w fun e w' => e = .returned (.tuple #[]) ∧
      w' = ((w.setCell ⟨g, 1, none⟩ (.int .u8 (bits .or .u8 part (x * 2 ^ (7 - n).toNat % 256)))).setCell ⟨g, 2, none⟩ (.int .i64 (n + 1))).drew := by
  have hc1 : w.cell? ⟨g, 1, none⟩ = some (.int .u8 part) := (blk_cell hb 1).trans rfl
  have hc2 : w.cell? ⟨g, 2, none⟩ = some (.int .i64 n) := (blk_cell hb 2).trans rfl
  have hf1 := blk_frozen hb 1
  have hf2 := blk_frozen hb 2
  have h8 : ((n + 1 : Int) == 8) = false := by simp; omega
  clear hb
  go_enter Try.func50, Try.ntmps50
  go_wp2
  go_region
  go_wp2
  go_end0
  exact ⟨rfl, rfl⟩

/-- What stands behind a bit that fills its byte. -/
def FullPost (w : World) (g : Nat) (ok : Nat → Prop) (ys : List Int) (w' : World) : Prop :=
  ∃ A1 c1, w'.heap[g]? = some (.cells #[.slice A1 ys.length c1, .int .u8 0, .int .i64 0] 66 (0, 0)) ∧ Kd.R (Kd.int .u8) 5 w' 0 (fun k => (ok k ∨ w.heap.size ≤ k) ∧ k ≠ g) (.slice A1 ys.length c1) ys ∧ Kp w w' (fun k => ok k ∨ k = g)

set_option maxHeartbeats 400000 in
theorem bit_full (g : Nat) (v : Value) (xs : List Int) (part x : Int) (ok : Nat → Prop) (w : World) (hb : w.heap[g]? = some (.cells #[v, .int .u8 part, .int .i64 7] 66 (0, 0)))
    (hR : Kd.R (Kd.int .u8) 5 w 0 (fun k => ok k ∧ k ≠ g) v xs) (hl : xs.length < 1099511627776)
    (hp0 : 0 ≤ part) (hp : part < 256) (hx0 : 0 ≤ x) (hx : x < 2) :
    Calls Try.prog 50 #[.pointer (some ⟨g, 0, none⟩), .int .u8 x] w fun e w' => e = .returned (.tuple #[]) ∧ FullPost w g ok (xs ++ [bits .or .u8 part x]) w' := by
  obtain ⟨A, c, rfl⟩ := Kd.R_slice hR
  have hc0 : w.cell? ⟨g, 0, none⟩ = some (.slice A xs.length c) := (blk_cell hb 0).trans rfl
  have hc1 : w.cell? ⟨g, 1, none⟩ = some (.int .u8 part) := (blk_cell hb 1).trans rfl
  have hc2 : w.cell? ⟨g, 2, none⟩ = some (.int .i64 7) := (blk_cell hb 2).trans rfl
  have hf0 := blk_frozen hb 0
  have hf1 := blk_frozen hb 1
  have hf2 := blk_frozen hb 2
  have hg0 := blk_lt hb
  have HB := Aside0.mk hb
  have HR := Aside0.mk hR
  clear hb hR
  go_enter Try.func50, Try.ntmps50
  go_wp2
  go_region
  go_wp2_with fail
  clear hc0 hc1 hc2 hf0 hf1 hf2
  have hb2 := blk_set (blk_set HB.out 1 (.int .u8 (bits BinOp.or IntKind.u8 part x))) 2 (.int .i64 8)
  have hR2 := Kd.R_far (Kd.R_far HR.out (p := ⟨g, 1, none⟩) (fun _ hk => hk.2) (.int .u8 (bits BinOp.or IntKind.u8 part x))) (p := ⟨g, 2, none⟩) (fun _ hk => hk.2) (.int .i64 8)
  have hK2 := ((Kp.refl w (fun k => ok k ∨ k = g)).setCell (p := ⟨g, 1, none⟩) (.inl (.inr rfl)) (.int .u8 (bits BinOp.or IntKind.u8 part x))).setCell (p := ⟨g, 2, none⟩) (.inl (.inr rfl)) (.int .i64 8)
  simp at hb2
  generalize ((w.setCell ⟨g, 1, none⟩ (.int .u8 (bits BinOp.or IntKind.u8 part x))).setCell ⟨g, 2, none⟩ (.int .i64 8)) = w2 at hb2 hR2 hK2 ⊢
  have hc0 : w2.cell? ⟨g, 0, none⟩ = some (.slice A xs.length c) := (blk_cell hb2 0).trans rfl
  have hc1 : w2.cell? ⟨g, 1, none⟩ = some (.int .u8 (bits BinOp.or IntKind.u8 part x)) := (blk_cell hb2 1).trans rfl
  clear HB HR
  have HB := Aside0.mk hb2
  have HR := Aside0.mk hR2
  have HK := Aside0.mk hK2
  have hz := hK2.size
  have hgl : g < w2.heap.size := Nat.lt_of_lt_of_le hg0 hz
  have hE := Aside0.mk (Kd.R_mono (ok' := fun k => (ok k ∨ w.heap.size ≤ k) ∧ k ≠ g) hR2 (fun k hk => ⟨.inl hk.1, hk.2⟩))
  have hN := Aside0.mk (Kd.R_ne hR2 hb2 (by decide))
  have hF : ∀ k, w2.drew.drew.heap.size ≤ k → (ok k ∨ w.heap.size ≤ k) ∧ k ≠ g := fun k (hk : w2.heap.size ≤ k) => ⟨.inr (Nat.le_trans hz hk), fun e => by omega⟩
  have hB0 : Below 0 w2 w2.drew.drew := by repeat (first | exact Below.refl _ _ | apply below_drew1)
  clear hb2 hR2 hK2
  go_region_law? ((refine Kd.R_append_step (Kd.int .u8) (w0 := w2) (W := w2.drew.drew) 0 (by simp [Region.wanted]) (.tmp 34) (.tmp 39) 48 5 (.int .u8 0) 1 rfl Try.underlying48 infoU8 rfl (by decide) (by decide) (.slice A xs.length c) xs (bits .or .u8 part x) [.int .u8 (bits .or .u8 part x)] (fun k => (ok k ∨ w.heap.size ≤ k) ∧ k ≠ g) (fun _ => False) (by simp [Act.eval, Act.put]) (by simp [Act.eval, Act.put]) rfl (fun _ hk => hk.elim) hF hE.out hB0 (Nat.zero_le _) (by omega) ?_); intro v1 w1 ho hb hg hat; obtain ⟨A1, c1, rfl⟩ := Kd.R_slice ho; have hq := Aside0.mk (blk_grown (w := w2.drew.drew) HB.out hg hN.out); have ho := Aside0.mk ho; have hg := Aside0.mk (show Kp w w1 (fun k => ok k ∨ k = g) from ⟨Kept.of_grown (S := fun k => ok k ∨ k = g) hg HK.out.1 (fun k hk => (hE.out.1 k hk).1.elim (fun h => .inl (.inl h)) .inr), HK.out.2.trans hb⟩); clear hb hat; have hc3 : w1.cell? ⟨g, 0, none⟩ = some (.slice A xs.length c) := (blk_cell hq.out 0).trans rfl; have hf3 := blk_frozen hq.out 0)
  all_goals
    have hc4 : w1.cell? ⟨g, 1, none⟩ = some (.int .u8 (bits BinOp.or IntKind.u8 part x)) := (blk_cell hq.out 1).trans rfl
    have hc5 : w1.cell? ⟨g, 2, none⟩ = some (.int .i64 8) := (blk_cell hq.out 2).trans rfl
    have hf4 := blk_frozen hq.out 1
    have hf5 := blk_frozen hq.out 2
    go_wp2
    go_end0
    refine ⟨rfl, A1, c1, ?_, ?_, ?_⟩
    · have h := blk_set (blk_set (blk_set hq.out 0 (.slice A1 (xs ++ [bits BinOp.or IntKind.u8 part x]).length c1)) 1 (.int .u8 0)) 2 (.int .i64 0)
      simpa using h
    · have h := Kd.R_far (Kd.R_far (Kd.R_far ho.out (p := ⟨g, 0, none⟩) (fun _ hk => hk.2) (.slice A1 (xs ++ [bits BinOp.or IntKind.u8 part x]).length c1)) (p := ⟨g, 1, none⟩) (fun _ hk => hk.2) (.int .u8 0)) (p := ⟨g, 2, none⟩) (fun _ hk => hk.2) (.int .i64 0)
      simpa using h
    · exact ((hg.out.setCell (p := ⟨g, 0, none⟩) (.inl (.inr rfl)) _).setCell (p := ⟨g, 1, none⟩) (.inl (.inr rfl)) (.int .u8 0)).setCell (p := ⟨g, 2, none⟩) (.inl (.inr rfl)) (.int .i64 0)

theorem bit_calls (g : Nat) (S : Nat → Prop) (bs : List Int) (x : Int) (w : World) (h : IsW w g S bs) (hx : x = 0 ∨ x = 1) (hl : bs.length < 1099511627776) :
    Calls Try.prog 50 #[.pointer (some ⟨g, 0, none⟩), .int .u8 x] w fun e w' => e = .returned (.tuple #[]) ∧ IsW w' g (fun k => S k ∨ w.heap.size ≤ k) (bs ++ [x]) ∧ Kp w w' S := by
  obtain ⟨h1, v, hb, hS, hR⟩ := h
  have hm := mod8 bs.length
  have hlt : bs.length % 8 < 8 := Nat.mod_lt _ (by decide)
  have hbd := byteAt_bd h1 (bs.length / 8)
  have hor := or_part h1 hx hm hlt
  have h1' := h1.snoc hx
  have hxs : 0 ≤ x ∧ x < 2 := by rcases hx with e | e <;> subst e <;> decide
  have hfl := fullB_len bs
  by_cases h7 : bs.length % 8 = 7
  · have e7 : ((bs.length % 8 : Nat) : Int) = 7 := by omega
    rw [e7] at hb
    refine (bit_full g v (fullB bs) _ x S w hb hR (by omega) hbd.1 hbd.2 hxs.1 hxs.2).mono ?_
    rintro e w' ⟨rfl, A1, c1, q1, q2, q3⟩
    have eor : bits .or .u8 (byteAt bs (bs.length / 8)) x = byteAt (bs ++ [x]) (bs.length / 8) := by
      rw [← hor, h7]; congr 1; omega
    rw [eor, ← fullB_snoc_eq x h7] at q1 q2
    refine ⟨rfl, ⟨h1', _, ?_, .inl hS, q2⟩, q3.mono (fun k hk => hk.elim id (fun e => e ▸ hS))⟩
    rw [q1, byteAt_past (by simp; omega), show (bs ++ [x]).length % 8 = 0 from by simp; omega]
    rfl
  · have hn : ((bs.length % 8 : Nat) : Int) < 7 := by omega
    refine (bit_part g v _ _ x w hb (by omega) hn hbd.1 hbd.2 hxs.1 hxs.2).mono ?_
    rintro e w' ⟨rfl, rfl⟩
    have e1 : (7 - ((bs.length % 8 : Nat) : Int)).toNat = 7 - bs.length % 8 := by omega
    rw [e1, hor]
    refine ⟨rfl, ⟨h1', v, ?_, .inl hS, ?_⟩, ?_⟩
    · have h := blk_set (blk_set hb 1 (.int .u8 (byteAt (bs ++ [x]) (bs.length / 8)))) 2 (.int .i64 (((bs.length % 8 : Nat) : Int) + 1))
      rw [show (bs ++ [x]).length / 8 = bs.length / 8 from by simp; omega, show (((bs ++ [x]).length % 8 : Nat) : Int) = ((bs.length % 8 : Nat) : Int) + 1 from by simp; omega]
      change ((w.setCell _ _).setCell _ _).heap[g]? = _
      simpa using h
    · rw [fullB_snoc_lt x h7]
      have h := Kd.R_far (Kd.R_far hR (p := ⟨g, 1, none⟩) (fun _ hk => hk.2) (.int .u8 (byteAt (bs ++ [x]) (bs.length / 8)))) (p := ⟨g, 2, none⟩) (fun _ hk => hk.2) (.int .i64 (((bs.length % 8 : Nat) : Int) + 1))
      exact Kd.R_mono h (fun k hk => ⟨.inl hk.1, hk.2⟩)
    · exact (((Kp.refl w S).setCell (p := ⟨g, 1, none⟩) (.inl hS) _).setCell (p := ⟨g, 2, none⟩) (.inl hS) _).drew
end Go.Proofs.Ytghhfendjkocmaa.Bits
