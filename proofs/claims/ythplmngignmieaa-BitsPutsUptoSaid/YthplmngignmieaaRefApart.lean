/- The reference's Apart, walked: rows of bytes that lie in different blocks are found apart. -/
import Derived.Test.YthplmngignmieaaApartWords
namespace Go.Proofs.Ythplmngignmieaa.Bits
open Go.RowKit Go.Proofs.YthplmngignmieaaW.PrintWords Go.Proofs.YthplmngignmieaaW.PrintMore Go.Proofs.Ythplmngignmieaa.BP
set_option linter.unusedVariables false
set_option linter.unusedSimpArgs false

theorem infoS : (Try.prog.info? 34).map (fun i => (i.zero, i.size, i.bytes)) = some (some (.slice none 0 0), 1, 24) := by kernel_rfl
def rowV (rows : List SV) (i : Nat) : Value := encS (rows.getD i sv0)
/-- The rows: row i holds vs i, in blocks of its own. -/
structure Rows (w : World) (rows : List SV) (own : Nat → Nat → Prop) (vs : Nat → List Int) : Prop where
  row : ∀ i, i < rows.length → Kd.R (Kd.int .u8) 5 w 0 (own i) (rowV rows i) (vs i)
theorem Rows.len {w : World} {rows : List SV} {own : Nat → Nat → Prop} {vs : Nat → List Int} (h : Rows w rows own vs) {i : Nat} (hi : i < rows.length) : (rows.getD i sv0).2.1 = (vs i).length := by
  have h2 := h.row i hi
  obtain ⟨A, c, e⟩ := Kd.R_slice h2
  unfold rowV encS at e
  injection e
theorem Rows.set {w w1 : World} {rows : List SV} {own : Nat → Nat → Prop} {vs : Nat → List Int} (h : Rows w rows own vs) {i : Nat} {xs : List Int} (hi : Kd.R (Kd.int .u8) 5 w1 0 (own i) (rowV rows i) xs) (hk : Kept w w1 (own i))
    (hd : ∀ i j b, i < rows.length → j < rows.length → own i b → own j b → i = j) (hil : i < rows.length) : Rows w1 rows own (fun j => if j = i then xs else vs j) := ⟨fun j hj => by
  by_cases e : j = i
  · subst e; simp only [if_true]; exact hi
  · simp only [e, if_false]
    exact Kd.R_kept (h.row j hj) hk (fun b hb h2 => e (hd j i b hj hil hb h2))⟩
def OwnOf (n : Nat) (own : Nat → Nat → Prop) (b : Nat) : Prop := ∃ i, i < n ∧ own i b

/-- The first part: each row is marked. -/
def Marked (w : World) (rows : List SV) (own : Nat → Nat → Prop) (len : Nat → Nat) (i : Nat) (wr : World) : Prop :=
  (∃ vs, (∀ j, (vs j).length = len j) ∧ (∀ j, j < i → vs j = List.replicate (len j) (1 + (j : Int))) ∧ Rows wr rows own vs) ∧ Kp w wr (OwnOf rows.length own)
def MarkedIn (w : World) (rows : List SV) (own : Nat → Nat → Prop) (len : Nat → Nat) (i k : Nat) (wr : World) : Prop :=
  (∃ vs, (∀ j, (vs j).length = len j) ∧ (∀ j, j < i → vs j = List.replicate (len j) (1 + (j : Int))) ∧ (∀ j, j < k → (vs i).getD j 0 = 1 + (i : Int)) ∧ Rows wr rows own vs) ∧ Kp w wr (OwnOf rows.length own)
theorem marked_out {w : World} {rows : List SV} {own : Nat → Nat → Prop} {len : Nat → Nat} {i : Nat} {wr : World} (h : MarkedIn w rows own len i (len i) wr) : Marked w rows own len (i + 1) wr := by
  obtain ⟨⟨vs, h1, h2, h3, h4⟩, h5⟩ := h
  refine ⟨⟨vs, h1, fun j hj => ?_, h4⟩, h5⟩
  rcases Nat.lt_or_ge j i with h | h
  · exact h2 j h
  · obtain rfl : j = i := by omega
    refine eq_of_getD (by rw [h1, List.length_replicate]) (fun q hq => ?_)
    rw [h1] at hq
    rw [h3 q hq, List.getD_eq_getElem?_getD, List.getElem?_replicate, if_pos hq]; rfl
theorem marked_step {w : World} {rows : List SV} {own : Nat → Nat → Prop} {len : Nat → Nat} {i k : Nat} {wr : World} {g c : Nat} (h : MarkedIn w rows own len i k wr) (hv : rows.getD i sv0 = (some ⟨g, 0, none⟩, len i, c)) (hk : k < len i) (hil : i < rows.length)
    (hd : ∀ i j b, i < rows.length → j < rows.length → own i b → own j b → i = j) : MarkedIn w rows own len i (k + 1) (wr.setCell ⟨g, k, none⟩ (.int .u8 (1 + (i : Int)))) := by
  obtain ⟨⟨vs, h1, h2, h3, h4⟩, h5⟩ := h
  have hR := h4.row i hil
  have hrv : rowV rows i = .slice (some ⟨g, 0, none⟩) (len i) c := by unfold rowV encS; rw [hv]
  rw [hrv] at hR
  have hP := (Kd.R_putg hR (k : Int) (1 + (i : Int))).1
  rw [Int.toNat_natCast] at hP
  have hog : own i g := hR.1 g (by simp [Value.ownBlock])
  have hkk : Kept wr (wr.setCell ⟨g, k, none⟩ (.int .u8 (1 + (i : Int)))) (own i) := (Kept.refl wr (own i)).setCell (.inl hog) _
  refine ⟨⟨fun j => if j = i then (vs i).set k (1 + (i : Int)) else vs j, fun j => ?_, fun j hj => ?_, fun j hj => ?_, h4.set (by rw [hrv]; exact hP) hkk hd hil⟩, h5.setCell (.inl ⟨i, hil, hog⟩) _⟩
  · simp only
    split
    · rename_i e; subst e; rw [List.length_set]; exact h1 _
    · exact h1 j
  · simp only
    rw [if_neg (by omega)]; exact h2 j hj
  · simp only [if_true]
    rw [List.getD_eq_getElem?_getD, List.getElem?_set]
    by_cases e : k = j
    · subst e; rw [if_pos rfl, if_pos (by rw [h1]; omega)]; rfl
    · rw [if_neg e, ← List.getD_eq_getElem?_getD]; exact h3 j (by omega)


/-- The second part: each row grown, the grown ones gathered. -/
def Longer (w : World) (rows : List SV) (own : Nat → Nat → Prop) (len : Nat → Nat) (i : Nat) (v5 : Value) (wr : World) : Prop :=
  ∃ (xs : List SV) (fx : Nat → Nat → Prop) (Lg : Nat → Prop), xs.length = i ∧
    (∀ j, j < i → Kd.F (Kd.int .u8) wr (fx j) (rows.getD j sv0).1 (len j) (List.replicate (len j) (1 + (j : Int)))) ∧
    (∀ j, j < i → Kd.F (Kd.int .u8) wr (fx j) (xs.getD j sv0).1 (len j + 24) (List.replicate (len j) (1 + (j : Int)) ++ List.replicate 24 (101 + (j : Int))) ∧ (xs.getD j sv0).2.1 = len j + 24) ∧
    (∀ j b, j < i → fx j b → (own j b ∨ w.heap.size ≤ b) ∧ ¬ Lg b ∧ b < wr.heap.size) ∧
    (∀ b, Lg b → w.heap.size ≤ b ∧ b < wr.heap.size) ∧ svK.R 34 wr w.heap.size Lg v5 xs ∧
    (∀ j, i ≤ j → j < rows.length → Kd.R (Kd.int .u8) 5 wr 0 (own j) (rowV rows j) (List.replicate (len j) (1 + (j : Int)))) ∧ Kp w wr (OwnOf rows.length own)
/-- A row on its way. -/
def Growing (rows : List SV) (own : Nat → Nat → Prop) (len : Nat → Nat) (i m : Nat) (v7 : Value) (wr wx : World) : Prop :=
  Kd.R (Kd.int .u8) 5 wx 0 (fun b => own i b ∨ wr.heap.size ≤ b) v7 (List.replicate (len i) (1 + (i : Int)) ++ List.replicate m (101 + (i : Int))) ∧
    (v7.ownBlock = (rowV rows i).ownBlock ∨ (Kd.F (Kd.int .u8) wx (own i) (rows.getD i sv0).1 (len i) (List.replicate (len i) (1 + (i : Int))) ∧ ∀ b, v7.ownBlock = some b → wr.heap.size ≤ b)) ∧ Kp wr wx (own i)
theorem growing_start {w : World} {rows : List SV} {own : Nat → Nat → Prop} {len : Nat → Nat} {i : Nat} {v5 : Value} {wr : World} (h : Longer w rows own len i v5 wr) (hi : i < rows.length) : Growing rows own len i 0 (rowV rows i) wr wr := by
  obtain ⟨xs, fx, Lg, h1, h2, h3, h4, h5, h6, h7, h8⟩ := h
  refine ⟨?_, .inl rfl, Kp.refl _ _⟩
  rw [List.replicate_zero, List.append_nil]
  exact Kd.R_mono (h7 i (Nat.le_refl _) hi) (fun b hb => .inl hb)
/-- Where a row lies that is no nil one. -/
theorem row_addr {w : World} {e base : Nat} {ok : Nat → Prop} {s : SV} {xs : List Int} (h : Kd.R (Kd.int .u8) e w base ok (encS s) xs) : (∀ ad, s.1 = some ad → ad.off = 0 ∧ ad.spot = none) ∧ (s.1 = none → xs = []) := by
  obtain ⟨A, n, c⟩ := s
  refine ⟨fun ad e => ?_, fun e => ?_⟩
  · simp only at e
    subst e
    obtain ⟨g, rfl⟩ := Kd.R_head h
    exact ⟨rfl, rfl⟩
  · simp only at e
    subst e
    rcases Nat.eq_zero_or_pos xs.length with h0 | h0
    · exact List.eq_nil_of_length_eq_zero h0
    · obtain ⟨g, cap, e, _⟩ := Kd.R_form h h0
      unfold encS at e
      injection e with e1
      exact absurd e1 (by simp)
theorem growing_step {w : World} {rows : List SV} {own : Nat → Nat → Prop} {len : Nat → Nat} {i m : Nat} {v5 v7 v1 : Value} {wr wx w1 : World} (hl : Longer w rows own len i v5 wr) (h : Growing rows own len i m v7 wr wx) (hi : i < rows.length)
    (ho : Kd.R (Kd.int .u8) 5 w1 0 (fun b => own i b ∨ wr.heap.size ≤ b) v1 (List.replicate (len i) (1 + (i : Int)) ++ List.replicate m (101 + (i : Int)) ++ [101 + (i : Int)])) (hB : Below 0 wx w1) (hg : wx.grownBy w1 v7.ownBlock)
    (hat : v1.ownBlock = v7.ownBlock ∨ ((∃ b, v1.ownBlock = some b ∧ wx.heap.size ≤ b) ∧ Below wx.heap.size wx w1)) (hlt : ∀ i b, own i b → b < w.heap.size) : Growing rows own len i (m + 1) v1 wr w1 := by
  obtain ⟨h1, h2, h3⟩ := h
  have hz : wr.heap.size ≤ wx.heap.size := h3.size
  have hwr : w.heap.size ≤ wr.heap.size := by obtain ⟨_, _, _, _, _, _, _, _, _, _, h8⟩ := hl; exact h8.size
  have hrow := (show Longer w rows own len i v5 wr from hl)
  obtain ⟨_, _, _, _, _, _, _, _, _, h7, _⟩ := hrow
  have hra := row_addr (h7 i (Nat.le_refl _) hi)
  refine ⟨by rw [List.replicate_succ', ← List.append_assoc]; exact ho, ?_, ⟨Kept.of_grown hg h3.1 (fun b hb => h1.1 b hb), h3.2.trans hB⟩⟩
  rcases hat with hat | ⟨⟨b, hb, hbl⟩, hbel⟩
  · rcases h2 with h2 | ⟨h2, h2'⟩
    · exact .inl (hat.trans h2)
    · refine .inr ⟨Kd.F_grown h2 hg (fun b hb he => ?_), fun b hb => h2' b (by rw [← hat]; exact hb)⟩
      have := h2' b he.symm
      have := hlt i b hb
      omega
  · right
    refine ⟨?_, fun b' hb' => by rw [hb] at hb'; injection hb' with hb'; omega⟩
    rcases h2 with h2 | ⟨h2, _⟩
    · have hf := F_of_take (A0 := (rows.getD i sv0).1) (n0 := (rows.getD i sv0).2.1) (c0 := (rows.getD i sv0).2.2) rfl h1 h2 hra.1 hra.2
      rw [List.length_replicate] at hf
      have hf2 := Kd.F_below hf hbel
      refine Kd.F_mono hf2 (fun b hb => ?_)
      rw [h2] at hb
      exact (h7 i (Nat.le_refl _) hi).1 b hb.symm
    · exact Kd.F_below h2 hbel
theorem longer_step {w : World} {rows : List SV} {own : Nat → Nat → Prop} {len : Nat → Nat} {i : Nat} {v5 : Value} {A : Option Addr} {c : Nat} {wr wx : World} (h : Longer w rows own len i v5 wr) (hg : Growing rows own len i 24 (.slice A (len i + 24) c) wr wx) (hi : i < rows.length)
    (hlt : ∀ i b, own i b → b < w.heap.size) (hd : ∀ i j b, i < rows.length → j < rows.length → own i b → own j b → i = j) :
    ∃ (xs : List SV) (ok : Nat → Prop), svK.R 34 wx w.heap.size ok v5 xs ∧ xs.length = i ∧ (∀ b, wx.heap.size ≤ b → ok b) ∧ (∀ v6 w1, svK.R 34 w1 w.heap.size ok v6 (xs ++ [(A, len i + 24, c)]) → Below w.heap.size wx w1 → wx.grownBy w1 v5.ownBlock → Longer w rows own len (i + 1) v6 w1) := by
  obtain ⟨xs, fx, Lg, h1, h2, h3, h4, h5, h6, h7, h8⟩ := h
  obtain ⟨g1, g2, g3⟩ := hg
  have hz : wr.heap.size ≤ wx.heap.size := g3.size
  have hwr : w.heap.size ≤ wr.heap.size := h8.size
  have hLo : ∀ b, Lg b → ¬ own i b := fun b hb ho => by have := (h5 b hb).1; have := hlt i b ho; omega
  have hR : svK.R 34 wx w.heap.size Lg v5 xs := Kd.R_kept h6 g3.1 hLo
  refine ⟨xs, fun b => Lg b ∨ wx.heap.size ≤ b, Kd.R_mono hR (fun b hb => .inl hb), h1, fun b hb => .inr hb, fun v6 w1 ho hB hgr => ?_⟩
  have hv5 : ∀ b, v5.ownBlock = some b → Lg b := fun b hb => h6.1 b hb
  have hz1 : wx.heap.size ≤ w1.heap.size := hgr.size
  have hra := row_addr (h7 i (Nat.le_refl _) hi)
  refine ⟨xs ++ [(A, len i + 24, c)], fun j => if j = i then (fun b => (own i b ∨ wr.heap.size ≤ b) ∧ b < wx.heap.size) else fx j, fun b => (Lg b ∨ wx.heap.size ≤ b) ∧ b < w1.heap.size, by simp [h1], fun j hj => ?_, fun j hj => ?_, fun j b hj hb => ?_, fun b hb => ⟨hb.1.elim (fun h => (h5 b h).1) (fun h => by omega), hb.2⟩, ?_, fun j hj hjn => ?_, ?_⟩
  · by_cases e : j = i
    · subst e
      simp only [if_true]
      have hf : Kd.F (Kd.int .u8) wx (fun b => own j b ∨ wr.heap.size ≤ b) (rows.getD j sv0).1 (len j) (List.replicate (len j) (1 + (j : Int))) := by
        rcases g2 with g2 | ⟨g2, _⟩
        · have hf := F_of_take (A0 := (rows.getD j sv0).1) (n0 := (rows.getD j sv0).2.1) (c0 := (rows.getD j sv0).2.2) rfl g1 g2 hra.1 hra.2
          rw [List.length_replicate] at hf
          exact Kd.F_mono hf (fun b hb => g1.1 b hb.symm)
        · exact Kd.F_mono g2 (fun b hb => .inl hb)
      refine Kd.F_grown (Kd.F_bound hf) hgr (fun b hb he => ?_)
      have hL := hv5 b he.symm
      rcases hb.1 with hb | hb
      · exact hLo b hL hb
      · have := (h5 b hL).2; omega
    · simp only [e, if_false]
      have hf := Kd.F_kept (h2 j (by omega)) g3.1 (fun b hb ho => by
        rcases (h4 j b (by omega) hb).1 with h | h
        · exact e (hd j i b (by omega) hi h ho)
        · have := hlt i b ho; omega)
      exact Kd.F_grown hf hgr (fun b hb he => (h4 j b (by omega) hb).2.1 (hv5 b he.symm))
  · by_cases e : j = i
    · subst e
      have hx : (xs ++ [(A, len j + 24, c)]).getD j sv0 = (A, len j + 24, c) := by rw [List.getD_eq_getElem?_getD, List.getElem?_append_right (by omega), h1]; simp
      rw [hx]
      simp only [if_true, and_true]
      have hf := Kd.F_bound (Kd.R_F g1)
      refine Kd.F_grown hf hgr (fun b hb he => ?_)
      have hL := hv5 b he.symm
      rcases hb.1 with hb | hb
      · exact hLo b hL hb
      · have := (h5 b hL).2; omega
    · have hx : (xs ++ [(A, len i + 24, c)]).getD j sv0 = xs.getD j sv0 := by rw [List.getD_eq_getElem?_getD, List.getElem?_append_left (by omega), List.getD_eq_getElem?_getD]
      rw [hx]
      simp only [e, if_false]
      refine ⟨?_, (h3 j (by omega)).2⟩
      have hf := Kd.F_kept (h3 j (by omega)).1 g3.1 (fun b hb ho => by
        rcases (h4 j b (by omega) hb).1 with h | h
        · exact e (hd j i b (by omega) hi h ho)
        · have := hlt i b ho; omega)
      exact Kd.F_grown hf hgr (fun b hb he => (h4 j b (by omega) hb).2.1 (hv5 b he.symm))
  · by_cases e : j = i
    · subst e
      simp only [if_true] at hb
      refine ⟨hb.1.elim .inl (fun h => .inr (by omega)), fun hL => ?_, by omega⟩
      rcases hL.1 with hL | hL
      · rcases hb.1 with hb | hb
        · exact hLo b hL hb
        · have := (h5 b hL).2; omega
      · omega
    · simp only [e, if_false] at hb
      have h := h4 j b (by omega) hb
      exact ⟨h.1, fun hL => hL.1.elim h.2.1 (fun h9 => by omega), by omega⟩
  · exact Kd.R_mono (Kd.R_bound ho) (fun b hb => ⟨hb.1, hb.2.2.1⟩)
  · have hR2 := Kd.R_kept (h7 j (by omega) hjn) g3.1 (fun b hb ho => by have := hd j i b hjn hi hb ho; omega)
    exact Kd.R_grown hR2 hgr (fun b hb he => by have := hlt j b hb; have := (h5 b (hv5 b he.symm)).1; omega)
  · exact ⟨Kept.of_grown hgr (h8.1.then_ g3.1 (fun b hb => .inl ⟨i, hi, hb⟩)) (fun b hb => .inr (h5 b (hv5 b hb)).1), (h8.2.trans g3.2).trans (hB.mono (Nat.zero_le _))⟩

set_option maxRecDepth 100000 in
set_option maxHeartbeats 2000000 in
theorem apart_calls (A : Option Addr) (c : Nat) (rows : List SV) (own : Nat → Nat → Prop) (vs0 : Nat → List Int) (w : World) (hC : svK.C w A rows.length rows) (hn : rows.length ≤ 100) (hR : Rows w rows own vs0)
    (hlt : ∀ i b, own i b → b < w.heap.size) (hd : ∀ i j b, i < rows.length → j < rows.length → own i b → own j b → i = j) (hA : ∀ ad, A = some ad → ∀ b, OwnOf rows.length own b → b ≠ ad.block) (hAlt : ∀ ad, A = some ad → 0 < rows.length → ad.block < w.heap.size) (hl : ∀ i, (vs0 i).length < 1099511627776) :
    Calls Try.prog 16 #[.slice A rows.length c] w fun e w' => e = .returned (.bool true) ∧ Kp w w' (OwnOf rows.length own) := by
  obtain ⟨len, hlen⟩ : ∃ len : Nat → Nat, ∀ i, len i = (vs0 i).length := ⟨_, fun _ => rfl⟩
  have HL : Aside0 (∀ i, i < rows.length → (rows.getD i sv0).2.1 = len i) := ⟨fun i hi => (hR.len hi).trans (hlen i).symm⟩
  have HLT : Aside0 (∀ i, len i < 1099511627776) := ⟨fun i => by rw [hlen]; exact hl i⟩
  have HM : Aside0 (Marked w rows own len 0 w) := ⟨⟨vs0, fun j => (hlen j).symm, fun j hj => absurd hj (by omega), hR⟩, Kp.refl _ _⟩
  have HC : Aside0 (∀ wr, Kp w wr (OwnOf rows.length own) → svK.C wr A rows.length rows) := ⟨fun wr h => by
    exact C_same encS sv0 hC (fun ad e hn => h.1.2 _ (hAlt ad e hn) (fun hS => hA ad e _ hS rfl))⟩
  have HD := Aside0.mk hd
  have HOL := Aside0.mk hlt
  clear hR hC hlt hd hA hAlt hl hlen
  go_enter Try.func16, Try.ntmps16
  go_wp2_with fail
  go_loopw [3] (fun v3 wr => ∃ i : Nat, i ≤ rows.length ∧ v3 = .int .i64 i ∧ Aside0 (Marked w rows own len i wr)) (fun v3 _ => (rows.length - intOf v3).toNat)
  case atStart => exact ⟨0, by omega, rfl, HM⟩
  case round =>
    obtain ⟨i, hi, rfl, HM1⟩ := hrel
    by_cases hlt : i < rows.length
    · have t1 : decide ((i : Int) < (rows.length : Int)) = true := decide_eq_true (by omega)
      have t2 : decide (i < rows.length) = true := decide_eq_true hlt
      have HIN : Aside0 (MarkedIn w rows own len i 0 wr) := by
        obtain ⟨⟨vs, a1, a2, a3⟩, a4⟩ := HM1.out
        exact ⟨⟨vs, a1, a2, fun j hj => absurd hj (by omega), a3⟩, a4⟩
      obtain ⟨row, hrow⟩ : ∃ row : SV, rows.getD i sv0 = row := ⟨_, rfl⟩
      obtain ⟨ai, ni, ci⟩ := row
      have hni : ni = len i := by have := HL.out i hlt; rw [hrow] at this; exact this
      have hci : ni < 1099511627776 := by have := HLT.out i; omega
      have HROW := Aside0.mk hrow
      have HNI := Aside0.mk hni
      clear hrow hni HM1
      go_wp2_with fail
      go_loopw [4] (fun v4 wr => ∃ k : Nat, k ≤ ni ∧ v4 = .int .i64 k ∧ Aside0 (MarkedIn w rows own len i k wr)) (fun v4 _ => (ni - intOf v4).toNat)
      case atStart => exact ⟨0, by omega, rfl, HIN⟩
      case round =>
        obtain ⟨k, hk, rfl, HM1⟩ := hrel
        obtain ⟨ad, rfl, hc⟩ := at_sv (HC.out _ HM1.out.2) (i : Int) (by omega) (by omega)
        simp only [Int.toNat_natCast, HROW.out] at hc
        by_cases hlk : k < ni
        · have t3 : decide ((k : Int) < (ni : Int)) = true := decide_eq_true (by omega)
          have t4 : decide (k < ni) = true := decide_eq_true hlk
          obtain ⟨g, hg⟩ : ∃ g, ai = some ⟨g, 0, none⟩ := by
            obtain ⟨⟨vs, a1, a2, a3, a4⟩, _⟩ := HM1.out
            have h := a4.row i hlt
            unfold rowV at h
            rw [HROW.out] at h
            obtain ⟨g, cap, e, _⟩ := Kd.R_form h (by rw [a1]; have := HNI.out; omega)
            unfold encS at e
            injection e with e1
            exact ⟨g, e1⟩
          subst hg
          have hx : wr.cell? ⟨g, k, none⟩ ≠ none ∧ wr.frozen? ⟨g, k, none⟩ = false := by
            obtain ⟨⟨vs, a1, a2, a3, a4⟩, _⟩ := HM1.out
            have h := a4.row i hlt
            unfold rowV encS at h
            rw [HROW.out] at h
            have h2 := Kd.R_celln 0 h (k : Int) (by omega) (show (k : Int) < (ni : Int) by omega)
            rw [Int.toNat_natCast] at h2
            exact ⟨by rw [h2.1]; simp, h2.2⟩
          obtain ⟨hx1, hf⟩ := hx
          obtain ⟨x, hx⟩ := Option.ne_none_iff_exists'.mp hx1
          clear hx1
          have hmod : (i : Int) % 100 = i := by omega
          have HST := Aside0.mk (marked_step HM1.out (by rw [HROW.out, HNI.out]) (by have := HNI.out; omega) hlt HD.out)
          clear HM1
          go_wp2_with fail
          go_roundw
          case rel => exact ⟨k + 1, by omega, by go_num, HST⟩
          case measure => simp [intOf]; omega
        · have t3 : decide ((k : Int) < (ni : Int)) = false := decide_eq_false (by omega)
          have t4 : decide (k < ni) = false := decide_eq_false hlk
          obtain rfl : k = ni := by omega
          have HST : Aside0 (Marked w rows own len (i + 1) wr) := ⟨marked_out (by rw [← HNI.out]; exact HM1.out)⟩
          clear HM1
          go_wp2_with fail
          go_roundw
          case rel => exact ⟨i + 1, by omega, by go_num, HST⟩
          case measure => simp [intOf]; omega
    · have t1 : decide ((i : Int) < (rows.length : Int)) = false := decide_eq_false (by omega)
      have t2 : decide (i < rows.length) = false := decide_eq_false hlt
      obtain rfl : i = rows.length := by omega
      have HLO : Aside0 (Longer w rows own len 0 (.slice none 0 0) wr) := by
        obtain ⟨⟨vs, a1, a2, a3⟩, a4⟩ := HM1.out
        exact ⟨[], fun _ _ => False, fun _ => False, rfl, fun j hj => absurd hj (by omega), fun j hj => absurd hj (by omega), fun j b hj => absurd hj (by omega), fun b hb => hb.elim, Kd.R_nil _ _ _ _ _, fun j _ hj => by rw [← a2 j hj]; exact a3.row j hj, a4⟩
      clear HM1 HM
      go_wp2_with fail
      go_loopw [5, 6] (fun v5 v6 wr => ∃ i : Nat, i ≤ rows.length ∧ v6 = .int .i64 i ∧ Aside0 (Longer w rows own len i v5 wr)) (fun _ v6 _ => (rows.length - intOf v6).toNat)
      case atStart => exact ⟨0, by omega, rfl, HLO⟩
      case round =>
        clear HLO t1 t2
        obtain ⟨i, hi, rfl, HLO⟩ := hrel
        obtain ⟨wo, hwo⟩ : ∃ wo : World, wo = wr := ⟨_, rfl⟩
        subst hwo
        have HKP : Aside0 (Kp w wo (OwnOf rows.length own)) := by
          obtain ⟨_, _, _, _, _, _, _, _, _, _, h8⟩ := HLO.out
          exact ⟨h8⟩
        by_cases hlt : i < rows.length
        · have t1 : decide ((i : Int) < (rows.length : Int)) = true := decide_eq_true (by omega)
          have t2 : decide (i < rows.length) = true := decide_eq_true hlt
          obtain ⟨ad, rfl, hc⟩ := at_sv (HC.out _ HKP.out) (i : Int) (by omega) (by omega)
          simp only [Int.toNat_natCast] at hc
          have HG : Aside0 (Growing rows own len i 0 (rowV rows i) wo wo) := ⟨growing_start HLO.out hlt⟩
          obtain ⟨row, hrow⟩ : ∃ row : SV, rows.getD i sv0 = row := ⟨_, rfl⟩
          unfold rowV encS at HG
          rw [hrow] at hc HG
          obtain ⟨ai, ni, ci⟩ := row
          simp only at hc HG
          have hmod : (i : Int) % 100 = i := by omega
          have HLE := Aside0.mk (HLT.out i)
          have HNI : Aside0 (ni = len i) := ⟨by have h := HL.out i hlt; rw [hrow] at h; exact h⟩
          clear hrow
          go_wp2_with fail
          go_loopw [7, 8] (fun v7 v8 wx => ∃ (m : Nat) (A7 : Option Addr) (c7 : Nat), m ≤ 24 ∧ v7 = .slice A7 (len i + m) c7 ∧ v8 = .int .i64 m ∧ Aside0 (Growing rows own len i m (.slice A7 (len i + m) c7) wo wx)) (fun _ v8 _ => (24 - intOf v8).toNat)
          case atStart => exact ⟨0, ai, ci, by omega, by rw [HNI.out]; rfl, rfl, by have h := HG; rw [HNI.out] at h; exact h⟩
          case round =>
            obtain ⟨wx, hwx⟩ : ∃ wx : World, wx = wr := ⟨_, rfl⟩
            subst hwx
            clear HG
            obtain ⟨m, A7, c7, hm, rfl, rfl, HG⟩ := hrel
            by_cases hlm : m < 24
            · have t3 : decide ((m : Int) < 24) = true := decide_eq_true (by omega)
              go_wp2_with ((with_reducible refine gate_builtin (b := .append) (xs := #[.tmp 51, .tmp 56]) rfl ?_); at_builtin; refine R_append_keep (Value.int .u8) (w0 := wx) (W := wx) 0 rfl (.tmp 51) (.tmp 56) 34 5 (.int .u8 0) 1 rfl Try.underlying34 infoU8 rfl (.slice A7 (len i + m) c7) (List.replicate (len i) (1 + (i : Int)) ++ List.replicate m (101 + (i : Int))) (101 + (i : Int)) (fun b => own i b ∨ wo.heap.size ≤ b) rfl rfl (fun b hb => .inr (Nat.le_trans HG.out.2.2.size hb)) HG.out.1 (Below.refl _ _) (Nat.zero_le _) (by simp; have := HLE.out; omega) (by simp [maxLen]; have := HLE.out; omega) ?_; intro v1 w1 ho hb hg hat; have HG2 := Aside0.mk (growing_step HLO.out HG.out hlt ho hb hg hat HOL.out); obtain ⟨A8, c8, rfl⟩ := Kd.R_slice ho; rw [show (List.replicate (len i) (1 + (i : Int)) ++ List.replicate m (101 + (i : Int)) ++ [101 + (i : Int)]).length = len i + (m + 1) by simp only [List.length_append, List.length_replicate, List.length_singleton]; omega] at HG2 ⊢; clear ho hb hg hat)
              go_roundw
              case rel => exact ⟨m + 1, A8, c8, by omega, rfl, by go_num, HG2⟩
              case measure => simp [intOf]; omega
            · have t3 : decide ((m : Int) < 24) = false := decide_eq_false (by omega)
              obtain rfl : m = 24 := by omega
              obtain ⟨xs, ok, hR, hxl, hfr, hend⟩ := longer_step HLO.out HG.out hlt HOL.out HD.out
              have HR := Aside0.mk hR
              have HEND := Aside0.mk hend
              have HFR := Aside0.mk hfr
              have HXL := Aside0.mk hxl
              have HSZ : Aside0 (w.heap.size ≤ wx.heap.size) := ⟨Nat.le_trans HKP.out.size HG.out.2.2.size⟩
              clear hR hend hfr hxl HG
              obtain ⟨A5, c5, rfl⟩ := Kd.R_slice HR.out
              go_wp2_with ((with_reducible refine gate_builtin (b := .append) (xs := #[.tmp 58, .tmp 60]) rfl ?_); at_builtin; refine R_append_keep encS (w0 := wx) (W := wx) w.heap.size rfl (.tmp 58) (.tmp 60) 39 34 (.slice none 0 0) 24 rfl Try.underlying39 infoS rfl (.slice A5 xs.length c5) xs (A7, len i + 24, c7) ok rfl rfl HFR.out HR.out (Below.refl _ _) HSZ.out (by rw [HXL.out]; omega) (by rw [HXL.out]; simp only [maxLen]; omega) ?_; intro v1 w1 ho hb hg hat; have HLO2 := Aside0.mk (HEND.out v1 w1 ho hb hg); clear ho hb hg hat)
              go_roundw
              case rel => exact ⟨i + 1, by omega, by go_num, HLO2⟩
              case measure => simp [intOf]; omega
        · have t1 : decide ((i : Int) < (rows.length : Int)) = false := decide_eq_false (by omega)
          have t2 : decide (i < rows.length) = false := decide_eq_false hlt
          obtain rfl : i = rows.length := by omega
          obtain ⟨xs, fx, Lg, h1, h2, h3, h4, h5, h6, h7, h8⟩ := HLO.out
          obtain ⟨A5, c5, rfl⟩ := Kd.R_slice h6
          have HX1 := Aside0.mk h1
          have HX2 := Aside0.mk h2
          have HX3 := Aside0.mk h3
          have HX5 : Aside0 (svK.C wo A5 rows.length xs) := ⟨by have h := (Kd.R_reads' h6).2.2; rwa [h1] at h⟩
          have HX0 := Aside0.mk (HC.out _ HKP.out)
          rw [h1]
          clear h1 h2 h3 h4 h5 h6 h7 h8 HLO
          go_wp2_with fail
          go_loop [9] (fun v9 => ∃ i : Nat, i ≤ rows.length ∧ v9 = .int .i64 i) (fun v9 => (rows.length - intOf v9).toNat)
          case atStart => exact ⟨0, by omega, rfl⟩
          case round =>
            clear t1 t2
            obtain ⟨i, hi, rfl⟩ := hrel
            by_cases hlt : i < rows.length
            · have t1 : decide ((i : Int) < (rows.length : Int)) = true := decide_eq_true (by omega)
              have t2 : decide (i < rows.length) = true := decide_eq_true hlt
              go_wp2_with fail
              go_loop [10] (fun v10 => ∃ k : Nat, k ≤ len i + 24 ∧ v10 = .int .i64 k) (fun v10 => ((len i + 24 : Nat) - intOf v10).toNat)
              case atStart => exact ⟨0, by omega, rfl⟩
              case round =>
                obtain ⟨k, hk, rfl⟩ := hrel
                obtain ⟨ad, rfl, hc⟩ := at_sv HX0.out (i : Int) (by omega) (by omega)
                obtain ⟨ad5, rfl, hc5⟩ := at_sv HX5.out (i : Int) (by omega) (by omega)
                simp only [Int.toNat_natCast] at hc hc5
                have hF2 := Kd.F_now (HX2.out i hlt)
                have hF3 := Kd.F_now (HX3.out i hlt).1
                have hn3 := (HX3.out i hlt).2
                have hn2 := HL.out i hlt
                generalize rows.getD i sv0 = row at hc hF2 hn2
                generalize xs.getD i sv0 = row5 at hc5 hF3 hn3
                obtain ⟨ai, ni, ci⟩ := row
                obtain ⟨a5, n5, c55⟩ := row5
                simp only at hc hc5 hF2 hF3 hn2 hn3
                subst hn2 hn3
                have HF2 := Aside0.mk hF2
                have HF3 := Aside0.mk hF3
                have HLE := Aside0.mk (HLT.out i)
                clear hF2 hF3
                by_cases hlk : k < len i + 24
                · have t3 : decide ((k : Int) < ((len i : Int) + 24)) = true := decide_eq_true (by omega)
                  have t4 : decide (k < len i + 24) = true := decide_eq_true hlk
                  have hmod : (i : Int) % 100 = i := by omega
                  have hkb : (k : Int) ≤ 1099511627800 := by have := HLE.out; omega
                  obtain ⟨b5, rfl, hx⟩ := Kd.at_int HF3.out (k : Int) (by omega) (by omega)
                  rw [Int.toNat_natCast] at hx
                  unfold rd at hx
                  rw [Int.toNat_natCast] at hx
                  by_cases hkl : k < len i
                  · have t5 : decide ((len i : Int) ≤ (k : Int)) = false := decide_eq_false (by omega)
                    have t6 : decide (len i ≤ k) = false := decide_eq_false (by omega)
                    have t7 : decide ((k : Int) < (len i : Int)) = true := decide_eq_true (by omega)
                    have t8 : decide (k < len i) = true := decide_eq_true hkl
                    obtain ⟨bi, rfl, hy⟩ := Kd.at_int HF2.out (k : Int) (by omega) (by omega)
                    rw [Int.toNat_natCast] at hy
                    unfold rd at hy
                    rw [Int.toNat_natCast] at hy
                    have e1 : (List.replicate (len i) (1 + (i : Int)) ++ List.replicate 24 (101 + (i : Int))).getD k 0 = 1 + (i : Int) := by
                      rw [List.getD_eq_getElem?_getD, List.getElem?_append_left (by simpa using hkl), List.getElem?_replicate, if_pos hkl]; rfl
                    have e2 : (List.replicate (len i) (1 + (i : Int))).getD k 0 = 1 + (i : Int) := by
                      rw [List.getD_eq_getElem?_getD, List.getElem?_replicate, if_pos hkl]; rfl
                    rw [e1] at hx
                    rw [e2] at hy
                    have t9 : ((1 + (i : Int)) != (1 + (i : Int))) = false := by simp
                    clear e1 e2
                    go_wp2_with fail
                    go_round
                    case rel => exact ⟨k + 1, by omega, by go_num⟩
                    case measure => simp [intOf]; omega
                  · have t5 : decide ((len i : Int) ≤ (k : Int)) = true := decide_eq_true (by omega)
                    have t6 : decide (len i ≤ k) = true := decide_eq_true (by omega)
                    have t7 : decide ((k : Int) < (len i : Int)) = false := decide_eq_false (by omega)
                    have t8 : decide (k < len i) = false := decide_eq_false hkl
                    have e1 : (List.replicate (len i) (1 + (i : Int)) ++ List.replicate 24 (101 + (i : Int))).getD k 0 = 101 + (i : Int) := by
                      rw [List.getD_eq_getElem?_getD, List.getElem?_append_right (by simp; omega), List.getElem?_replicate, if_pos (by simp; omega)]; rfl
                    rw [e1] at hx
                    have t9 : ((101 + (i : Int)) != (101 + (i : Int))) = false := by simp
                    clear e1
                    go_wp2_with fail
                    go_round
                    case rel => exact ⟨k + 1, by omega, by go_num⟩
                    case measure => simp [intOf]; omega
                · have t3 : decide ((k : Int) < ((len i : Int) + 24)) = false := decide_eq_false (by omega)
                  have t4 : decide (k < len i + 24) = false := decide_eq_false hlk
                  go_wp2_with fail
                  go_round
                  case rel => exact ⟨i + 1, by omega, by go_num⟩
                  case measure => simp [intOf]; omega
            · have t1 : decide ((i : Int) < (rows.length : Int)) = false := decide_eq_false (by omega)
              have t2 : decide (i < rows.length) = false := decide_eq_false hlt
              go_wp2_with fail
              go_ret
              exact ⟨rfl, HKP.out⟩
end Go.Proofs.Ythplmngignmieaa.Bits
