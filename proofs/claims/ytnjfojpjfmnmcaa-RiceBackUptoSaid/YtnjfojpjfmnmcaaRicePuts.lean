/- RicePuts: the walk. -/
import Derived.Test.YtnjfojpjfmnmcaaRiceAwake
import Derived.Deep.RegionHeld3
import Derived.WalkSpells
namespace Go.Proofs.Ytnjfojpjfmnmcaa.Rice
open Go.RowKit Go.Proofs.Ytnjfojpjfmnmcaa.Bits Go.Proofs.YtnjfojpjfmnmcaaW.PrintWords Go.Proofs.YtnjfojpjfmnmcaaW.PrintMore Go.Proofs.Ytnjfojpjfmnmcaa.BP
set_option linter.unusedVariables false
set_option linter.unusedSimpArgs false


/-- A kind whose cells are told outright. -/
def flatK {α : Type} (n : Nat) (enc : α → List Value) (hl : ∀ x, (enc x).length = n) (h1 : ∀ x, ∀ u ∈ enc x, u.oneCell' = true) : Kd α where
  sz := n
  E := []
  K := fun _ x cs => cs = enc x
  M := fun _ _ _ x cs => cs = enc x
  K_len := by rintro w x cs rfl; exact hl x
  K_one := by rintro w x cs rfl; exact h1 x
  K_below := fun _ h => h
  K_of_M := fun h => h
  M_mono := fun _ h => h
  M_bound := fun h => h
  M_move := fun _ h => h
  M_lower := fun _ h => h
/-- A symbol, written in a state: n, sum, depth, symbol. -/
abbrev RStep := Int × Int × Int × Int
def encR (s : RStep) : List Value := [.int .i64 s.1, .int .i64 s.2.1, .int .i64 s.2.2.1, .int .i64 s.2.2.2]
def rstepK : Kd RStep := flatK 4 encR (fun _ => rfl) (fun x u hu => by
  simp only [encR, List.mem_cons, List.not_mem_nil, or_false] at hu
  rcases hu with rfl | rfl | rfl | rfl <;> rfl)
def rstep0 : RStep := (0, 0, 0, 0)
theorem add_next (ad : Addr) (a b : Nat) (hb : 0 < b) : ad.add (a + b) = ⟨(ad.add a).block, (ad.add a).off + b, none⟩ := by
  unfold Addr.add
  rw [if_neg (by omega)]
  by_cases h : a = 0
  · rw [if_pos h]; subst h; simp
  · rw [if_neg h]; simp; omega
theorem rstep_cells {w : World} {A : Option Addr} {n : Nat} {xs : List RStep} (h : rstepK.C w A n xs) (k : Nat) (hk : k < n) :
    ∃ ad, A = some ad ∧ w.cell? (ad.add (k * 4)) = some (.int .i64 (xs.getD k rstep0).1) ∧ w.cell? ⟨(ad.add (k * 4)).block, (ad.add (k * 4)).off + 1, none⟩ = some (.int .i64 (xs.getD k rstep0).2.1) ∧ w.cell? ⟨(ad.add (k * 4)).block, (ad.add (k * 4)).off + 2, none⟩ = some (.int .i64 (xs.getD k rstep0).2.2.1) ∧ w.cell? ⟨(ad.add (k * 4)).block, (ad.add (k * 4)).off + 3, none⟩ = some (.int .i64 (xs.getD k rstep0).2.2.2) := by
  obtain ⟨ad, c, rfl, hl, hK, hc⟩ := Kd.C_get h rstep0 (k : Int) (by omega) (by omega)
  simp only [Int.toNat_natCast] at hK hc
  cases hK
  exact ⟨ad, rfl, hc 0 _ rfl, by rw [← add_next ad (k * 4) 1 (by decide)]; exact hc 1 _ rfl, by rw [← add_next ad (k * 4) 2 (by decide)]; exact hc 2 _ rfl, by rw [← add_next ad (k * 4) 3 (by decide)]; exact hc 3 _ rfl⟩

def codesL (l : List RStep) : List Int := l.flatMap fun s => (codeL s.1 s.2.1 s.2.2.1 s.2.2.2).1
theorem codesL_app (l m : List RStep) : codesL (l ++ m) = codesL l ++ codesL m := by simp [codesL]
theorem codesL_one (n s d u : Int) : codesL [(n, s, d, u)] = (codeL n s d u).1 := by simp [codesL]
theorem codeL_len (n s d u : Int) : (codeL n s d u).1.length ≤ 36 := by
  unfold codeL
  by_cases h : FitsP n s d u
  · rw [if_pos h]
    have hk := paramK_16 h
    have hd := h.2.2.1
    have hu := fits_lt h
    simp only [symL_len]
    split
    · omega
    · have := Int.ediv_nonneg hu.1 (show (0 : Int) ≤ 2 ^ paramK n s d.toNat from Int.le_of_lt (Int.pow_pos (by decide)))
      omega
  · rw [if_neg h]; simp
theorem codeL_01 (n s d u : Int) : B01 (codeL n s d u).1 := by
  unfold codeL
  split
  · show B01 (symL _ _ _)
    unfold symL
    split
    · exact B01.append (fun b hb => .inr (List.eq_of_mem_replicate hb)) (numBits_01 _ _)
    · exact B01.append (B01.append (fun b hb => .inr (List.eq_of_mem_replicate hb)) (fun b hb => .inl (by simpa using hb))) (numBits_01 _ _)
  · exact B01.nil
theorem codesL_len (l : List RStep) : (codesL l).length ≤ 36 * l.length := by
  induction l with
  | nil => simp [codesL]
  | cons s t ih =>
    have : codesL (s :: t) = (codeL s.1 s.2.1 s.2.2.1 s.2.2.2).1 ++ codesL t := rfl
    have := codeL_len s.1 s.2.1 s.2.2.1 s.2.2.2
    simp_all
    omega
theorem take_rstep (l : List RStep) {k : Nat} (hk : k < l.length) : l.take (k + 1) = l.take k ++ [l.getD k rstep0] := by
  rw [List.take_add_one, List.getElem?_eq_getElem hk, List.getD_eq_getElem?_getD, List.getElem?_eq_getElem hk]; rfl
theorem below0 {w w2 : World} (hB : Below w.drew.heap.size w.drew w2) : Below w.heap.size w w2 := below_step (below_drew1 (Below.refl w.heap.size w)) hB

set_option maxRecDepth 100000 in
set_option maxHeartbeats 1600000 in
theorem puts_one (A : Option Addr) (c : Nat) (l : List RStep) (w : World) (hC : rstepK.C w A l.length l) (hl : l.length ≤ 1048576) :
    Calls Try.prog 3 #[.slice A l.length c] w fun e w' => e = .returned (.bool true) ∧ Below w.heap.size w w' := by
  have HC := Aside0.mk hC
  have hu := Try.underlying30
  clear hC
  go_enter Try.func3, Try.ntmps3
  go_wp2_with fail
  refine (new_calls _).mono ?_
  rintro e w1 ⟨g, rfl, hW, hB⟩
  have HW1 := Aside0.mk hW
  have HB1 := Aside0.mk hB
  clear hW hB
  go_wp2_with fail
  refine (awake_calls _).mono ?_
  rintro e w2 ⟨rfl, hB⟩
  have HW2 : Aside0 (IsW w2 g (fun k => w.heap.size ≤ k ∧ k < w1.heap.size) []) := ⟨HW1.out.bound.below hB⟩
  have HB2 : Aside0 (Below w.heap.size w w2) := ⟨below_step HB1.out hB⟩
  have HS12 : Aside0 (w1.heap.size ≤ w2.heap.size) := ⟨hB.size⟩
  clear hB HW1 HB1
  go_wp2_with fail
  go_loopw [4, 5] (fun v4 v5 wr => ∃ (k : Nat) (P : Nat → Prop) (bs : List Int), k ≤ l.length ∧ v5 = .int .i64 k ∧ Aside0 (bs = codesL (l.take k)) ∧ Aside0 (B01 bs) ∧ Aside0 (∀ j, P j → w.heap.size ≤ j ∧ j < wr.heap.size) ∧ Aside0 (IsW wr g P bs) ∧ Aside0 (Kd.R (Kd.int .i64) 3 wr w.heap.size (fun j => ¬ P j) v4 bs) ∧ Aside0 (Below w.heap.size w wr))
    (fun _ v5 _ => ((l.length : Int) - intOf v5).toNat)
  case atStart => exact ⟨0, _, [], by omega, rfl, ⟨by simp [codesL]⟩, ⟨B01.nil⟩, ⟨fun j hj => ⟨hj.1, Nat.lt_of_lt_of_le hj.2 HS12.out⟩⟩, HW2, ⟨Kd.R_nil _ _ _ _ _⟩, HB2⟩
  case round =>
    obtain ⟨k, P, bs, hk, rfl, HBS, H01, HP, HW, HO, HB⟩ := hrel
    have hbl : bs.length ≤ 37748736 := by have := codesL_len (l.take k); have := List.length_take_le k l; have e := HBS.out; rw [e]; omega
    obtain ⟨A1, c1, rfl⟩ := Kd.R_slice HO.out
    by_cases hlt : k < l.length
    · have t1 : decide ((k : Int) < (l.length : Int)) = true := decide_eq_true (by omega)
      have t2 : decide (k < l.length) = true := decide_eq_true hlt
      obtain ⟨ad, e1, hx0, hx1, hx2, hx3⟩ := rstep_cells (Kd.C_below HC.out HB.out) k hlt
      cases e1
      have HT := Aside0.mk (take_rstep l hlt)
      generalize hs : l.getD k rstep0 = s at hx0 hx1 hx2 hx3 HT
      have HSE := Aside0.mk hs
      obtain ⟨n1, s1, d1, u1⟩ := s
      simp only at hx0 hx1 hx2 hx3
      clear hs
      go_wp2_with fail
      go_region_held3 (fun w' => w'.cell? (ad.add (k * 4)) = some (.int .i64 n1) ∧ w'.cell? ⟨(ad.add (k * 4)).block, (ad.add (k * 4)).off + 1, none⟩ = some (.int .i64 s1) ∧ w'.cell? ⟨(ad.add (k * 4)).block, (ad.add (k * 4)).off + 2, none⟩ = some (.int .i64 d1) ∧ w'.cell? ⟨(ad.add (k * 4)).block, (ad.add (k * 4)).off + 3, none⟩ = some (.int .i64 u1))
        (first | go_keep | exact ⟨hx0, hx1, hx2, hx3⟩ | exact ⟨hy0, hy1, hy2, hy3⟩)
        (first | (go_at_call 10; refine (code_calls n1 s1 d1 u1 _).mono ?_; rintro e w3 ⟨v, rfl, hR, hB⟩; have HBc : Aside0 (Below wr.heap.size wr w3) := ⟨by first | exact hB | exact below0 hB⟩; have HRc : Aside0 (Kd.R (Kd.int .i64) 3 w3 wr.heap.size (fun _ => True) v (codeL n1 s1 d1 u1).1) := ⟨hR⟩; have hy0 := cell_later HBc.out hx0; have hy1 := cell_later HBc.out hx1; have hy2 := cell_later HBc.out hx2; have hy3 := cell_later HBc.out hx3; clear hR hB))
      have hcl := codeL_len n1 s1 d1 u1
      have HX : Aside0 (codesL (l.take (k + 1)) = bs ++ (codeL n1 s1 d1 u1).1) := ⟨by rw [HT.out, codesL_app, codesL_one, ← HBS.out]⟩
      have HPP : Aside0 (codeL n1 s1 d1 u1 = codeL n1 s1 d1 u1) := ⟨rfl⟩
      have hx01 : B01 (codeL n1 s1 d1 u1).1 := codeL_01 n1 s1 d1 u1
      have HX01 := Aside0.mk hx01
      have HPut : Aside0 (∀ w : World, IsW w g P bs → Calls Try.prog 11 #[.pointer (some ⟨g, 0, none⟩), .agg #[.int .i64 n1, .int .i64 s1], .int .i64 d1, .int .i64 u1] w (PutPost w g P bs n1 s1 d1 u1)) := ⟨fun w h => rput_calls g P bs n1 s1 d1 u1 w h (by omega)⟩
      unfold PutPost at HPut
      clear hx01
      generalize codeL n1 s1 d1 u1 = cc at hcl HX HX01 HRc HPut ⊢
      obtain ⟨ys, er⟩ := cc
      simp only at hcl HX HX01 HRc HPut ⊢
      obtain ⟨A2, c2, rfl⟩ := Kd.R_slice HRc.out
      have HW3 : Aside0 (IsW w3 g P bs) := ⟨HW.out.below HBc.out⟩
      have HO3 : Aside0 (Kd.R (Kd.int .i64) 3 w3 w.heap.size (fun j => ¬ P j ∧ j < wr.heap.size) (.slice A1 bs.length c1) bs) := ⟨Kd.R_mono (Kd.R_kept (Kd.R_bound HO.out) (Kept.of_below HBc.out (fun _ => False)) (fun _ _ h => h)) (fun j hj => ⟨hj.1, hj.2.2.1⟩)⟩
      have HB3 : Aside0 (Below w.heap.size w w3) := ⟨below_step HB.out HBc.out⟩
      have HS3 : Aside0 (wr.heap.size ≤ w3.heap.size) := ⟨HBc.out.size⟩
      clear hx0 hx1 hx2 hx3 HW HO HB HW2 HB2 HBc HPP
      go_wp2_with fail
      go_region_held3 (fun w' => w'.cell? (ad.add (k * 4)) = some (.int .i64 n1) ∧ w'.cell? ⟨(ad.add (k * 4)).block, (ad.add (k * 4)).off + 1, none⟩ = some (.int .i64 s1) ∧ w'.cell? ⟨(ad.add (k * 4)).block, (ad.add (k * 4)).off + 2, none⟩ = some (.int .i64 d1) ∧ w'.cell? ⟨(ad.add (k * 4)).block, (ad.add (k * 4)).off + 3, none⟩ = some (.int .i64 u1))
        (first | go_keep | exact ⟨hy0, hy1, hy2, hy3⟩ | exact ⟨hz0, hz1, hz2, hz3⟩)
        (first | (go_at_call 11; refine (HPut.out _ (by first | exact HW3.out | exact HW3.out.below (below_drew1 (Below.refl _ _)))).mono ?_; rintro e w4 ⟨rfl, hW, hK⟩; have HK4 : Aside0 (Kp w3 w4 P) := ⟨by first | exact hK | exact (Kp.refl w3 P).drew.then_ hK (fun k hk => .inl hk)⟩; have HW4 : Aside0 (IsW w4 g (fun j => P j ∨ (w3.heap.size ≤ j ∧ j < w4.heap.size)) (bs ++ ys)) := ⟨hW.bound.mono (fun j hj => hj.1.elim .inl (fun h => .inr ⟨h, hj.2⟩))⟩; have HB4 : Aside0 (Below w.heap.size w w4) := ⟨below_kp HB3.out HK4.out (fun j hj => (HP.out j hj).1) (Nat.le_refl _)⟩; obtain ⟨ad4, e4, hz0, hz1, hz2, hz3⟩ := rstep_cells (Kd.C_below HC.out HB4.out) k hlt; cases e4; rw [HSE.out] at hz0 hz1 hz2 hz3; simp only at hz0 hz1 hz2 hz3; clear hW hK))
      have HO4 : Aside0 (Kd.R (Kd.int .i64) 3 w4 w.heap.size (fun j => ¬ (P j ∨ (w3.heap.size ≤ j ∧ j < w4.heap.size))) (.slice A1 bs.length c1) bs) := ⟨Kd.R_mono (Kd.R_kept HO3.out HK4.out.1 (fun j hj => hj.1)) (fun j hj h => h.elim hj.1 (fun h => by have := HS3.out; have := hj.2; omega))⟩
      have HR4 : Aside0 (Kd.C (Kd.int .i64) w4 A2 ys.length ys) := ⟨(Kd.R_reads' (Kd.R_kept (Kd.R_bound HRc.out) HK4.out.1 (fun j hj h => by have := (HP.out j h).2; have := hj.2.1; omega))).2.2⟩
      have HP4 : Aside0 (∀ j, (P j ∨ (w3.heap.size ≤ j ∧ j < w4.heap.size)) → w.heap.size ≤ j ∧ j < w4.heap.size) := ⟨fun j hj => hj.elim (fun h => ⟨(HP.out j h).1, Nat.lt_of_lt_of_le (HP.out j h).2 (Nat.le_trans HS3.out HK4.out.size)⟩) (fun h => ⟨Nat.le_trans HB3.out.size h.1, h.2⟩)⟩
      have hz := Aside0.mk HB4.out.size
      have HF : Aside0 (∀ j, w4.heap.size ≤ j → ¬ (P j ∨ (w3.heap.size ≤ j ∧ j < w4.heap.size))) := ⟨fun j hj h => by have := HP4.out j h; omega⟩
      have t3 : (er != er) = false := by simp
      have hal : (bs ++ ys).length ≤ 37748800 := by rw [List.length_append]; omega
      clear hy0 hy1 hy2 hy3 hz0 hz1 hz2 hz3 HO3 HRc HW3 HPut HB3 HP
      go_wp2_with ((with_reducible refine gate_builtin (b := .append) (xs := #[.tmp 58, .tmp 59]) rfl ?_); at_builtin; refine Kd.R_append_row (Value.int .i64) 0 (w0 := w) (W := w4) w.heap.size rfl (.tmp 58) (.tmp 59) 26 3 (.int .i64 0) 8 rfl Try.underlying26 infoI rfl (by decide) (.slice A1 bs.length c1) bs ys A2 ys.length c2 (fun j => ¬ (P j ∨ (w3.heap.size ≤ j ∧ j < w4.heap.size))) rfl rfl HF.out HO4.out HR4.out HB4.out hz.out (by omega) ?_; intro v1 w5 ho hb hg hat; have HO5 := Aside0.mk ho; have HB5 := Aside0.mk hb; have HK5 : Aside0 (Kept w4 w5 (fun j => ¬ (P j ∨ (w3.heap.size ≤ j ∧ j < w4.heap.size)))) := ⟨Kept.of_grown hg (Kept.refl _ _) (fun j hj => .inl (HO4.out.1 j hj))⟩; have HW5 : Aside0 (IsW w5 g (fun j => P j ∨ (w3.heap.size ≤ j ∧ j < w4.heap.size)) (bs ++ ys)) := ⟨HW4.out.kept HK5.out (fun j hj h => h hj)⟩; have HP5 : Aside0 (∀ j, (P j ∨ (w3.heap.size ≤ j ∧ j < w4.heap.size)) → w.heap.size ≤ j ∧ j < w5.heap.size) := ⟨fun j hj => ⟨(HP4.out j hj).1, Nat.lt_of_lt_of_le (HP4.out j hj).2 HK5.out.1⟩⟩; obtain ⟨A5, c5, rfl⟩ := Kd.R_slice HO5.out; clear ho hb hg hat)
      refine (len_calls g _ (bs ++ ys) w5 HW5.out (by omega)).mono ?_
      rintro e w6 ⟨rfl, ⟨m, rfl⟩⟩
      rw [List.length_append]
      have HW6 : Aside0 (IsW (w5.drewN m) g (fun j => P j ∨ (w3.heap.size ≤ j ∧ j < w4.heap.size)) (bs ++ ys)) := HW5
      have HB6 : Aside0 (Below w.heap.size w (w5.drewN m)) := ⟨pw_below_drewN HB5.out m⟩
      have HO6 : Aside0 (Kd.R (Kd.int .i64) 3 (w5.drewN m) w.heap.size (fun j => ¬ (P j ∨ (w3.heap.size ≤ j ∧ j < w4.heap.size))) (.slice A5 (bs.length + ys.length) c5) (bs ++ ys)) := ⟨by have h := HO5.out; rw [List.length_append] at h; exact h⟩
      have HP6 : Aside0 (∀ j, (P j ∨ (w3.heap.size ≤ j ∧ j < w4.heap.size)) → w.heap.size ≤ j ∧ j < (w5.drewN m).heap.size) := HP5
      generalize w5.drewN m = w6 at HW6 HB6 HO6 HP6 ⊢
      clear HW5 HB5 HO5 HP5
      have t4 : (((bs.length : Int) + (ys.length : Int)) != ((bs.length : Int) + (ys.length : Int))) = false := by simp
      go_wp2_with fail
      go_roundw
      case rel => exact ⟨k + 1, _, bs ++ ys, by omega, by first | (simp; done) | (congr 1; omega), ⟨HX.out.symm⟩, ⟨B01.append H01.out HX01.out⟩, HP6, HW6, HO6, HB6⟩
      case measure => simp [intOf]; omega
    · have t1 : decide ((k : Int) < (l.length : Int)) = false := decide_eq_false (by omega)
      have t2 : decide (k < l.length) = false := decide_eq_false hlt
      clear HW2 HB2 HP
      go_wp2_with fail
      refine (bytes_calls g _ bs wr HW.out (by omega)).mono ?_
      rintro e w3 ⟨v, rfl, hR, hB⟩
      have hpl := packB_len bs
      have HC1 : Aside0 (Kd.R (Kd.int .u8) 5 w3 wr.heap.size (fun _ => True) v (packB bs)) := ⟨hR⟩
      have HO3 : Aside0 (Kd.C (Kd.int .i64) w3 A1 bs.length bs) := ⟨Kd.C_below (Kd.R_reads' HO.out).2.2 hB⟩
      have HB3 : Aside0 (Below w.heap.size w w3) := ⟨below_step HB.out hB⟩
      clear hR hB HO HB HW
      obtain ⟨A2, c2, rfl⟩ := Kd.R_slice HC1.out
      generalize hpk : packB bs = pk at HC1 hpl ⊢
      have hpk2 : pk.length < 1099511627776 := by omega
      clear hpl
      go_wp2_with fail
      refine (refbytes_calls A1 c1 bs w3 HO3.out H01.out (by omega)).mono ?_
      rintro e w4 ⟨v, rfl, hR, hB⟩
      rw [hpk] at hR
      obtain ⟨A3, c3, rfl⟩ := Kd.R_slice hR
      have HD1 : Aside0 (Kd.C (Kd.int .u8) w4 A2 pk.length pk) := ⟨Kd.C_below (Kd.R_reads' HC1.out).2.2 hB⟩
      have HD2 : Aside0 (Kd.C (Kd.int .u8) w4 A3 pk.length pk) := ⟨(Kd.R_reads' hR).2.2⟩
      have HB4 : Aside0 (Below w.heap.size w w4) := ⟨below_step HB3.out hB⟩
      clear hR hB HC1 HO3 HB3 hpk
      go_wp2_with fail
      refine (same_calls A2 A3 c2 c3 pk pk w4 HD1.out HD2.out hpk2 hpk2).mono ?_
      rintro e w5 ⟨rfl, ⟨m, rfl⟩⟩
      have HB5 : Aside0 (Below w.heap.size w (w4.drewN m)) := ⟨pw_below_drewN HB4.out m⟩
      generalize w4.drewN m = w5 at HB5 ⊢
      clear HD1 HD2 HB4
      go_wp2_with fail
      refine (rput_nil w5).mono ?_
      rintro e w6 ⟨rfl, hB⟩
      have HB6 : Aside0 (Below w.heap.size w w6) := ⟨below_step HB5.out hB⟩
      clear hB HB5
      go_wp2_with fail
      go_ret
      exact ⟨rfl, HB6.out⟩
end Go.Proofs.Ytnjfojpjfmnmcaa.Rice
