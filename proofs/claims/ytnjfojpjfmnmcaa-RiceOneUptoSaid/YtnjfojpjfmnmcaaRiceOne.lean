/- RiceOne: the law and the walk. -/
import Derived.Test.YtnjfojpjfmnmcaaRiceTakes
namespace Go.Proofs.Ytnjfojpjfmnmcaa.Rice
open Go.RowKit Go.Proofs.Ytnjfojpjfmnmcaa.Bits Go.Proofs.YtnjfojpjfmnmcaaW.PrintWords Go.Proofs.YtnjfojpjfmnmcaaW.PrintMore Go.Proofs.Ytnjfojpjfmnmcaa.BP
set_option linter.unusedVariables false
set_option linter.unusedSimpArgs false


theorem blk_lt {w : World} {g : Nat} {o : Obj} (h : w.heap[g]? = some o) : g < w.heap.size := (Array.getElem?_eq_some_iff.mp h).1
theorem ones_stop (l : List Int) : ∀ m, ones l m < m → ones l m < l.length → l.getD (ones l m) 0 ≠ 1 := by
  induction l with
  | nil => intro m h h2; simp at h2
  | cons b t ih =>
    intro m h h2
    cases m with
    | zero => simp [ones] at h
    | succ m =>
      by_cases c : b = 1
      · simp only [ones, c, if_true] at h h2 ⊢
        simpa using ih m (by omega) (by simpa using h2)
      · simp only [ones, c, if_false] at h h2 ⊢
        simpa using c
theorem list_ext {a b : List Int} (hl : a.length = b.length) (h : ∀ i, i < a.length → a.getD i 0 = b.getD i 0) : a = b := eq_of_getD hl h
theorem numBits_bval : ∀ (w : Nat) (l : List Int), l.length = w → B01 l → numBits (bval l) w = l
  | 0, l, h, _ => by
    have : l = [] := List.length_eq_zero_iff.mp h
    subst this; simp [numBits]
  | w + 1, l, h, h01 => by
    have hne : l ≠ [] := by intro e; subst e; simp at h
    have e := List.dropLast_concat_getLast hne
    have hd : (l.dropLast).length = w := by rw [List.length_dropLast]; omega
    have hd01 : B01 l.dropLast := fun b hb => h01 b ((List.dropLast_sublist l).mem hb)
    have hx := h01 (l.getLast hne) (List.getLast_mem hne)
    rw [← e, bval_snoc, numBits_snoc]
    have e1 : (2 * bval l.dropLast + l.getLast hne) / 2 = bval l.dropLast := by omega
    have e2 : (2 * bval l.dropLast + l.getLast hne) % 2 = l.getLast hne := by omega
    rw [e1, e2, numBits_bval w _ hd hd01]
theorem take_ones (l : List Int) (h01 : B01 l) {q e c : Int} (h : onesL l 20 = (q, e, c)) (he : e = 0) : l.take c.toNat = if q = 20 then List.replicate 20 1 else List.replicate q.toNat 1 ++ [0] := by
  have hle := ones_le l (20 : Int).toNat
  have hall := ones_all l (20 : Int).toNat
  have hstop := ones_stop l (20 : Int).toNat
  have e20 : (20 : Int).toNat = 20 := rfl
  rw [e20] at hle hall hstop
  unfold onesL at h
  rw [if_neg (by decide), e20] at h
  by_cases c1 : ((ones l 20 : Nat) : Int) = 20
  · rw [if_pos c1] at h
    simp only [Prod.mk.injEq] at h
    obtain ⟨rfl, _, rfl⟩ := h
    rw [if_pos rfl]
    have h20 : ones l 20 = 20 := by omega
    refine list_ext (by rw [List.length_take, List.length_replicate]; omega) (fun i hi => ?_)
    rw [List.length_take] at hi
    have := hall 20 |> fun _ => hall i
    have hv := ones_all l 20 i (by omega)
    rw [List.getD_eq_getElem?_getD, List.getElem?_take, if_pos (by omega), ← List.getD_eq_getElem?_getD, hv]
    rw [List.getD_eq_getElem?_getD, List.getElem?_replicate, if_pos (by omega)]; rfl
  · rw [if_neg c1] at h
    by_cases c2 : ones l 20 = l.length
    · rw [if_pos c2] at h
      simp only [Prod.mk.injEq] at h
      omega
    · rw [if_neg c2] at h
      simp only [Prod.mk.injEq] at h
      obtain ⟨rfl, _, rfl⟩ := h
      rw [if_neg (by omega), Int.toNat_natCast]
      have hz : l.getD (ones l 20) 0 = 0 := by
        have h1 := hstop (by omega) (by omega)
        have := h01.getD (ones l 20)
        omega
      have ec : ((ones l 20 : Nat) + 1 : Int).toNat = ones l 20 + 1 := by omega
      rw [ec]
      refine list_ext (by rw [List.length_take, List.length_append, List.length_replicate, List.length_singleton]; omega) (fun i hi => ?_)
      rw [List.length_take] at hi
      rw [List.getD_eq_getElem?_getD, List.getElem?_take, if_pos (by omega), ← List.getD_eq_getElem?_getD]
      by_cases ci : i < ones l 20
      · rw [ones_all l 20 i ci, List.getD_eq_getElem?_getD, List.getElem?_append_left (by rw [List.length_replicate]; exact ci), List.getElem?_replicate, if_pos ci]; rfl
      · have : i = ones l 20 := by omega
        rw [this, hz, List.getD_eq_getElem?_getD, List.getElem?_append_right (by rw [List.length_replicate]; exact Nat.le_refl _)]
        simp
theorem takeL_bits {l : List Int} (h01 : B01 l) {w x : Int} (h : takeL l w = (x, 0)) : numBits x w.toNat = l.take w.toNat := by
  have hb := takeL_bd (w := w) h01 (by rw [h])
  unfold takeL at h
  rw [if_neg (by omega), if_neg (by omega)] at h
  have hx := (Prod.mk.inj h).1
  rw [← hx]
  exact numBits_bval w.toNat _ (by rw [List.length_take]; omega) (h01.take _)
theorem takeS_code {l : List Int} (h01 : B01 l) {n s d u c : Int} (h : takeS l n s d = (u, c, 0)) : codeL n s d u = (l.take c.toNat, 0) ∧ 1 ≤ c ∧ c ≤ 36 ∧ c ≤ l.length := by
  have hbd := takeS_bd h01 (n := n) (s := s) (d := d) (by rw [h])
  rw [h] at hbd
  simp only at hbd
  by_cases hf : FitsP n s d 0
  · have hO := onesL_20 l
    have hd0 := hf.2.1
    have hd1 := hf.2.2.1
    have hk := paramK_16 hf
    have hkd := paramK_le n s d.toNat
    obtain ⟨o, ho⟩ : ∃ o, onesL l 20 = o := ⟨_, rfl⟩
    rw [ho] at hO
    obtain ⟨q, e, cc⟩ := o
    simp only at hO
    rcases hO with ⟨rfl, rfl, rfl, hlen⟩ | ⟨rfl, hq0, hq1, rfl, hlen⟩ | rfl
    · have hb := takeL_bd (w := d) (h01.drop 20)
      obtain ⟨x, hx⟩ : ∃ x, takeL (l.drop 20) d = x := ⟨_, rfl⟩
      rw [hx] at hb
      obtain ⟨x, e2⟩ := x
      rw [takeS_20 (x := x) (e := e2) hf ho hx] at h
      by_cases c1 : e2 = 0
      · subst c1
        have hb := hb rfl
        rw [if_neg (by simp)] at h
        by_cases c2 : x / 2 ^ paramK n s d.toNat < 20
        · rw [if_pos c2] at h; simp at h
        · rw [if_neg c2] at h
          simp only [Prod.mk.injEq] at h
          obtain ⟨rfl, rfl, _⟩ := h
          have hxf : FitsP n s d x := (codeL_fits hf hb.2.2.1).mpr ((div0 hb.2.2.1).mpr hb.2.2.2.1)
          refine ⟨?_, by omega, by omega, by omega⟩
          unfold codeL
          rw [if_pos hxf]
          unfold symL
          rw [if_pos (by omega), takeL_bits (h01.drop 20) hx]
          have h1 := take_ones l h01 ho rfl
          rw [if_pos rfl, show (20 : Int).toNat = 20 from rfl] at h1
          rw [← h1, show (20 + d).toNat = 20 + d.toNat by omega, List.take_add]
      · rw [if_pos c1] at h
        simp only [Prod.mk.injEq] at h
        exact absurd h.2.2 c1
    · have hb := takeL_bd (w := (paramK n s d.toNat : Int)) (h01.drop (q + 1).toNat)
      obtain ⟨x, hx⟩ : ∃ x, takeL (l.drop (q + 1).toNat) (paramK n s d.toNat : Int) = x := ⟨_, rfl⟩
      rw [hx] at hb
      obtain ⟨x, e2⟩ := x
      rw [takeS_lt (x := x) (e := e2) hf ho hq1 hx] at h
      by_cases c1 : e2 = 0
      · subst c1
        have hb := hb rfl
        rw [Int.toNat_natCast] at hb
        rw [if_neg (by simp)] at h
        have h1 := take_ones l h01 ho rfl
        rw [if_neg (by omega)] at h1
        have h2 := takeL_bits (h01.drop (q + 1).toNat) hx
        rw [Int.toNat_natCast] at h2
        obtain ⟨k, hK⟩ : ∃ k, paramK n s d.toNat = k := ⟨_, rfl⟩
        rw [hK] at h h2 hb hk hkd
        have hp := pow16 hk
        have hm0 : 0 ≤ q * 2 ^ k := Int.mul_nonneg hq0 (by omega)
        have hdiv : (q * 2 ^ k + x) / 2 ^ k = q := by
          rw [Int.add_comm, Int.add_mul_ediv_right _ _ (by omega), (div0 hb.2.2.1).mpr hb.2.2.2.1, Int.zero_add]
        have hmod : (q * 2 ^ k + x) % 2 ^ k = x := by
          rw [Int.add_comm, Int.add_mul_emod_self_right]
          exact Int.emod_eq_of_lt hb.2.2.1 hb.2.2.2.1
        by_cases c2 : (q * 2 ^ k + x) / 2 ^ d.toNat = 0
        · rw [if_neg (fun z => z c2)] at h
          simp only [Prod.mk.injEq] at h
          obtain ⟨hu, rfl, _⟩ := h
          rw [hu] at hdiv hmod c2
          have hxf : FitsP n s d u := (codeL_fits hf (by omega)).mpr c2
          refine ⟨?_, by omega, by omega, by omega⟩
          unfold codeL
          rw [if_pos hxf, hK]
          unfold symL
          rw [hdiv, hmod, if_neg (by omega), h2, ← h1, show (q + 1 + (k : Int)).toNat = (q + 1).toNat + k by omega, List.take_add]
        · rw [if_pos c2] at h
          simp only [Prod.mk.injEq] at h
          omega
      · rw [if_pos c1] at h
        simp only [Prod.mk.injEq] at h
        exact absurd h.2.2 c1
    · rw [takeS_ones hf ho (by decide)] at h; simp at h
  · rw [takeS_bad hf] at h; simp at h
theorem takeS_err {l : List Int} {n s d u c f : Int} (h : takeS l n s d = (u, c, f)) (hf : f ≠ 0) : u = 0 := by
  unfold takeS at h
  (repeat' split at h) <;> (simp only [Prod.mk.injEq] at h; omega)
theorem take_one_app {ys r : List Int} {i : Nat} (h : i < ys.length) : ((ys ++ r).drop i).take 1 = (ys.drop i).take 1 := by
  rw [List.drop_append_of_le_length (by omega), List.take_append_of_le_length (by rw [List.length_drop]; omega)]

set_option maxRecDepth 100000 in
set_option maxHeartbeats 2000000 in
theorem one_walk (A0 : Option Addr) (c0 : Nat) (b : List Int) (n s d : Int) (w : World) (hb : Kd.C (Kd.int .u8) w A0 b.length b) (h8 : B8 b) (hbl : b.length ≤ 1048576) :
    Calls Try.prog 6 #[.slice A0 b.length c0, .agg #[.int .i64 n, .int .i64 s], .int .i64 d] w fun e w' => e = .returned (.bool true) ∧ Below w.heap.size w w' := by
  have HCB := Aside0.mk hb
  have H8 := Aside0.mk h8
  have hu := Try.underlying30
  have HB0 := Aside0.mk (below_alloc (Below.refl w.heap.size w) (.cells #[.int .i64 n, .int .i64 s] 30))
  have HP0 : Aside0 ((w.alloc (.cells #[.int .i64 n, .int .i64 s] 30)).heap[w.heap.size]? = some (.cells #[.int .i64 n, .int .i64 s] 30 (0, 0))) := ⟨heap_alloc_new w _⟩
  have HZ0 : Aside0 (w.heap.size < (w.alloc (.cells #[.int .i64 n, .int .i64 s] 30)).heap.size) := ⟨blk_lt HP0.out⟩
  clear hb h8
  go_enter Try.func6, Try.ntmps6
  go_wp2_with fail
  refine (open_calls A0 c0 b _ (Kd.C_below HCB.out HB0.out) H8.out (by omega)).mono ?_
  rintro e w1 ⟨g1, rfl, hR, hB⟩
  have HI1 : Aside0 (IsR w1 g1 (fun k => w.heap.size < k ∧ k < w1.heap.size) b 0) := ⟨hR.bound.mono (fun k hk => ⟨Nat.lt_of_lt_of_le HZ0.out hk.1, hk.2⟩)⟩
  have HP1 : Aside0 (w1.heap[w.heap.size]? = some (.cells #[.int .i64 n, .int .i64 s] 30 (0, 0))) := ⟨(hB.block _ (blk_lt HP0.out)).trans HP0.out⟩
  have HB1 : Aside0 (Below w.heap.size w w1) := ⟨below_step HB0.out hB⟩
  clear hR hB HB0 HP0 HZ0
  go_wp2_with fail
  refine (new_calls _).mono ?_
  rintro e w2 ⟨g2, rfl, hW, hB⟩
  have HW2 : Aside0 (IsW w2 g2 (fun k => w1.heap.size ≤ k ∧ k < w2.heap.size) []) := ⟨hW.bound⟩
  have HI2 : Aside0 (IsR w2 g1 (fun k => w.heap.size < k ∧ k < w1.heap.size) b 0) := ⟨HI1.out.below hB⟩
  have HP2 : Aside0 (w2.heap[w.heap.size]? = some (.cells #[.int .i64 n, .int .i64 s] 30 (0, 0))) := ⟨(hB.block _ (blk_lt HP1.out)).trans HP1.out⟩
  have HB2 : Aside0 (Below w.heap.size w w2) := ⟨below_step HB1.out hB⟩
  have HS01 : Aside0 (w.heap.size < w1.heap.size) := ⟨blk_lt HP1.out⟩
  have HS12 : Aside0 (w1.heap.size ≤ w2.heap.size) := ⟨hB.size⟩
  clear hW hB HI1 HP1 HB1
  go_wp2_with fail
  refine (awake_calls _).mono ?_
  rintro e w3 ⟨rfl, hB⟩
  have HW3 : Aside0 (IsW w3 g2 (fun k => w1.heap.size ≤ k ∧ k < w2.heap.size) []) := ⟨HW2.out.below hB⟩
  have HI3 : Aside0 (IsR w3 g1 (fun k => w.heap.size < k ∧ k < w1.heap.size) b 0) := ⟨HI2.out.below hB⟩
  have HP3 : Aside0 (w3.heap[w.heap.size]? = some (.cells #[.int .i64 n, .int .i64 s] 30 (0, 0))) := ⟨(hB.block _ (blk_lt HP2.out)).trans HP2.out⟩
  have HB3 : Aside0 (Below w.heap.size w w3) := ⟨below_step HB2.out hB⟩
  have HS23 : Aside0 (w2.heap.size ≤ w3.heap.size) := ⟨hB.size⟩
  have hc0 : w3.cell? ⟨w.heap.size, 0, none⟩ = some (.int .i64 n) := (blk_cell HP3.out 0).trans rfl
  have hc1 : w3.cell? ⟨w.heap.size, 1, none⟩ = some (.int .i64 s) := (blk_cell HP3.out 1).trans rfl
  clear hB HW2 HI2 HP2 HB2
  go_wp2_with fail
  refine (rtake_calls g1 _ b 0 n s d w3 HI3.out).mono ?_
  intro e w4 hpost
  obtain ⟨L, hL⟩ : ∃ L, bitsOf b = L := ⟨_, rfl⟩
  unfold TakePost at hpost
  rw [show (bitsOf b).drop (0 : Int).toNat = L by rw [hL]; rfl] at hpost
  obtain ⟨p', rfl, hR, hK, hp'⟩ := hpost
  have HL := Aside0.mk hL
  have H01 : Aside0 (B01 L) := ⟨by rw [← hL]; exact bitsOf_01 b⟩
  have HLl : Aside0 (L.length = 8 * b.length) := ⟨by rw [← hL, bitsOf_len]⟩
  obtain ⟨ts, hts⟩ : ∃ ts, takeS L n s d = ts := ⟨_, rfl⟩
  rw [hts] at hp' ⊢
  obtain ⟨u, c, f⟩ := ts
  simp only at hp' ⊢
  have HTS := Aside0.mk hts
  have HI4 : Aside0 (IsR w4 g1 (fun k => w.heap.size < k ∧ k < w1.heap.size) b p') := ⟨hR⟩
  have HW4 : Aside0 (IsW w4 g2 (fun k => w1.heap.size ≤ k ∧ k < w2.heap.size) []) := ⟨HW3.out.kept hK.1 (fun k hk h => by omega)⟩
  have HP4 : Aside0 (w4.heap[w.heap.size]? = some (.cells #[.int .i64 n, .int .i64 s] 30 (0, 0))) := ⟨(hK.1.2 _ (blk_lt HP3.out) (fun h => by omega)).trans HP3.out⟩
  have HB4 : Aside0 (Below w.heap.size w w4) := ⟨below_kp HB3.out hK (fun k hk => by omega) (Nat.le_refl _)⟩
  have HS34 : Aside0 (w3.heap.size ≤ w4.heap.size) := ⟨hK.size⟩
  have hd0 : w4.cell? ⟨w.heap.size, 0, none⟩ = some (.int .i64 n) := (blk_cell HP4.out 0).trans rfl
  have hd1 : w4.cell? ⟨w.heap.size, 1, none⟩ = some (.int .i64 s) := (blk_cell HP4.out 1).trans rfl
  have HPP := Aside0.mk hp'
  clear hR hK hp' hts hL HW3 HI3 HP3 HB3 hc0 hc1
  by_cases c1 : f = 0
  · subst c1
    obtain ⟨hcode, hc1, hc36, hcl⟩ := takeS_code H01.out HTS.out
    obtain ⟨ys, hys⟩ : ∃ ys, L.take c.toNat = ys := ⟨_, rfl⟩
    rw [hys] at hcode
    have hyl : (ys.length : Int) = c := by rw [← hys, List.length_take]; omega
    have hp0 : p' = (ys.length : Int) := by have := HPP.out rfl; omega
    subst hp0
    have HYS := Aside0.mk hys
    have HCD := Aside0.mk hcode
    have HY01 : Aside0 (B01 ys) := ⟨by rw [← hys]; exact H01.out.take _⟩
    have hy36 : ys.length ≤ 36 := by omega
    have hy1 : 1 ≤ ys.length := by omega
    have HYL : Aside0 (ys.length ≤ L.length) := ⟨by rw [← hys, List.length_take]; omega⟩
    have b1 : ((ys.length : Int) != (ys.length : Int)) = false := by simp
    have b2 : decide ((ys.length : Int) < 1) = false := decide_eq_false (by omega)
    have b3 : decide (36 < (ys.length : Int)) = false := decide_eq_false (by omega)
    have b4 : decide (36 < ys.length) = false := decide_eq_false (by omega)
    have b5 : decide (ys.length < 1) = false := decide_eq_false (by omega)
    clear hcode hc1 hc36 hcl hys hyl HPP HTS
    go_wp2_with fail
    refine (rput_calls g2 _ [] n s d u w4 HW4.out (by decide)).mono ?_
    rintro e w5 ⟨rfl, hW, hK⟩
    rw [HCD.out] at hW ⊢
    obtain ⟨P, hP⟩ : ∃ P : Nat → Prop, P = fun k => ((w1.heap.size ≤ k ∧ k < w2.heap.size) ∨ w4.heap.size ≤ k) ∧ k < w5.heap.size := ⟨_, rfl⟩
    have HW5 : Aside0 (IsW w5 g2 P ys) := ⟨by rw [hP]; exact hW.bound⟩
    have HPb : Aside0 (∀ k, P k → w.heap.size ≤ k ∧ k < w5.heap.size) := ⟨fun k hk => by rw [hP] at hk; have := HS01.out; have := HS12.out; have := HS23.out; have := HS34.out; (try simp only at hk); omega⟩
    have HI5 : Aside0 (IsR w5 g1 (fun k => w.heap.size < k ∧ k < w1.heap.size) b (ys.length : Int)) := ⟨HI4.out.kept hK.1 (fun k hk h => by omega)⟩
    have HB5 : Aside0 (Below w.heap.size w w5) := ⟨below_kp HB4.out hK (fun k hk => by have := HS01.out; omega) (Nat.le_refl _)⟩
    clear hW hK hP HI4 HW4 HP4 HB4 hd0 hd1 HCD
    go_wp2_with fail
    refine (len_calls g2 _ ys w5 HW5.out (by omega)).mono ?_
    rintro e w6 ⟨rfl, ⟨m, rfl⟩⟩
    replace HW5 : Aside0 (IsW (w5.drewN m) g2 P ys) := HW5
    replace HI5 : Aside0 (IsR (w5.drewN m) g1 (fun k => w.heap.size < k ∧ k < w1.heap.size) b (ys.length : Int)) := HI5
    replace HB5 : Aside0 (Below w.heap.size w (w5.drewN m)) := ⟨pw_below_drewN HB5.out m⟩
    replace HPb : Aside0 (∀ k, P k → w.heap.size ≤ k ∧ k < (w5.drewN m).heap.size) := HPb
    generalize w5.drewN m = w6 at HW5 HI5 HB5 HPb ⊢
    go_wp2_with fail
    refine (at_calls g1 _ b _ w6 HI5.out).mono ?_
    rintro e w7 ⟨rfl, rfl⟩
    clear HI5
    go_wp2_with fail
    refine (len_calls g2 _ ys w7 HW5.out (by omega)).mono ?_
    rintro e w6 ⟨rfl, ⟨m, rfl⟩⟩
    replace HW5 : Aside0 (IsW (w7.drewN m) g2 P ys) := HW5
    replace HB5 : Aside0 (Below w.heap.size w (w7.drewN m)) := ⟨pw_below_drewN HB5.out m⟩
    replace HPb : Aside0 (∀ k, P k → w.heap.size ≤ k ∧ k < (w7.drewN m).heap.size) := HPb
    generalize w7.drewN m = w6 at HW5 HB5 HPb ⊢
    go_wp2_with fail
    refine (len_calls g2 _ ys w6 HW5.out (by omega)).mono ?_
    rintro e w7 ⟨rfl, ⟨m, rfl⟩⟩
    replace HW5 : Aside0 (IsW (w6.drewN m) g2 P ys) := HW5
    replace HB5 : Aside0 (Below w.heap.size w (w6.drewN m)) := ⟨pw_below_drewN HB5.out m⟩
    replace HPb : Aside0 (∀ k, P k → w.heap.size ≤ k ∧ k < (w6.drewN m).heap.size) := HPb
    generalize w6.drewN m = w7 at HW5 HB5 HPb ⊢
    go_wp2_with fail
    refine (open_calls A0 c0 b w7 (Kd.C_below HCB.out HB5.out) H8.out (by omega)).mono ?_
    rintro e w8 ⟨g3, rfl, hR, hB⟩
    have HI8 : Aside0 (IsR w8 g3 (fun k => w7.heap.size ≤ k ∧ k < w8.heap.size) b 0) := ⟨hR.bound⟩
    have HW8 : Aside0 (IsW w8 g2 P ys) := ⟨HW5.out.below hB⟩
    have HB8 : Aside0 (Below w.heap.size w w8) := ⟨below_step HB5.out hB⟩
    have HS78 : Aside0 (w7.heap.size ≤ w8.heap.size) := ⟨hB.size⟩
    have HS07 : Aside0 (w.heap.size ≤ w7.heap.size) := ⟨HB5.out.size⟩
    clear hR hB HW5 HB5
    go_wp2_with fail
    refine (bytes_calls g2 _ ys w8 HW8.out (by omega)).mono ?_
    rintro e w9 ⟨v, rfl, hR, hB⟩
    obtain ⟨A2, c2, rfl⟩ := Kd.R_slice hR
    have HP8 : Aside0 (B8 (packB ys)) := ⟨packB_B8 HY01.out⟩
    have hpl := packB_len ys
    have hpk2 : (packB ys).length < 1099511627776 := by omega
    have HBB : Aside0 (bitsOf (packB ys) = ys ++ List.replicate (8 * ((ys.length + 7) / 8) - ys.length) 0) := ⟨bitsOf_packB HY01.out⟩
    have HPK8 : Aside0 (ys.length ≤ 8 * (packB ys).length) := ⟨by omega⟩
    obtain ⟨pk, hpk⟩ : ∃ pk, packB ys = pk := ⟨_, rfl⟩
    rw [hpk] at HP8 HBB HPK8 hR hpk2 ⊢
    have HC9 : Aside0 (Kd.C (Kd.int .u8) w9 A2 pk.length pk) := ⟨(Kd.R_reads' hR).2.2⟩
    have HI9 : Aside0 (IsR w9 g3 (fun k => w7.heap.size ≤ k ∧ k < w8.heap.size) b 0) := ⟨HI8.out.below hB⟩
    have HW9 : Aside0 (IsW w9 g2 P ys) := ⟨HW8.out.below hB⟩
    have HB9 : Aside0 (Below w.heap.size w w9) := ⟨below_step HB8.out hB⟩
    have HS89 : Aside0 (w8.heap.size ≤ w9.heap.size) := ⟨hB.size⟩
    clear hR hB HI8 HW8 HB8 hpk hpl
    go_wp2_with fail
    refine (open_calls A2 c2 pk w9 HC9.out HP8.out hpk2).mono ?_
    rintro e wa ⟨g4, rfl, hR, hB⟩
    have HJa : Aside0 (IsR wa g4 (fun k => w9.heap.size ≤ k ∧ k < wa.heap.size) pk 0) := ⟨hR.bound⟩
    have HIa : Aside0 (IsR wa g3 (fun k => w7.heap.size ≤ k ∧ k < w8.heap.size) b 0) := ⟨HI9.out.below hB⟩
    have HWa : Aside0 (IsW wa g2 P ys) := ⟨HW9.out.below hB⟩
    have HBa : Aside0 (Below w.heap.size w wa) := ⟨below_step HB9.out hB⟩
    clear hR hB HI9 HW9 HB9 HC9
    go_wp2_with fail
    go_loopw [13] (fun v13 wr => ∃ k : Nat, k ≤ ys.length ∧ v13 = .int .i64 k ∧ Aside0 (IsW wr g2 P ys) ∧ Aside0 (IsR wr g3 (fun k => w7.heap.size ≤ k ∧ k < w8.heap.size) b k) ∧ Aside0 (IsR wr g4 (fun k => w9.heap.size ≤ k ∧ k < wa.heap.size) pk k) ∧ Aside0 (Below w.heap.size w wr))
      (fun v13 _ => ((ys.length : Int) - intOf v13).toNat)
    case atStart => exact ⟨0, by omega, rfl, HWa, HIa, HJa, HBa⟩
    case round =>
      clear HWa HIa HJa HBa
      obtain ⟨k, hk, rfl, HW, HI, HJ, HB⟩ := hrel
      go_wp2_with fail
      refine (len_calls g2 _ ys wr HW.out (by omega)).mono ?_
      rintro e w5 ⟨rfl, ⟨m, rfl⟩⟩
      replace HW : Aside0 (IsW (wr.drewN m) g2 P ys) := HW
      replace HI : Aside0 (IsR (wr.drewN m) g3 (fun k => w7.heap.size ≤ k ∧ k < w8.heap.size) b k) := HI
      replace HJ : Aside0 (IsR (wr.drewN m) g4 (fun k => w9.heap.size ≤ k ∧ k < wa.heap.size) pk k) := HJ
      replace HB : Aside0 (Below w.heap.size w (wr.drewN m)) := ⟨pw_below_drewN HB.out m⟩
      generalize wr.drewN m = wb at HW HI HJ HB ⊢
      by_cases hlt : k < ys.length
      · have t1 : decide ((k : Int) < (ys.length : Int)) = true := decide_eq_true (by omega)
        have t2 : decide (k < ys.length) = true := decide_eq_true hlt
        have hx : ((bitsOf b).drop k).take 1 = (ys.drop k).take 1 := by
          have e : L = ys ++ L.drop c.toNat := by rw [← HYS.out, List.take_append_drop]
          rw [HL.out, e, take_one_app hlt]
        have hy : ((bitsOf pk).drop k).take 1 = (ys.drop k).take 1 := by rw [HBB.out, take_one_app hlt]
        have HX := Aside0.mk hx
        have HY := Aside0.mk hy
        have hkb : (1 : Int) ≤ 8 * (b.length : Int) - k := by have := HYL.out; have := HLl.out; omega
        have hkp : (1 : Int) ≤ 8 * (pk.length : Int) - k := by have := HPK8.out; omega
        clear hx hy
        go_wp2_with fail
        refine (take_ok g3 _ b k 1 wb HI.out (by decide) (by decide) hkb).mono ?_
        rintro e wc ⟨rfl, hR, hK⟩
        rw [Int.toNat_natCast, show (1 : Int).toNat = 1 from rfl, HX.out]
        have HIc := Aside0.mk hR
        have HWc : Aside0 (IsW wc g2 P ys) := ⟨HW.out.kept hK.1 (fun j hj h => by have := HPb.out j hj; omega)⟩
        have HJc : Aside0 (IsR wc g4 (fun k => w9.heap.size ≤ k ∧ k < wa.heap.size) pk k) := ⟨HJ.out.kept hK.1 (fun j hj h => by have := HS89.out; omega)⟩
        have HBc : Aside0 (Below w.heap.size w wc) := ⟨below_kp HB.out hK (fun j hj => by have := HS07.out; omega) (Nat.le_refl _)⟩
        clear hR hK HW HI HJ HB
        go_wp2_with fail
        refine (take_ok g4 _ pk k 1 wc HJc.out (by decide) (by decide) hkp).mono ?_
        rintro e wd ⟨rfl, hR, hK⟩
        rw [Int.toNat_natCast, show (1 : Int).toNat = 1 from rfl, HY.out]
        have HJd := Aside0.mk hR
        have HWd : Aside0 (IsW wd g2 P ys) := ⟨HWc.out.kept hK.1 (fun j hj h => by have := HPb.out j hj; have := HS78.out; have := HS89.out; omega)⟩
        have HId : Aside0 (IsR wd g3 (fun k => w7.heap.size ≤ k ∧ k < w8.heap.size) b ((k : Int) + 1)) := ⟨HIc.out.kept hK.1 (fun j hj h => by have := HS89.out; omega)⟩
        have HBd : Aside0 (Below w.heap.size w wd) := ⟨below_kp HBc.out hK (fun j hj => by have := HS07.out; have := HS78.out; have := HS89.out; omega) (Nat.le_refl _)⟩
        clear hR hK HWc HIc HJc HBc
        obtain ⟨z, hz⟩ : ∃ z, bval ((ys.drop k).take 1) = z := ⟨_, rfl⟩
        rw [hz]
        have t3 : (z != z) = false := by simp
        clear hz
        go_wp2_with fail
        go_roundw
        case rel => exact ⟨k + 1, by omega, by first | (simp; done) | (congr 1; omega), HWd, HId, HJd, HBd⟩
        case measure => simp [intOf]; omega
      · have t1 : decide ((k : Int) < (ys.length : Int)) = false := decide_eq_false (by omega)
        have t2 : decide (k < ys.length) = false := decide_eq_false hlt
        go_wp2_with fail
        go_ret
        exact ⟨rfl, HB.out⟩
  · have b0 : (f != 0) = true := bne_iff_ne.mpr c1
    have hu0 : u = 0 := takeS_err HTS.out c1
    subst hu0
    clear c1 HPP
    go_wp2
    go_ret
    exact ⟨rfl, HB4.out⟩
end Go.Proofs.Ytnjfojpjfmnmcaa.Rice
