/- What was put is taken: the plain law. -/
import Derived.Test.YtghhfendjkocmaaRiceSpec
import Derived.Test.YtghhfendjkocmaaRicePuts
import Derived.Test.YtghhfendjkocmaaRiceCallsRead
namespace Go.Proofs.Ytghhfendjkocmaa.Rice
open Go.RowKit Go.Proofs.Ytghhfendjkocmaa.Bits Go.Proofs.YtghhfendjkocmaaW.PrintWords Go.Proofs.YtghhfendjkocmaaW.PrintMore Go.Proofs.Ytghhfendjkocmaa.BP
set_option linter.unusedVariables false
set_option linter.unusedSimpArgs false

theorem takeS_put {n s d u : Int} (hf : FitsP n s d u) (r : List Int) : takeS ((codeL n s d u).1 ++ r) n s d = (u, ((codeL n s d u).1.length : Int), 0) := by
  have hcode : codeL n s d u = (symL (paramK n s d.toNat) d.toNat u, 0) := by unfold codeL; rw [if_pos hf]
  rw [hcode]
  simp only
  have h0 := fits_zero hf
  have hu := fits_lt hf
  have hk := paramK_16 hf
  have hd0 := hf.2.1
  have hd1 := hf.2.2.1
  have hlen := symL_len (paramK n s d.toNat) d.toNat u
  rw [hlen]
  have hp := pow16 hk
  have hq0 : 0 ≤ u / 2 ^ paramK n s d.toNat := Int.ediv_nonneg hu.1 (by omega)
  unfold symL
  by_cases hq : 20 ≤ u / 2 ^ paramK n s d.toNat
  · rw [if_pos hq, if_pos hq]
    have ho := onesL_num (n := 20) (m := 20) (r := numBits u d.toNat ++ r) (l := List.replicate 20 1) (by unfold onesW; rw [if_neg (by decide), if_neg (by decide)]; simp)
    have ht := takeL_num (n := u) (w := d) (r := r) (l := numBits u d.toNat) (by unfold putL; rw [if_neg (by rintro (h | h | h | h); omega; omega; omega; exact h hf.2.2.2.2)])
    rw [List.append_assoc]
    have e := takeS_20 (l := List.replicate 20 1 ++ (numBits u d.toNat ++ r)) (x := u) (e := 0) h0 (by rw [ho]; rfl) (by rw [List.drop_left' (by simp)]; exact ht.1)
    rw [e, if_neg (by decide), if_neg (by omega)]
    congr 2
    omega
  · rw [if_neg hq, if_neg hq]
    generalize hqq : u / 2 ^ paramK n s d.toNat = q at hq0 hq
    have ho := onesL_num (n := q) (m := 20) (r := numBits (u % 2 ^ paramK n s d.toNat) (paramK n s d.toNat) ++ r) (l := List.replicate q.toNat 1 ++ [0]) (by unfold onesW; rw [if_neg (by omega), if_pos (by omega)])
    have hm0 := Int.emod_nonneg u (show (2 : Int) ^ paramK n s d.toNat ≠ 0 by omega)
    have hm1 := Int.emod_lt_of_pos u (show (0 : Int) < 2 ^ paramK n s d.toNat by omega)
    have ht := takeL_num (n := u % 2 ^ paramK n s d.toNat) (w := (paramK n s d.toNat : Int)) (r := r) (l := numBits (u % 2 ^ paramK n s d.toNat) (paramK n s d.toNat)) (by
      unfold putL
      rw [if_neg (by rintro (h | h | h | h); omega; omega; omega; exact h (by rw [Int.toNat_natCast]; exact (div0 hm0).mpr hm1)), Int.toNat_natCast])
    have hl1 : (List.replicate q.toNat (1 : Int) ++ [0]).length = (q + 1).toNat := by simp; omega
    rw [List.append_assoc, List.append_assoc] at *
    have e := takeS_lt (l := List.replicate q.toNat 1 ++ ([0] ++ (numBits (u % 2 ^ paramK n s d.toNat) (paramK n s d.toNat) ++ r))) (q := q) (x := u % 2 ^ paramK n s d.toNat) (e := 0) h0 (by rw [ho]; congr 2; rw [hl1]; omega) (by omega) (by rw [← List.append_assoc, List.drop_left' hl1]; exact ht.1)
    have hdm : q * 2 ^ paramK n s d.toNat + u % 2 ^ paramK n s d.toNat = u := by rw [← hqq, Int.mul_comm]; exact Int.mul_ediv_add_emod u _
    rw [e, if_neg (by decide), hdm, if_neg (by rw [hf.2.2.2.2]; decide)]
    congr 2
    omega
theorem next_may {n s d u : Int} (hf : FitsP n s d u) : nextL n s u = ((nextL n s u).1, (nextL n s u).2.1, 0) ∧ MayP (nextL n s u).1 (nextL n s u).2.1 := by
  have hu := fits_lt hf
  have hm := hf.1
  have e16 : (2 : Int) ^ (16 : Int).toNat = 65536 := by decide
  have hf16 : FitsP n s 16 u := ⟨hf.1, by decide, by decide, hu.1, (div0 hu.1).mpr (by rw [e16]; omega)⟩
  unfold MayP at hm
  unfold nextL
  rw [if_pos hf16]
  by_cases hn : n = 31
  · rw [if_pos hn]
    refine ⟨rfl, ?_⟩
    unfold MayP
    simp only
    split <;> omega
  · rw [if_neg hn]
    refine ⟨rfl, ?_⟩
    unfold MayP
    simp only
    split <;> omega
/-- What was put so far: state and symbol. -/
abbrev Hs := List (Int × Int × Int)
def bitsH (d : Int) (hs : Hs) : List Int := hs.flatMap fun x => (codeL x.1 x.2.1 d x.2.2).1
theorem bitsH_app (d : Int) (a b : Hs) : bitsH d (a ++ b) = bitsH d a ++ bitsH d b := by simp [bitsH]
theorem bitsH_one (d n s u : Int) : bitsH d [(n, s, u)] = (codeL n s d u).1 := by simp [bitsH]
theorem bitsH_01 (d : Int) (hs : Hs) : B01 (bitsH d hs) := by
  induction hs with
  | nil => exact B01.nil
  | cons x t ih =>
    have e : bitsH d (x :: t) = (codeL x.1 x.2.1 d x.2.2).1 ++ bitsH d t := rfl
    rw [e]
    exact B01.append (codeL_01 _ _ _ _) ih
theorem bitsH_len (d : Int) (hs : Hs) : (bitsH d hs).length ≤ 36 * hs.length := by
  induction hs with
  | nil => simp [bitsH]
  | cons x t ih =>
    have e : bitsH d (x :: t) = (codeL x.1 x.2.1 d x.2.2).1 ++ bitsH d t := rfl
    have := codeL_len x.1 x.2.1 d x.2.2
    rw [e, List.length_append, List.length_cons]
    omega
def h0 : Int × Int × Int := (0, 0, 0)
theorem hs_split (hs : Hs) {k : Nat} (hk : k < hs.length) : hs = hs.take k ++ (hs.getD k h0 :: hs.drop (k + 1)) := by
  rw [List.getD_eq_getElem?_getD, List.getElem?_eq_getElem hk, Option.getD_some, ← List.drop_eq_getElem_cons hk, List.take_append_drop]
theorem back_parts {d : Int} {hs : Hs} {pk : List Int} {m k : Nat} (hk : k < hs.length) (hpk : bitsOf pk = bitsH d hs ++ List.replicate m 0) (hfit : ∀ x, x ∈ hs → FitsP x.1 x.2.1 d x.2.2) :
    takeS ((bitsOf pk).drop (bitsH d (hs.take k)).length) (hs.getD k h0).1 (hs.getD k h0).2.1 d = ((hs.getD k h0).2.2, ((bitsH d (hs.take (k + 1))).length : Int) - (bitsH d (hs.take k)).length, 0) := by
  have hmem : hs.getD k h0 ∈ hs := by rw [List.getD_eq_getElem?_getD, List.getElem?_eq_getElem hk]; exact List.getElem_mem hk
  have e := hs_split hs hk
  have e2 : hs.take (k + 1) = hs.take k ++ [hs.getD k h0] := by rw [List.take_add_one, List.getElem?_eq_getElem hk, List.getD_eq_getElem?_getD, List.getElem?_eq_getElem hk]; rfl
  have e3 : bitsH d hs = bitsH d (hs.take k) ++ (bitsH d [hs.getD k h0] ++ bitsH d (hs.drop (k + 1))) := by
    conv => lhs; rw [e]
    rw [bitsH_app, ← bitsH_app d [hs.getD k h0]]; rfl
  rw [hpk, e3, List.append_assoc, List.drop_left, List.append_assoc, e2, bitsH_app]
  generalize hs.getD k h0 = x at hmem
  obtain ⟨n, s, u⟩ := x
  rw [bitsH_one, List.length_append]
  show takeS ((codeL n s d u).1 ++ _) n s d = _
  rw [takeS_put (hfit _ hmem)]
  congr 2
  show ((codeL n s d u).1.length : Int) = _
  omega
end Go.Proofs.Ytghhfendjkocmaa.Rice
