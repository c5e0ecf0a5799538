/- RicePuts: the walk. -/
import Derived.Test.YtghhfendjkocmaaRiceAwake
import Derived.Deep.RegionHeld3
import Derived.WalkSpells
namespace Go.Proofs.Ytghhfendjkocmaa.Rice
open Go.RowKit Go.Proofs.Ytghhfendjkocmaa.Bits Go.Proofs.YtghhfendjkocmaaW.PrintWords Go.Proofs.YtghhfendjkocmaaW.PrintMore Go.Proofs.Ytghhfendjkocmaa.BP
set_option linter.unusedVariables false
set_option linter.unusedSimpArgs false


/-- A kind whose cells are told outright. -/
def flatK {α : Type} (n : Nat) (enc : α → List Value) (hl : ∀ x, (enc x).length = n) (h1 : ∀ x, ∀ u ∈ enc x, u.oneCell' = true) : Kd α where
  sz := n
  E := []
  K := fun _ x cs => cs = enc x
  M := fun _ _ _ x cs => cs = enc x
  K_len := by rintro w x cs rfl; exact hl x
  K_one := by rintro w x cs rfl; exact h1 x
  K_below := fun _ h => h
  K_of_M := fun h => h
  M_mono := fun _ h => h
  M_bound := fun h => h
  M_move := fun _ h => h
  M_lower := fun _ h => h
/-- A symbol, written in a state: n, sum, depth, symbol. -/
abbrev RStep := Int × Int × Int × Int
def encR (s : RStep) : List Value := [.int .i64 s.1, .int .i64 s.2.1, .int .i64 s.2.2.1, .int .i64 s.2.2.2]
def rstepK : Kd RStep := flatK 4 encR (fun _ => rfl) (fun x u hu => by
  simp only [encR, List.mem_cons, List.not_mem_nil, or_false] at hu
  rcases hu with rfl | rfl | rfl | rfl <;> rfl)
def rstep0 : RStep := (0, 0, 0, 0)
theorem add_next (ad : Addr) (a b : Nat) (hb : 0 < b) : ad.add (a + b) = ⟨(ad.add a).block, (ad.add a).off + b, none⟩ := by
  unfold Addr.add
  rw [if_neg (by omega)]
  by_cases h : a = 0
  · rw [if_pos h]; subst h; simp
  · rw [if_neg h]; simp; omega
theorem rstep_cells {w : World} {A : Option Addr} {n : Nat} {xs : List RStep} (h : rstepK.C w A n xs) (k : Nat) (hk : k < n) :
    ∃ ad, A = some ad ∧ w.cell? (ad.add (k * 4)) = some (.int .i64 (xs.getD k rstep0).1) ∧ w.cell? ⟨(ad.add (k * 4)).block, (ad.add (k * 4)).off + 1, none⟩ = some (.int .i64 (xs.getD k rstep0).2.1) ∧ w.cell? ⟨(ad.add (k * 4)).block, (ad.add (k * 4)).off + 2, none⟩ = some (.int .i64 (xs.getD k rstep0).2.2.1) ∧ w.cell? ⟨(ad.add (k * 4)).block, (ad.add (k * 4)).off + 3, none⟩ = some (.int .i64 (xs.getD k rstep0).2.2.2) := by
  obtain ⟨ad, c, rfl, hl, hK, hc⟩ := Kd.C_get h rstep0 (k : Int) (by omega) (by omega)
  simp only [Int.toNat_natCast] at hK hc
  cases hK
  exact ⟨ad, rfl, hc 0 _ rfl, by rw [← add_next ad (k * 4) 1 (by decide)]; exact hc 1 _ rfl, by rw [← add_next ad (k * 4) 2 (by decide)]; exact hc 2 _ rfl, by rw [← add_next ad (k * 4) 3 (by decide)]; exact hc 3 _ rfl⟩

def codesL (l : List RStep) : List Int := l.flatMap fun s => (codeL s.1 s.2.1 s.2.2.1 s.2.2.2).1
theorem codesL_app (l m : List RStep) : codesL (l ++ m) = codesL l ++ codesL m := by simp [codesL]
theorem codesL_one (n s d u : Int) : codesL [(n, s, d, u)] = (codeL n s d u).1 := by simp [codesL]
theorem codeL_len (n s d u : Int) : (codeL n s d u).1.length ≤ 36 := by
  unfold codeL
  by_cases h : FitsP n s d u
  · rw [if_pos h]
    have hk := paramK_16 h
    have hd := h.2.2.1
    have hu := fits_lt h
    simp only [symL_len]
    split
    · omega
    · have := Int.ediv_nonneg hu.1 (show (0 : Int) ≤ 2 ^ paramK n s d.toNat from Int.le_of_lt (Int.pow_pos (by decide)))
      omega
  · rw [if_neg h]; simp
theorem codeL_01 (n s d u : Int) : B01 (codeL n s d u).1 := by
  unfold codeL
  split
  · show B01 (symL _ _ _)
    unfold symL
    split
    · exact B01.append (fun b hb => .inr (List.eq_of_mem_replicate hb)) (numBits_01 _ _)
    · exact B01.append (B01.append (fun b hb => .inr (List.eq_of_mem_replicate hb)) (fun b hb => .inl (by simpa using hb))) (numBits_01 _ _)
  · exact B01.nil
theorem codesL_len (l : List RStep) : (codesL l).length ≤ 36 * l.length := by
  induction l with
  | nil => simp [codesL]
  | cons s t ih =>
    have : codesL (s :: t) = (codeL s.1 s.2.1 s.2.2.1 s.2.2.2).1 ++ codesL t := rfl
    have := codeL_len s.1 s.2.1 s.2.2.1 s.2.2.2
    simp_all
    omega
theorem take_rstep (l : List RStep) {k : Nat} (hk : k < l.length) : l.take (k + 1) = l.take k ++ [l.getD k rstep0] := by
  rw [List.take_add_one, List.getElem?_eq_getElem hk, List.getD_eq_getElem?_getD, List.getElem?_eq_getElem hk]; rfl
theorem below0 {w w2 : World} (hB : Below w.drew.heap.size w.drew w2) : Below w.heap.size w w2 := below_step (below_drew1 (Below.refl w.heap.size w)) hB

end Go.Proofs.Ytghhfendjkocmaa.Rice
