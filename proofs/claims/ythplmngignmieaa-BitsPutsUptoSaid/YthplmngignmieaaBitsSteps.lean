/- Rows of structs of one-cell fields; a step of the laws of layer 2; puts. -/
import Derived.Test.YthplmngignmieaaRefBits3
import Derived.Test.YthplmngignmieaaBitsAwake
import Derived.Test.YthplmngignmieaaBitsPure2
namespace Go.Proofs.Ythplmngignmieaa.Bits
open Go.RowKit Go.Proofs.YthplmngignmieaaW.PrintWords Go.Proofs.YthplmngignmieaaW.PrintMore Go.Proofs.Ythplmngignmieaa.BP
set_option linter.unusedVariables false
set_option linter.unusedSimpArgs false

/-- A kind whose cells are told outright. -/
def flatK {α : Type} (n : Nat) (enc : α → List Value) (hl : ∀ x, (enc x).length = n) (h1 : ∀ x, ∀ u ∈ enc x, u.oneCell' = true) : Kd α where
  sz := n
  E := []
  K := fun _ x cs => cs = enc x
  M := fun _ _ _ x cs => cs = enc x
  K_len := by rintro w x cs rfl; exact hl x
  K_one := by rintro w x cs rfl; exact h1 x
  K_below := fun _ h => h
  K_of_M := fun h => h
  M_mono := fun _ h => h
  M_bound := fun h => h
  M_move := fun _ h => h
  M_lower := fun _ h => h

abbrev StepT := Bool × Int × Int
def encStep (s : StepT) : List Value := [.bool s.1, .int .i64 s.2.1, .int .i64 s.2.2]
def stepK : Kd StepT := flatK 3 encStep (fun _ => rfl) (fun x u hu => by
  simp only [encStep, List.mem_cons, List.not_mem_nil, or_false] at hu
  rcases hu with rfl | rfl | rfl <;> rfl)
theorem infoStep : (Try.prog.info? 30).map (fun i => (i.zero, i.size, i.bytes)) = some (some (.agg #[.bool false, .int .i64 0, .int .i64 0]), 3, 24) := by kernel_rfl
def step0 : StepT := (false, 0, 0)
/-- The bits that a step writes; none: it is refused. -/
def stepL (s : StepT) : Option (List Int) := if s.1 then onesW s.2.1 s.2.2 else putL s.2.1 s.2.2
theorem stepL_01 {s : StepT} {l : List Int} (h : stepL s = some l) : B01 l := by
  unfold stepL at h
  split at h
  · exact onesW_01 h
  · exact putL_01 h
theorem stepL_len {s : StepT} {l : List Int} (h : stepL s = some l) : l.length ≤ 65 := by
  unfold stepL at h
  split at h
  · unfold onesW at h
    split at h
    · cases h
    · cases h
      split <;> simp <;> omega
  · unfold putL at h
    split at h
    · cases h
    · cases h
      rw [numBits_len]; omega
theorem add_next (ad : Addr) (a b : Nat) (hb : 0 < b) : ad.add (a + b) = ⟨(ad.add a).block, (ad.add a).off + b, none⟩ := by
  unfold Addr.add
  rw [if_neg (by omega)]
  by_cases h : a = 0
  · rw [if_pos h]; subst h; simp
  · rw [if_neg h]; simp; omega
/-- The cells of an element. -/
theorem step_cells {w : World} {A : Option Addr} {n : Nat} {xs : List StepT} (h : stepK.C w A n xs) (k : Nat) (hk : k < n) :
    ∃ ad, A = some ad ∧ w.cell? (ad.add (k * 3)) = some (.bool (xs.getD k step0).1) ∧ w.cell? ⟨(ad.add (k * 3)).block, (ad.add (k * 3)).off + 1, none⟩ = some (.int .i64 (xs.getD k step0).2.1) ∧ w.cell? ⟨(ad.add (k * 3)).block, (ad.add (k * 3)).off + 2, none⟩ = some (.int .i64 (xs.getD k step0).2.2) := by
  obtain ⟨ad, c, rfl, hl, hK, hc⟩ := Kd.C_get h step0 (k : Int) (by omega) (by omega)
  simp only [Int.toNat_natCast] at hK hc
  cases hK
  exact ⟨ad, rfl, hc 0 _ rfl, by rw [← add_next ad (k * 3) 1 (by decide)]; exact hc 1 _ rfl, by rw [← add_next ad (k * 3) 2 (by decide)]; exact hc 2 _ rfl⟩

def StepPost (w : World) (g : Nat) (S : Nat → Prop) (bs : List Int) (s : StepT) (e : Ending) (w' : World) : Prop :=
  (∀ l, stepL s = some l → e = .returned (.int .i64 0) ∧ IsW w' g (fun k => S k ∨ w.heap.size ≤ k) (bs ++ l)) ∧ (stepL s = none → e = .returned (.int .i64 1) ∧ IsW w' g (fun k => S k ∨ w.heap.size ≤ k) bs) ∧ Kp w w' S

set_option maxHeartbeats 400000 in
theorem puts_calls (g : Nat) (S : Nat → Prop) (bs : List Int) (b : Bool) (n m : Int) (w : World) (h : IsW w g S bs) (hl : bs.length < 1099511627700) :
    Calls Try.prog 11 #[.pointer (some ⟨g, 0, none⟩), .agg #[.bool b, .int .i64 n, .int .i64 m]] w fun e w' => StepPost w g S bs (b, n, m) e w' := by
  have hu := Try.underlying30
  have H1 : Aside0 (IsW (w.alloc (.cells #[.bool b, .int .i64 n, .int .i64 m] 30)) g S bs) := ⟨h.below (below_alloc (Below.refl _ _) _)⟩
  have HK : Aside0 (Kp w (w.alloc (.cells #[.bool b, .int .i64 n, .int .i64 m] 30)) S) := ⟨(Kp.refl w S).alloc _⟩
  clear h
  cases b with
  | true =>
    cases hs : onesW n m with
    | none =>
      have hc : m < 0 ∨ 64 < m ∨ n < 0 ∨ m < n := by
        unfold onesW at hs
        split at hs
        · assumption
        · cases hs
      have HS := Aside0.mk hs
      clear hs
      go_enter Try.func11, Try.ntmps11
      go_wp2_with fail
      refine (ones_no g n m _ hc).mono ?_
      rintro e w' ⟨rfl, rfl⟩
      clear hc
      go_wp2
      go_ret
      exact ⟨fun l hl => absurd (HS.out.symm.trans hl) (by simp), fun _ => ⟨rfl, H1.out.mono (fun k hk => .inl hk)⟩, HK.out⟩
    | some l =>
      have hc : ¬ (m < 0 ∨ 64 < m ∨ n < 0 ∨ m < n) ∧ l = List.replicate n.toNat 1 ++ if n < m then [0] else [] := by
        unfold onesW at hs
        split at hs
        · cases hs
        · cases hs; exact ⟨by assumption, rfl⟩
      have HS := Aside0.mk hs
      have HC := Aside0.mk hc
      clear hs hc
      go_enter Try.func11, Try.ntmps11
      go_wp2_with fail
      refine (ones_ok g S bs n m _ H1.out (by have := HC.out.1; omega) (by have := HC.out.1; omega) (by have := HC.out.1; omega) (by have := HC.out.1; omega) hl).mono ?_
      rintro e w' ⟨rfl, hW, hK⟩
      have HW := Aside0.mk hW
      have HK2 := Aside0.mk hK
      clear hW hK
      go_wp2
      go_ret
      refine ⟨fun l2 hl2 => ⟨rfl, ?_⟩, fun hn => absurd (HS.out.symm.trans hn) (by simp), HK.out.then_ HK2.out (fun k hk => .inl hk)⟩
      obtain rfl : l = l2 := by have := HS.out.symm.trans hl2; simpa using this
      rw [HC.out.2]
      exact HW.out.mono (fun k hk => hk.elim .inl (fun h => .inr (Nat.le_trans (by simp) h)))
  | false =>
    cases hs : putL n m with
    | none =>
      have hc : m < 0 ∨ 32 < m ∨ n < 0 ∨ n / 2 ^ m.toNat ≠ 0 := by
        unfold putL at hs
        split at hs
        · assumption
        · cases hs
      have HS := Aside0.mk hs
      have HC := Aside0.mk hc
      clear hs hc
      go_enter Try.func11, Try.ntmps11
      go_wp2_with fail
      refine (put_no g n m _ HC.out).mono ?_
      rintro e w' ⟨rfl, rfl⟩
      go_wp2
      go_ret
      exact ⟨fun l hl => absurd (HS.out.symm.trans hl) (by simp), fun _ => ⟨rfl, H1.out.mono (fun k hk => .inl hk)⟩, HK.out⟩
    | some l =>
      have hc : ¬ (m < 0 ∨ 32 < m ∨ n < 0 ∨ n / 2 ^ m.toNat ≠ 0) ∧ l = numBits n m.toNat := by
        unfold putL at hs
        split at hs
        · cases hs
        · cases hs; exact ⟨by assumption, rfl⟩
      have HS := Aside0.mk hs
      have HC := Aside0.mk hc
      clear hs hc
      go_enter Try.func11, Try.ntmps11
      go_wp2_with fail
      refine (put_ok g S bs n m _ H1.out (by have := HC.out.1; omega) (by have := HC.out.1; omega) (by have := HC.out.1; omega) (by have := HC.out.1; exact Decidable.not_not.mp (fun h => this (.inr (.inr (.inr h))))) hl).mono ?_
      rintro e w' ⟨rfl, hW, hK⟩
      have HW := Aside0.mk hW
      have HK2 := Aside0.mk hK
      clear hW hK
      go_wp2
      go_ret
      refine ⟨fun l2 hl2 => ⟨rfl, ?_⟩, fun hn => absurd (HS.out.symm.trans hn) (by simp), HK.out.then_ HK2.out (fun k hk => .inl hk)⟩
      obtain rfl : l = l2 := by have := HS.out.symm.trans hl2; simpa using this
      rw [HC.out.2]
      exact HW.out.mono (fun k hk => hk.elim .inl (fun h => .inr (Nat.le_trans (by simp) h)))
end Go.Proofs.Ythplmngignmieaa.Bits
