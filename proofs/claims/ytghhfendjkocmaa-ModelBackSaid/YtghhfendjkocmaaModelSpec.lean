/- The model in plain words: the states that the contexts have, how many have seen a symbol; the map's words. No walk. -/
import Derived.Test.YtghhfendjkocmaaRiceSpec
import Derived.Test.YtghhfendjkocmaaBitsRead3
import Derived.WideKeyPair
import Derived.DeepKeys5
import Derived.Maps.OwnSet
namespace Go.Proofs.Ytghhfendjkocmaa.Model
open Go.RowKit Go.ChangeShapes Go.WideShapes Go.Proofs.Ytghhfendjkocmaa.Bits Go.Proofs.Ytghhfendjkocmaa.Rice Go.Proofs.YtghhfendjkocmaaW.PrintWords Go.Proofs.YtghhfendjkocmaaW.PrintMore Go.Proofs.Ytghhfendjkocmaa.BP
set_option linter.unusedVariables false
set_option linter.unusedSimpArgs false

/-- Planes, contexts and symbols, as they were seen. -/
abbrev Seen := List (Int × Int × Int)
def z3 : Int × Int × Int := (0, 0, 0)
def KeyOk (p c : Int) : Prop := 0 ≤ p ∧ p < 4 ∧ 0 ≤ c ∧ c < 256
instance (p c : Int) : Decidable (KeyOk p c) := by unfold KeyOk; infer_instance
def stStep (s : Int × Int) (u : Int) : Int × Int := ((nextL s.1 s.2 u).1, (nextL s.1 s.2 u).2.1)
def stOne (p c : Int) (s : Int × Int) (x : Int × Int × Int) : Int × Int := if x.1 = p ∧ x.2.1 = c then stStep s x.2.2 else s
/-- A context's state, told by all that was seen. -/
def stOf (d p c : Int) (seen : Seen) : Int × Int := seen.foldl (stOne p c) (startL d)
def isAt (p c : Int) (x : Int × Int × Int) : Bool := decide (x.1 = p ∧ x.2.1 = c)
def hasOf (p c : Int) (seen : Seen) : Bool := seen.any (isAt p c)
/-- How many contexts have seen something. -/
def cntOf (seen : Seen) : Nat := ((List.range seen.length).filter fun i => !hasOf (seen.getD i z3).1 (seen.getD i z3).2.1 (seen.take i)).length
theorem stOf_snoc (d p c : Int) (seen : Seen) (x : Int × Int × Int) : stOf d p c (seen ++ [x]) = stOne p c (stOf d p c seen) x := by simp [stOf, List.foldl_append]
theorem hasOf_snoc (p c : Int) (seen : Seen) (x : Int × Int × Int) : hasOf p c (seen ++ [x]) = (hasOf p c seen || isAt p c x) := by simp [hasOf, List.any_append]
theorem isAt_self (p c u : Int) : isAt p c (p, c, u) = true := by simp [isAt]
theorem cntOf_nil : cntOf [] = 0 := rfl
theorem cntOf_snoc (seen : Seen) (x : Int × Int × Int) : cntOf (seen ++ [x]) = cntOf seen + if hasOf x.1 x.2.1 seen then 0 else 1 := by
  unfold cntOf
  rw [List.length_append, List.length_singleton, List.range_succ, List.filter_append, List.length_append]
  have e1 : (List.range seen.length).filter (fun i => !hasOf ((seen ++ [x]).getD i z3).1 ((seen ++ [x]).getD i z3).2.1 ((seen ++ [x]).take i)) = (List.range seen.length).filter (fun i => !hasOf (seen.getD i z3).1 (seen.getD i z3).2.1 (seen.take i)) := by
    refine List.filter_congr fun i hi => ?_
    have hi := List.mem_range.1 hi
    rw [List.take_append_of_le_length (by omega)]
    simp only [List.getD_eq_getElem?_getD, List.getElem?_append_left hi]
  rw [e1]
  congr 1
  have e2 : (seen ++ [x]).getD seen.length z3 = x := by simp
  have e3 : (seen ++ [x]).take seen.length = seen := by simp
  rw [List.filter_cons, e2, e3]
  cases hasOf x.1 x.2.1 seen <;> rfl
theorem cntOf_le (seen : Seen) : cntOf seen ≤ seen.length := by
  unfold cntOf
  have := List.length_filter_le (fun i => !hasOf (seen.getD i z3).1 (seen.getD i z3).2.1 (seen.take i)) (List.range seen.length)
  rwa [List.length_range] at this
theorem stOf_not {d p c : Int} : ∀ {seen : Seen}, hasOf p c seen = false → stOf d p c seen = startL d := by
  intro seen h
  unfold stOf
  generalize startL d = s
  induction seen with
  | nil => rfl
  | cons x t ih =>
    simp only [hasOf, List.any_cons, Bool.or_eq_false_iff] at h
    rw [List.foldl_cons]
    have e : stOne p c s x = s := by
      unfold stOne
      rw [if_neg (by simpa [isAt] using h.1)]
    rw [e]
    exact ih h.2
theorem next_mayM {n s d u : Int} (hf : FitsP n s d u) : nextL n s u = ((nextL n s u).1, (nextL n s u).2.1, 0) ∧ MayP (nextL n s u).1 (nextL n s u).2.1 := by
  have hu := fits_lt hf
  have hm := hf.1
  have e16 : (2 : Int) ^ (16 : Int).toNat = 65536 := by decide
  have hf16 : FitsP n s 16 u := ⟨hf.1, by decide, by decide, hu.1, (div0 hu.1).mpr (by rw [e16]; omega)⟩
  unfold MayP at hm
  unfold nextL
  rw [if_pos hf16]
  by_cases hn : n = 31
  · rw [if_pos hn]
    refine ⟨rfl, ?_⟩
    unfold MayP
    simp only
    split <;> omega
  · rw [if_neg hn]
    refine ⟨rfl, ?_⟩
    unfold MayP
    simp only
    split <;> omega
theorem start_may {d : Int} (h1 : 1 ≤ d) (h2 : d ≤ 16) : MayP (startL d).1 (startL d).2 := by
  unfold startL
  rw [if_neg (by omega)]
  have hp := pow16 (k := (d / 2).toNat) (by omega)
  unfold MayP
  simp only
  omega
/-- All that was seen could be written. -/
inductive Good (d : Int) : Seen → Prop
  | nil : Good d []
  | snoc {s : Seen} {p c u : Int} : Good d s → KeyOk p c → FitsP (stOf d p c s).1 (stOf d p c s).2 d u → Good d (s ++ [(p, c, u)])
theorem Good.may {d : Int} (h1 : 1 ≤ d) (h2 : d ≤ 16) {s : Seen} (h : Good d s) (p c : Int) : MayP (stOf d p c s).1 (stOf d p c s).2 := by
  induction h with
  | nil => exact start_may h1 h2
  | snoc hs hk hf ih =>
    rename_i s0 p0 c0 u0
    rw [stOf_snoc]
    unfold stOne
    by_cases h : p0 = p ∧ c0 = c
    · rw [if_pos h]
      obtain ⟨rfl, rfl⟩ := h
      exact (next_mayM hf).2
    · rw [if_neg h]; exact ih

/-! ### The map's words -/
def klM (p c : Int) : Lit := .string (keyBytes [.int .i64 p, .int .i64 c])
def encM (s : Int × Int) : DataW Unit := .agg [.lit (.int .i64 s.1), .lit (.int .i64 s.2)]
def stElem (v : Value) : Option (DataW Unit × List MemPlace) :=
  match v with
  | .agg cs => (match cs.toList with
    | [.int .i64 a, .int .i64 b] => some (encM (a, b), [])
    | _ => none)
  | _ => none
theorem stElem_mk (a b : Int) : stElem (.agg #[.int .i64 a, .int .i64 b]) = some (encM (a, b), []) := rfl
theorem encM_inj {s r : Int × Int} (h : encM s = encM r) : s = r := by
  unfold encM at h
  injection h with h
  injection h with h1 h2
  injection h2 with h2 h3
  injection h1 with h1
  injection h2 with h2
  injection h1 with _ h1
  injection h2 with _ h2
  exact Prod.ext h1 h2
theorem stElem_inv {v : Value} {s : Int × Int} {ps : List MemPlace} (h : stElem v = some (encM s, ps)) : v = .agg #[.int .i64 s.1, .int .i64 s.2] := by
  unfold stElem at h
  split at h
  · rename_i cs
    split at h
    · rename_i a b he
      injection h with h
      injection h with h _
      have := encM_inj h
      subst this
      have e2 := congrArg List.toArray he
      rw [Array.toArray_toList] at e2
      rw [e2]
    · cases h
  · cases h
theorem laidOut : laidOutB Try.prog = true := by kernel_rfl
theorem keyLaw : Maps.Keyed Try.prog 70 := Maps.Keyed.of_law (deep_law_gate laidOut (of_decide_eq_true (by kernel_rfl)) (of_decide_eq_true (by kernel_rfl)) (by kernel_rfl) (by kernel_rfl))
theorem arrKey : WideMaps.ArrKey Try.prog 70 3 2 := ⟨Try.underlying70, by kernel_rfl, by kernel_rfl, by kernel_rfl⟩
theorem wf_key {p c : Int} (h : KeyOk p c) : (Lit.int .i64 p).wf = true ∧ (Lit.int .i64 c).wf = true := by
  unfold KeyOk at h
  simp [Lit.wf, IntKind.min, IntKind.max, IntKind.signed, IntKind.bits]
  omega
theorem keyOfM {p c : Int} (h : KeyOk p c) : keyOf Try.prog 70 (.agg #[.int .i64 p, .int .i64 c]) = some (klM p c) :=
  WideMaps.keyOf_pair arrKey Try.underlying3 ⟨_, rfl⟩ (wf_key h).1 (wf_key h).2
theorem klM_key (p c : Int) : WideAt.IsKeyLit (klM p c) := trivial
theorem klM_inj {p c p1 c1 : Int} (h : KeyOk p c) (h1 : KeyOk p1 c1) (e : klM p c = klM p1 c1) : p = p1 ∧ c = c1 := by
  have := keyLaw.inj (keyOfM h) (by rw [keyOfM h1, e])
  injection this with this
  simp at this
  exact this
/-- A map reads as what was seen says. -/
structure MView (d : Int) (seen : Seen) (D : DataW Unit) : Prop where
  has : ∀ p c, KeyOk p c → Maps.has D (klM p c) = hasOf p c seen
  at_ : ∀ p c, KeyOk p c → hasOf p c seen = true → ∀ z, D.atKey (klM p c) z = encM (stOf d p c seen)
  size : Maps.size D = cntOf seen
  tidy : Maps.Tidy D
theorem MView.nil (d : Int) : MView d [] (.map []) := ⟨fun _ _ _ => rfl, (fun p c _ h => by cases h), rfl, Maps.tidy_empty⟩
theorem MView.put {d p c u : Int} {seen : Seen} {D : DataW Unit} (h : MView d seen D) (hk : KeyOk p c) : MView d (seen ++ [(p, c, u)]) (D.put (klM p c) (encM (stStep (stOf d p c seen) u))) := by
  refine ⟨fun p1 c1 h1 => ?_, fun p1 c1 h1 hh z => ?_, ?_, h.tidy.put (klM_key _ _) _⟩
  · rw [hasOf_snoc]
    by_cases e : p = p1 ∧ c = c1
    · obtain ⟨rfl, rfl⟩ := e
      rw [Maps.has_put_same h.tidy.isMap (klM_key _ _), isAt_self, Bool.or_true]
    · rw [Maps.has_put_other (fun e2 => e (by obtain ⟨a, b⟩ := klM_inj h1 hk e2; exact ⟨a.symm, b.symm⟩)), h.has _ _ h1]
      have : isAt p1 c1 (p, c, u) = false := by simp only [isAt, decide_eq_false_iff_not]; exact e
      rw [this, Bool.or_false]
  · rw [stOf_snoc]
    unfold stOne
    by_cases e : p = p1 ∧ c = c1
    · obtain ⟨rfl, rfl⟩ := e
      rw [Maps.atKey_put_same h.tidy.isMap (klM_key _ _), if_pos ⟨rfl, rfl⟩]
    · rw [Maps.atKey_put_other (fun e2 => e (by obtain ⟨a, b⟩ := klM_inj h1 hk e2; exact ⟨a.symm, b.symm⟩)), if_neg e]
      rw [hasOf_snoc] at hh
      have : isAt p1 c1 (p, c, u) = false := by simp only [isAt, decide_eq_false_iff_not]; exact e
      rw [this, Bool.or_false] at hh
      exact h.at_ _ _ h1 hh z
  · rw [Maps.size_put h.tidy, h.has _ _ hk, h.size, cntOf_snoc]
    cases hasOf p c seen <;> rfl

/-- A model at a block: its depth, and a map that reads as what it has seen. -/
def IsM (w : World) (g : Nat) (S : Nat → Prop) (d : Int) (seen : Seen) : Prop :=
  1 ≤ d ∧ d ≤ 16 ∧ Good d seen ∧ ∃ b D, S g ∧ S b ∧ g ≠ b ∧ w.heap[g]? = some (.cells #[.int .i64 d, .map (some b)] 64 (0, 0)) ∧ w.ownsMap Try.prog 70 stElem b seen.length D ∧ MView d seen D
theorem owns_same {w w1 : World} {k : TypeId} {R : Value → Option (DataW Unit × List MemPlace)} {b n : Nat} {D : DataW Unit} (h : w.ownsMap Try.prog k R b n D) (e : w1.heap[b]? = w.heap[b]?) : w1.ownsMap Try.prog k R b n D := by
  obtain ⟨es, clock, hb, r⟩ := h
  exact ⟨es, clock, e.trans hb, r⟩
theorem owns_lt {w : World} {k : TypeId} {R : Value → Option (DataW Unit × List MemPlace)} {b n : Nat} {D : DataW Unit} (h : w.ownsMap Try.prog k R b n D) : b < w.heap.size := by
  obtain ⟨es, clock, hb, r⟩ := h
  exact blk_lt hb
section
variable {w w1 : World} {g : Nat} {S S1 R : Nat → Prop} {d : Int} {seen : Seen}
theorem IsM.mono (h : IsM w g S d seen) (hs : ∀ k, S k → S1 k) : IsM w g S1 d seen := by
  obtain ⟨h1, h2, h3, b, D, hg, hb, hne, hc, ho, hv⟩ := h
  exact ⟨h1, h2, h3, b, D, hs _ hg, hs _ hb, hne, hc, ho, hv⟩
theorem IsM.bound (h : IsM w g S d seen) : IsM w g (fun k => S k ∧ k < w.heap.size) d seen := by
  obtain ⟨h1, h2, h3, b, D, hg, hb, hne, hc, ho, hv⟩ := h
  exact ⟨h1, h2, h3, b, D, ⟨hg, blk_lt hc⟩, ⟨hb, owns_lt ho⟩, hne, hc, ho, hv⟩
theorem IsM.kept (h : IsM w g S d seen) (hk : Kept w w1 R) (hd : ∀ k, S k → ¬ R k) : IsM w1 g S d seen := by
  obtain ⟨h1, h2, h3, b, D, hg, hb, hne, hc, ho, hv⟩ := h
  exact ⟨h1, h2, h3, b, D, hg, hb, hne, (hk.2 g (blk_lt hc) (hd g hg)).trans hc, owns_same ho (hk.2 b (owns_lt ho) (hd b hb)), hv⟩
theorem IsM.below (h : IsM w g S d seen) (hk : Below w.heap.size w w1) : IsM w1 g S d seen := h.kept (Kept.of_below hk (fun _ => False)) (fun _ _ h => h)
end
end Go.Proofs.Ytghhfendjkocmaa.Model
