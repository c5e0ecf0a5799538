/- Arguments that come in, read as data of any shape: what their cells say, the ranges of their numbers, and how much they weigh. -/
import Derived.Test.YtghhfendjkocmaaRows
import Derived.Test.YtghhfendjkocmaaWKept
import Derived.Test.YtghhfendjkocmaaWMore
import Derived.WalkKit
import Derived.ProofKit
import Derived.OpenShut
import Derived.Deep.Slices
import Derived.Deep.Fields
import Derived.ChangeSame
namespace Go.Proofs.Ytghhfendjkocmaa.Opens
open Go.RowKit Go.ChangeShapes Go.WideShapes Go.Deep Go.Proofs.YtghhfendjkocmaaW.PrintWords Go.Proofs.YtghhfendjkocmaaW.PrintMore
set_option linter.unusedVariables false

/-- Whatever is read at type t: its cells say a datum of the kind d, in range R, of weight at most its bulk. -/
def Opens (t : TypeId) {α : Type} (d : Kd α) (R : α → Prop) (m : α → Nat) : Prop :=
  ∀ (H : Type) (enc : TypeId × Value → H) (w : World) (base : Nat) (spare : Nat → Bool) (held : Bool) (n : Nat) (cs : List Value) (x : DataW H × List MemPlace),
    DataW.trod enc Try.prog w base spare held n t cs = some x → ∃ s, d.K w s cs ∧ R s ∧ m s ≤ Rows.uptoBulk x.1

theorem opens_int {t : TypeId} {k : IntKind} (ht : Try.prog.underlying t = some (.int k)) : Opens t (Kd.int k) (fun n => (Lit.int k n).wf = true) (fun _ => 1) := by
  intro H enc w base spare held n cs x h
  obtain ⟨a, rfl, rfl, hw⟩ := DataW.trod_int ht h
  exact ⟨a, rfl, hw, by simp [Rows.uptoBulk]⟩
theorem opens_bool {t : TypeId} (ht : Try.prog.underlying t = some .bool) : Opens t Kd.bool (fun _ => True) (fun _ => 1) := by
  intro H enc w base spare held n cs x h
  obtain ⟨a, rfl, rfl⟩ := DataW.trod_bool ht h
  exact ⟨a, rfl, trivial, by simp [Rows.uptoBulk]⟩
theorem opens_string {t : TypeId} (ht : Try.prog.underlying t = some .string) : Opens t Kd.string (fun s => s.size ≤ maxLen) (fun s => s.size + 1) := by
  intro H enc w base spare held n cs x h
  obtain ⟨a, rfl, rfl, hw⟩ := DataW.trod_string ht h
  refine ⟨a, rfl, hw, ?_⟩
  simp [Rows.uptoBulk]
theorem Opens.map {t : TypeId} {α β : Type} {d : Kd α} {d' : Kd β} {R : α → Prop} {m : α → Nat} {R' : β → Prop} {m' : β → Nat} (h : Opens t d R m) (f : α → β) (hK : ∀ w s cs, d.K w s cs → d'.K w (f s) cs) (hR : ∀ s, R s → R' (f s)) (hm : ∀ s, R s → m' (f s) ≤ m s) : Opens t d' R' m' := by
  intro H enc w base spare held n cs x hx
  obtain ⟨s, h1, h2, h3⟩ := h H enc w base spare held n cs x hx
  exact ⟨f s, hK _ _ _ h1, hR _ h2, Nat.le_trans (hm _ h2) h3⟩

theorem exists_list {α : Type} {P : Nat → α → Prop} : ∀ n : Nat, (∀ i, i < n → ∃ x, P i x) → ∃ l : List α, l.length = n ∧ ∀ i x, l[i]? = some x → P i x
  | 0, _ => ⟨[], rfl, fun i x h => by simp at h⟩
  | n + 1, h => by
    obtain ⟨l, hl, hp⟩ := exists_list n (fun i hi => h i (by omega))
    obtain ⟨x, hx⟩ := h n (by omega)
    refine ⟨l ++ [x], by simp [hl], fun i y hy => ?_⟩
    rcases Nat.lt_or_ge i n with hi | hi
    · rw [List.getElem?_append_left (by omega)] at hy
      exact hp i y hy
    · rw [List.getElem?_append_right (by omega)] at hy
      have : i = n := by
        rcases Nat.lt_or_ge (i - l.length) 1 with h1 | h1
        · omega
        · rw [List.getElem?_eq_none (by simpa using h1)] at hy; cases hy
      subst this
      rw [hl, Nat.sub_self] at hy
      cases hy
      exact hx
theorem bulkAll_append {H : Type} (l r : List (DataW H)) : Rows.uptoBulkAll (l ++ r) = Rows.uptoBulkAll l + Rows.uptoBulkAll r := by
  induction l with
  | nil => simp [Rows.uptoBulkAll]
  | cons x l ih => simp only [List.cons_append, Rows.uptoBulkAll, ih]; omega
theorem sum_le_bulk {H α : Type} (m : α → Nat) (D : Nat → DataW H) : ∀ (l : List α) , (∀ i x, l[i]? = some x → m x ≤ Rows.uptoBulk (D i)) → (l.map m).sum ≤ Rows.uptoBulkAll ((List.range l.length).map D) := by
  intro l
  generalize hn : l.length = n
  induction n generalizing l with
  | zero =>
    intro _
    rw [List.eq_nil_of_length_eq_zero hn]
    simp
  | succ n ih =>
    intro h
    obtain ⟨r, x, rfl⟩ : ∃ r x, l = r ++ [x] := by
      refine ⟨l.dropLast, l.getLast (by intro e; rw [e] at hn; cases hn), (List.dropLast_concat_getLast _).symm⟩
    have hr : r.length = n := by simpa using hn
    have h1 := ih r hr (fun i y hy => h i y (by rw [List.getElem?_append_left (List.getElem?_eq_some_iff.1 hy).1]; exact hy))
    have h2 := h n x (by rw [List.getElem?_append_right (by omega), hr, Nat.sub_self]; rfl)
    rw [List.range_succ, List.map_append, List.map_append, bulkAll_append, List.sum_append]
    simp only [List.map_cons, List.map_nil, List.sum_cons, List.sum_nil, Rows.uptoBulkAll]
    omega
/-- A slice: nil, or a row. -/
theorem opens_slice {t e : TypeId} {α : Type} {d : Kd α} {R : α → Prop} {m : α → Nat} (ht : Try.prog.underlying t = some (.slice e)) (hC : Try.prog.cellsOf e = d.sz) (hel : Opens e d R m) :
    Opens t (Kd.slice e d) (fun l => l.length ≤ maxLen ∧ ∀ x, x ∈ l → R x) (fun l => (l.map m).sum + 1) := by
  intro H enc w base spare held n cs x h
  rcases open_slice ht h with ⟨rfl, rfl⟩ | ⟨a, len, cap, mm, n', D, Pl, rfl, hb, hl, hm, hmm, rfl, hx⟩
  · exact ⟨[], ⟨none, 0, rfl, Nat.le_refl _, Kd.C_nil _ _⟩, ⟨Nat.zero_le _, fun x hx => by cases hx⟩, by simp [Rows.uptoBulk]⟩
  · have hlm : len ≤ mm := by rw [hmm]; split <;> omega
    obtain ⟨l, hll, hlp⟩ := exists_list (P := fun i s => ∃ cs', cs'.length = d.sz ∧ d.K w s cs' ∧ (∀ j, j < d.sz → w.cell? ((a.add (i * d.sz)).add j) = cs'[j]?) ∧ R s ∧ m s ≤ Rows.uptoBulk (D i)) len (fun i hi => by
      obtain ⟨cs', h1, h2⟩ := hx i (by omega)
      rw [hC] at h1
      obtain ⟨_, h3, h4⟩ := World.cells?_some h1
      obtain ⟨s, h5, h6, h7⟩ := hel H enc w base spare held n' cs' _ h2
      exact ⟨s, cs', h3, h5, h4, h6, h7⟩)
    refine ⟨l, ⟨some a, cap, by rw [hll], by omega, ?_⟩, ⟨by rw [hll]; omega, fun s hs => ?_⟩, ?_⟩
    · refine ⟨rfl, by unfold maxLen at hm; omega, fun _ => ⟨a, rfl, fun i s hi => ?_⟩⟩
      obtain ⟨cs', h3, h5, h4, _⟩ := hlp i s hi
      refine ⟨cs', h3, h5, fun j u hu => ?_⟩
      have hj : j < d.sz := by have := (List.getElem?_eq_some_iff.1 hu).1; omega
      rw [← hu, ← h4 j hj, Go.Deep.add_add]
    · obtain ⟨i, hi, rfl⟩ := List.getElem_of_mem hs
      obtain ⟨_, _, _, _, h6, _⟩ := hlp i _ (List.getElem?_eq_getElem hi)
      exact h6
    · have h := sum_le_bulk m D l (fun i s hs => by obtain ⟨_, _, _, _, _, h7⟩ := hlp i s hs; exact h7)
      rw [hll] at h
      simp only [Rows.uptoBulk]
      omega

theorem bulk_pair {H : Type} (x y : DataW H) : Rows.uptoBulkAll [x, y] = Rows.uptoBulk x + Rows.uptoBulk y := by simp [Rows.uptoBulkAll]
/-- A struct of two fields. -/
theorem opens_struct2 {t : TypeId} {f0 f1 : Field} {α β : Type} {d0 : Kd α} {d1 : Kd β} {R0 : α → Prop} {R1 : β → Prop} {m0 : α → Nat} {m1 : β → Nat} (ht : Try.prog.underlying t = some (.struct #[f0, f1]))
    (h0 : Opens f0.type d0 R0 m0) (h1 : Opens f1.type d1 R1 m1) (hC : Try.prog.cellsOf t = d0.sz + d1.sz) (o0 : f0.offset = 0) (o1 : f1.offset = d0.sz) (c0 : Try.prog.cellsOf f0.type = d0.sz) (c1 : Try.prog.cellsOf f1.type = d1.sz) :
    Opens t (Kd.pair d0 d1) (fun s => R0 s.1 ∧ R1 s.2) (fun s => m0 s.1 + m1 s.2) := by
  intro H enc w base spare held n cs x h
  obtain ⟨xs, n', _, rfl, hl, hlen, hf⟩ := DataW.trod_struct ht h
  have hf0 := hf 0 f0 rfl
  have hf1 := hf 1 f1 rfl
  rw [o0, c0, List.drop_zero] at hf0
  rw [o1, c1] at hf1
  match xs, hlen with
  | [y0, y1], _ =>
    obtain ⟨s0, k0, r0, b0⟩ := h0 H enc w base spare held n' _ _ hf0
    obtain ⟨s1, k1, r1, b1⟩ := h1 H enc w base spare held n' _ _ hf1
    rw [List.take_of_length_le (by rw [List.length_drop]; omega)] at k1
    refine ⟨(s0, s1), ⟨_, _, (List.take_append_drop d0.sz cs).symm, k0, k1⟩, ⟨r0, r1⟩, ?_⟩
    simp only [List.map_cons, List.map_nil, Rows.uptoBulk, Rows.uptoBulkAll]
    omega
/-- A struct of three fields. -/
theorem opens_struct3 {t : TypeId} {f0 f1 f2 : Field} {α β γ : Type} {d0 : Kd α} {d1 : Kd β} {d2 : Kd γ} {R0 : α → Prop} {R1 : β → Prop} {R2 : γ → Prop} {m0 : α → Nat} {m1 : β → Nat} {m2 : γ → Nat} (ht : Try.prog.underlying t = some (.struct #[f0, f1, f2]))
    (h0 : Opens f0.type d0 R0 m0) (h1 : Opens f1.type d1 R1 m1) (h2 : Opens f2.type d2 R2 m2) (hC : Try.prog.cellsOf t = d0.sz + (d1.sz + d2.sz)) (o0 : f0.offset = 0) (o1 : f1.offset = d0.sz) (o2 : f2.offset = d0.sz + d1.sz) (c0 : Try.prog.cellsOf f0.type = d0.sz) (c1 : Try.prog.cellsOf f1.type = d1.sz) (c2 : Try.prog.cellsOf f2.type = d2.sz) :
    Opens t (Kd.pair d0 (Kd.pair d1 d2)) (fun s => R0 s.1 ∧ R1 s.2.1 ∧ R2 s.2.2) (fun s => m0 s.1 + m1 s.2.1 + m2 s.2.2) := by
  intro H enc w base spare held n cs x h
  obtain ⟨xs, n', _, rfl, hl, hlen, hf⟩ := DataW.trod_struct ht h
  have hf0 := hf 0 f0 rfl
  have hf1 := hf 1 f1 rfl
  have hf2 := hf 2 f2 rfl
  rw [o0, c0, List.drop_zero] at hf0
  rw [o1, c1] at hf1
  rw [o2, c2] at hf2
  match xs, hlen with
  | [y0, y1, y2], _ =>
    obtain ⟨s0, k0, r0, b0⟩ := h0 H enc w base spare held n' _ _ hf0
    obtain ⟨s1, k1, r1, b1⟩ := h1 H enc w base spare held n' _ _ hf1
    obtain ⟨s2, k2, r2, b2⟩ := h2 H enc w base spare held n' _ _ hf2
    rw [List.take_of_length_le (by rw [List.length_drop]; omega)] at k2
    refine ⟨(s0, s1, s2), ⟨_, _, (List.take_append_drop d0.sz cs).symm, k0, _, _, (List.take_append_drop d1.sz (cs.drop d0.sz)).symm, k1, by rw [List.drop_drop]; exact k2⟩, ⟨r0, r1, r2⟩, ?_⟩
    simp only [List.map_cons, List.map_nil, Rows.uptoBulk, Rows.uptoBulkAll]
    omega
end Go.Proofs.Ytghhfendjkocmaa.Opens
