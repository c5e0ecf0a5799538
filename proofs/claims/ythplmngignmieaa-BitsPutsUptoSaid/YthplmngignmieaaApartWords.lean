/- Words for rows of slices: an append onto a row of which the elder, shorter slice is still read; a slice's value as an element. -/
import Derived.Test.YthplmngignmieaaRefBits3
import Derived.Test.YthplmngignmieaaWShare
import Derived.Test.YthplmngignmieaaWApart
import Derived.Laws.Append
namespace Go.Proofs.Ythplmngignmieaa.Bits
open Go.RowKit Go.Proofs.YthplmngignmieaaW.PrintWords Go.Proofs.YthplmngignmieaaW.PrintMore Go.Proofs.Ythplmngignmieaa.BP
set_option linter.unusedVariables false
set_option linter.unusedSimpArgs false

/-- A slice as a value: address, length, capacity. -/
abbrev SV := Option Addr × Nat × Nat
def encS (s : SV) : Value := .slice s.1 s.2.1 s.2.2
def sv0 : SV := (none, 0, 0)
def svK : Kd SV := Kd.scalar encS (fun _ => rfl)
theorem at_sv {w : World} {A : Option Addr} {n : Nat} {xs : List SV} (h : svK.C w A n xs) (i : Int) (h0 : 0 ≤ i) (h1 : i < n) : ∃ ad, A = some ad ∧ w.cell? (ad.add i.toNat) = some (.slice (xs.getD i.toNat sv0).1 (xs.getD i.toNat sv0).2.1 (xs.getD i.toNat sv0).2.2) :=
  ReadsOf.at_ (Kd.reads_of_C (d := sv0) (h1 := fun _ => rfl) h) i h0 h1

theorem add_block (ad : Addr) (j : Nat) : (ad.add j).block = ad.block := by unfold Addr.add; split <;> rfl
/-- What is read lies in one block. -/
theorem C_same {α : Type} (enc : α → Value) (d : α) {h1 : ∀ x, (enc x).oneCell' = true} {w w' : World} {A : Option Addr} {n : Nat} {xs : List α} (h : (Kd.scalar enc h1).C w A n xs) (hb : ∀ ad, A = some ad → 0 < n → w'.heap[ad.block]? = w.heap[ad.block]?) : (Kd.scalar enc h1).C w' A n xs := by
  obtain ⟨a, b, c⟩ := Kd.reads_of_C (d := d) h
  refine Kd.C_of_reads (d := d) ⟨a, b, fun hn => ?_⟩
  obtain ⟨ad, e, hc⟩ := c hn
  exact ⟨ad, e, fun j hj => (World.cell?_of_block (by rw [add_block]; exact hb ad e hn)).trans (hc j hj)⟩

/-- One element is appended: the new slice lies where the old one lies, or in a new block, and then the old one's block is as it was. -/
theorem run_append_keep {P : Program} {w : World} (base : Nat) (t ty e : TypeId) (i : TypeInfo) (z : Value) (size bytes : Nat) (ht : P.underlying t = some (.slice e)) (hi : P.info? e = some i) (hz : i.zero = some z)
    (hsize : i.size = size) (hby : i.bytes = bytes) (hzs : z.cells.size = size) (hsz : 0 < size)
    (v : Value) (n : Nat) (xs : List Value) (hown : w.ownsRow base e size v n xs)
    (a : Addr) (m c : Nat) (news : List Value) (hl : news.length = m * size) (hnews : ∀ j u, news[j]? = some u → w.cell? (a.add j) = some u) (h1 : ∀ u ∈ news, u.oneCell' = true)
    (h63 : n + m ≤ maxLen) (hbytes : (n + m) * bytes ≤ 140737488355328) (hbase : base ≤ w.heap.size) :
    ∃ v' w', (Builtin.append_ #[t, t] ty #[v, .slice (some a) m c]).run P w = .ok v' w' ∧ w'.ownsRow base e size v' (n + m) (xs ++ news) ∧ w.grownBy w' v.ownBlock ∧
      (v'.ownBlock = v.ownBlock ∨ (v'.ownBlock = some w.heap.size ∧ Below w.heap.size w w')) := by
  obtain ⟨v', w', hr, h2, h3, h4, h5⟩ := run_append_own_at (P := P) w base t ty e i z size bytes ht hi hz hsize hby hzs hsz v n xs hown a m c news hl hnews h1 h63 hbytes hbase
  refine ⟨v', w', hr, h2, h3, ?_⟩
  rcases h5 with h5 | h5
  · exact .inl h5
  · right
    refine ⟨h5, ?_⟩
    have hof : ∀ row, w.grownBy w' row → (∀ k, k < w.heap.size → w'.heap[k]? = w.heap[k]?) → Below w.heap.size w w' := fun row hg hb => ⟨hg.os, hg.tape, hg.output, hg.size, hb⟩
    subst hsize
    subst hby
    have hsmall : n + m ≤ 9223372036854775807 := by simp only [maxLen] at h63; omega
    rcases hown.2 with ⟨rfl, rfl⟩ | ⟨g, cap, cur, rfl, hbg, hg, hnc, hcm, hcs, htake⟩
    · exact hof _ h3 (fun k hk => h3.block k hk (by simp [Value.ownBlock]))
    · by_cases hroom : n + m ≤ cap
      · have hfit : n * i.size + news.length ≤ cur.size := by rw [hl, hcs, ← Nat.add_mul]; exact Nat.mul_le_mul_right _ hroom
        have hr2 := run_append_room (P := P) w t ty e i ht hi g n cap cur hg a m c news hl hnews h1 hroom hfit
        rw [hr] at hr2
        injection hr2 with e1 e2
        rw [e1] at h5
        simp only [Value.ownBlock, Option.some.injEq] at h5
        have := (Array.getElem?_eq_some_iff.1 hg).1
        omega
      · have holds : ∀ j u, xs[j]? = some u → w.cell? ((⟨g, 0, none⟩ : Addr).add j) = some u := hown.cells (g := g) rfl
        have hr2 := run_append_grow (P := P) w t ty e i z ht hi hz ⟨g, 0, none⟩ n cap xs hown.1 holds a m c news hl hnews (by omega) (by omega) (growslice_fits (by omega) hbytes)
        rw [hr] at hr2
        injection hr2 with e1 e2
        refine hof _ h3 (fun k hk => ?_)
        rw [e2]
        exact Go.heap_alloc_old w.drew _ hk

/-- At the operation: one element, laid in a block of its own. -/
theorem R_append_keep {P : Program} {ops : Array Oper} {rest : List Oper} {o : Oper} {a : Act} {Q : Exit → Act → World → Prop} {α : Type} (enc : α → Value) {h1 : ∀ x : α, (enc x).oneCell' = true} {w0 W : World} (base : Nat) (hgd : o.guard = none) (s x : Operand) (t e : TypeId) (z : Value) (bytes : Nat)
    (ho : o.op = .call { callee := .builtin .append, args := #[s, x], argTypes := #[t, t] })
    (ht : P.underlying t = some (.slice e)) (hinfo : (P.info? e).map (fun i => (i.zero, i.size, i.bytes)) = some (some z, 1, bytes)) (hz : z.cells.size = 1)
    (v : Value) (xs : List α) (p : α) (ok : Nat → Prop) (hs : a.eval s = v) (hx : a.eval x = .slice (some ⟨W.heap.size, 0, none⟩) 1 1) (hfresh : ∀ k, W.heap.size ≤ k → ok k)
    (HO : (Kd.scalar enc h1).R e W base ok v xs) (HB : Below base w0 W) (hbase : base ≤ W.heap.size) (hl : (xs.length + 1) * bytes ≤ 140737488355328) (hl2 : xs.length + 1 ≤ maxLen)
    (h : ∀ v1 w1, (Kd.scalar enc h1).R e w1 base ok v1 (xs ++ [p]) → Below base w0 w1 → W.grownBy w1 v.ownBlock → (v1.ownBlock = v.ownBlock ∨ ((∃ b, v1.ownBlock = some b ∧ W.heap.size ≤ b) ∧ Below W.heap.size W w1)) → wpList P ops Q rest (a.put o.dst v1) w1) :
    wpList P ops Q (o :: rest) a (W.alloc (.cells #[enc p] e)) := by
  obtain ⟨i, hi, hz0, hz1, hz2⟩ := info_parts hinfo
  have hown := Kd.own_of_R HO
  have hlt := Kd.R_lt HO
  refine wpList_plain hgd fun K hK => ?_
  obtain ⟨v', w', hr, h2, h3, h4⟩ := run_append_keep (P := P) (w := W.alloc (.cells #[enc p] e)) base t o.type e i z 1 bytes ht hi hz0 hz1 hz2 hz (by decide) v xs.length (encs enc xs) (hown.alloc _) ⟨W.heap.size, 0, none⟩ 1 1 [enc p] rfl (cell_one_new _ _ _) (by simp [h1]) hl2 hl (by simp; omega)
  unfold Oper.wp execOp
  simp only [ho, resolve, invoke, builtin, Sem.run_bind, Sem.run_pure, Result.andThen_ok, List.map_toArray, List.map_cons, List.map_nil, hs, hx, hr]
  refine hK _ _ (h v' w' ?_ ?_ ?_ ?_)
  · refine Kd.R_of_own (by simpa [encs] using h2) (fun k hk => ?_)
    rcases h4 with h4 | ⟨h4, _⟩
    · rw [h4] at hk
      exact HO.1 k hk
    · rw [h4] at hk
      injection hk with hk
      subst hk
      exact hfresh _ (by simp)
  · exact (HB.alloc hbase _).grown h3 (by simp; omega) (fun k hk => Kd.R_base HO k hk)
  · exact ⟨h3.os, h3.tape, h3.output, by have := h3.size; simp at this; omega, fun k hk hn => (h3.block k (by simp; omega) hn).trans ((below_alloc (Below.refl W.heap.size W) _).block k hk)⟩
  · rcases h4 with h4 | ⟨h4, h5⟩
    · exact .inl h4
    · exact .inr ⟨⟨_, h4, by simp⟩, ⟨h5.os, h5.tape, h5.output, by have := h5.size; simp at this; omega, fun k hk => (h5.block k (by simp; omega)).trans ((below_alloc (Below.refl W.heap.size W) _).block k hk)⟩⟩

/-- A shorter slice of a row, read at the row's own address. -/
theorem F_of_take {α : Type} {d : Kd α} {e : Nat} {w : World} {base : Nat} {ok : Nat → Prop} {v : Value} {A0 : Option Addr} {n0 c0 : Nat} {xs ys : List α} (hE : d.E = []) (h : d.R e w base ok v (xs ++ ys)) (hob : v.ownBlock = (Value.slice A0 n0 c0).ownBlock) (hA : ∀ ad, A0 = some ad → ad.off = 0 ∧ ad.spot = none) (hn : A0 = none → xs = []) :
    d.F w (fun k => some k = v.ownBlock) A0 xs.length xs := by
  cases hA0 : A0 with
  | none => rw [hn hA0]; exact Kd.F_nil _ _ _
  | some ad =>
    obtain ⟨A1, c1, rfl⟩ := Kd.R_slice h
    rw [hA0] at hob
    have h2 := Kd.R_take h (m := xs.length) (by rw [List.length_append]; omega)
    rw [List.take_left] at h2
    have h3 := Kd.R_F (Kd.R_tight hE h2)
    cases A1 with
    | none => simp [Value.ownBlock] at hob
    | some ad1 =>
      obtain ⟨g, rfl⟩ := Kd.R_head h
      have hb : g = ad.block := by simpa [Value.ownBlock] using hob
      have ha := hA ad hA0
      have : ad = ⟨g, 0, none⟩ := by cases ad; simp_all
      rw [this]
      exact Kd.F_mono h3 (fun k hk => hk)
end Go.Proofs.Ythplmngignmieaa.Bits
