/- RiceBack: the walk. -/
import Derived.Test.YtnjfojpjfmnmcaaRiceBackLaw
import Derived.Test.YtnjfojpjfmnmcaaRiceTakes
import Derived.Test.YtnjfojpjfmnmcaaTags
import Derived.Test.YtnjfojpjfmnmcaaRiceAwake
import Derived.Deep.RegionHeld3
namespace Go.Proofs.Ytnjfojpjfmnmcaa.Rice
open Go.RowKit Go.Proofs.Ytnjfojpjfmnmcaa.Bits Go.Proofs.YtnjfojpjfmnmcaaW.PrintWords Go.Proofs.YtnjfojpjfmnmcaaW.PrintMore Go.Proofs.Ytnjfojpjfmnmcaa.BP
set_option linter.unusedVariables false
set_option linter.unusedSimpArgs false

def encSt (s : Int × Int) : List Value := [.int .i64 s.1, .int .i64 s.2]
def stK : Kd (Int × Int) := flatK 2 encSt (fun _ => rfl) (fun x u hu => by
  simp only [encSt, List.mem_cons, List.not_mem_nil, or_false] at hu
  rcases hu with rfl | rfl <;> rfl)
theorem infoSt : (Try.prog.info? 30).map (fun i => (i.zero, i.size, i.bytes)) = some (some (.agg #[.int .i64 0, .int .i64 0]), 2, 16) := by kernel_rfl
theorem st_cells {w : World} {A : Option Addr} {n : Nat} {xs : List (Int × Int)} (h : stK.C w A n xs) (k : Nat) (hk : k < n) :
    ∃ ad, A = some ad ∧ w.cell? (ad.add (k * 2)) = some (.int .i64 (xs.getD k (0, 0)).1) ∧ w.cell? ⟨(ad.add (k * 2)).block, (ad.add (k * 2)).off + 1, none⟩ = some (.int .i64 (xs.getD k (0, 0)).2) := by
  obtain ⟨ad, c, rfl, hl, hK, hc⟩ := Kd.C_get h (0, 0) (k : Int) (by omega) (by omega)
  simp only [Int.toNat_natCast] at hK hc
  cases hK
  exact ⟨ad, rfl, hc 0 _ rfl, by rw [← add_next ad (k * 2) 1 (by decide)]; exact hc 1 _ rfl⟩
theorem st_map (hs : Hs) (j : Nat) : (hs.map fun x => (x.1, x.2.1)).getD j (0, 0) = ((hs.getD j h0).1, (hs.getD j h0).2.1) := by
  simp only [List.getD_eq_getElem?_getD, List.getElem?_map]
  cases hs[j]? <;> rfl
theorem us_map (hs : Hs) (j : Nat) : rd (hs.map fun x => x.2.2) (j : Int) = (hs.getD j h0).2.2 := by
  unfold rd
  simp only [Int.toNat_natCast, List.getD_eq_getElem?_getD, List.getElem?_map]
  cases hs[j]? <;> rfl
theorem heap_alloc_at (w : World) (o : Obj) {k : Nat} (h : k = w.heap.size) : (w.alloc o).heap[k]? = some o := by rw [h]; exact heap_alloc_new w o
/-- An element is appended, at a step of a region that draws; where it lies is told. -/
theorem R_append_blk_step {P : Program} {ops : Array Oper} {o : Oper} {a : Act} {Q : Exit → Act → World → Prop} {Kc : Act → World → Prop} {E : Prop} {α : Type} (d : Kd α) {W : World} (base : Nat) (hgd : o.guard = none) (s x : Operand) (t e : TypeId) (z : Value) (bytes : Nat)
    (ho : o.op = .call { callee := .builtin .append, args := #[s, x], argTypes := #[t, t] })
    (ht : P.underlying t = some (.slice e)) (hinfo : (P.info? e).map (fun i => (i.zero, i.size, i.bytes)) = some (some z, d.sz, bytes)) (hz : z.cells.size = d.sz) (hs0 : 0 < d.sz) (hb0 : 0 < bytes)
    (v : Value) (xs : List α) (p : α) (cs : List Value) (ok : Nat → Prop) (hs : a.eval s = v) (hxb : ∃ xb, a.eval x = .slice (some ⟨xb, 0, none⟩) 1 1 ∧ W.heap[xb]? = some (.cells cs.toArray e (0, 0))) (hp : d.M W base (fun _ => False) p cs)
    (HO : d.R e W base ok v xs) (hbase : base ≤ W.heap.size) (hl : (xs.length + 1) * bytes ≤ 140737488355328)
    (h : ∀ v1 w1, d.R e w1 base (fun k => ok k ∨ W.heap.size ≤ k) v1 (xs ++ [p]) → Below base W w1 → W.grownBy w1 v.ownBlock → (v1.ownBlock = v.ownBlock ∨ ∃ b, v1.ownBlock = some b ∧ W.heap.size ≤ b) → Kc (a.put o.dst v1) w1) :
    if Region.wanted o (yielded ops a.tmps) = true then Oper.wp P o a W Kc Q else E := by
  obtain ⟨xb, hx, hblk⟩ := hxb
  obtain ⟨h0, inner, hown, hr⟩ := Kd.R_mono HO (ok' := fun k => ok k ∨ W.heap.size ≤ k) (fun _ hk => .inl hk)
  obtain ⟨i0, hi, hz0, hz1, hz2⟩ := info_parts hinfo
  have hlen : xs.length + 1 ≤ 140737488355328 := Nat.le_trans (Nat.le_mul_of_pos_right _ hb0) hl
  have hcl := d.K_len (d.K_of_M hp)
  obtain ⟨v', w', hrun, h2, h3, h4, h5⟩ := run_append_own_at (P := P) W base t o.type e i0 z d.sz bytes ht hi hz0 hz1 hz2 hz hs0 v xs.length inner hown ⟨xb, 0, none⟩ 1 1 cs (by rw [hcl]; simp) (fun j u hj => by rw [add_plain, blk_cell hblk j]; simpa using hj) (d.K_one (d.K_of_M hp)) (by simp only [maxLen]; omega) hl hbase
  have hat : v'.ownBlock = v.ownBlock ∨ ∃ b, v'.ownBlock = some b ∧ W.heap.size ≤ b := h5.imp id (fun h => ⟨_, h, Nat.le_refl _⟩)
  have hw : Region.wanted o (yielded ops a.tmps) = true := by simp [Region.wanted, hgd]
  rw [if_pos hw]
  unfold Oper.wp execOp
  simp only [ho, resolve, invoke, builtin, Sem.run_bind, Sem.run_pure, Result.andThen_ok, List.map_toArray, List.map_cons, List.map_nil, hs, hx, hrun]
  exact h v' w' (Kd.R_appended h0 hr hp (fun _ hk => hk.elim) (fun _ hk => .inr hk) h2 h3 hat) ((Below.refl base W).grown h3 hbase (own_base hown)) h3 hat

/-- A writer (1), the state's block (2), the states (3) and the symbols (4) that were taken. -/
structure RB (w : World) (f : Nat → Nat) (g gs : Nat) (bs : List Int) (n s : Int) (had : List (Int × Int)) (us : List Int) (v7 v8 : Value) (wr : World) : Prop where
  pw : IsW wr g (T f 1) bs
  pb : wr.heap[gs]? = some (.cells #[.int .i64 n, .int .i64 s] 30 (0, 0))
  pt : f gs = 2
  ph : stK.R 30 wr w.heap.size (T f 3) v7 had
  pu : Kd.R (Kd.int .i64) 3 wr w.heap.size (T f 4) v8 us
  below : Below w.heap.size w wr
  zero : ∀ b, b < w.heap.size → f b = 0
section
variable {w : World} {f : Nat → Nat} {g gs : Nat} {bs : List Int} {n s : Int} {had : List (Int × Int)} {us : List Int} {v7 v8 : Value} {wr w1 : World}
theorem RB.at0 (h : RB w f g gs bs n s had us v7 v8 wr) (t : Nat) : ∀ b, b < w.heap.size → upd f wr.heap.size t b = 0 := fun b hb => by
  unfold upd
  rw [if_pos (Nat.lt_of_lt_of_le hb h.below.size)]; exact h.zero b hb
theorem RB.ge (h : RB w f g gs bs n s had us v7 v8 wr) {t : Nat} (ht : t ≠ 0) : ∀ b, T f t b → w.heap.size ≤ b := fun b hb => by
  rcases Nat.lt_or_ge b w.heap.size with h2 | h2
  · exact absurd (hb.symm.trans (h.zero b h2)) ht
  · exact h2
theorem RB.tag (h : RB w f g gs bs n s had us v7 v8 wr) (t : Nat) : upd f wr.heap.size t gs = 2 := by
  unfold upd
  rw [if_pos (Go.Proofs.YtnjfojpjfmnmcaaW.PrintWords.blk_lt h.pb)]; exact h.pt
theorem RB.keep (h : RB w f g gs bs n s had us v7 v8 wr) {t : Nat} (hk : Kept wr w1 (T f t)) (ht : t ≠ 2) : w1.heap[gs]? = some (.cells #[.int .i64 n, .int .i64 s] 30 (0, 0)) := (hk.2 gs (Go.Proofs.YtnjfojpjfmnmcaaW.PrintWords.blk_lt h.pb) (fun h2 => ht (h2.symm.trans h.pt))).trans h.pb
theorem RB.make (h : RB w f g gs bs n s had us v7 v8 wr) (hB : Below wr.heap.size wr w1) (t : Nat) (ht : 5 ≤ t) : RB w (upd f wr.heap.size t) g gs bs n s had us v7 v8 w1 :=
  have hk := Kept.of_below hB (T f t)
  ⟨mv_W h.pw hk (by omega), h.keep hk (by omega), h.tag t, mv_R h.ph hk (by omega), mv_R h.pu hk (by omega), below_step h.below hB, h.at0 t⟩
theorem RB.drawn (h : RB w f g gs bs n s had us v7 v8 wr) (hD : Drawn0 wr w1) : RB w f g gs bs n s had us v7 v8 w1 := by
  obtain ⟨q, rfl⟩ := hD.out
  exact ⟨h.pw.below (pw_below_drewN (Below.refl _ _) q), h.pb, h.pt, Kd.R_drewN h.ph q, Kd.R_drewN h.pu q, pw_below_drewN h.below q, h.zero⟩
theorem RB.put {b : List Int} (h : RB w f g gs bs n s had us v7 v8 wr) (hW : IsW w1 g (fun k => T f 1 k ∨ wr.heap.size ≤ k) b) (hk : Kp wr w1 (T f 1)) : RB w (upd f wr.heap.size 1) g gs b n s had us v7 v8 w1 :=
  ⟨mine_W hW, h.keep hk.1 (by omega), h.tag 1, mv_R h.ph hk.1 (by omega), mv_R h.pu hk.1 (by omega), below_kp h.below hk (h.ge (t := 1) (by omega)) (Nat.le_refl _), h.at0 1⟩
theorem RB.apph {b : List (Int × Int)} {v : Value} (h : RB w f g gs bs n s had us v7 v8 wr) (hR : stK.R 30 w1 w.heap.size (fun k => T f 3 k ∨ wr.heap.size ≤ k) v b) (hg : wr.grownBy w1 v7.ownBlock) (hB : Below w.heap.size wr w1) : RB w (upd f wr.heap.size 3) g gs bs n s b us v v8 w1 :=
  have hk := Kept.of_grown hg (Kept.refl wr (T f 3)) (fun k hk => .inl (h.ph.1 k hk))
  ⟨mv_W h.pw hk (by omega), h.keep hk (by omega), h.tag 3, mine_R hR, mv_R h.pu hk (by omega), h.below.trans hB, h.at0 3⟩
theorem RB.appu {b : List Int} {v : Value} (h : RB w f g gs bs n s had us v7 v8 wr) (hR : Kd.R (Kd.int .i64) 3 w1 w.heap.size (fun k => T f 4 k ∨ wr.heap.size ≤ k) v b) (hg : wr.grownBy w1 v8.ownBlock) (hB : Below w.heap.size wr w1) : RB w (upd f wr.heap.size 4) g gs bs n s had b v7 v w1 :=
  have hk := Kept.of_grown hg (Kept.refl wr (T f 4)) (fun k hk => .inl (h.pu.1 k hk))
  ⟨mv_W h.pw hk (by omega), h.keep hk (by omega), h.tag 4, mv_R h.ph hk (by omega), mine_R hR, h.below.trans hB, h.at0 4⟩
theorem RB.set (h : RB w f g gs bs n s had us v7 v8 wr) (n2 s2 : Int) : RB w f g gs bs n2 s2 had us v7 v8 ((wr.setCell ⟨gs, 0, none⟩ (.int .i64 n2)).setCell ⟨gs, 1, none⟩ (.int .i64 s2)) := by
  have hne : ∀ t, t ≠ 2 → ∀ b, T f t b → b ≠ gs := fun t ht b hb e => by unfold T at hb; rw [e, h.pt] at hb; exact ht hb.symm
  have hk : Kept wr ((wr.setCell ⟨gs, 0, none⟩ (.int .i64 n2)).setCell ⟨gs, 1, none⟩ (.int .i64 s2)) (fun b => b = gs) := ((Kept.refl wr (fun b => b = gs)).setCell (p := ⟨gs, 0, none⟩) (.inl rfl) _).setCell (p := ⟨gs, 1, none⟩) (.inl rfl) _
  have hge := h.ge (t := 2) (by omega) gs h.pt
  exact ⟨h.pw.kept hk (fun b hb e => hne 1 (by omega) b hb e), blk_put (blk_put h.pb 0 _ rfl) 1 _ rfl, h.pt, Kd.R_kept h.ph hk (fun b hb e => hne 3 (by omega) b hb e), Kd.R_kept h.pu hk (fun b hb e => hne 4 (by omega) b hb e), below_set (below_set h.below hge) hge, h.zero⟩
theorem RB.hold {nb xb : Nat} {o : Obj} (h : RB w (upd f nb 5) g gs bs n s had us v7 v8 wr) (hg : wr.grownBy w1 v7.ownBlock) (hb : wr.heap[xb]? = some o) (ht : nb ≤ xb ∨ f xb = 5) : w1.heap[xb]? = some o :=
  (hg.block xb (Go.Proofs.YtnjfojpjfmnmcaaW.PrintWords.blk_lt hb) (fun e => by
    have h3 := h.ph.1 xb e.symm
    unfold T upd at h3
    split at h3
    · rcases ht with ht | ht <;> omega
    · omega)).trans hb
theorem RB.holdu {xb : Nat} {o : Obj} (h : RB w f g gs bs n s had us v7 v8 wr) (hg : wr.grownBy w1 v8.ownBlock) (hb : wr.heap[xb]? = some o) (ht : f xb = 5) : w1.heap[xb]? = some o :=
  (hg.block xb (Go.Proofs.YtnjfojpjfmnmcaaW.PrintWords.blk_lt hb) (fun e => by
    have h3 := h.pu.1 xb e.symm
    unfold T at h3
    omega)).trans hb
theorem upd5 {f : Nat → Nat} {m t xb : Nat} (h : f xb = 5) (hb : xb < m) : upd f m t xb = 5 := by unfold upd; rw [if_pos hb]; exact h
/-- Behind the first append. -/
theorem RB.step1 {gt : Nat} {o : Obj} {b : List (Int × Int)} {v : Value} {wb : World} (HA : ∀ W, Below wb.heap.size wb W → RB w (upd f wb.heap.size 5) g gs bs n s had us v7 v8 W) (HG : ∀ W, Below wb.heap.size wb W → W.heap[gt]? = some o) (hgf : f gt = 5) (hgl : gt < wb.heap.size)
    (hR : stK.R 30 w1 w.heap.size (fun k => T (upd f wb.heap.size 5) 3 k ∨ wr.heap.size ≤ k) v b) (hB : Below w.heap.size wr w1) (hg : wr.grownBy w1 v7.ownBlock) (hbel : Below wb.heap.size wb wr) :
    ∃ F, RB w F g gs bs n s b us v v8 w1 ∧ (∀ xb o, wr.heap[xb]? = some o → wb.heap.size ≤ xb → w1.heap[xb]? = some o ∧ F xb = 5) ∧ w1.heap[gt]? = some o ∧ F gt = 5 :=
  ⟨_, (HA _ hbel).apph hR hg hB, fun xb o hb hn => ⟨(HA _ hbel).hold hg hb (.inl hn), upd5 (by unfold upd; rw [if_neg (by omega)]) (Go.Proofs.YtnjfojpjfmnmcaaW.PrintWords.blk_lt hb)⟩, (HA _ hbel).hold hg (HG _ hbel) (.inr hgf), upd5 (upd5 hgf hgl) (Nat.lt_of_lt_of_le hgl hbel.size)⟩
theorem RB.step2 {gt : Nat} {o : Obj} {b : List Int} {v : Value} {wb : World} (HA : ∀ W, Below wb.heap.size wb W → RB w (upd f wb.heap.size 5) g gs bs n s had us v7 v8 W) (hgt : wb.heap[gt]? = some o) (hgf : f gt = 5)
    (hR : Kd.R (Kd.int .i64) 3 w1 w.heap.size (fun k => T (upd f wb.heap.size 5) 4 k ∨ wr.heap.size ≤ k) v b) (hB : Below w.heap.size wr w1) (hg : wr.grownBy w1 v8.ownBlock) (hbel : Below wb.heap.size wb wr) :
    ∃ F, RB w F g gs bs n s had b v7 v w1 ∧ w1.heap[gt]? = some o :=
  have hl := Go.Proofs.YtnjfojpjfmnmcaaW.PrintWords.blk_lt hgt
  ⟨_, (HA _ hbel).appu hR hg hB, (HA _ hbel).holdu hg ((hbel.block gt hl).trans hgt) (upd5 hgf hl)⟩
theorem RB.cells (h : RB w f g gs bs n s had us v7 v8 wr) : wr.cell? ⟨gs, 0, none⟩ = some (.int .i64 n) ∧ wr.cell? ⟨gs, 1, none⟩ = some (.int .i64 s) ∧ wr.frozen? ⟨gs, 0, none⟩ = false ∧ wr.frozen? ⟨gs, 1, none⟩ = false :=
  ⟨(blk_cell h.pb 0).trans rfl, (blk_cell h.pb 1).trans rfl, blk_frozen h.pb 0, blk_frozen h.pb 1⟩
end

set_option maxRecDepth 100000 in
set_option maxHeartbeats 4000000 in
theorem back_walk (d : Int) (A : Option Addr) (c : Nat) (l : List Int) (w : World) (hC : Kd.C (Kd.int .i64) w A l.length l) (hl : l.length ≤ 1048576) :
    Calls Try.prog 7 #[.int .i64 d, .slice A l.length c] w fun e w' => e = .returned (.bool true) ∧ Below w.heap.size w w' := by
  have HC := Aside0.mk hC
  have hu := Try.underlying30
  clear hC
  by_cases hd : d < 1 ∨ 16 < d
  case pos =>
    have HSD : Aside0 (startL d = (0, 0)) := ⟨by unfold startL; rw [if_pos hd]⟩
    go_enter Try.func7, Try.ntmps7
    go_wp2_with fail
    refine (new_calls _).mono ?_
    rintro e w1 ⟨g, rfl, hW, hB⟩
    have HB1 := Aside0.mk hB
    clear hW hB
    go_wp2_with fail
    refine (start_calls d _).mono ?_
    rintro e w2 ⟨rfl, hB⟩
    rw [HSD.out]
    have HB2 := Aside0.mk (below_step HB1.out hB)
    clear hB
    have HK3 : Aside0 ((w2.alloc (.cells #[.int .i64 0, .int .i64 0] 30)).heap[w2.heap.size]? = some (.cells #[.int .i64 0, .int .i64 0] 30 (0, 0))) := ⟨heap_alloc_new w2 _⟩
    have HB3 : Aside0 (Below w.heap.size w (w2.alloc (.cells #[.int .i64 0, .int .i64 0] 30))) := ⟨below_step HB2.out (below_alloc (Below.refl _ _) _)⟩
    go_wp2_with fail
    refine (awake_calls _).mono ?_
    rintro e w4 ⟨rfl, hB⟩
    have HK4 := Aside0.mk ((hB.block _ (by simp)).trans HK3.out)
    have HB4 := Aside0.mk (below_step HB3.out hB)
    have hz4 : w2.heap.size < w4.heap.size := by have := hB.size; simp at this; omega
    clear hB
    by_cases c1 : d < 1
    · have b1 : decide (d < 1) = true := decide_eq_true c1
      clear hd
      go_wp2_with fail
      refine (awake_calls _).mono ?_
      rintro e w5 ⟨rfl, hB⟩
      have HK5 := Aside0.mk ((hB.block _ hz4).trans HK4.out)
      have HB5 := Aside0.mk (below_step HB4.out hB)
      have hc0 : w5.cell? ⟨w2.heap.size, 0, none⟩ = some (.int .i64 0) := (blk_cell HK5.out 0).trans rfl
      have hc1 : w5.cell? ⟨w2.heap.size, 1, none⟩ = some (.int .i64 0) := (blk_cell HK5.out 1).trans rfl
      clear hB
      go_wp2_with fail
      go_ret
      exact ⟨rfl, HB5.out⟩
    · have b1 : decide (d < 1) = false := decide_eq_false c1
      have b2 : decide (16 < d) = true := decide_eq_true (by omega)
      clear hd
      go_wp2_with fail
      refine (awake_calls _).mono ?_
      rintro e w5 ⟨rfl, hB⟩
      have HK5 := Aside0.mk ((hB.block _ hz4).trans HK4.out)
      have HB5 := Aside0.mk (below_step HB4.out hB)
      have hc0 : w5.cell? ⟨w2.heap.size, 0, none⟩ = some (.int .i64 0) := (blk_cell HK5.out 0).trans rfl
      have hc1 : w5.cell? ⟨w2.heap.size, 1, none⟩ = some (.int .i64 0) := (blk_cell HK5.out 1).trans rfl
      clear hB
      go_wp2_with fail
      go_ret
      exact ⟨rfl, HB5.out⟩
  have hd1 : 1 ≤ d := by omega
  have hd2 : d ≤ 16 := by omega
  have b1 : decide (d < 1) = false := decide_eq_false (by omega)
  have b2 : decide (16 < d) = false := decide_eq_false (by omega)
  obtain ⟨n0, s0, hst0⟩ : ∃ n0 s0, startL d = (n0, s0) := ⟨_, _, rfl⟩
  have hm0 : MayP n0 s0 := by
    unfold startL at hst0
    rw [if_neg hd] at hst0
    injection hst0 with e1 e2
    have hp := pow16 (k := (d / 2).toNat) (by omega)
    unfold MayP
    omega
  have HSD := Aside0.mk hst0
  have HM0 := Aside0.mk hm0
  clear hst0 hm0 hd
  go_enter Try.func7, Try.ntmps7
  go_wp2_with fail
  refine (new_calls _).mono ?_
  rintro e w1 ⟨g, rfl, hW, hB⟩
  have HW1 := Aside0.mk hW
  have HB1 := Aside0.mk hB
  clear hW hB
  go_wp2_with fail
  refine (start_calls d _).mono ?_
  rintro e w2 ⟨rfl, hB⟩
  rw [HSD.out]
  have HP2 : Aside0 (RB w (upd (upd (fun _ => 0) w.heap.size 1) w2.heap.size 2) g w2.heap.size [] n0 s0 [] [] (.slice none 0 0) (.slice none 0 0) (w2.alloc (.cells #[.int .i64 n0, .int .i64 s0] 30))) := ⟨by
    have h1 : IsW w1 g (T (upd (fun _ => 0) w.heap.size 1) 1) [] := mine_W (HW1.out.mono (fun _ hk => .inr hk))
    have hz := HB1.out.size
    have hz2 := hB.size
    refine ⟨?_, heap_alloc_new w2 _, by unfold upd; rw [if_neg (Nat.lt_irrefl _)], Kd.R_nil _ _ _ _ _, Kd.R_nil _ _ _ _ _, below_step (below_step HB1.out hB) (below_alloc (Below.refl _ _) _), fun b hb => ?_⟩
    · have h2 := h1.below hB
      exact mv_W (t := 2) h2 (Kept.of_below (below_alloc (Below.refl _ _) _) _) (by omega)
    · unfold upd
      rw [if_pos (by omega), if_pos hb]⟩
  clear hB HW1 HB1
  go_wp2_with fail
  refine (awake_calls _).mono ?_
  rintro e w3 ⟨rfl, hB⟩
  have HP3 := Aside0.mk (HP2.out.make hB 5 (by omega))
  clear hB HP2
  generalize w2.heap.size = gs at HP3 ⊢
  go_wp2_with fail
  go_loopw [7, 8, 9, 10] (fun v7 v8 v9 v10 wr => ∃ (k : Nat) (f : Nat → Nat) (hs : Hs) (n s : Int) (A7 A8 : Option Addr) (c7 c8 : Nat), k ≤ l.length ∧ hs.length ≤ k ∧ v7 = .slice A7 hs.length c7 ∧ v8 = .slice A8 hs.length c8 ∧ v9 = .int .i64 (bitsH d hs).length ∧ v10 = .int .i64 k ∧ Aside0 (MayP n s) ∧ Aside0 (∀ x, x ∈ hs → FitsP x.1 x.2.1 d x.2.2) ∧ Aside0 (RB w f g gs (bitsH d hs) n s (hs.map fun x => (x.1, x.2.1)) (hs.map fun x => x.2.2) (.slice A7 hs.length c7) (.slice A8 hs.length c8) wr))
    (fun _ _ _ v10 _ => (l.length - intOf v10).toNat)
  case atStart => exact ⟨0, _, [], n0, s0, none, none, 0, 0, by omega, by simp, rfl, rfl, rfl, rfl, HM0, ⟨fun x hx => by cases hx⟩, HP3⟩
  case round =>
    clear HP3 HM0
    obtain ⟨k, f, hs, n, s, A7, A8, c7, c8, hk, hhk, rfl, rfl, rfl, rfl, HM, HF, HP⟩ := hrel
    have hbl := bitsH_len d hs
    by_cases hlt : k < l.length
    · have t1 : decide ((k : Int) < (l.length : Int)) = true := decide_eq_true (by omega)
      have t2 : decide (k < l.length) = true := decide_eq_true hlt
      obtain ⟨ad, e1, hx⟩ := Kd.at_int (Kd.C_below HC.out HP.out.below) (k : Int) (by omega) (by omega)
      cases e1
      rw [Int.toNat_natCast] at hx
      generalize rd l (k : Int) = u at hx
      obtain ⟨hy0, hy1, hf0, hf1⟩ := HP.out.cells
      have hd0 : 0 ≤ d := by omega
      have hd64 : d ≤ 64 := by omega
      by_cases hfit : FitsP n s d u
      case neg =>
        have hbad : u < 0 ∨ u / 2 ^ d.toNat ≠ 0 := by
          by_cases h1 : u < 0
          · exact .inl h1
          · exact .inr (fun h2 => hfit ⟨HM.out, hd1, hd2, by omega, h2⟩)
        have HCE : Aside0 (codeL n s d u = ([], 1)) := ⟨by unfold codeL; rw [if_neg hfit]⟩
        have HPut : Aside0 (∀ w, IsW w g (T f 1) (bitsH d hs) → Calls Try.prog 11 #[.pointer (some ⟨g, 0, none⟩), .agg #[.int .i64 n, .int .i64 s], .int .i64 d, .int .i64 u] w fun e w' => e = .returned (.int .i64 1) ∧ IsW w' g (fun k => T f 1 k ∨ w.heap.size ≤ k) (bitsH d hs) ∧ Kp w w' (T f 1)) := ⟨fun w h => by
          have q := rput_calls g (T f 1) (bitsH d hs) n s d u w h (by omega)
          unfold PutPost at q
          rw [HCE.out, List.append_nil] at q
          exact q⟩
        clear hfit HCE
        by_cases h1 : u < 0
        · have t3 : decide (u < 0) = true := decide_eq_true h1
          clear hbad
          go_wp2_with fail
          refine (HPut.out _ HP.out.pw).mono ?_
          rintro e w4 ⟨rfl, hW, hK⟩
          replace HP := Aside0.mk (HP.out.put hW hK)
          clear hW hK hy0 hy1 hf0 hf1 HPut
          go_wp2_with fail
          go_roundw
          case rel => exact ⟨k + 1, _, hs, n, s, A7, A8, c7, c8, by omega, by omega, rfl, rfl, rfl, by go_num, HM, HF, HP⟩
          case measure => simp [intOf]; omega
        · have t3 : decide (u < 0) = false := decide_eq_false h1
          have t4 : (u / 2 ^ d.toNat != 0) = true := bne_iff_ne.mpr (hbad.resolve_left h1)
          clear hbad
          go_wp2_with fail
          refine (HPut.out _ HP.out.pw).mono ?_
          rintro e w4 ⟨rfl, hW, hK⟩
          replace HP := Aside0.mk (HP.out.put hW hK)
          clear hW hK hy0 hy1 hf0 hf1 HPut
          go_wp2_with fail
          go_roundw
          case rel => exact ⟨k + 1, _, hs, n, s, A7, A8, c7, c8, by omega, by omega, rfl, rfl, rfl, by go_num, HM, HF, HP⟩
          case measure => simp [intOf]; omega
      have hul := fits_lt hfit
      have hcode : codeL n s d u = ((codeL n s d u).1, 0) := by unfold codeL; rw [if_pos hfit]
      have hnext := next_may hfit
      have hlen : 1 ≤ (codeL n s d u).1.length ∧ ((codeL n s d u).1.length : Int) ≤ 20 + d := by
        have hkd := paramK_le n s d.toNat
        unfold codeL
        rw [if_pos hfit]
        simp only [symL_len]
        have := Int.ediv_nonneg hul.1 (show (0 : Int) ≤ 2 ^ paramK n s d.toNat from Int.le_of_lt (Int.pow_pos (by decide)))
        split <;> omega
      have hnew : bitsH d (hs ++ [(n, s, u)]) = bitsH d hs ++ (codeL n s d u).1 := by rw [bitsH_app, bitsH_one]
      have HBits : Aside0 (∀ w, Calls Try.prog 20 #[.agg #[.int .i64 n, .int .i64 s], .int .i64 d, .int .i64 u] w fun e w' => e = .returned (.tuple #[.int .i64 (codeL n s d u).1.length, .int .i64 0]) ∧ Below w.heap.size w w') := ⟨fun w => by
        have q := bits_calls n s d u w
        unfold bitsL at q
        rw [hcode] at q
        exact q⟩
      have HNext : Aside0 (∀ w, Calls Try.prog 18 #[.agg #[.int .i64 n, .int .i64 s], .int .i64 u] w fun e w' => e = .returned (.tuple #[.agg #[.int .i64 (nextL n s u).1, .int .i64 (nextL n s u).2.1], .int .i64 0]) ∧ Below w.heap.size w w') := ⟨fun w => by
        have q := next_calls n s u w
        have e : (nextL n s u).2.2 = 0 := by rw [hnext.1]
        rw [e] at q
        exact q⟩
      have HM2 := Aside0.mk hnext.2
      generalize (nextL n s u).1 = n2 at HNext HM2
      generalize (nextL n s u).2.1 = s2 at HNext HM2
      obtain ⟨bs, hbs⟩ : ∃ bs, bitsH d hs = bs := ⟨_, rfl⟩
      rw [hbs] at hnew hbl HP ⊢
      have HPut : Aside0 (∀ w f, IsW w g (T f 1) bs → Calls Try.prog 11 #[.pointer (some ⟨g, 0, none⟩), .agg #[.int .i64 n, .int .i64 s], .int .i64 d, .int .i64 u] w fun e w' => e = .returned (.int .i64 0) ∧ IsW w' g (fun k => T f 1 k ∨ w.heap.size ≤ k) (bs ++ (codeL n s d u).1) ∧ Kp w w' (T f 1)) := ⟨fun w f h => by
        have q := rput_calls g (T f 1) bs n s d u w h (by omega)
        unfold PutPost at q
        rw [hcode] at q
        exact q⟩
      generalize (codeL n s d u).1 = ys at hlen hnew HBits HPut
      have HFit := Aside0.mk hfit
      have HNew := Aside0.mk hnew
      have t3 : decide (u < 0) = false := decide_eq_false (by omega)
      have t4 : (u / 2 ^ d.toNat != 0) = false := bne_eq_false_iff_eq.mpr hfit.2.2.2.2
      obtain ⟨hlen1, hlen2⟩ := hlen
      clear hfit hnew hcode hnext hul hbs
      go_wp2_with fail
      refine (HBits.out _).mono ?_
      rintro e w4 ⟨rfl, hB⟩
      replace HP := Aside0.mk (HP.out.make hB 5 (by omega))
      generalize upd f wr.heap.size 5 = f at HP
      clear hB hy0 hy1 hf0 hf1
      obtain ⟨hy0, hy1, hf0, hf1⟩ := HP.out.cells
      go_wp2_with fail
      refine (HPut.out _ _ HP.out.pw).mono ?_
      rintro e w5 ⟨rfl, hW, hK⟩
      replace HP := Aside0.mk (HP.out.put hW hK)
      generalize upd f w4.heap.size 1 = f at HP
      clear hW hK hy0 hy1 hf0 hf1
      obtain ⟨hy0, hy1, hf0, hf1⟩ := HP.out.cells
      go_wp2_with fail
      refine (HNext.out _).mono ?_
      rintro e w6 ⟨rfl, hB⟩
      replace HP := Aside0.mk ((HP.out.make hB 5 (by omega)).make (below_alloc (Below.refl _ _) (.cells #[.int .i64 n2, .int .i64 s2] 30)) 5 (by omega))
      have HGF : Aside0 (upd (upd f w5.heap.size 5) w6.heap.size 5 w6.heap.size = 5) := ⟨by unfold upd; rw [if_neg (Nat.lt_irrefl _)]⟩
      generalize upd (upd f w5.heap.size 5) w6.heap.size 5 = f at HP HGF
      have HGT := Aside0.mk (heap_alloc_new w6 (.cells #[.int .i64 n2, .int .i64 s2] 30))
      clear hB hy0 hy1 hf0 hf1
      have t5 : decide ((ys.length : Int) < 1) = false := decide_eq_false (by omega)
      have t6 : decide (20 + d < (ys.length : Int)) = false := decide_eq_false (by omega)
      have hyl : ys.length ≤ 36 := by omega
      go_wp2_with fail
      refine (len_calls g _ (bs ++ ys) _ HP.out.pw (by rw [List.length_append]; omega)).mono ?_
      rintro e w7 ⟨rfl, hD⟩
      rw [List.length_append]
      replace HP := Aside0.mk (HP.out.drawn hD)
      obtain ⟨q, hq⟩ := hD.out
      replace HGT : Aside0 (w7.heap[w6.heap.size]? = some (.cells #[.int .i64 n2, .int .i64 s2] 30 (0, 0))) := ⟨by rw [hq]; exact HGT.out⟩
      have hgt0 : w7.cell? ⟨w6.heap.size, 0, none⟩ = some (.int .i64 n2) := (blk_cell HGT.out 0).trans rfl
      have hgt1 : w7.cell? ⟨w6.heap.size, 1, none⟩ = some (.int .i64 s2) := (blk_cell HGT.out 1).trans rfl
      clear hD hq
      have t7 : (((bs.length : Int) + (ys.length : Int)) != ((bs.length : Int) + (ys.length : Int))) = false := by simp
      go_wp2_with fail
      refine (may_calls n2 s2 _).mono ?_
      rintro e w8 ⟨rfl, hB⟩
      rw [decide_eq_true HM2.out]
      replace HP := Aside0.mk (HP.out.make hB 5 (by omega))
      replace HGF : Aside0 (upd f w7.heap.size 5 w6.heap.size = 5) := ⟨upd5 HGF.out (Go.Proofs.YtnjfojpjfmnmcaaW.PrintWords.blk_lt HGT.out)⟩
      generalize upd f w7.heap.size 5 = f at HP HGF
      have HGT8 := Aside0.mk ((hB.block _ (Go.Proofs.YtnjfojpjfmnmcaaW.PrintWords.blk_lt HGT.out)).trans HGT.out)
      clear hB hgt0 hgt1 HGT HBits HPut HNext
      generalize w6.heap.size = gt at HGT8 HGF ⊢
      have hgt0 : w8.cell? ⟨gt, 0, none⟩ = some (.int .i64 n2) := (blk_cell HGT8.out 0).trans rfl
      have hgt1 : w8.cell? ⟨gt, 1, none⟩ = some (.int .i64 s2) := (blk_cell HGT8.out 1).trans rfl
      obtain ⟨hy0, hy1, hf0, hf1⟩ := HP.out.cells
      clear t5 t6 t7
      have HA1 : Aside0 (∀ W, Below w8.heap.size w8 W → RB w (upd f w8.heap.size 5) g gs (bs ++ ys) n s (hs.map fun x => (x.1, x.2.1)) (hs.map fun x => x.2.2) (.slice A7 hs.length c7) (.slice A8 hs.length c8) W) := ⟨fun W hb => HP.out.make hb 5 (by omega)⟩
      have HGB : Aside0 (∀ W, Below w8.heap.size w8 W → W.heap[gt]? = some (.cells #[.int .i64 n2, .int .i64 s2] 30 (0, 0))) := ⟨fun W hb => (hb.block gt (Go.Proofs.YtnjfojpjfmnmcaaW.PrintWords.blk_lt HGT8.out)).trans HGT8.out⟩
      have HGL : Aside0 (gt < w8.heap.size) := ⟨Go.Proofs.YtnjfojpjfmnmcaaW.PrintWords.blk_lt HGT8.out⟩
      have hhl : hs.length ≤ 1048576 := by omega
      have hne : ¬ gs = gt := fun e => by have h1 := HP.out.pt; have h2 := HGF.out; rw [e] at h1; omega
      have hz0 : ∀ o, (w8.alloc o).cell? ⟨gs, 0, none⟩ = some (.int .i64 n) := fun o => (World.cell?_alloc_some w8 _ o (by rw [hy0]; rfl)).trans hy0
      have hz1 : ∀ o, (w8.alloc o).cell? ⟨gs, 1, none⟩ = some (.int .i64 s) := fun o => (World.cell?_alloc_some w8 _ o (by rw [hy1]; rfl)).trans hy1
      have hzt0 : ∀ o, (w8.alloc o).cell? ⟨gt, 0, none⟩ = some (.int .i64 n2) := fun o => (World.cell?_alloc_some w8 _ o (by rw [hgt0]; rfl)).trans hgt0
      have hzt1 : ∀ o, (w8.alloc o).cell? ⟨gt, 1, none⟩ = some (.int .i64 s2) := fun o => (World.cell?_alloc_some w8 _ o (by rw [hgt1]; rfl)).trans hgt1
      have hzu0 : ∀ o o2, ((w8.alloc o).alloc o2).cell? ⟨gt, 0, none⟩ = some (.int .i64 n2) := fun o o2 => (World.cell?_alloc_some _ _ o2 (by rw [hzt0]; rfl)).trans (hzt0 o)
      have hzu1 : ∀ o o2, ((w8.alloc o).alloc o2).cell? ⟨gt, 1, none⟩ = some (.int .i64 s2) := fun o o2 => (World.cell?_alloc_some _ _ o2 (by rw [hzt1]; rfl)).trans (hzt1 o)
      clear HP HGT8
      go_wp2_with fail
      go_region_law
        (first
          | (refine R_append_blk_step stK w.heap.size ?q1 (.tmp 120) (.tmp 122) 62 30 (.agg #[.int .i64 0, .int .i64 0]) 16 ?q2 Try.underlying62 infoSt ?q3 ?q4 ?q5 (.slice A7 hs.length c7) (hs.map fun x => (x.1, x.2.1)) (n, s) [.int .i64 n, .int .i64 s] _ ?q6 ?q7 ?q9 (HA1.out _ ?q10).ph ?q11 ?q12 ?_; (case q1 => rfl); (case q2 => rfl); (case q3 => rfl); (case q4 => decide); (case q5 => decide); (case q6 => rfl); (case q7 => (refine ⟨_, rfl, ?_⟩; first | exact heap_alloc_new _ _ | exact heap_alloc_at _ _ (by simp) | exact (Go.heap_alloc_old _ _ (by simp)).trans (heap_alloc_new _ _))); (case q9 => rfl); (case q10 => first | exact below_alloc (below_drew1 (Below.refl _ _)) _ | exact below_alloc (below_alloc (below_drew1 (Below.refl _ _)) _) _); (case q11 => exact (HA1.out _ (by first | exact below_alloc (below_drew1 (Below.refl _ _)) _ | exact below_alloc (below_alloc (below_drew1 (Below.refl _ _)) _) _)).below.size); (case q12 => rw [List.length_map]; omega); intro v1 wq ho hb hg hat; have HS := RB.step1 HA1.out HGB.out HGF.out HGL.out ho hb hg; replace HS := HS (by first | exact below_alloc (below_drew1 (Below.refl _ _)) _ | exact below_alloc (below_alloc (below_drew1 (Below.refl _ _)) _) _); obtain ⟨F, hQ, hHold, hgq, hgF⟩ := HS; have HQ2 : Aside0 (∀ W, Below wq.heap.size wq W → RB w (upd F wq.heap.size 5) g gs (bs ++ ys) n s ((hs.map fun x => (x.1, x.2.1)) ++ [(n, s)]) (hs.map fun x => x.2.2) v1 (.slice A8 hs.length c8) W) := ⟨fun W hb => hQ.make hb 5 (by omega)⟩; have HHold := Aside0.mk hHold; have HGQ := Aside0.mk hgq; have HGF2 := Aside0.mk hgF; have hk0 := hQ.cells.1; have hk1 := hQ.cells.2.1; have hk2 : wq.cell? ⟨gt, 0, none⟩ = some (.int .i64 n2) := (blk_cell hgq 0).trans rfl; have hk3 : wq.cell? ⟨gt, 1, none⟩ = some (.int .i64 s2) := (blk_cell hgq 1).trans rfl; have hk6 : ∀ o, (wq.alloc o).cell? ⟨gt, 0, none⟩ = some (.int .i64 n2) := fun o => (World.cell?_alloc_some wq _ o (by rw [hk2]; rfl)).trans hk2; have hk7 : ∀ o, (wq.alloc o).cell? ⟨gt, 1, none⟩ = some (.int .i64 s2) := fun o => (World.cell?_alloc_some wq _ o (by rw [hk3]; rfl)).trans hk3; obtain ⟨A9, c9, rfl⟩ := Kd.R_slice ho; clear hQ hHold hgq hgF hat ho hb hg)
          | (refine R_append_blk_step (Kd.int .i64) w.heap.size ?q1 (.tmp 124) (.tmp 126) 26 3 (.int .i64 0) 8 ?q2 Try.underlying26 infoI ?q3 ?q4 ?q5 (.slice A8 hs.length c8) (hs.map fun x => x.2.2) u [.int .i64 u] _ ?q6 ?q7 ?q9 (HQ2.out _ ?q10).pu ?q11 ?q12 ?_; (case q1 => rfl); (case q2 => rfl); (case q3 => rfl); (case q4 => decide); (case q5 => decide); (case q6 => rfl); (case q7 => (refine ⟨_, rfl, ?_⟩; first | exact heap_alloc_new _ _ | exact (HHold.out _ _ (heap_alloc_new _ _) (by simp)).1 | exact (HHold.out _ _ (heap_alloc_at _ _ (by simp)) (by simp)).1 | exact (HHold.out _ _ ((Go.heap_alloc_old _ _ (by simp)).trans (heap_alloc_new _ _)) (by simp)).1)); (case q9 => rfl); (case q10 => first | exact Below.refl _ _ | exact below_alloc (Below.refl _ _) _); (case q11 => exact (HQ2.out _ (by first | exact Below.refl _ _ | exact below_alloc (Below.refl _ _) _)).below.size); (case q12 => rw [List.length_map]; omega); intro v2 wq2 ho hb hg hat; have HS := RB.step2 HQ2.out HGQ.out HGF2.out ho hb hg; replace HS := HS (by first | exact Below.refl _ _ | exact below_alloc (Below.refl _ _) _); obtain ⟨F2, hQ, hgq⟩ := HS; have HQ3 := Aside0.mk hQ; have hm0 := hQ.cells.1; have hm1 := hQ.cells.2.1; have hm4 := hQ.cells.2.2.1; have hm5 := hQ.cells.2.2.2; have hm2 : wq2.cell? ⟨gt, 0, none⟩ = some (.int .i64 n2) := (blk_cell hgq 0).trans rfl; have hm3 : wq2.cell? ⟨gt, 1, none⟩ = some (.int .i64 s2) := (blk_cell hgq 1).trans rfl; obtain ⟨A10, c10, rfl⟩ := Kd.R_slice ho; clear hQ hgq hat ho hb hg))
      all_goals
        have HP4 : Aside0 (RB w F2 g gs (bitsH d (hs ++ [(n, s, u)])) n2 s2 ((hs ++ [(n, s, u)]).map fun x => (x.1, x.2.1)) ((hs ++ [(n, s, u)]).map fun x => x.2.2) (.slice A9 (hs ++ [(n, s, u)]).length c9) (.slice A10 (hs ++ [(n, s, u)]).length c10) ((wq2.setCell ⟨gs, 0, none⟩ (.int .i64 n2)).setCell ⟨gs, 1, none⟩ (.int .i64 s2))) := ⟨by
          have q := HQ3.out.set n2 s2
          rw [HNew.out]
          simp only [List.map_append, List.map_cons, List.map_nil, List.length_append, List.length_map, List.length_cons, List.length_nil] at q ⊢
          exact q⟩
        have HF2 : Aside0 (∀ x, x ∈ hs ++ [(n, s, u)] → FitsP x.1 x.2.1 d x.2.2) := ⟨fun x hx => by
          rcases List.mem_append.1 hx with h | h
          · exact HF.out x h
          · rw [List.mem_singleton.1 h]; exact HFit.out⟩
        clear HQ3 HQ2 HHold HGQ HGF2 hm0 hm1 hm2 hm3 hm4 hm5 hz0 hz1 hy0 hy1 hzt0 hzt1 hzu0 hzu1 hk6 hk7 hk0 hk1 hk2 hk3
        go_wp2_with fail
        go_roundw
        case rel => exact ⟨k + 1, F2, hs ++ [(n, s, u)], n2, s2, A9, A10, c9, c10, by omega, by rw [List.length_append]; simp; omega, by rw [List.length_append]; rfl, by rw [List.length_append]; rfl, by rw [HNew.out, List.length_append]; first | rfl | simp, by go_num, HM2, HF2, HP4⟩
        case measure => simp [intOf]; omega
    · have t1 : decide ((k : Int) < (l.length : Int)) = false := decide_eq_false (by omega)
      have t2 : decide (k < l.length) = false := decide_eq_false hlt
      obtain ⟨bs, hbs⟩ : ∃ bs, bitsH d hs = bs := ⟨_, rfl⟩
      have HBS := Aside0.mk hbs
      have HB01 : Aside0 (B01 bs) := ⟨by rw [← hbs]; exact bitsH_01 d hs⟩
      rw [hbs] at HP hbl ⊢
      have hbl2 : bs.length ≤ 37748736 := by omega
      clear hbs
      go_wp2_with fail
      refine (bytes_calls g _ bs wr HP.out.pw (by omega)).mono ?_
      rintro e w4 ⟨v, rfl, hR, hB⟩
      have hpl := packB_len bs
      have hpad := bitsOf_packB HB01.out
      obtain ⟨pk, hpk⟩ : ∃ pk, packB bs = pk := ⟨_, rfl⟩
      have HP8 : Aside0 (B8 pk) := ⟨by rw [← hpk]; exact packB_B8 HB01.out⟩
      rw [hpk] at hR hpl hpad
      have HPad := Aside0.mk hpad
      have hpk2 : pk.length < 1099511627776 := by omega
      obtain ⟨Ap, cp, rfl⟩ := Kd.R_slice hR
      have HCP := Aside0.mk (Kd.R_reads' hR).2.2
      have HH4 := Aside0.mk (Kd.R_below (Kd.R_bound HP.out.ph) hB)
      have HU4 := Aside0.mk (Kd.R_below (Kd.R_bound HP.out.pu) hB)
      have HB4 : Aside0 (Below w.heap.size w w4) := ⟨below_step HP.out.below hB⟩
      have hz4 := hB.size
      clear hR hB HP hpl hpk hpad
      go_wp2_with fail
      refine (open_calls Ap cp pk w4 HCP.out HP8.out hpk2).mono ?_
      rintro e w5 ⟨g2, rfl, hR, hB⟩
      have HI5 : Aside0 (IsR w5 g2 (fun j => w4.heap.size ≤ j) pk (bitsH d (hs.take 0)).length) := ⟨hR⟩
      have HH5 : Aside0 (stK.R 30 w5 w.heap.size (fun j => j < w4.heap.size) (.slice A7 hs.length c7) (hs.map fun x => (x.1, x.2.1))) := ⟨Kd.R_mono (Kd.R_below HH4.out hB) (fun j hj => Nat.lt_of_lt_of_le hj.2.2.1 hz4)⟩
      have HU5 : Aside0 (Kd.R (Kd.int .i64) 3 w5 w.heap.size (fun j => j < w4.heap.size) (.slice A8 hs.length c8) (hs.map fun x => x.2.2)) := ⟨Kd.R_mono (Kd.R_below HU4.out hB) (fun j hj => Nat.lt_of_lt_of_le hj.2.2.1 hz4)⟩
      have HB5 : Aside0 (Below w.heap.size w w5) := ⟨below_step HB4.out hB⟩
      have HS45 : Aside0 (w.heap.size ≤ w4.heap.size) := ⟨HB4.out.size⟩
      clear hR hB HCP HH4 HU4 HB4 HP8 hz4
      go_wp2_with fail
      go_loopw [18] (fun v18 wx => ∃ j : Nat, j ≤ hs.length ∧ v18 = .int .i64 j ∧ Aside0 (IsR wx g2 (fun j => w4.heap.size ≤ j) pk (bitsH d (hs.take j)).length) ∧ Aside0 (stK.R 30 wx w.heap.size (fun j => j < w4.heap.size) (.slice A7 hs.length c7) (hs.map fun x => (x.1, x.2.1))) ∧ Aside0 (Kd.R (Kd.int .i64) 3 wx w.heap.size (fun j => j < w4.heap.size) (.slice A8 hs.length c8) (hs.map fun x => x.2.2)) ∧ Aside0 (Below w.heap.size w wx))
        (fun v18 _ => ((hs.length : Int) - intOf v18).toNat)
      case atStart => exact ⟨0, by omega, rfl, HI5, HH5, HU5, HB5⟩
      case round =>
        clear HI5 HH5 HU5 HB5
        obtain ⟨j, hj, rfl, HI, HH, HU, HB⟩ := hrel
        by_cases hlj : j < hs.length
        · have u1 : decide ((j : Int) < (hs.length : Int)) = true := decide_eq_true (by omega)
          have u2 : decide (j < hs.length) = true := decide_eq_true hlj
          obtain ⟨ad7, e7, hx0, hx1⟩ := st_cells (Kd.R_reads' HH.out).2.2 j (by rw [List.length_map]; exact hlj)
          cases e7
          obtain ⟨ad8, e8, hx2⟩ := Kd.at_int (Kd.R_reads' HU.out).2.2 (j : Int) (by omega) (by rw [List.length_map]; omega)
          cases e8
          rw [st_map] at hx0 hx1
          rw [us_map, Int.toNat_natCast] at hx2
          have HTake : Aside0 (Calls Try.prog 28 #[.pointer (some ⟨g2, 0, none⟩), .agg #[.int .i64 (hs.getD j h0).1, .int .i64 (hs.getD j h0).2.1], .int .i64 d] wr fun e w' => e = .returned (.tuple #[.int .i64 (hs.getD j h0).2.2, .int .i64 0]) ∧ IsR w' g2 (fun j => w4.heap.size ≤ j) pk (bitsH d (hs.take (j + 1))).length ∧ Kp wr w' (fun j => w4.heap.size ≤ j)) := ⟨by
            refine (rtake_calls g2 _ pk _ _ _ d wr HI.out).mono ?_
            rintro e w' hT
            unfold TakePost at hT
            rw [Int.toNat_natCast, back_parts hlj (by rw [HPad.out, HBS.out]) HF.out] at hT
            obtain ⟨p', rfl, hR, hK, hp⟩ := hT
            have := hp rfl
            simp only at this
            rw [show p' = ((bitsH d (hs.take (j + 1))).length : Int) by omega] at hR
            exact ⟨rfl, hR, hK⟩⟩
          obtain ⟨x, hx⟩ : ∃ x, hs.getD j h0 = x := ⟨_, rfl⟩
          have HX := Aside0.mk hx
          rw [hx] at hx0 hx1 hx2 HTake
          clear hx
          obtain ⟨n1, s1, u1'⟩ := x
          simp only at hx0 hx1 hx2 HTake
          go_wp2_with fail
          refine HTake.out.mono ?_
          rintro e w6 ⟨rfl, hR, hK⟩
          have HI6 := Aside0.mk hR
          have HH6 := Aside0.mk (Kd.R_kept HH.out hK.1 (fun i hi h => by omega))
          have HU6 := Aside0.mk (Kd.R_kept HU.out hK.1 (fun i hi h => by omega))
          have HB6 : Aside0 (Below w.heap.size w w6) := ⟨below_kp HB.out hK (fun i hi => by have := HS45.out; omega) (Nat.le_refl _)⟩
          obtain ⟨ad9, e9, hx3⟩ := Kd.at_int (Kd.R_reads' HU6.out).2.2 (j : Int) (by omega) (by rw [List.length_map]; omega)
          cases e9
          rw [us_map, Int.toNat_natCast, HX.out] at hx3
          simp only at hx3
          clear HX hR hK hx0 hx1 hx2 HTake HI HH HU HB
          go_wp2_with fail
          go_roundw
          case rel => exact ⟨j + 1, by omega, by go_num, HI6, HH6, HU6, HB6⟩
          case measure => simp [intOf]; omega
        · have u1 : decide ((j : Int) < (hs.length : Int)) = false := decide_eq_false (by omega)
          have u2 : decide (j < hs.length) = false := decide_eq_false hlj
          have hjl : j = hs.length := by omega
          subst hjl
          rw [List.take_length, HBS.out] at HI
          go_wp2_with fail
          refine (at_calls g2 _ pk _ wr HI.out).mono ?_
          rintro e w9 ⟨rfl, hw⟩
          replace hw := hw.symm
          subst hw
          have u3 : (((bs.length : Nat) : Int) == (bs.length : Int)) = true := by simp
          go_wp2_with fail
          refine (end_calls g2 _ pk _ wr HI.out).mono ?_
          rintro e w9 ⟨rfl, hD⟩
          have HE : Aside0 (endL ((bitsOf pk).drop ((bs.length : Int)).toNat) = 0) := ⟨by rw [Int.toNat_natCast, HPad.out]; exact endL_pad (by omega)⟩
          rw [HE.out]
          have HB9 := Aside0.mk (below_step HB.out hD.below)
          clear hD
          go_wp2_with fail
          go_ret
          exact ⟨by simp, HB9.out⟩
end Go.Proofs.Ytnjfojpjfmnmcaa.Rice
