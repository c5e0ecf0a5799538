/- Plain laws on lists of bits: packing into bytes, the bits of a number, the bits of bytes. No program in sight. -/
import Derived.WalkKit
namespace Go.Proofs.Ytghhfendjkocmaa.BP

def B01 (l : List Int) : Prop := ∀ b, b ∈ l → b = 0 ∨ b = 1
def B8 (l : List Int) : Prop := ∀ b, b ∈ l → 0 ≤ b ∧ b < 256
def byteAt (l : List Int) (i : Nat) : Int :=
  128 * l.getD (8 * i + 0) 0 + 64 * l.getD (8 * i + 1) 0 + 32 * l.getD (8 * i + 2) 0 + 16 * l.getD (8 * i + 3) 0 + 8 * l.getD (8 * i + 4) 0 + 4 * l.getD (8 * i + 5) 0 + 2 * l.getD (8 * i + 6) 0 + l.getD (8 * i + 7) 0
def packB (l : List Int) : List Int := (List.range ((l.length + 7) / 8)).map (byteAt l)
def fullB (l : List Int) : List Int := (List.range (l.length / 8)).map (byteAt l)
def bval (l : List Int) : Int := l.foldl (fun a b => 2 * a + b) 0
def numBits (n : Int) (w : Nat) : List Int := (List.range w).map fun i => n / 2 ^ (w - 1 - i) % 2
def bitAt (b : List Int) (i : Nat) : Int := b.getD (i / 8) 0 / 2 ^ (7 - i % 8) % 2
def bitsOf (b : List Int) : List Int := (List.range (8 * b.length)).map (bitAt b)
def ones : List Int → Nat → Nat
  | _, 0 => 0
  | [], _ + 1 => 0
  | b :: t, m + 1 => if b = 1 then ones t m + 1 else 0

theorem B01.nil : B01 [] := fun _ h => by cases h
theorem B01.append {l m : List Int} (h : B01 l) (k : B01 m) : B01 (l ++ m) := fun b hb => by
  rcases List.mem_append.mp hb with hb | hb
  · exact h b hb
  · exact k b hb
theorem B01.snoc {l : List Int} {x : Int} (h : B01 l) (k : x = 0 ∨ x = 1) : B01 (l ++ [x]) := h.append fun b hb => by
  rw [List.mem_singleton] at hb; subst hb; exact k
theorem B01.take {l : List Int} (h : B01 l) (k : Nat) : B01 (l.take k) := fun b hb => h b (List.mem_of_mem_take hb)
theorem B01.drop {l : List Int} (h : B01 l) (k : Nat) : B01 (l.drop k) := fun b hb => h b (List.mem_of_mem_drop hb)
theorem getD_of_len {l : List Int} {i : Nat} (h : l.length ≤ i) : l.getD i 0 = 0 := by
  rw [List.getD_eq_getElem?_getD, List.getElem?_eq_none h]; rfl
theorem getD_mem {l : List Int} {i : Nat} (h : i < l.length) : l.getD i 0 ∈ l := by
  rw [List.getD_eq_getElem?_getD, List.getElem?_eq_getElem h]; exact List.getElem_mem h
theorem B01.getD {l : List Int} (h : B01 l) (i : Nat) : 0 ≤ l.getD i 0 ∧ l.getD i 0 ≤ 1 := by
  rcases Nat.lt_or_ge i l.length with hi | hi
  · rcases h _ (getD_mem hi) with e | e <;> rw [e] <;> decide
  · rw [getD_of_len hi]; decide
theorem B8.getD {l : List Int} (h : B8 l) (i : Nat) : 0 ≤ l.getD i 0 ∧ l.getD i 0 < 256 := by
  rcases Nat.lt_or_ge i l.length with hi | hi
  · exact h _ (getD_mem hi)
  · rw [getD_of_len hi]; decide
theorem getD_app_lt {l m : List Int} {i : Nat} (h : i < l.length) : (l ++ m).getD i 0 = l.getD i 0 := by
  rw [List.getD_eq_getElem?_getD, List.getD_eq_getElem?_getD, List.getElem?_append_left h]
theorem getD_snoc_eq {l : List Int} {x : Int} {i : Nat} (h : i = l.length) : (l ++ [x]).getD i 0 = x := by
  subst h; rw [List.getD_eq_getElem?_getD, List.getElem?_append_right (Nat.le_refl _)]; simp
theorem byteAt_bd {l : List Int} (h : B01 l) (i : Nat) : 0 ≤ byteAt l i ∧ byteAt l i < 256 := by
  unfold byteAt
  have h0 := h.getD (8 * i + 0); have h1 := h.getD (8 * i + 1); have h2 := h.getD (8 * i + 2); have h3 := h.getD (8 * i + 3)
  have h4 := h.getD (8 * i + 4); have h5 := h.getD (8 * i + 5); have h6 := h.getD (8 * i + 6); have h7 := h.getD (8 * i + 7)
  omega
theorem byteAt_app {l m : List Int} {i : Nat} (h : 8 * i + 8 ≤ l.length) : byteAt (l ++ m) i = byteAt l i := by
  unfold byteAt
  rw [getD_app_lt (by omega), getD_app_lt (by omega), getD_app_lt (by omega), getD_app_lt (by omega), getD_app_lt (by omega), getD_app_lt (by omega), getD_app_lt (by omega), getD_app_lt (by omega)]
theorem byteAt_past {l : List Int} {i : Nat} (h : l.length ≤ 8 * i) : byteAt l i = 0 := by
  unfold byteAt
  rw [getD_of_len (by omega), getD_of_len (by omega), getD_of_len (by omega), getD_of_len (by omega), getD_of_len (by omega), getD_of_len (by omega), getD_of_len (by omega), getD_of_len (by omega)]
  decide
/-- One bit more. -/
theorem byteAt_snoc {l : List Int} (x : Int) {q n : Nat} (hl : l.length = 8 * q + n) (hn : n < 8) : byteAt (l ++ [x]) q = byteAt l q + x * 2 ^ (7 - n) := by
  have hA : ∀ j, j < n → (l ++ [x]).getD (8 * q + j) 0 = l.getD (8 * q + j) 0 := fun j hj => getD_app_lt (by omega)
  have hB : (l ++ [x]).getD (8 * q + n) 0 = x := getD_snoc_eq (by omega)
  have hC : ∀ j, n < j → (l ++ [x]).getD (8 * q + j) 0 = 0 := fun j hj => getD_of_len (by simp; omega)
  have hD : ∀ j, n ≤ j → l.getD (8 * q + j) 0 = 0 := fun j hj => getD_of_len (by omega)
  unfold byteAt
  rcases (by omega : n = 0 ∨ n = 1 ∨ n = 2 ∨ n = 3 ∨ n = 4 ∨ n = 5 ∨ n = 6 ∨ n = 7) with e | e | e | e | e | e | e | e <;> subst e
  · rw [hB, hC 1 (by omega), hC 2 (by omega), hC 3 (by omega), hC 4 (by omega), hC 5 (by omega), hC 6 (by omega), hC 7 (by omega), hD 0 (by omega), hD 1 (by omega), hD 2 (by omega), hD 3 (by omega), hD 4 (by omega), hD 5 (by omega), hD 6 (by omega), hD 7 (by omega)]; omega
  · rw [hA 0 (by omega), hB, hC 2 (by omega), hC 3 (by omega), hC 4 (by omega), hC 5 (by omega), hC 6 (by omega), hC 7 (by omega), hD 1 (by omega), hD 2 (by omega), hD 3 (by omega), hD 4 (by omega), hD 5 (by omega), hD 6 (by omega), hD 7 (by omega)]; omega
  · rw [hA 0 (by omega), hA 1 (by omega), hB, hC 3 (by omega), hC 4 (by omega), hC 5 (by omega), hC 6 (by omega), hC 7 (by omega), hD 2 (by omega), hD 3 (by omega), hD 4 (by omega), hD 5 (by omega), hD 6 (by omega), hD 7 (by omega)]; omega
  · rw [hA 0 (by omega), hA 1 (by omega), hA 2 (by omega), hB, hC 4 (by omega), hC 5 (by omega), hC 6 (by omega), hC 7 (by omega), hD 3 (by omega), hD 4 (by omega), hD 5 (by omega), hD 6 (by omega), hD 7 (by omega)]; omega
  · rw [hA 0 (by omega), hA 1 (by omega), hA 2 (by omega), hA 3 (by omega), hB, hC 5 (by omega), hC 6 (by omega), hC 7 (by omega), hD 4 (by omega), hD 5 (by omega), hD 6 (by omega), hD 7 (by omega)]; omega
  · rw [hA 0 (by omega), hA 1 (by omega), hA 2 (by omega), hA 3 (by omega), hA 4 (by omega), hB, hC 6 (by omega), hC 7 (by omega), hD 5 (by omega), hD 6 (by omega), hD 7 (by omega)]; omega
  · rw [hA 0 (by omega), hA 1 (by omega), hA 2 (by omega), hA 3 (by omega), hA 4 (by omega), hA 5 (by omega), hB, hC 7 (by omega), hD 6 (by omega), hD 7 (by omega)]; omega
  · rw [hA 0 (by omega), hA 1 (by omega), hA 2 (by omega), hA 3 (by omega), hA 4 (by omega), hA 5 (by omega), hA 6 (by omega), hB, hD 7 (by omega)]; omega
/-- The part that isn't full has noughts at its lower end. -/
theorem byteAt_low {l : List Int} {q n : Nat} (hl : l.length = 8 * q + n) (hn : n < 8) : byteAt l q % 2 ^ (8 - n) = 0 := by
  have hD : ∀ j, n ≤ j → l.getD (8 * q + j) 0 = 0 := fun j hj => getD_of_len (by omega)
  unfold byteAt
  rcases (by omega : n = 0 ∨ n = 1 ∨ n = 2 ∨ n = 3 ∨ n = 4 ∨ n = 5 ∨ n = 6 ∨ n = 7) with e | e | e | e | e | e | e | e <;> subst e
  · rw [hD 0 (by omega), hD 1 (by omega), hD 2 (by omega), hD 3 (by omega), hD 4 (by omega), hD 5 (by omega), hD 6 (by omega), hD 7 (by omega)]; decide
  · rw [hD 1 (by omega), hD 2 (by omega), hD 3 (by omega), hD 4 (by omega), hD 5 (by omega), hD 6 (by omega), hD 7 (by omega)]; omega
  · rw [hD 2 (by omega), hD 3 (by omega), hD 4 (by omega), hD 5 (by omega), hD 6 (by omega), hD 7 (by omega)]; omega
  · rw [hD 3 (by omega), hD 4 (by omega), hD 5 (by omega), hD 6 (by omega), hD 7 (by omega)]; omega
  · rw [hD 4 (by omega), hD 5 (by omega), hD 6 (by omega), hD 7 (by omega)]; omega
  · rw [hD 5 (by omega), hD 6 (by omega), hD 7 (by omega)]; omega
  · rw [hD 6 (by omega), hD 7 (by omega)]; omega
  · rw [hD 7 (by omega)]; omega
theorem wraps_u8 (n : Int) (h₀ : 0 ≤ n) (h₁ : n < 2 ^ 8) : IntKind.u8.wrap n = n := by rw [IntKind.wrap_u8]; omega
theorem pow_le7 {n : Nat} (hn : n ≤ 7) : (1 : Int) ≤ 2 ^ n ∧ (2 : Int) ^ n ≤ 128 := by
  rcases (by omega : n = 0 ∨ n = 1 ∨ n = 2 ∨ n = 3 ∨ n = 4 ∨ n = 5 ∨ n = 6 ∨ n = 7) with e | e | e | e | e | e | e | e <;> subst e <;> decide
theorem or_part {l : List Int} (h : B01 l) {x : Int} (hx : x = 0 ∨ x = 1) {q n : Nat} (hl : l.length = 8 * q + n) (hn : n < 8) :
    bits .or .u8 (byteAt l q) (x * 2 ^ (7 - n) % 256) = byteAt (l ++ [x]) q := by
  have hp := pow_le7 (n := 7 - n) (by omega)
  have hb := byteAt_bd h q
  have e8 : (2 : Int) ^ (8 - n) = 2 * 2 ^ (7 - n) := by rw [show 8 - n = (7 - n) + 1 from by omega, Int.pow_succ]; omega
  have hm : x * 2 ^ (7 - n) % 256 = x * 2 ^ (7 - n) := by rcases hx with e | e <;> subst e <;> omega
  rw [hm, byteAt_snoc x hl hn]
  refine bits_join .u8 8 (by decide) wraps_u8 (8 - n) _ _ hb.1 (byteAt_low hl hn) (by omega) ?_ ?_ ?_
  · rcases hx with e | e <;> subst e <;> omega
  · rw [e8]; rcases hx with e | e <;> subst e <;> omega
  · rcases hx with e | e <;> subst e <;> omega
theorem fullB_len (l : List Int) : (fullB l).length = l.length / 8 := by simp [fullB]
theorem packB_len (l : List Int) : (packB l).length = (l.length + 7) / 8 := by simp [packB]
theorem fullB_snoc_lt {l : List Int} (x : Int) (h : l.length % 8 ≠ 7) : fullB (l ++ [x]) = fullB l := by
  unfold fullB
  rw [show (l ++ [x]).length / 8 = l.length / 8 from by simp; omega]
  exact List.map_congr_left fun i hi => byteAt_app (by have := List.mem_range.mp hi; omega)
theorem fullB_snoc_eq {l : List Int} (x : Int) (h : l.length % 8 = 7) : fullB (l ++ [x]) = fullB l ++ [byteAt (l ++ [x]) (l.length / 8)] := by
  unfold fullB
  rw [show (l ++ [x]).length / 8 = l.length / 8 + 1 from by simp; omega, List.range_succ, List.map_append]
  congr 1
  exact List.map_congr_left fun i hi => byteAt_app (by have := List.mem_range.mp hi; omega)
theorem packB_full {l : List Int} (h : l.length % 8 = 0) : packB l = fullB l := by
  unfold packB fullB; rw [show (l.length + 7) / 8 = l.length / 8 from by omega]
theorem packB_part {l : List Int} (h : l.length % 8 ≠ 0) : packB l = fullB l ++ [byteAt l (l.length / 8)] := by
  unfold packB fullB
  rw [show (l.length + 7) / 8 = l.length / 8 + 1 from by omega, List.range_succ, List.map_append]; rfl
theorem packB_B8 {l : List Int} (h : B01 l) : B8 (packB l) := fun b hb => by
  obtain ⟨i, _, rfl⟩ := List.mem_map.mp hb
  exact byteAt_bd h i
theorem bval_snoc (l : List Int) (x : Int) : bval (l ++ [x]) = 2 * bval l + x := by simp [bval]
theorem numBits_len (n : Int) (w : Nat) : (numBits n w).length = w := by simp [numBits]
theorem numBits_01 (n : Int) (w : Nat) : B01 (numBits n w) := fun b hb => by
  obtain ⟨i, _, rfl⟩ := List.mem_map.mp hb
  omega
theorem numBits_get {n : Int} {w k : Nat} (h : k < w) : (numBits n w)[k]? = some (n / 2 ^ (w - 1 - k) % 2) := by
  simp [numBits, h]
theorem numBits_take {n : Int} {w k : Nat} (h : k < w) : (numBits n w).take (k + 1) = (numBits n w).take k ++ [n / 2 ^ (w - 1 - k) % 2] := by
  rw [List.take_add_one, numBits_get h]; rfl
theorem bitsOf_len (b : List Int) : (bitsOf b).length = 8 * b.length := by simp [bitsOf]
theorem bitsOf_get {b : List Int} {i : Nat} (h : i < 8 * b.length) : (bitsOf b)[i]? = some (bitAt b i) := by simp [bitsOf, h]
theorem bitAt_01 (b : List Int) (i : Nat) : bitAt b i = 0 ∨ bitAt b i = 1 := by unfold bitAt; omega
theorem bitsOf_01 (b : List Int) : B01 (bitsOf b) := fun x hx => by
  obtain ⟨i, _, rfl⟩ := List.mem_map.mp hx
  exact bitAt_01 b i
theorem foldl_bd (l : List Int) : ∀ a : Int, B01 l → a * 2 ^ l.length ≤ l.foldl (fun a b => 2 * a + b) a ∧ l.foldl (fun a b => 2 * a + b) a < (a + 1) * 2 ^ l.length := by
  induction l with
  | nil => intro a _; simp; omega
  | cons x t ih =>
    intro a h
    have hx := h x List.mem_cons_self
    have := ih (2 * a + x) (fun b hb => h b (List.mem_cons_of_mem _ hb))
    rw [List.foldl_cons, List.length_cons, Int.pow_succ]
    have hp : (0 : Int) < 2 ^ t.length := Int.pow_pos (by decide)
    have e1 : a * (2 ^ t.length * 2) = (2 * a) * 2 ^ t.length := by rw [Int.mul_comm (2 ^ t.length) 2, ← Int.mul_assoc, Int.mul_comm a 2]
    have e2 : (a + 1) * (2 ^ t.length * 2) = (2 * a + 2) * 2 ^ t.length := by rw [Int.mul_comm (2 ^ t.length) 2, ← Int.mul_assoc]; congr 1; omega
    rw [e1, e2]
    constructor
    · exact Int.le_trans (Int.mul_le_mul_of_nonneg_right (by omega) (by omega)) this.1
    · exact Int.lt_of_lt_of_le this.2 (Int.mul_le_mul_of_nonneg_right (by omega) (by omega))
theorem bval_bd {l : List Int} (h : B01 l) : 0 ≤ bval l ∧ bval l < 2 ^ l.length := by
  have := foldl_bd l 0 h
  unfold bval
  omega
theorem ones_le (l : List Int) : ∀ m, ones l m ≤ m ∧ ones l m ≤ l.length := by
  induction l with
  | nil => intro m; cases m <;> simp [ones]
  | cons b t ih =>
    intro m
    cases m with
    | zero => simp [ones]
    | succ m =>
      have := ih m
      simp only [ones]
      split <;> simp <;> omega
theorem ones_at (l : List Int) : ∀ (n m : Nat), (∀ i, i < n → l.getD i 0 = 1) → n ≤ m → n ≤ l.length → (n = m ∨ n = l.length ∨ l.getD n 0 ≠ 1) → ones l m = n := by
  induction l with
  | nil => intro n m _ _ h _; cases m <;> simp [ones] at * <;> omega
  | cons b t ih =>
    intro n m h hm hl hs
    cases m with
    | zero => simp [ones]; omega
    | succ m =>
      simp only [ones]
      cases n with
      | zero =>
        rcases hs with hs | hs | hs
        · omega
        · simp at hs
        · rw [if_neg (by simpa using hs)]
      | succ n =>
        rw [if_pos (by simpa using h 0 (by omega))]
        rw [ih n m (fun i hi => by simpa using h (i + 1) (by omega)) (by omega) (by simpa using hl) (by simpa using hs)]
theorem ones_all (l : List Int) : ∀ (m i : Nat), i < ones l m → l.getD i 0 = 1 := by
  induction l with
  | nil => intro m i h; cases m <;> simp [ones] at h
  | cons b t ih =>
    intro m i h
    cases m with
    | zero => simp [ones] at h
    | succ m =>
      simp only [ones] at h
      split at h
      · cases i with
        | zero => simpa using ‹b = 1›
        | succ i => simpa using ih m i (by omega)
      · omega
/-- What Take answers over a list of bits: the number, the error. -/
def takeL (l : List Int) (width : Int) : Int × Int := if width < 0 ∨ 32 < width then (0, 1) else if (l.length : Int) < width then (0, 2) else (bval (l.take width.toNat), 0)
/-- What Ones answers over a list of bits: the number, the error, how many bits are passed. -/
def onesL (l : List Int) (most : Int) : Int × Int × Int :=
  if most < 0 ∨ 64 < most then (0, 1, 0) else if (ones l most.toNat : Int) = most then (most, 0, most) else if ones l most.toNat = l.length then (0, 2, 0) else (ones l most.toNat, 0, ones l most.toNat + 1)
def endL (l : List Int) : Int := if 8 ≤ l.length then 5 else if l.all (· == 0) then 0 else 3
/-- What a Put writes; none: it is refused. -/
def putL (n width : Int) : Option (List Int) := if width < 0 ∨ 32 < width ∨ n < 0 ∨ n / 2 ^ width.toNat ≠ 0 then none else some (numBits n width.toNat)
def onesW (n most : Int) : Option (List Int) := if most < 0 ∨ 64 < most ∨ n < 0 ∨ most < n then none else some (List.replicate n.toNat 1 ++ if n < most then [0] else [])
theorem putL_01 {n width : Int} {l : List Int} (h : putL n width = some l) : B01 l := by
  unfold putL at h; split at h
  · cases h
  · cases h; exact numBits_01 _ _
theorem onesW_01 {n most : Int} {l : List Int} (h : onesW n most = some l) : B01 l := by
  unfold onesW at h; split at h
  · cases h
  · cases h
    refine B01.append (fun b hb => .inr (List.eq_of_mem_replicate hb)) ?_
    split
    · exact fun b hb => .inl (by simpa using hb)
    · exact B01.nil
end Go.Proofs.Ytghhfendjkocmaa.BP
