/-
  Numbers in limbs of nine decimal digits: plain arithmetic, of no program.
  Decimal texts and rational numbers: plain arithmetic, of no program.
  Plain mathematics: the long division.
  Plain mathematics: the reference's long division, and its texts of numbers.
  Plain law: the texts that the reference reads as numbers are the canonical ones.
-/
import Derived.Lib.ItoaNum
import Derived.Lib.Atoi
namespace Go.Proofs.YtpkhgdnkkdhlcaaGreatDoor.Ar

def B : Nat := 1000000000
theorem B_eq : B = 1000000000 := rfl
theorem B_pos : 0 < B := by decide

/-- The number of limbs, the least significant one first. -/
def val : List Nat → Nat
  | [] => 0
  | x :: xs => x + B * val xs

/-- The limbs of a number, without a most significant limb 0. -/
def limbs (n : Nat) : List Nat := if _h : n = 0 then [] else n % B :: limbs (n / B)
termination_by n
decreasing_by exact Nat.div_lt_self (Nat.pos_of_ne_zero _h) (by decide)

theorem limbs_zero : limbs 0 = [] := by rw [limbs]; rfl
theorem limbs_pos {n : Nat} (h : 0 < n) : limbs n = n % B :: limbs (n / B) := by
  rw [limbs]; rw [dif_neg (by omega)]

theorem val_limbs (n : Nat) : val (limbs n) = n := by
  induction n using Nat.strongRecOn with
  | _ n ih =>
    by_cases h : n = 0
    · subst h; rw [limbs_zero]; rfl
    · rw [limbs_pos (by omega)]
      show n % B + B * val (limbs (n / B)) = n
      rw [ih _ (Nat.div_lt_self (by omega) (by decide))]
      exact Nat.mod_add_div n B

theorem limbs_lt (n : Nat) : ∀ x ∈ limbs n, x < B := by
  induction n using Nat.strongRecOn with
  | _ n ih =>
    by_cases h : n = 0
    · subst h; rw [limbs_zero]; intro x hx; cases hx
    · rw [limbs_pos (by omega)]
      intro x hx
      rcases List.mem_cons.1 hx with rfl | hx
      · exact Nat.mod_lt _ B_pos
      · exact ih _ (Nat.div_lt_self (by omega) (by decide)) x hx

theorem limbs_nil {n : Nat} : limbs n = [] ↔ n = 0 := by
  constructor
  · intro h
    have := val_limbs n
    rw [h] at this
    exact this.symm
  · rintro rfl; exact limbs_zero

theorem limbs_len_pos {n : Nat} (h : 0 < n) : 0 < (limbs n).length := by
  rcases Nat.eq_zero_or_pos (limbs n).length with h0 | h0
  · have := limbs_nil.1 (List.eq_nil_of_length_eq_zero h0); omega
  · exact h0

theorem limbs_len_zero {n : Nat} : (limbs n).length = 0 ↔ n = 0 := by
  rw [List.length_eq_zero_iff, limbs_nil]

/-- All limbs are below the base. -/
def Small (l : List Nat) : Prop := ∀ x ∈ l, x < B

theorem Small.nil : Small [] := fun _ h => by cases h
theorem Small.cons {x : Nat} {l : List Nat} (hx : x < B) (h : Small l) : Small (x :: l) := fun y hy => by
  rcases List.mem_cons.1 hy with rfl | hy
  · exact hx
  · exact h y hy
theorem Small.head {x : Nat} {l : List Nat} (h : Small (x :: l)) : x < B := h x List.mem_cons_self
theorem Small.tail {x : Nat} {l : List Nat} (h : Small (x :: l)) : Small l := fun y hy => h y (List.mem_cons_of_mem _ hy)
theorem Small.take {l : List Nat} (h : Small l) (k : Nat) : Small (l.take k) := fun y hy => h y (List.mem_of_mem_take hy)
theorem Small.drop {l : List Nat} (h : Small l) (k : Nat) : Small (l.drop k) := fun y hy => h y (List.mem_of_mem_drop hy)
theorem Small.append {l m : List Nat} (h : Small l) (k : Small m) : Small (l ++ m) := fun y hy => by
  rcases List.mem_append.1 hy with hy | hy
  · exact h y hy
  · exact k y hy
theorem Small.limbs (n : Nat) : Small (limbs n) := limbs_lt n
theorem Small.getD {l : List Nat} (h : Small l) (k : Nat) : l.getD k 0 < B := by
  rw [List.getD_eq_getElem?_getD]
  rcases Nat.lt_or_ge k l.length with hk | hk
  · rw [List.getElem?_eq_getElem hk]; exact h _ (List.getElem_mem hk)
  · rw [List.getElem?_eq_none hk]; exact B_pos
theorem Small.replicate (n : Nat) : Small (List.replicate n 0) := fun x hx => by
  rw [List.eq_of_mem_replicate hx]; exact B_pos

theorem val_nil : val [] = 0 := rfl
theorem val_cons (x : Nat) (l : List Nat) : val (x :: l) = x + B * val l := rfl
theorem val_append (l m : List Nat) : val (l ++ m) = val l + B ^ l.length * val m := by
  induction l with
  | nil => simp [val]
  | cons x l ih =>
    simp only [List.cons_append, val, ih, List.length_cons, Nat.pow_succ]
    grind
theorem val_snoc (l : List Nat) (x : Nat) : val (l ++ [x]) = val l + B ^ l.length * x := by
  rw [val_append]; simp [val]
theorem val_replicate (n : Nat) : val (List.replicate n 0) = 0 := by
  induction n with
  | zero => rfl
  | succ n ih => rw [List.replicate_succ, val, ih]; rfl
theorem val_lt {l : List Nat} (h : Small l) : val l < B ^ l.length := by
  induction l with
  | nil => simp [val]
  | cons x l ih =>
    have hx := h.head
    have := ih h.tail
    simp only [val, List.length_cons, Nat.pow_succ]
    have h1 : val l + 1 ≤ B ^ l.length := this
    have h2 : B * (val l + 1) ≤ B * B ^ l.length := Nat.mul_le_mul_left _ h1
    rw [Nat.mul_add, Nat.mul_one] at h2
    rw [Nat.mul_comm (B ^ l.length) B]
    omega

theorem take_snoc (l : List Nat) {k : Nat} (hk : k < l.length) : l.take (k + 1) = l.take k ++ [l[k]] := by
  rw [List.take_succ_eq_append_getElem hk]

theorem val_take_succ (l : List Nat) {k : Nat} (hk : k < l.length) : val (l.take (k + 1)) = val (l.take k) + B ^ k * l[k] := by
  rw [take_snoc l hk, val_snoc, List.length_take, Nat.min_eq_left (by omega)]

/-- Limbs of which the most significant one is not 0 are those of their number. -/
theorem limbs_val {l : List Nat} (h : Small l) (hl : l = [] ∨ ∃ m x, l = m ++ [x] ∧ 0 < x) : limbs (val l) = l := by
  induction l with
  | nil => exact limbs_zero
  | cons x l ih =>
    have hx := h.head
    rcases hl with hl | ⟨m, y, hm, hy⟩
    · cases hl
    · have hpos : 0 < val (x :: l) := by
        rw [hm, val_snoc]
        have : 0 < B ^ m.length * y := Nat.mul_pos (Nat.pow_pos B_pos) hy
        omega
      have hq : (x + B * val l) / B = val l := by
        rw [Nat.add_mul_div_left _ _ B_pos, Nat.div_eq_of_lt hx]; omega
      have hr : (x + B * val l) % B = x := by
        rw [Nat.add_mul_mod_self_left, Nat.mod_eq_of_lt hx]
      rw [limbs_pos hpos, val, hq, hr]
      congr 1
      apply ih h.tail
      cases l with
      | nil => left; rfl
      | cons z l =>
        right
        cases m with
        | nil => simp at hm
        | cons w m =>
          simp only [List.cons_append, List.cons.injEq] at hm
          exact ⟨m, y, hm.2, hy⟩

theorem limbs_top {n : Nat} (h : 0 < n) : ∃ m x, limbs n = m ++ [x] ∧ 0 < x := by
  induction n using Nat.strongRecOn with
  | _ n ih =>
    rw [limbs_pos h]
    by_cases hq : n / B = 0
    · refine ⟨[], n % B, ?_, ?_⟩
      · rw [hq, limbs_zero]; rfl
      · have := Nat.mod_add_div n B; rw [hq] at this; omega
    · obtain ⟨m, x, hm, hx⟩ := ih (n / B) (Nat.div_lt_self h (by decide)) (Nat.pos_of_ne_zero hq)
      exact ⟨n % B :: m, x, by rw [hm]; rfl, hx⟩

/-- What 'trim' finds: the limbs up to the last one that is not 0. -/
theorem limbs_take {l : List Nat} (h : Small l) {k : Nat} (hk : k ≤ l.length) (hz : ∀ j, k ≤ j → j < l.length → l.getD j 0 = 0) (ht : k = 0 ∨ 0 < l.getD (k - 1) 0) :
    limbs (val l) = l.take k := by
  have hv : val l = val (l.take k) := by
    have hd : l.drop k = List.replicate (l.length - k) 0 := by
      apply List.ext_getElem
      · simp
      · intro i h1 h2
        simp only [List.length_drop] at h1
        have := hz (k + i) (by omega) (by omega)
        rw [List.getD_eq_getElem?_getD, List.getElem?_eq_getElem (by omega)] at this
        simpa using this
    conv => lhs; rw [← List.take_append_drop k l, val_append, hd, val_replicate]
    simp
  rw [hv]
  apply limbs_val (h.take k)
  rcases ht with rfl | ht
  · left; simp
  · rcases Nat.eq_zero_or_pos k with rfl | hk0
    · left; simp
    · right
      refine ⟨l.take (k - 1), l[k - 1], ?_, ?_⟩
      · have := take_snoc l (k := k - 1) (by omega)
        rw [show k - 1 + 1 = k by omega] at this
        exact this
      · rw [List.getD_eq_getElem?_getD, List.getElem?_eq_getElem (by omega)] at ht
        simpa using ht

theorem limbs_len_le {n k : Nat} (h : n < B ^ k) : (limbs n).length ≤ k := by
  rcases Nat.eq_zero_or_pos n with rfl | hn
  · rw [limbs_zero]; simp
  · obtain ⟨m, x, hm, hx⟩ := limbs_top hn
    have hv := val_limbs n
    rw [hm, val_snoc] at hv
    rw [hm, List.length_append, List.length_singleton]
    apply Nat.lt_of_not_le
    intro hle
    have h1 : B ^ k ≤ B ^ m.length := Nat.pow_le_pow_right B_pos hle
    have h2 : B ^ m.length ≤ B ^ m.length * x := Nat.le_mul_of_pos_right _ hx
    omega

theorem lt_pow_len (n : Nat) : n < B ^ (limbs n).length := by
  have := val_lt (Small.limbs n)
  rwa [val_limbs] at this

theorem pow_len_le {n : Nat} (h : 0 < n) : B ^ ((limbs n).length - 1) ≤ n := by
  obtain ⟨m, x, hm, hx⟩ := limbs_top h
  have hv := val_limbs n
  rw [hm, val_snoc] at hv
  rw [hm, List.length_append, List.length_singleton]
  have h2 : B ^ m.length ≤ B ^ m.length * x := Nat.le_mul_of_pos_right _ hx
  simp only [Nat.add_sub_cancel]
  omega

/-- Fewer limbs: a lesser number. -/
theorem lt_of_len {a b : Nat} (h : (limbs a).length < (limbs b).length) : a < b := by
  have hb : 0 < b := by
    rcases Nat.eq_zero_or_pos b with rfl | hb
    · rw [limbs_zero] at h; simp at h
    · exact hb
  have h1 := lt_pow_len a
  have h2 := pow_len_le hb
  have h3 : B ^ (limbs a).length ≤ B ^ ((limbs b).length - 1) := Nat.pow_le_pow_right B_pos (by omega)
  omega

theorem len_mono {a b : Nat} (h : a ≤ b) : (limbs a).length ≤ (limbs b).length := by
  apply Nat.le_of_not_lt
  intro hlt
  have := lt_of_len hlt
  omega

theorem len_mul_le (a b : Nat) : (limbs (a * b)).length ≤ (limbs a).length + (limbs b).length := by
  apply limbs_len_le
  rw [Nat.pow_add]
  exact Nat.mul_lt_mul'' (lt_pow_len a) (lt_pow_len b)
theorem len_add_le (a b : Nat) : (limbs (a + b)).length ≤ max (limbs a).length (limbs b).length + 1 := by
  apply limbs_len_le
  have h1 := lt_pow_len a
  have h2 := lt_pow_len b
  have h3 : B ^ (limbs a).length ≤ B ^ max (limbs a).length (limbs b).length := Nat.pow_le_pow_right B_pos (Nat.le_max_left _ _)
  have h4 : B ^ (limbs b).length ≤ B ^ max (limbs a).length (limbs b).length := Nat.pow_le_pow_right B_pos (Nat.le_max_right _ _)
  rw [Nat.pow_succ]
  have h5 : B ^ max (limbs a).length (limbs b).length * 2 ≤ B ^ max (limbs a).length (limbs b).length * B := Nat.mul_le_mul_left _ (by decide)
  omega
theorem limbs_single {x : Nat} (h0 : 0 < x) (h : x < B) : limbs x = [x] := by
  rw [limbs_pos h0, Nat.mod_eq_of_lt h, Nat.div_eq_of_lt h, limbs_zero]
theorem limbs_one : limbs 1 = [1] := limbs_single (by decide) (by decide)
theorem eq_one_of_limbs {n : Nat} (h : limbs n = [1]) : n = 1 := by have := val_limbs n; rw [h] at this; simpa [val] using this.symm

/-- Two numbers whose limbs from place k on are the same. -/
theorem val_split (l : List Nat) (k : Nat) : val l = val (l.take k) + B ^ min k l.length * val (l.drop k) := by
  conv => lhs; rw [← List.take_append_drop k l, val_append]
  rw [List.length_take]

/-- The first limb from above that differs decides. -/
theorem lt_of_top {l m : List Nat} (hl : Small l) (hm : l.length = m.length) {i : Nat} (hi : i < l.length) (hd : l.drop (i + 1) = m.drop (i + 1)) (hlt : l.getD i 0 < m.getD i 0) : val l < val m := by
  have e1 := val_split l (i + 1)
  have e2 := val_split m (i + 1)
  rw [hd] at e1
  rw [Nat.min_eq_left (by omega)] at e1 e2
  have t1 := val_take_succ l hi
  have t2 := val_take_succ m (k := i) (by omega)
  rw [List.getD_eq_getElem?_getD, List.getElem?_eq_getElem hi, List.getD_eq_getElem?_getD, List.getElem?_eq_getElem (by omega)] at hlt
  simp only [Option.getD_some] at hlt
  have hb := val_lt (hl.take i)
  rw [List.length_take, Nat.min_eq_left (by omega)] at hb
  have h1 : B ^ i * (l[i] + 1) ≤ B ^ i * m[i] := Nat.mul_le_mul_left _ hlt
  rw [Nat.mul_add, Nat.mul_one] at h1
  omega

end Go.Proofs.YtpkhgdnkkdhlcaaGreatDoor.Ar

namespace Go.Proofs.YtpkhgdnkkdhlcaaGreatDoor.Ar

/-- A digit of a quotient is at most what its divisor's first digit lets guess. -/
theorem guess_ge {W v b t vl p : Nat} (hp : 0 < p) (ht : 0 < t) (hv : v = vl + p * t) (hb : W < v * b) : W / v ≤ min (W / p / t) (b - 1) := by
  have hvp : 0 < v := by rw [hv]; have := Nat.mul_pos hp ht; omega
  have h1 : W / v < b := Nat.div_lt_of_lt_mul hb
  have h2 : W / v ≤ W / p / t := by
    rw [Nat.div_div_eq_div_mul]
    have : p * t ≤ v := by omega
    exact Nat.div_le_div_left this (Nat.mul_pos hp ht)
  omega

theorem div_eq_of {W v g : Nat} (h1 : v * g ≤ W) (h2 : W / v ≤ g) (hv : 0 < v) : W / v = g := by
  have : g ≤ W / v := (Nat.le_div_iff_mul_le hv).2 (by rw [Nat.mul_comm]; exact h1)
  omega

theorem mod_of_div {W v g : Nat} (h : W / v = g) : W - v * g = W % v := by
  subst h
  have := Nat.div_add_mod W v
  omega

/-- Euclid's step. -/
theorem gcd_step (a b : Nat) : Nat.gcd b (a % b) = Nat.gcd a b := by
  rw [Nat.gcd_comm b, ← Nat.gcd_rec, Nat.gcd_comm]

end Go.Proofs.YtpkhgdnkkdhlcaaGreatDoor.Ar

namespace Go.Proofs.YtpkhgdnkkdhlcaaGreatDoor.Ar

theorem val_set (l : List Nat) : ∀ (i v : Nat), i < l.length → val (l.set i v) + B ^ i * l.getD i 0 = val l + B ^ i * v := by
  induction l with
  | nil => intro i v h; simp at h
  | cons x l ih =>
    intro i v h
    cases i with
    | zero => simp [val]; omega
    | succ i =>
      have := ih i v (by simpa using h)
      simp only [List.set_cons_succ, val, List.getD_cons_succ, Nat.pow_succ]
      have e1 : B ^ i * B * l.getD i 0 = B * (B ^ i * l.getD i 0) := by grind
      have e2 : B ^ i * B * v = B * (B ^ i * v) := by grind
      rw [e1, e2]
      have : B * (val (l.set i v) + B ^ i * l.getD i 0) = B * (val l + B ^ i * v) := by rw [this]
      rw [Nat.mul_add, Nat.mul_add] at this
      omega
theorem Small.set {l : List Nat} (h : Small l) {i v : Nat} (hv : v < B) : Small (l.set i v) := fun x hx => by
  rcases List.mem_or_eq_of_mem_set hx with h1 | rfl
  · exact h x h1
  · exact hv
theorem val_take_snoc (l : List Nat) {k : Nat} (h : k < l.length) : val (l.take (k + 1)) = val (l.take k) + B ^ k * l.getD k 0 := by
  rw [val_take_succ l h, List.getD_eq_getElem?_getD, List.getElem?_eq_getElem h]; rfl
theorem val_take_all (l : List Nat) {k : Nat} (h : l.length ≤ k) : val (l.take k) = val l := by rw [List.take_of_length_le h]
/-- Beyond its end a list of limbs goes on with 0. -/
theorem val_take_ge (l : List Nat) (k : Nat) : val (l.take (k + 1)) = val (l.take k) + B ^ k * l.getD k 0 := by
  rcases Nat.lt_or_ge k l.length with h | h
  · exact val_take_snoc l h
  · rw [val_take_all l h, val_take_all l (by omega), List.getD_eq_getElem?_getD, List.getElem?_eq_none h]; simp
theorem take_set_lt (l : List Nat) (i k v : Nat) (h : k ≤ i) : (l.set i v).take k = l.take k := by
  apply List.ext_getElem?
  intro j
  rw [List.getElem?_take, List.getElem?_take]
  split
  · rw [List.getElem?_set_ne (by omega)]
  · rfl
theorem take_set_eq (l : List Nat) (i v : Nat) (h : i < l.length) : (l.set i v).take (i + 1) = l.take i ++ [v] := by
  rw [List.take_succ_eq_append_getElem (by simpa using h)]
  congr 1
  · exact take_set_lt l i i v (Nat.le_refl _)
  · simp

/-- One digit of a sum. -/
theorem add_step {A Bv o c s x y p : Nat} (h : o + c * p = A + Bv) (hs : s = x + y + c) : (o + p * (s % B)) + (s / B) * (p * B) = (A + p * x) + (Bv + p * y) := by
  have := Nat.mod_add_div s B
  have e : p * (s % B + B * (s / B)) = p * s := by rw [this]
  rw [Nat.mul_add] at e
  have e2 : s / B * (p * B) = p * (B * (s / B)) := by grind
  rw [e2]
  subst hs
  have : p * (x + y + c) = p * x + p * y + c * p := by grind
  omega
theorem carry_le {s c x y : Nat} (hx : x < B) (hy : y < B) (hc : c ≤ 1) (hs : s = x + y + c) : s / B ≤ 1 := by
  have : s < 2 * B := by omega
  have := Nat.div_lt_of_lt_mul (k := 2) (m := s) (n := B) (by omega)
  omega
/-- One digit of a product. -/
theorem mul_step {o c p s x y r t : Nat} (h : o + c * p = t) (hs : s = x * y + r + c) : (o + p * (s % B)) + (s / B) * (p * B) = t + p * (x * y) + p * r := by
  have := Nat.mod_add_div s B
  have e : p * (s % B + B * (s / B)) = p * s := by rw [this]
  rw [Nat.mul_add] at e
  have e2 : s / B * (p * B) = p * (B * (s / B)) := by grind
  rw [e2]
  subst hs
  have : p * (x * y + r + c) = p * (x * y) + p * r + c * p := by grind
  omega
theorem mul_carry {s x y r c : Nat} (hx : x < B) (hy : y < B) (hr : r < B) (hc : c < B) (hs : s = x * y + r + c) : s / B < B := by
  apply Nat.div_lt_of_lt_mul
  have h1 : x ≤ B - 1 := by omega
  have h2 : y ≤ B - 1 := by omega
  have := Nat.mul_le_mul h1 h2
  have e : (B - 1) * (B - 1) + 2 * (B - 1) < B * B := by decide
  omega
/-- One digit of a difference. -/
theorem sub_step {A Bv o c p x y d c' : Nat} (h : o + Bv = A + c * p) (hd : d + y + c = x + c' * B) : (o + p * d) + (Bv + p * y) = (A + p * x) + c' * (p * B) := by
  have e : p * (d + y + c) = p * (x + c' * B) := by rw [hd]
  rw [Nat.mul_add, Nat.mul_add, Nat.mul_add] at e
  have e2 : p * (c' * B) = c' * (p * B) := by grind
  have e3 : p * c = c * p := Nat.mul_comm _ _
  omega
end Go.Proofs.YtpkhgdnkkdhlcaaGreatDoor.Ar

open Go Go.Lib
namespace Go.Proofs.YtpkhgdnkkdhlcaaGreatDoor.Ar

/-- A decimal digit as a byte. -/
def digit (d : Nat) : UInt8 := UInt8.ofNat (48 + d)

theorem digit_toNat {d : Nat} (h : d < 10) : (digit d).toNat = 48 + d := by
  unfold digit; rw [UInt8.toNat_ofNat']; omega
theorem digitVal_digit {d : Nat} (h : d < 10) : digitVal (digit d) = some d := by
  unfold digitVal; rw [digit_toNat h, if_pos (by omega)]; congr 1; omega

theorem decFrom_append (l m : List UInt8) : ∀ acc, decFrom acc (l ++ m) = (decFrom acc l).bind fun n => decFrom n m := by
  induction l with
  | nil => intro acc; rfl
  | cons b l ih =>
    intro acc
    simp only [List.cons_append, decFrom]
    cases h : digitVal b with
    | none => rfl
    | some d => exact ih _

theorem decFrom_add (l : List UInt8) : ∀ acc n, decFrom 0 l = some n → decFrom acc l = some (acc * 10 ^ l.length + n) := by
  suffices h : ∀ acc b n, decFrom b l = some n → ∃ m, n = b * 10 ^ l.length + m ∧ decFrom acc l = some (acc * 10 ^ l.length + m) by
    intro acc n hn
    obtain ⟨m, hm, h2⟩ := h acc 0 n hn
    rw [h2]; simp at hm; rw [hm]
  induction l with
  | nil => intro acc b n h; simp only [decFrom, Option.some.injEq] at h; exact ⟨0, by simp [h], by simp [decFrom]⟩
  | cons c l ih =>
    intro acc b n h
    simp only [decFrom] at h ⊢
    cases hc : digitVal c with
    | none => rw [hc] at h; cases h
    | some d =>
      rw [hc] at h
      obtain ⟨m, hm, h2⟩ := ih (acc * 10 + d) _ _ h
      refine ⟨d * 10 ^ l.length + m, ?_, ?_⟩
      · rw [hm, List.length_cons, Nat.pow_succ]; grind
      · simp only [h2, List.length_cons, Nat.pow_succ, Option.some.injEq]; grind

theorem decDigits_small {u : Nat} (h : u < 10) : decDigits u = [digit u] := by rw [decDigits, dif_pos h]; rfl
theorem decDigits_big {u : Nat} (h : 10 ≤ u) : decDigits u = decDigits (u / 10) ++ [digit (u % 10)] := by rw [decDigits, dif_neg (by omega)]; rfl

theorem decFrom_decDigits (u : Nat) : decFrom 0 (decDigits u) = some u := by
  induction u using Nat.strongRecOn with
  | _ u ih =>
    by_cases h : u < 10
    · rw [decDigits_small h]; simp [decFrom, digitVal_digit h]
    · rw [decDigits_big (by omega), decFrom_append, ih _ (by omega)]
      simp only [Option.bind_some, decFrom, digitVal_digit (Nat.mod_lt u (by decide : 0 < 10))]
      congr 1; omega

theorem decDigits_ne (u : Nat) : decDigits u ≠ [] := by
  by_cases h : u < 10
  · rw [decDigits_small h]; simp
  · rw [decDigits_big (by omega)]; simp

/-- All bytes are decimal digits. -/
def Digs (l : List UInt8) : Prop := ∀ b ∈ l, 48 ≤ b.toNat ∧ b.toNat ≤ 57

theorem digs_decFrom {l : List UInt8} (h : Digs l) : ∀ acc, ∃ n, decFrom acc l = some n := by
  induction l with
  | nil => intro acc; exact ⟨acc, rfl⟩
  | cons b l ih =>
    intro acc
    have hb := h b List.mem_cons_self
    have : digitVal b = some (b.toNat - 48) := by unfold digitVal; rw [if_pos hb]
    obtain ⟨n, hn⟩ := ih (fun c hc => h c (List.mem_cons_of_mem _ hc)) (acc * 10 + (b.toNat - 48))
    exact ⟨n, by simp only [decFrom, this, hn]⟩

theorem decFrom_digs (l : List UInt8) : ∀ acc n, decFrom acc l = some n → Digs l := by
  induction l with
  | nil => intro _ _ _ b hb; cases hb
  | cons c l ih =>
    intro acc n h
    simp only [decFrom] at h
    cases hc : digitVal c with
    | none => rw [hc] at h; cases h
    | some d =>
      rw [hc] at h
      intro b hb
      rcases List.mem_cons.1 hb with rfl | hb
      · unfold digitVal at hc
        split at hc
        · assumption
        · cases hc
      · exact ih _ _ h b hb

theorem digs_decDigits (u : Nat) : Digs (decDigits u) := decFrom_digs _ _ _ (decFrom_decDigits u)

/-- The number that digits spell. -/
def dval (l : List UInt8) : Nat := (decFrom 0 l).getD 0

theorem dval_eq {l : List UInt8} {n : Nat} (h : decFrom 0 l = some n) : dval l = n := by unfold dval; rw [h]; rfl
theorem decFrom_dval {l : List UInt8} (h : Digs l) : decFrom 0 l = some (dval l) := by
  obtain ⟨n, hn⟩ := digs_decFrom h 0
  rw [dval_eq hn, hn]
theorem dval_decDigits (u : Nat) : dval (decDigits u) = u := dval_eq (decFrom_decDigits u)
theorem Digs.app {l m : List UInt8} (h : Digs l) (k : Digs m) : Digs (l ++ m) := fun b hb => by
  rcases List.mem_append.1 hb with hb | hb
  · exact h b hb
  · exact k b hb
theorem Digs.left {l m : List UInt8} (h : Digs (l ++ m)) : Digs l := fun b hb => h b (List.mem_append_left _ hb)
theorem Digs.right {l m : List UInt8} (h : Digs (l ++ m)) : Digs m := fun b hb => h b (List.mem_append_right _ hb)
theorem dval_append {l m : List UInt8} (h : Digs l) (k : Digs m) : dval (l ++ m) = dval l * 10 ^ m.length + dval m := by
  apply dval_eq
  rw [decFrom_append, decFrom_dval h]
  exact decFrom_add m _ _ (decFrom_dval k)
theorem dval_nil : dval [] = 0 := rfl
theorem dval_lt {l : List UInt8} (h : Digs l) : dval l < 10 ^ l.length := by
  induction l with
  | nil => simp [dval_nil]
  | cons b l ih =>
    have hb := h b List.mem_cons_self
    have e : dval (b :: l) = dval [b] * 10 ^ l.length + dval l := dval_append (l := [b]) (fun c hc => by simp at hc; subst hc; exact hb) (fun c hc => h c (List.mem_cons_of_mem _ hc))
    have e1 : dval [b] = b.toNat - 48 := by
      apply dval_eq
      have : digitVal b = some (b.toNat - 48) := by unfold digitVal; rw [if_pos hb]
      simp [decFrom, this]
    have := ih (fun c hc => h c (List.mem_cons_of_mem _ hc))
    rw [e, e1, List.length_cons, Nat.pow_succ]
    have h2 : (b.toNat - 48) * 10 ^ l.length ≤ 9 * 10 ^ l.length := Nat.mul_le_mul_right _ (by omega)
    omega

/-- A numeral without a leading zero, or 0. -/
def Canon (l : List UInt8) : Prop := Digs l ∧ l ≠ [] ∧ (l.head? = some 48 → l = [48])

theorem digit_of_toNat {b : UInt8} {d : Nat} (h : b.toNat = 48 + d) : b = digit d := by
  apply UInt8.toNat_inj.1
  have := b.toNat_lt
  unfold digit; rw [UInt8.toNat_ofNat', h]; omega

theorem canon_decDigits (u : Nat) : Canon (decDigits u) := by
  refine ⟨digs_decDigits u, decDigits_ne u, ?_⟩
  suffices h : ∀ u, (decDigits u).head? = some 48 → u = 0 by
    intro h1
    rw [h u h1]; rw [decDigits_small (by decide)]; rfl
  intro u
  induction u using Nat.strongRecOn with
  | _ u ih =>
    intro h1
    by_cases h : u < 10
    · rw [decDigits_small h] at h1
      simp only [List.head?_cons, Option.some.injEq] at h1
      have := digit_toNat h
      rw [h1] at this
      have : (48 : UInt8).toNat = 48 := rfl
      omega
    · rw [decDigits_big (by omega), List.head?_append] at h1
      have hne := decDigits_ne (u / 10)
      cases hd : (decDigits (u / 10)).head? with
      | none => rw [List.head?_eq_none_iff] at hd; exact absurd hd hne
      | some c =>
        rw [hd] at h1
        have := ih (u / 10) (by omega) (by rw [hd]; exact h1)
        omega

/-- A canonical numeral is that of its number. -/
theorem decDigits_dval {l : List UInt8} (h : Canon l) : decDigits (dval l) = l := by
  obtain ⟨hd, hne, hz⟩ := h
  suffices hs : ∀ n, ∀ l : List UInt8, l.length = n → Digs l → l ≠ [] → (l.head? = some 48 → l = [48]) → decDigits (dval l) = l by
    exact hs _ l rfl hd hne hz
  intro n
  induction n with
  | zero => intro l hl _ hne; exact absurd (List.eq_nil_of_length_eq_zero hl) hne
  | succ n ih =>
    intro l hl hd hne hz
    obtain ⟨m, b, rfl⟩ : ∃ m b, l = m ++ [b] := ⟨l.dropLast, l.getLast hne, (List.dropLast_concat_getLast hne).symm⟩
    have hb := hd b (by simp)
    obtain ⟨d, hd10, hbd⟩ : ∃ d, d < 10 ∧ b = digit d := ⟨b.toNat - 48, by omega, digit_of_toNat (by omega)⟩
    have e1 : dval [b] = d := by
      apply dval_eq; rw [hbd]; simp [decFrom, digitVal_digit hd10]
    rw [dval_append hd.left hd.right, e1]
    simp only [List.length_singleton, Nat.pow_one]
    simp only [List.length_append, List.length_singleton, Nat.add_right_cancel_iff] at hl
    cases hm : m with
    | nil =>
      subst hm
      simp only [dval_nil, List.nil_append, Nat.zero_mul, Nat.zero_add]
      rw [decDigits_small hd10, hbd]
    | cons c m' =>
      rw [hm] at hz hd hl
      have hzm : m.head? ≠ some 48 := by
        rw [hm]; intro hc
        have := hz (by simpa using hc)
        simp at this
      have hih := ih m (by rw [hm]; exact hl) (by rw [hm]; exact hd.left) (by rw [hm]; simp) (fun hc => absurd hc hzm)
      have hpos : 0 < dval m := by
        rcases Nat.eq_zero_or_pos (dval m) with h0 | h0
        · rw [h0, decDigits_small (by decide)] at hih
          exfalso; apply hzm; rw [← hih]; rfl
        · exact h0
      rw [← hm]
      rw [decDigits_big (by omega)]
      rw [show (dval m * 10 + d) / 10 = dval m by omega, show (dval m * 10 + d) % 10 = d by omega, hih, hbd]

end Go.Proofs.YtpkhgdnkkdhlcaaGreatDoor.Ar

open Go Go.Lib
namespace Go.Proofs.YtpkhgdnkkdhlcaaGreatDoor.Ar

/-- The last k decimal digits of a number. -/
def pad : Nat → Nat → List UInt8
  | 0, _ => []
  | k + 1, d => pad k (d / 10) ++ [digit (d % 10)]
theorem pad_length (k d : Nat) : (pad k d).length = k := by
  induction k generalizing d with
  | zero => rfl
  | succ k ih => rw [pad, List.length_append, ih]; rfl
theorem digs_one {d : Nat} (h : d < 10) : Digs [digit d] := fun b hb => by simp at hb; subst hb; rw [digit_toNat h]; omega
theorem dval_one {d : Nat} (h : d < 10) : dval [digit d] = d := by apply dval_eq; simp [decFrom, digitVal_digit h]
theorem pad_digs (k d : Nat) : Digs (pad k d) := by
  induction k generalizing d with
  | zero => intro b hb; cases hb
  | succ k ih => exact (ih _).app (digs_one (Nat.mod_lt _ (by decide)))
theorem pad_dval (k d : Nat) : dval (pad k d) = d % 10 ^ k := by
  induction k generalizing d with
  | zero => rw [pad, dval_nil, Nat.pow_zero, Nat.mod_one]
  | succ k ih =>
    have h10 : d % 10 < 10 := Nat.mod_lt _ (by decide)
    rw [pad, dval_append (pad_digs k _) (digs_one h10), dval_one h10, ih]
    simp only [List.length_singleton, Nat.pow_one]
    rw [Nat.pow_succ, Nat.mul_comm (10 ^ k) 10, Nat.mod_mul]
    omega
/-- Digits of one length and one number are the same. -/
theorem eq_pad {l : List UInt8} (h : Digs l) : l = pad l.length (dval l) := by
  suffices hs : ∀ n, ∀ l : List UInt8, l.length = n → Digs l → l = pad n (dval l) by exact hs _ l rfl h
  intro n
  induction n with
  | zero => intro l hl _; exact List.eq_nil_of_length_eq_zero hl
  | succ n ih =>
    intro l hl h
    have hne : l ≠ [] := by rintro rfl; simp at hl
    obtain ⟨m, b, rfl⟩ : ∃ m b, l = m ++ [b] := ⟨l.dropLast, l.getLast hne, (List.dropLast_concat_getLast hne).symm⟩
    have hb := h b (by simp)
    obtain ⟨d, hd, rfl⟩ : ∃ d, d < 10 ∧ b = digit d := ⟨b.toNat - 48, by omega, digit_of_toNat (by omega)⟩
    simp at hl
    rw [dval_append h.left h.right, dval_one hd]
    simp only [List.length_singleton, Nat.pow_one, pad]
    rw [show (dval m * 10 + d) / 10 = dval m by omega, show (dval m * 10 + d) % 10 = d by omega, ← ih m hl h.left]
theorem digs_replicate (n : Nat) : Digs (List.replicate n 48) := fun b hb => by rw [List.eq_of_mem_replicate hb]; decide
theorem dval_replicate (n : Nat) : dval (List.replicate n 48) = 0 := by
  induction n with
  | zero => rfl
  | succ n ih =>
    have e : List.replicate (n + 1) (48 : UInt8) = [digit 0] ++ List.replicate n 48 := rfl
    rw [e, dval_append (digs_one (by decide)) (digs_replicate n), dval_one (by decide), ih]; omega
theorem zeros_pad {n k d : Nat} (h : n + (decDigits d).length = k) : List.replicate n 48 ++ decDigits d = pad k d := by
  have hD : Digs (List.replicate n 48 ++ decDigits d) := (digs_replicate n).app (digs_decDigits d)
  rw [eq_pad hD, dval_append (digs_replicate n) (digs_decDigits d), dval_replicate, dval_decDigits]
  simp only [List.length_append, List.length_replicate, Nat.zero_mul, Nat.zero_add]
  rw [h]
theorem decDigits_len_le {d k : Nat} (h0 : 0 < k) (h : d < 10 ^ k) : (decDigits d).length ≤ k := by
  induction k generalizing d with
  | zero => omega
  | succ k ih =>
    by_cases hd : d < 10
    · rw [decDigits_small hd]; simp
    · rw [decDigits_big (by omega), List.length_append]
      have hk : 0 < k := by
        rcases Nat.eq_zero_or_pos k with rfl | hk
        · simp at h; omega
        · exact hk
      have := ih hk (d := d / 10) (by rw [Nat.pow_succ] at h; omega)
      simp; omega
/-- Digits from the last one on, until nothing is left. -/
theorem pad_stop {d k : Nat} (h0 : 0 < d) (hz : d / 10 ^ k = 0) (hp : ∀ j, j < k → 0 < d / 10 ^ j) : pad k d = decDigits d := by
  have hk : d < 10 ^ k := by
    rcases Nat.lt_or_ge d (10 ^ k) with h | h
    · exact h
    · have := Nat.div_pos h (Nat.pow_pos (by decide)); omega
  have hk0 : 0 < k := by
    rcases Nat.eq_zero_or_pos k with rfl | hk
    · simp at hz; omega
    · exact hk
  have hc : Canon (pad k d) := by
    refine ⟨pad_digs k d, ?_, ?_⟩
    · intro e; have := pad_length k d; rw [e] at this; simp at this; omega
    · intro hh
      exfalso
      -- the first digit is that of d / 10^(k-1)
      obtain ⟨j, rfl⟩ : ∃ j, k = j + 1 := ⟨k - 1, by omega⟩
      have e : pad (j + 1) d = digit (d / 10 ^ j % 10) :: (pad j d) := by
        have gen : ∀ j d, pad (j + 1) d = digit (d / 10 ^ j % 10) :: pad j d := by
          intro j
          induction j with
          | zero => intro d; simp [pad]
          | succ j ih =>
            intro d
            rw [pad, ih, Nat.div_div_eq_div_mul, Nat.mul_comm 10, ← Nat.pow_succ]; rfl
        exact gen j d
      rw [e] at hh
      simp at hh
      have h1 := hp j (by omega)
      have h2 : d / 10 ^ j < 10 := by rw [Nat.pow_succ] at hk; exact Nat.div_lt_of_lt_mul (by rw [Nat.mul_comm]; rw [Nat.mul_comm] at hk; exact hk)
      rw [Nat.mod_eq_of_lt h2] at hh
      have := digit_toNat h2
      rw [hh] at this
      have : (48 : UInt8).toNat = 48 := rfl
      omega
  have := decDigits_dval hc
  rw [pad_dval, Nat.mod_eq_of_lt hk] at this
  exact this.symm

/-- The decimal digits of limbs, all but the most significant one written out. -/
def tail9 (m : List Nat) : List UInt8 := m.reverse.flatMap (pad 9)
theorem tail9_snoc (m : List Nat) (c : Nat) : tail9 (c :: m) = tail9 m ++ pad 9 c := by unfold tail9; simp
theorem tail9_digs (m : List Nat) : Digs (tail9 m) := by
  induction m with
  | nil => intro b hb; cases hb
  | cons c m ih => rw [tail9_snoc]; exact ih.app (pad_digs 9 c)
theorem tail9_len (m : List Nat) : (tail9 m).length = 9 * m.length := by
  induction m with
  | nil => rfl
  | cons c m ih => rw [tail9_snoc, List.length_append, ih, pad_length, List.length_cons]; omega
theorem tail9_dval {m : List Nat} (h : Small m) : dval (tail9 m) = val m := by
  induction m with
  | nil => rfl
  | cons c m ih =>
    rw [tail9_snoc, dval_append (tail9_digs m) (pad_digs 9 c), pad_length, pad_dval, ih h.tail, val_cons]
    have := h.head
    rw [B_eq] at *
    rw [Nat.mod_eq_of_lt (by simpa using this)]
    omega
/-- THE DECIMAL DIGITS OF A NUMBER by those of its limbs. -/
theorem text_limbs {m : List Nat} {x : Nat} (h : Small (m ++ [x])) (hx : 0 < x) : decDigits (val (m ++ [x])) = decDigits x ++ tail9 m := by
  have hm : Small m := fun y hy => h y (by simp [hy])
  have hc : Canon (decDigits x ++ tail9 m) := by
    refine ⟨(digs_decDigits x).app (tail9_digs m), by simp [decDigits_ne], ?_⟩
    intro hh
    exfalso
    obtain ⟨c1, c2, c3⟩ := canon_decDigits x
    rw [List.head?_append] at hh
    cases hd : (decDigits x).head? with
    | none => rw [List.head?_eq_none_iff] at hd; exact c2 hd
    | some c =>
      rw [hd] at hh
      simp at hh
      subst hh
      have := c3 hd
      have e := dval_decDigits x
      rw [this] at e
      have : dval [48] = 0 := rfl
      omega
  have := decDigits_dval hc
  rw [dval_append (digs_decDigits x) (tail9_digs m), dval_decDigits, tail9_len, tail9_dval hm] at this
  rw [← this, val_snoc]
  congr 1
  have : (10 : Nat) ^ (9 * m.length) = B ^ m.length := by rw [Nat.pow_mul]; rfl
  rw [this, Nat.mul_comm x]; omega
end Go.Proofs.YtpkhgdnkkdhlcaaGreatDoor.Ar

open Go Go.Lib
namespace Go.Proofs.YtpkhgdnkkdhlcaaGreatDoor.Ar

/-- A rational number from a sign, a numerator and a denominator. -/
def nr (neg : Bool) (n d : Nat) : Rat := mkRat (if neg then -(n : Int) else n) d

theorem natAbs_sign (neg : Bool) (n : Nat) : (if neg then -(n : Int) else (n : Int)).natAbs = n := by cases neg <;> simp

theorem num_neg_iff {q : Rat} : q.num < 0 ↔ q < 0 := by
  constructor
  · intro h; apply Rat.not_le.1; intro h'; have := Rat.num_nonneg.2 h'; omega
  · intro h; apply Int.not_le.1; intro h'; have := Rat.num_nonneg.1 h'; grind
theorem nr_num (neg : Bool) {n d : Nat} (hd : 0 < d) : (nr neg n d).num = (if neg then -((n / Nat.gcd n d : Nat) : Int) else ((n / Nat.gcd n d : Nat) : Int)) := by
  unfold nr
  rw [Rat.num_mkRat, if_neg (by omega), natAbs_sign]
  have hg := Nat.gcd_comm d n
  cases neg
  · simp [hg]
  · simp only [if_true, hg]
    have : ((Nat.gcd n d : Nat) : Int) ∣ (n : Int) := Int.natCast_dvd_natCast.2 (Nat.gcd_dvd_left n d)
    rw [Int.neg_ediv_of_dvd this]; rfl
theorem nr_den (neg : Bool) {n d : Nat} (hd : 0 < d) : (nr neg n d).den = d / Nat.gcd n d := by
  unfold nr
  rw [Rat.den_mkRat, if_neg (by omega), natAbs_sign, Nat.gcd_comm d n]
theorem nr_abs (neg : Bool) {n d : Nat} (hd : 0 < d) : (nr neg n d).num.natAbs = n / Nat.gcd n d := by
  rw [nr_num neg hd, natAbs_sign]
theorem nr_neg (neg : Bool) {n d : Nat} (hd : 0 < d) (hn : 0 < n) : decide (nr neg n d < 0) = neg := by
  have hg : 0 < n / Nat.gcd n d := Nat.div_pos (Nat.le_of_dvd hn (Nat.gcd_dvd_left n d)) (Nat.gcd_pos_of_pos_left d hn)
  have h : nr neg n d < 0 ↔ neg = true := by
    rw [← num_neg_iff, nr_num neg hd]
    cases neg
    · simp; omega
    · simp; omega
  cases neg <;> simp [h]
theorem nr_zero (neg : Bool) (d : Nat) : nr neg 0 d = 0 := by unfold nr; cases neg <;> simp
/-- A rational number is that of its parts. -/
theorem nr_self (q : Rat) : nr (decide (q < 0)) q.num.natAbs q.den = q := by
  unfold nr
  have : (if decide (q < 0) = true then -((q.num.natAbs : Nat) : Int) else ((q.num.natAbs : Nat) : Int)) = q.num := by
    by_cases h : q < 0
    · have := num_neg_iff.2 h; simp [h]; omega
    · have : 0 ≤ q.num := Rat.num_nonneg.2 (Rat.not_lt.1 h); simp [h]; omega
  rw [this, Rat.mkRat_self]

/-- The text of a number. -/
def ratText (q : Rat) : List UInt8 := (if q < 0 then [45] else []) ++ (decDigits q.num.natAbs ++ (if q.den = 1 then [] else 47 :: decDigits q.den))

/-- What stands in front of the first stroke, and what behind it. -/
def cut47 : List UInt8 → List UInt8 × Option (List UInt8)
  | [] => ([], none)
  | c :: r => if c = 47 then ([], some r) else (c :: (cut47 r).1, (cut47 r).2)
theorem cut47_none {l : List UInt8} (h : 47 ∉ l) : cut47 l = (l, none) := by
  induction l with
  | nil => rfl
  | cons c l ih =>
    simp at h
    rw [cut47, if_neg (fun e => h.1 e.symm), ih h.2]
theorem cut47_some {l : List UInt8} (h : 47 ∉ l) (m : List UInt8) : cut47 (l ++ 47 :: m) = (l, some m) := by
  induction l with
  | nil => rfl
  | cons c l ih =>
    simp at h
    rw [List.cons_append, cut47, if_neg (fun e => h.1 e.symm), ih h.2]
theorem cut47_eq (l : List UInt8) : 47 ∉ (cut47 l).1 ∧ l = (cut47 l).1 ++ (match (cut47 l).2 with | none => [] | some m => 47 :: m) := by
  induction l with
  | nil => simp [cut47]
  | cons c l ih =>
    by_cases h : c = 47
    · subst h; simp [cut47]
    · rw [cut47, if_neg h]
      constructor
      · simp; exact ⟨fun e => h e.symm, ih.1⟩
      · simp only [List.cons_append]; congr 1; exact ih.2
theorem digs_no47 {l : List UInt8} (h : Digs l) : 47 ∉ l := fun hm => by
  have := h 47 hm
  have e : (47 : UInt8).toNat = 47 := rfl
  omega

/-- The sign in front. -/
def isNeg (l : List UInt8) : Bool := l.head? == some 45
def unsign (l : List UInt8) : List UInt8 := if isNeg l then l.tail else l

/-- THE TEXTS OF NUMBERS. -/
structure IsText (l : List UInt8) : Prop where
  above : Canon (cut47 (unsign l)).1
  sign : isNeg l = true → (cut47 (unsign l)).1 ≠ [48]
  below : ∀ m, (cut47 (unsign l)).2 = some m → Canon m ∧ m ≠ [48] ∧ m ≠ [49] ∧ (cut47 (unsign l)).1 ≠ [48] ∧ Nat.gcd (dval (cut47 (unsign l)).1) (dval m) = 1

/-- The number of a text. -/
def textRat (l : List UInt8) : Rat := nr (isNeg l) (dval (cut47 (unsign l)).1) (match (cut47 (unsign l)).2 with | none => 1 | some m => dval m)

theorem dval_pos {l : List UInt8} (h : Canon l) (h0 : l ≠ [48]) : 0 < dval l := by
  rcases Nat.eq_zero_or_pos (dval l) with hz | hz
  · have := decDigits_dval h
    rw [hz, decDigits_small (by decide)] at this
    exact absurd this.symm h0
  · exact hz
theorem canon_zero {l : List UInt8} (h : Canon l) : dval l = 0 ↔ l = [48] := by
  constructor
  · intro hz
    have := decDigits_dval h
    rw [hz, decDigits_small (by decide)] at this
    exact this.symm
  · rintro rfl; rfl
theorem canon_one {l : List UInt8} (h : Canon l) : dval l = 1 ↔ l = [49] := by
  constructor
  · intro hz
    have := decDigits_dval h
    rw [hz, decDigits_small (by decide)] at this
    exact this.symm
  · rintro rfl; rfl

theorem ratText_head (q : Rat) : isNeg (ratText q) = decide (q < 0) ∧ unsign (ratText q) = decDigits q.num.natAbs ++ (if q.den = 1 then [] else 47 :: decDigits q.den) := by
  by_cases h : q < 0
  · have : isNeg (ratText q) = true := by unfold isNeg ratText; rw [if_pos h]; rfl
    refine ⟨by rw [this]; simp [h], ?_⟩
    unfold unsign; rw [this, if_pos rfl]; unfold ratText; rw [if_pos h]; rfl
  · have : isNeg (ratText q) = false := by
      unfold isNeg ratText
      rw [if_neg h, List.nil_append, List.head?_append]
      cases hd : (decDigits q.num.natAbs).head? with
      | none => rw [List.head?_eq_none_iff] at hd; exact absurd hd (decDigits_ne _)
      | some c =>
        simp
        rintro rfl
        have := digs_decDigits q.num.natAbs 45 (List.mem_of_mem_head? hd)
        have e : (45 : UInt8).toNat = 45 := rfl
        omega
    refine ⟨by rw [this]; simp [h], ?_⟩
    unfold unsign; rw [this, if_neg (by simp)]; unfold ratText; rw [if_neg h]; rfl
theorem ratText_cut (q : Rat) : cut47 (unsign (ratText q)) = (decDigits q.num.natAbs, if q.den = 1 then none else some (decDigits q.den)) := by
  rw [(ratText_head q).2]
  by_cases h : q.den = 1
  · rw [if_pos h, if_pos h, List.append_nil, cut47_none (digs_no47 (digs_decDigits _))]
  · rw [if_neg h, if_neg h, cut47_some (digs_no47 (digs_decDigits _))]

theorem isText_ratText (q : Rat) : IsText (ratText q) ∧ textRat (ratText q) = q := by
  have hc := ratText_cut q
  have hh := ratText_head q
  have canon := canon_decDigits q.num.natAbs
  constructor
  · refine ⟨by rw [hc]; exact canon, fun h => ?_, fun m hm => ?_⟩
    · rw [hc]
      intro e
      have := (canon_zero canon).2 e
      rw [dval_decDigits] at this
      rw [hh.1] at h
      have := num_neg_iff.2 (of_decide_eq_true h)
      omega
    · rw [hc] at hm ⊢
      by_cases h : q.den = 1
      · rw [if_pos h] at hm; cases hm
      · rw [if_neg h] at hm
        injection hm with hm
        subst hm
        have cd := canon_decDigits q.den
        refine ⟨cd, fun e => ?_, fun e => ?_, fun e => ?_, ?_⟩
        · have := (canon_zero cd).2 e; rw [dval_decDigits] at this; exact q.den_nz this
        · have := (canon_one cd).2 e; rw [dval_decDigits] at this; exact h this
        · have := (canon_zero canon).2 e; rw [dval_decDigits] at this
          have hr := q.reduced
          rw [this] at hr
          simp [Nat.Coprime] at hr
          exact h hr
        · rw [dval_decDigits, dval_decDigits]; exact q.reduced
  · unfold textRat
    rw [hc, hh.1, dval_decDigits]
    by_cases h : q.den = 1
    · simp only [if_pos h]
      have := nr_self q
      rw [h] at this; exact this
    · simp only [if_neg h, dval_decDigits]
      exact nr_self q

theorem ratText_textRat {l : List UInt8} (h : IsText l) : ratText (textRat l) = l := by
  obtain ⟨ha, hs, hb⟩ := h
  have hl : l = (if isNeg l then [45] else []) ++ unsign l := by
    unfold unsign
    cases hn : isNeg l
    · simp
    · simp only [if_true]
      unfold isNeg at hn
      cases l with
      | nil => simp at hn
      | cons c r => simp at hn; subst hn; rfl
  have hc := (cut47_eq (unsign l)).2
  unfold textRat
  cases hm : (cut47 (unsign l)).2 with
  | none =>
    rw [hm] at hc
    simp only [List.append_nil] at hc
    have e1 := nr_abs (isNeg l) (n := dval (cut47 (unsign l)).1) (d := 1) (by decide)
    have e2 := nr_den (isNeg l) (n := dval (cut47 (unsign l)).1) (d := 1) (by decide)
    simp at e1 e2
    unfold ratText
    simp only [e1, e2, if_true, List.append_nil]
    rw [decDigits_dval ha]
    have hneg : (nr (isNeg l) (dval (cut47 (unsign l)).1) 1 < 0) ↔ isNeg l = true := by
      rcases Nat.eq_zero_or_pos (dval (cut47 (unsign l)).1) with hz | hz
      · rw [hz, nr_zero]
        have := (canon_zero ha).1 hz
        constructor
        · intro h; exact absurd h (by decide)
        · intro h; exact absurd this (hs h)
      · have := nr_neg (isNeg l) (n := dval (cut47 (unsign l)).1) (d := 1) (by decide) hz
        cases hi : isNeg l
        · rw [hi] at this; simpa using this
        · rw [hi] at this; simpa using this
    have hif : (if nr (isNeg l) (dval (cut47 (unsign l)).1) 1 < 0 then [45] else []) = (if isNeg l then [45] else ([] : List UInt8)) := by
      by_cases h : isNeg l = true
      · rw [if_pos (hneg.2 h), if_pos h]
      · rw [if_neg (fun h' => h (hneg.1 h')), if_neg h]
    rw [hif]
    conv => rhs; rw [hl]
    rw [← hc]
  | some m =>
    rw [hm] at hc
    simp only at hc
    obtain ⟨b1, b2, b3, b4, b5⟩ := hb m hm
    have hd : 0 < dval m := dval_pos b1 b2
    have hn : 0 < dval (cut47 (unsign l)).1 := dval_pos ha b4
    have e1 := nr_abs (isNeg l) (n := dval (cut47 (unsign l)).1) hd
    have e2 := nr_den (isNeg l) (n := dval (cut47 (unsign l)).1) hd
    rw [b5] at e1 e2
    simp at e1 e2
    have h1 : dval m ≠ 1 := fun e => b3 ((canon_one b1).1 e)
    unfold ratText
    simp only [e1, e2, if_neg h1]
    rw [decDigits_dval ha, decDigits_dval b1]
    have hneg : (nr (isNeg l) (dval (cut47 (unsign l)).1) (dval m) < 0) ↔ isNeg l = true := by
      have := nr_neg (isNeg l) (n := dval (cut47 (unsign l)).1) hd hn
      cases hi : isNeg l
      · rw [hi] at this; simpa using this
      · rw [hi] at this; simpa using this
    have hif : (if nr (isNeg l) (dval (cut47 (unsign l)).1) (dval m) < 0 then [45] else []) = (if isNeg l then [45] else ([] : List UInt8)) := by
      by_cases h : isNeg l = true
      · rw [if_pos (hneg.2 h), if_pos h]
      · rw [if_neg (fun h' => h (hneg.1 h')), if_neg h]
    rw [hif]
    conv => rhs; rw [hl]
    rw [← hc]
end Go.Proofs.YtpkhgdnkkdhlcaaGreatDoor.Ar

open Go Go.Lib
namespace Go.Proofs.YtpkhgdnkkdhlcaaGreatDoor.Ar

def sg (q : Rat) : Bool := decide (q < 0)
def nm (q : Rat) : Nat := q.num.natAbs
def dn (q : Rat) : Nat := q.den
theorem dn_pos (q : Rat) : 0 < dn q := Nat.pos_of_ne_zero q.den_nz
theorem nr_sg (q : Rat) : nr (sg q) (nm q) (dn q) = q := nr_self q
theorem nm_zero {q : Rat} : nm q = 0 ↔ q = 0 := by unfold nm; rw [Int.natAbs_eq_zero, Rat.num_eq_zero]
theorem sg_zero : sg 0 = false := rfl
theorem nm_0 : nm 0 = 0 := rfl
theorem nm_nr (s : Bool) {n d : Nat} (hd : 0 < d) : nm (nr s n d) = n / Nat.gcd n d := nr_abs s hd
theorem dn_nr (s : Bool) {n d : Nat} (hd : 0 < d) : dn (nr s n d) = d / Nat.gcd n d := nr_den s hd
theorem sg_nr (s : Bool) {n d : Nat} (hd : 0 < d) (hn : 0 < n) : sg (nr s n d) = s := nr_neg s hd hn

/-- A number times its denominator. -/
theorem nr_mul (s : Bool) (n : Nat) {d : Nat} (hd : 0 < d) : nr s n d * (d : Rat) = if s then -(n : Rat) else (n : Rat) := by
  have hd' : (d : Rat) ≠ 0 := by
    intro e
    have : ((d : Nat) : Rat) = ((0 : Nat) : Rat) := e
    have := Rat.natCast_inj.1 this
    omega
  unfold nr
  rw [Rat.mkRat_eq_div]
  have : ((if s then -(n : Int) else (n : Int) : Int) : Rat) / ((d : Int) : Rat) * (d : Rat) = ((if s then -(n : Int) else (n : Int) : Int) : Rat) := Rat.div_mul_cancel hd'
  rw [show ((d : Nat) : Rat) = ((d : Int) : Rat) from rfl] at *
  rw [this]
  cases s
  · rfl
  · simp only [if_true]; exact Rat.intCast_neg _
theorem mul_dn (q : Rat) : q * (dn q : Rat) = if sg q then -(nm q : Rat) else (nm q : Rat) := by
  have := nr_mul (sg q) (nm q) (dn_pos q)
  rwa [nr_sg] at this
theorem cast_ne {d : Nat} (hd : 0 < d) : (d : Rat) ≠ 0 := by
  intro e
  have : ((d : Nat) : Rat) = ((0 : Nat) : Rat) := e
  have := Rat.natCast_inj.1 this
  omega
theorem eq_of_mul {x y d : Rat} (hd : d ≠ 0) (h : x * d = y * d) : x = y := by
  have : (x - y) * d = 0 := by grind
  rcases Rat.mul_eq_zero.1 this with h | h
  · grind
  · exact absurd h hd
theorem nr_eq {s : Bool} {n d : Nat} (hd : 0 < d) {x : Rat} (h : x * (d : Rat) = if s then -(n : Rat) else (n : Rat)) : x = nr s n d :=
  eq_of_mul (cast_ne hd) (by rw [h, nr_mul s n hd])

section
variable (p q : Rat)
theorem add_same (h : sg p = sg q) : p + q = nr (sg p) (nm p * dn q + nm q * dn p) (dn p * dn q) := by
  apply nr_eq (Nat.mul_pos (dn_pos p) (dn_pos q))
  have a := mul_dn p
  have b := mul_dn q
  rw [← h] at b
  rw [Rat.natCast_mul, Rat.natCast_add, Rat.natCast_mul, Rat.natCast_mul]
  cases hs : sg p
  · rw [hs] at a b; simp at a b ⊢; grind
  · rw [hs] at a b; simp at a b ⊢; grind
theorem add_ge (h : sg p ≠ sg q) (hge : nm q * dn p ≤ nm p * dn q) : p + q = nr (sg p) (nm p * dn q - nm q * dn p) (dn p * dn q) := by
  apply nr_eq (Nat.mul_pos (dn_pos p) (dn_pos q))
  have a := mul_dn p
  have b := mul_dn q
  obtain ⟨t, ht⟩ := Nat.le.dest hge
  have e : nm p * dn q - nm q * dn p = t := by omega
  rw [e]
  have hc : (nm q : Rat) * (dn p : Rat) + (t : Rat) = (nm p : Rat) * (dn q : Rat) := by
    rw [← Rat.natCast_mul, ← Rat.natCast_mul, ← Rat.natCast_add, ht]
  rw [Rat.natCast_mul]
  cases hs : sg p <;> cases hq : sg q
  · rw [hs, hq] at h; exact absurd rfl h
  · rw [hs] at a; rw [hq] at b; simp at a b ⊢; grind
  · rw [hs] at a; rw [hq] at b; simp at a b ⊢; grind
  · rw [hs, hq] at h; exact absurd rfl h
theorem add_lt (h : sg p ≠ sg q) (hlt : nm p * dn q ≤ nm q * dn p) : p + q = nr (sg q) (nm q * dn p - nm p * dn q) (dn p * dn q) := by
  rw [Rat.add_comm, add_ge q p (fun e => h e.symm) hlt, Nat.mul_comm (dn q) (dn p)]
theorem mul_nr : p * q = nr (sg p != sg q) (nm p * nm q) (dn p * dn q) := by
  apply nr_eq (Nat.mul_pos (dn_pos p) (dn_pos q))
  have a := mul_dn p
  have b := mul_dn q
  rw [Rat.natCast_mul, Rat.natCast_mul]
  cases hs : sg p <;> cases hq : sg q <;> (rw [hs] at a; rw [hq] at b; simp at a b ⊢; grind)
theorem div_nr (h : q ≠ 0) : p / q = nr (sg p != sg q) (nm p * dn q) (dn p * nm q) := by
  have hq : 0 < nm q := Nat.pos_of_ne_zero fun e => h (nm_zero.1 e)
  apply nr_eq (Nat.mul_pos (dn_pos p) hq)
  have a := mul_dn p
  have b := mul_dn q
  have c : p / q * q = p := Rat.div_mul_cancel h
  generalize p / q = r at *
  have hd := cast_ne (dn_pos q)
  rw [Rat.natCast_mul, Rat.natCast_mul]
  cases hs : sg p <;> cases hq : sg q <;> (rw [hs] at a; rw [hq] at b; simp at a b ⊢; grind)
theorem sg_neg : sg (-p) = (!sg p && decide (nm p ≠ 0)) := by
  by_cases hz : nm p = 0
  · rw [nm_zero.1 hz]; rfl
  · have hp : p ≠ 0 := fun e => hz (nm_zero.2 e)
    unfold sg
    by_cases h : p < 0
    · have : ¬ -p < 0 := by grind
      simp [h, this]
    · have : -p < 0 := by grind
      simp [h, this, hz]
theorem nm_neg : nm (-p) = nm p := by unfold nm; show (-p.num).natAbs = _; rw [Int.natAbs_neg]
theorem dn_neg : dn (-p) = dn p := rfl
theorem int_nr (n : Int) : ((n : Int) : Rat) = nr (decide (n < 0)) n.natAbs 1 := by
  unfold nr
  have : (if decide (n < 0) = true then -((n.natAbs : Nat) : Int) else ((n.natAbs : Nat) : Int)) = n := by
    by_cases h : n < 0
    · simp [h]; omega
    · simp [h]; omega
  rw [this, Rat.mkRat_one]
end
end Go.Proofs.YtpkhgdnkkdhlcaaGreatDoor.Ar

namespace Go.Proofs.YtpkhgdnkkdhlcaaGreatDoor.Ar
/-- The state of a long division: what is left, and the digits found so far. -/
structure DS (U V n N J : Nat) (us qs : List Nat) : Prop where
  ul : us.length = N
  usm : Small us
  ql : qs.length + n = N
  qsm : Small qs
  sum : val us + V * val qs = U
  top : val (us.drop J) < V
  low : ∀ i, i < J → qs.getD i 0 = 0

theorem val_drop_eq (l : List Nat) {j : Nat} (h : j < l.length) : val (l.drop j) = l.getD j 0 + B * val (l.drop (j + 1)) := by
  rw [List.drop_eq_getElem_cons h, val_cons, List.getD_eq_getElem?_getD, List.getElem?_eq_getElem h]; rfl

section
variable {U V n N j : Nat} {us qs : List Nat}
theorem DS.above (h : DS U V n N (j + 1) us qs) (hV : V < B ^ n) : val (us.drop (j + 1 + n)) = 0 := by
  rcases Nat.eq_zero_or_pos (val (us.drop (j + 1 + n))) with h0 | h0
  · exact h0
  · have e := val_split (us.drop (j + 1)) n
    rw [List.drop_drop] at e
    have hl : n ≤ (us.drop (j + 1)).length := by
      rcases Nat.lt_or_ge (us.length) (j + 1 + n) with h1 | h1
      · rw [List.drop_of_length_le (by omega)] at h0; exact absurd h0 (by simp [val])
      · simp; omega
    rw [Nat.min_eq_left hl] at e
    have := h.top
    have h2 : B ^ n * 1 ≤ B ^ n * val (us.drop (j + 1 + n)) := Nat.mul_le_mul_left _ h0
    omega
theorem DS.part (h : DS U V n N (j + 1) us qs) (hV : V < B ^ n) : val ((us.drop j).take (n + 1)) = val (us.drop j) := by
  have e := val_split (us.drop j) (n + 1)
  rw [List.drop_drop, show j + (n + 1) = j + 1 + n by omega, h.above hV] at e
  omega
theorem DS.lt (h : DS U V n N (j + 1) us qs) (hV : V < B ^ n) (hj : j + (n + 1) ≤ N) : val ((us.drop j).take (n + 1)) < V * B := by
  rw [h.part hV, val_drop_eq us (by have := h.ul; omega)]
  have h1 := h.usm.getD j
  have h2 : B * (val (us.drop (j + 1)) + 1) ≤ B * V := Nat.mul_le_mul_left _ h.top
  rw [Nat.mul_comm V B]
  rw [Nat.mul_add] at h2
  omega
theorem DS.whole (h : DS U V n N (j + 1) us qs) (hV : V < B ^ n) (hj : j + (n + 1) ≤ N) : val us = val (us.take j) + B ^ j * val ((us.drop j).take (n + 1)) := by
  rw [h.part hV]
  have e := val_split us j
  rw [Nat.min_eq_left (by have := h.ul; omega)] at e
  exact e

theorem DS.none (h : DS U V n N (j + 1) us qs) (hV : V < B ^ n) (hj : j + (n + 1) ≤ N) (hd : val ((us.drop j).take (n + 1)) / V = 0) : DS U V n N j us (qs.set j 0) := by
  have hvp : 0 < V := Nat.lt_of_le_of_lt (Nat.zero_le _) h.top
  have hq : qs.set j 0 = qs := by
    have := h.low j (by omega)
    have hjl : j < qs.length := by have := h.ql; omega
    apply List.ext_getElem?
    intro i
    by_cases e : j = i
    · subst e
      rw [List.getD_eq_getElem?_getD, List.getElem?_eq_getElem hjl] at this
      simp only [Option.getD_some] at this
      rw [List.getElem?_set_self hjl, List.getElem?_eq_getElem hjl, this]
    · rw [List.getElem?_set_ne e]
  rw [hq]
  refine ⟨h.ul, h.usm, h.ql, h.qsm, h.sum, ?_, fun i hi => h.low i (by omega)⟩
  rw [← h.part hV]
  rcases Nat.div_eq_zero_iff.1 hd with h0 | h0
  · omega
  · exact h0

theorem DS.some (h : DS U V n N (j + 1) us qs) (hV : V < B ^ n) (hj : j + (n + 1) ≤ N) {d : Nat} (hd : val ((us.drop j).take (n + 1)) / V = d) :
    DS U V n N j (us.take j ++ (limbs (val ((us.drop j).take (n + 1)) - V * d) ++ List.replicate (n + 1 - (limbs (val ((us.drop j).take (n + 1)) - V * d)).length) 0) ++ us.drop (j + (n + 1))) (qs.set j d) := by
  have hvp : 0 < V := Nat.lt_of_le_of_lt (Nat.zero_le _) h.top
  have hwhole := h.whole hV hj
  have hlt := h.lt hV hj
  have hab := h.above hV
  have hul := h.ul
  generalize val ((us.drop j).take (n + 1)) = W at *
  have hr : W - V * d < V := by rw [mod_of_div hd]; exact Nat.mod_lt _ hvp
  have hle : V * d ≤ W := by rw [← hd]; exact Nat.mul_div_le W V
  have hdB : d < B := by rw [← hd]; exact Nat.div_lt_of_lt_mul hlt
  have hlr : (limbs (W - V * d)).length ≤ n := limbs_len_le (by omega)
  have hjl : j < qs.length := by have := h.ql; omega
  have hz : (limbs (W - V * d) ++ List.replicate (n + 1 - (limbs (W - V * d)).length) 0).length = n + 1 := by simp; omega
  have hvz : val (limbs (W - V * d) ++ List.replicate (n + 1 - (limbs (W - V * d)).length) 0) = W - V * d := by rw [val_append, val_replicate, val_limbs]; simp
  have hsz : Small (limbs (W - V * d) ++ List.replicate (n + 1 - (limbs (W - V * d)).length) 0) := (Small.limbs _).append (Small.replicate _)
  generalize limbs (W - V * d) ++ List.replicate (n + 1 - (limbs (W - V * d)).length) 0 = zs at *
  have ht : (us.take j).length = j := by simp; omega
  have hdr : (us.take j ++ zs ++ us.drop (j + (n + 1))).drop j = zs ++ us.drop (j + (n + 1)) := by
    rw [List.append_assoc, List.drop_append_of_le_length (by omega), List.drop_of_length_le (by omega), List.nil_append]
  have hab' : val (us.drop (j + (n + 1))) = 0 := by rw [show j + (n + 1) = j + 1 + n by omega]; exact hab
  have hvd : val (zs ++ us.drop (j + (n + 1))) = W - V * d := by rw [val_append, hab', hvz]; simp
  refine ⟨?_, ((h.usm.take j).append hsz).append (h.usm.drop _), by rw [List.length_set]; exact h.ql, h.qsm.set hdB, ?_, ?_, ?_⟩
  · simp only [List.length_append, List.length_drop, ht, hz]; omega
  · have e1 : val (us.take j ++ zs ++ us.drop (j + (n + 1))) = val (us.take j) + B ^ j * (W - V * d) := by
      rw [List.append_assoc, val_append, ht, hvd]
    have e2 := val_set qs j d hjl
    rw [h.low j (by omega), Nat.mul_zero, Nat.add_zero] at e2
    have e3 := h.sum
    rw [e1, e2]
    rw [hwhole] at e3
    have e4 : B ^ j * W = B ^ j * (W - V * d) + B ^ j * (V * d) := by rw [← Nat.mul_add]; congr 1; omega
    rw [e4] at e3
    have e5 : V * (val qs + B ^ j * d) = V * val qs + B ^ j * (V * d) := by grind
    rw [e5]
    omega
  · rw [hdr, hvd]; exact hr
  · intro i hi
    rw [List.getD_eq_getElem?_getD, List.getElem?_set_ne (by omega), ← List.getD_eq_getElem?_getD]
    exact h.low i (by omega)
end

theorem DS.done {a b f n N : Nat} {us qs : List Nat} (h : DS (a * f) (b * f) n N 0 us qs) (hf : 0 < f) (hV : b * f < B ^ n) (hn : n ≤ N) : val qs = a / b ∧ val us / f = a % b ∧ val (us.take n) = val us := by
  have hs := h.sum
  have ht := h.top
  rw [List.drop_zero] at ht
  have hb : 0 < b := by rcases Nat.eq_zero_or_pos b with rfl | h0; · simp at ht
                        · exact h0
  have e1 : a * f / (b * f) = val qs := by
    rw [← hs, Nat.add_mul_div_left _ _ (by omega), Nat.div_eq_of_lt ht, Nat.zero_add]
  have e2 : a * f % (b * f) = val us := by
    rw [← hs, Nat.add_mul_mod_self_left, Nat.mod_eq_of_lt ht]
  rw [Nat.mul_div_mul_right _ _ hf] at e1
  rw [Nat.mul_mod_mul_right] at e2
  refine ⟨e1.symm, by rw [← e2, Nat.mul_div_cancel _ hf], ?_⟩
  have e := val_split us n
  rw [Nat.min_eq_left (by have := h.ul; omega)] at e
  rcases Nat.eq_zero_or_pos (val (us.drop n)) with h0 | h0
  · rw [h0] at e; omega
  · have h2 : B ^ n * 1 ≤ B ^ n * val (us.drop n) := Nat.mul_le_mul_left _ h0
    omega

/-- The top limb of a number, and the factor that makes it great. -/
theorem top_limb {b n : Nat} (hb : 0 < b) (hn : (limbs b).length = n + 1) : 0 < (limbs b).getD n 0 ∧ (limbs b).getD n 0 < B ∧ b = val ((limbs b).take n) + B ^ n * (limbs b).getD n 0 ∧ val ((limbs b).take n) < B ^ n := by
  obtain ⟨m, x, hm, hx⟩ := limbs_top hb
  have hml : m.length = n := by rw [hm] at hn; simpa using hn
  have hg : (limbs b).getD n 0 = x := by
    rw [hm, List.getD_eq_getElem?_getD, List.getElem?_append_right (by omega), hml, Nat.sub_self]; rfl
  have hs := Small.limbs b
  have ht : (limbs b).take n = m := by rw [hm, ← hml, List.take_left']; rfl
  refine ⟨by rw [hg]; exact hx, hs.getD n, ?_, ?_⟩
  · rw [hg, ht, ← hml, ← val_snoc, ← hm, val_limbs]
  · have := val_lt (hs.take n)
    rw [List.length_take, Nat.min_eq_left (by omega)] at this
    exact this
theorem norm_fits {b n t f : Nat} (hb : 0 < b) (hn : (limbs b).length = n + 1) (ht : (limbs b).getD n 0 = t) (hf : f = B / (t + 1)) : 0 < f ∧ f < B ∧ b * f < B ^ (n + 1) ∧ (limbs (b * f)).length = n + 1 := by
  obtain ⟨h1, h2, h3, h4⟩ := top_limb hb hn
  rw [ht] at h1 h2 h3
  have hf0 : 0 < f := by rw [hf]; exact Nat.div_pos (by omega) (by omega)
  have hfm : f * (t + 1) ≤ B := by rw [hf]; exact Nat.div_mul_le_self _ _
  have hfB : f < B := by
    have : f * 2 ≤ f * (t + 1) := Nat.mul_le_mul_left _ (by omega)
    have := B_pos
    omega
  have hlt : b < B ^ n * (t + 1) := by rw [Nat.mul_add]; omega
  have h5 : b * f < B ^ (n + 1) := by
    have e1 : b * f < B ^ n * (t + 1) * f := Nat.mul_lt_mul_of_pos_right hlt hf0
    have e2 : B ^ n * (t + 1) * f = B ^ n * (f * (t + 1)) := by grind
    have e3 : B ^ n * (f * (t + 1)) ≤ B ^ n * B := Nat.mul_le_mul_left _ hfm
    rw [Nat.pow_succ]; omega
  refine ⟨hf0, hfB, h5, Nat.le_antisymm (limbs_len_le h5) ?_⟩
  rw [← hn]
  apply len_mono
  exact Nat.le_mul_of_pos_right _ hf0
theorem top_two {ws : List Nat} {n : Nat} (hl : ws.length = n + 2) (hs : Small ws) : val ws / B ^ n = ws.getD (n + 1) 0 * B + ws.getD n 0 := by
  have e1 := val_take_ge ws (n + 1)
  rw [val_take_all ws (by omega), val_take_ge ws n] at e1
  have h4 := val_lt (hs.take n)
  rw [List.length_take, Nat.min_eq_left (by omega)] at h4
  rw [e1, Nat.pow_succ]
  have e2 : val (List.take n ws) + B ^ n * ws.getD n 0 + B ^ n * B * ws.getD (n + 1) 0 = val (List.take n ws) + B ^ n * (ws.getD (n + 1) 0 * B + ws.getD n 0) := by grind
  rw [e2, Nat.add_mul_div_left _ _ (Nat.pow_pos B_pos), Nat.div_eq_of_lt h4, Nat.zero_add]
theorem part_getD (us : List Nat) (j m i : Nat) (h : i < m) : ((us.drop j).take m).getD i 0 = us.getD (j + i) 0 := by
  rw [List.getD_eq_getElem?_getD, List.getElem?_take, if_pos h, List.getElem?_drop, ← List.getD_eq_getElem?_getD]
theorem DS.start {U V n N : Nat} {us : List Nat} (hl : us.length = N) (hs : Small us) (hn : n ≤ N) (hU : val us = U) (hV : U < V * B ^ (N - n)) : DS U V n N (N - n) us (List.replicate (N - n) 0) := by
  refine ⟨hl, hs, by simp; omega, Small.replicate _, by rw [val_replicate]; omega, ?_, fun i _ => by rw [List.getD_eq_getElem?_getD, List.getElem?_replicate]; split <;> rfl⟩
  have e := val_split us (N - n)
  rw [Nat.min_eq_left (by omega)] at e
  have : B ^ (N - n) * val (us.drop (N - n)) < B ^ (N - n) * V := by rw [Nat.mul_comm _ V]; omega
  exact Nat.lt_of_mul_lt_mul_left this
end Go.Proofs.YtpkhgdnkkdhlcaaGreatDoor.Ar

open Go Go.Lib
namespace Go.Proofs.YtpkhgdnkkdhlcaaGreatDoor.Ar

/-- The state of the reference's division: what is left, and the digits found so far. -/
structure QS (U V m J R : Nat) (qs : List Nat) : Prop where
  ql : qs.length = m
  qsm : Small qs
  sum : U = V * val qs + R
  top : R < V * B ^ J
  low : ∀ i, i < J → qs.getD i 0 = 0
theorem QS.start {U V m : Nat} (h : U < V * B ^ m) : QS U V m m U (List.replicate m 0) :=
  ⟨by simp, Small.replicate _, by rw [val_replicate]; simp, h, fun i _ => by rw [List.getD_eq_getElem?_getD, List.getElem?_replicate]; split <;> rfl⟩
theorem QS.next {U V m j R g : Nat} {qs : List Nat} (h : QS U V m (j + 1) R qs) (hj : j < m) (h1 : V * B ^ j * g ≤ R) (h2 : R / (V * B ^ j) ≤ g) (hV : 0 < V) :
    QS U V m j (R - V * B ^ j * g) (qs.set j g) ∧ g < B := by
  have hp : 0 < V * B ^ j := Nat.mul_pos hV (Nat.pow_pos B_pos)
  have hg : R / (V * B ^ j) = g := div_eq_of h1 h2 hp
  have hgB : g < B := by
    rw [← hg]
    apply Nat.div_lt_of_lt_mul
    have := h.top
    rw [Nat.pow_succ, ← Nat.mul_assoc] at this
    exact this
  refine ⟨⟨by simpa using h.ql, h.qsm.set hgB, ?_, ?_, ?_⟩, hgB⟩
  · have e2 := val_set qs j g (by rw [h.ql]; exact hj)
    rw [h.low j (by omega), Nat.mul_zero, Nat.add_zero] at e2
    have e3 := h.sum
    have e4 : V * (B ^ j * g) = V * B ^ j * g := by rw [Nat.mul_assoc]
    rw [e2, Nat.mul_add, e4]
    omega
  · rw [mod_of_div hg]; exact Nat.mod_lt _ hp
  · intro i hi
    rw [List.getD_eq_getElem?_getD, List.getElem?_set_ne (by omega), ← List.getD_eq_getElem?_getD]
    exact h.low i (by omega)
theorem QS.done {a b f m R : Nat} {qs : List Nat} (h : QS (a * f) (b * f) m 0 R qs) (hf : 0 < f) (hb : 0 < b) : val qs = a / b ∧ R / f = a % b := by
  have ht := h.top
  rw [Nat.pow_zero, Nat.mul_one] at ht
  have hp : 0 < b * f := Nat.mul_pos hb hf
  have e1 : a * f / (b * f) = val qs := by rw [h.sum, Nat.mul_add_div hp, Nat.div_eq_of_lt ht, Nat.add_zero]
  have e2 : a * f % (b * f) = R := by rw [h.sum, Nat.mul_add_mod, Nat.mod_eq_of_lt ht]
  rw [Nat.mul_div_mul_right a b hf] at e1
  rw [Nat.mul_mod_mul_right] at e2
  exact ⟨e1.symm, by rw [← e2, Nat.mul_div_cancel _ hf]⟩
theorem limbs_shift {V : Nat} (h : 0 < V) (j : Nat) : limbs (V * B ^ j) = List.replicate j 0 ++ limbs V := by
  have e : val (List.replicate j 0 ++ limbs V) = V * B ^ j := by
    rw [val_append, val_replicate, val_limbs, List.length_replicate, Nat.zero_add, Nat.mul_comm]
  rw [← e]
  refine limbs_val ((Small.replicate j).append (Small.limbs V)) (.inr ?_)
  obtain ⟨m, x, hm, hx⟩ := limbs_top h
  exact ⟨List.replicate j 0 ++ m, x, by rw [hm, List.append_assoc], hx⟩
theorem getD_over (l : List Nat) {i : Nat} (h : l.length ≤ i) : l.getD i 0 = 0 := by
  rw [List.getD_eq_getElem?_getD, List.getElem?_eq_none h]; rfl
/-- The two most significant limbs. -/
theorem top_pair {l : List Nat} (hs : Small l) {k : Nat} (h : l.length ≤ k + 2) : val l / B ^ k = l.getD (k + 1) 0 * B + l.getD k 0 := by
  have hp : 0 < B ^ k := Nat.pow_pos B_pos
  rcases Nat.lt_or_ge k l.length with hk | hk
  · have e := val_split l k
    rw [Nat.min_eq_left (by omega)] at e
    have hlt : val (l.take k) < B ^ k := by
      have := val_lt (hs.take k)
      rwa [List.length_take, Nat.min_eq_left (by omega)] at this
    rw [e, Nat.add_comm, Nat.mul_add_div hp, Nat.div_eq_of_lt hlt, Nat.add_zero]
    have e2 : l.drop k = l.getD k 0 :: l.drop (k + 1) := by
      rw [List.drop_eq_getElem_cons hk, List.getD_eq_getElem?_getD, List.getElem?_eq_getElem hk]; rfl
    rw [e2, val_cons]
    rcases Nat.lt_or_ge (k + 1) l.length with h1 | h1
    · have e3 : l.drop (k + 1) = [l.getD (k + 1) 0] := by
        rw [List.drop_eq_getElem_cons h1, List.getD_eq_getElem?_getD, List.getElem?_eq_getElem h1, List.drop_of_length_le (by omega)]; rfl
      rw [e3, val_cons, val_nil, Nat.mul_zero, Nat.add_zero, Nat.mul_comm, Nat.add_comm]
    · rw [List.drop_of_length_le h1, val_nil, getD_over l h1]; omega
  · have hlt : val l < B ^ k := Nat.lt_of_lt_of_le (val_lt hs) (Nat.pow_le_pow_right B_pos hk)
    rw [Nat.div_eq_of_lt hlt, getD_over l hk, getD_over l (by omega)]; omega

/-- One more digit ahead. -/
theorem pad_front (j : Nat) : ∀ d, pad (j + 1) d = digit (d / 10 ^ j % 10) :: pad j d := by
  induction j with
  | zero => intro d; simp [pad]
  | succ j ih =>
    intro d
    rw [pad, ih, Nat.div_div_eq_div_mul, Nat.mul_comm 10, ← Nat.pow_succ]; rfl
theorem pad_front_rev (j d : Nat) : (pad (j + 1) d).reverse = (pad j d).reverse ++ [digit (d / 10 ^ j % 10)] := by rw [pad_front, List.reverse_cons]
theorem tail9_app (m : List Nat) (x : Nat) : tail9 (m ++ [x]) = pad 9 x ++ tail9 m := by unfold tail9; simp
theorem dval_snoc {l : List UInt8} {b : UInt8} (h : Digs (l ++ [b])) : dval (l ++ [b]) = dval l * 10 + (b.toNat - 48) := by
  have hb := h b (by simp)
  obtain ⟨d, hd, rfl⟩ : ∃ d, d < 10 ∧ b = digit d := ⟨b.toNat - 48, by omega, digit_of_toNat (by omega)⟩
  rw [dval_append h.left h.right, dval_one hd, digit_toNat hd]
  simp
theorem Digs.drop {l : List UInt8} (h : Digs l) (k : Nat) : Digs (l.drop k) := fun b hb => h b (List.mem_of_mem_drop hb)
theorem Digs.take {l : List UInt8} (h : Digs l) (k : Nat) : Digs (l.take k) := fun b hb => h b (List.mem_of_mem_take hb)
/-- Nine digits more. -/
theorem dval_part {S : List UInt8} (h : Digs S) {a e : Nat} (ha : a ≤ e) : dval (S.drop a) = dval ((S.drop a).take (e - a)) * 10 ^ (S.length - e) + dval (S.drop e) := by
  have e1 : S.drop a = (S.drop a).take (e - a) ++ S.drop e := by
    have := List.take_append_drop (e - a) (S.drop a)
    rw [List.drop_drop, show a + (e - a) = e by omega] at this
    exact this.symm
  rw [e1, dval_append ((h.drop a).take _) (h.drop e), List.length_drop, ← e1]
theorem ten_nine (t : Nat) : 10 ^ (9 * t) = B ^ t := by rw [Nat.pow_mul]; rfl
end Go.Proofs.YtpkhgdnkkdhlcaaGreatDoor.Ar

namespace Go.Proofs.YtpkhgdnkkdhlcaaGreatDoor.Ar
open Go.Lib

def dig (b : UInt8) : Bool := decide (48 ≤ b.toNat) && decide (b.toNat ≤ 57)
/-- So many digits stand in front. -/
def digN : List UInt8 → Nat
  | [] => 0
  | b :: l => if dig b then digN l + 1 else 0
theorem digN_le : ∀ l, digN l ≤ l.length
  | [] => Nat.le_refl _
  | b :: l => by
    unfold digN
    have := digN_le l
    split <;> simp <;> omega
theorem dig_iff (b : UInt8) : dig b = true ↔ 48 ≤ b.toNat ∧ b.toNat ≤ 57 := by unfold dig; simp
theorem digN_take : ∀ l : List UInt8, Digs (l.take (digN l))
  | [] => fun b hb => by simp at hb
  | c :: l => by
    unfold digN
    split
    · rename_i h
      intro b hb
      rw [List.take_succ_cons] at hb
      rcases List.mem_cons.1 hb with rfl | hb
      · exact (dig_iff _).1 h
      · exact digN_take l b hb
    · intro b hb; simp at hb
theorem digN_digs {l : List UInt8} (h : Digs l) : digN l = l.length := by
  induction l with
  | nil => rfl
  | cons c l ih =>
    unfold digN
    rw [if_pos ((dig_iff c).2 (h c (by simp))), ih (fun b hb => h b (by simp [hb]))]
    rfl
theorem digs_of_digN {l : List UInt8} (h : digN l = l.length) : Digs l := by
  have := digN_take l
  rw [h, List.take_length] at this
  exact this
theorem digN_app {a : List UInt8} (h : Digs a) {c : UInt8} (hc : dig c = false) (m : List UInt8) : digN (a ++ c :: m) = a.length := by
  induction a with
  | nil => show (if dig c then digN m + 1 else 0) = 0; rw [hc]; rfl
  | cons b a ih =>
    show (if dig b then digN (a ++ c :: m) + 1 else 0) = _
    rw [if_pos ((dig_iff b).2 (h b (by simp))), ih (fun x hx => h x (by simp [hx]))]
    rfl
theorem digN_stop : ∀ {l : List UInt8}, digN l < l.length → ∃ c, l[digN l]? = some c ∧ dig c = false
  | [], h => by simp [digN] at h
  | b :: l, h => by
    unfold digN at h ⊢
    by_cases hb : dig b = true
    · rw [if_pos hb] at h ⊢
      obtain ⟨c, h1, h2⟩ := digN_stop (l := l) (by simp at h; omega)
      exact ⟨c, by simpa using h1, h2⟩
    · rw [if_neg hb]
      exact ⟨b, rfl, by simpa using hb⟩
/-- The number that the reference reads, whatever the form. -/
def refPlain (l : List UInt8) : Option Rat :=
  if digN (unsign l) = 0 then none
  else if digN (unsign l) = (unsign l).length then some (nr (isNeg l) (dval (unsign l)) 1)
  else if digN ((unsign l).drop (digN (unsign l) + 1)) ≠ ((unsign l).drop (digN (unsign l) + 1)).length ∨ (unsign l).drop (digN (unsign l) + 1) = [] ∨ ((unsign l).getD (digN (unsign l)) 0 ≠ 46 ∧ (unsign l).getD (digN (unsign l)) 0 ≠ 47) then none
  else if (unsign l).getD (digN (unsign l)) 0 = 47 then
    if dval ((unsign l).drop (digN (unsign l) + 1)) = 0 then none else some (nr (isNeg l) (dval ((unsign l).take (digN (unsign l)))) (dval ((unsign l).drop (digN (unsign l) + 1))))
  else some (nr (isNeg l) (dval ((unsign l).take (digN (unsign l)) ++ (unsign l).drop (digN (unsign l) + 1))) (10 ^ ((unsign l).drop (digN (unsign l) + 1)).length))
theorem text_plain {l : List UInt8} (h : IsText l) : refPlain l = some (textRat l) := by
  obtain ⟨ha, _, hb⟩ := h
  have hc := (cut47_eq (unsign l)).2
  have ha0 : 0 < (cut47 (unsign l)).1.length := List.length_pos_iff.2 ha.2.1
  unfold refPlain textRat
  cases hm : (cut47 (unsign l)).2 with
  | none =>
    rw [hm] at hc
    simp only [List.append_nil] at hc
    have hr : digN (unsign l) = (unsign l).length := digN_digs (by rw [hc]; exact ha.1)
    rw [← hc] at ha0
    rw [hr, if_neg (by omega), if_pos rfl, ← hc]
  | some m =>
    rw [hm] at hc
    simp only at hc
    obtain ⟨b1, b2, _, _, _⟩ := hb m hm
    generalize (cut47 (unsign l)).1 = a at *
    have hr : digN (unsign l) = a.length := by rw [hc]; exact digN_app ha.1 (by decide) m
    have hlen : (unsign l).length = a.length + m.length + 1 := by rw [hc]; simp; omega
    have hdrop : (unsign l).drop (a.length + 1) = m := by rw [hc]; simp
    have htake : (unsign l).take a.length = a := by rw [hc]; simp
    have hget : (unsign l).getD a.length 0 = 47 := by rw [hc]; simp
    have hm0 : m ≠ [] := b1.2.1
    have hd : dval m ≠ 0 := by have := dval_pos b1 b2; omega
    rw [hr, if_neg (by omega), if_neg (by omega), hdrop, hget, htake, if_neg, if_pos rfl, if_neg hd]
    rintro (h | h | h)
    · exact h (digN_digs b1.1)
    · exact hm0 h
    · exact h.2 rfl
/-- The texts of numbers of at most 40 digits above and below. -/
def IsNum (l : List UInt8) : Prop := IsText l ∧ (cut47 (unsign l)).1.length ≤ 40 ∧ ((cut47 (unsign l)).2.getD []).length ≤ 40
theorem isNum_len {l : List UInt8} (h : IsNum l) : l.length ≤ 82 := by
  obtain ⟨_, h1, h2⟩ := h
  have hc := congrArg List.length (cut47_eq (unsign l)).2
  have hu : l.length ≤ (unsign l).length + 1 := by unfold unsign; split <;> simp <;> omega
  rw [List.length_append] at hc
  cases hm : (cut47 (unsign l)).2 with
  | none => rw [hm] at hc h2; simp at hc h2; omega
  | some m => rw [hm] at hc h2; simp at hc h2; omega
theorem isNum_text (q : Rat) : IsNum (ratText q) ↔ (decDigits (nm q)).length ≤ 40 ∧ (decDigits (dn q)).length ≤ 40 := by
  unfold IsNum
  rw [ratText_cut]
  have h1 : decDigits 1 = [49] := decDigits_small (by decide)
  unfold nm dn
  by_cases h : q.den = 1
  · rw [if_pos h, h, h1]
    simp [(isText_ratText q).1]
  · rw [if_neg h]
    simp [(isText_ratText q).1]
theorem get_iff (l : List UInt8) : (∃ q, refPlain l = some q ∧ ((decDigits (nm q)).length ≤ 40 ∧ (decDigits (dn q)).length ≤ 40) ∧ ratText q = l) ↔ IsNum l := by
  constructor
  · rintro ⟨q, _, h2, h3⟩
    rw [← h3]
    exact (isNum_text q).2 h2
  · intro h
    have ht := ratText_textRat h.1
    refine ⟨textRat l, text_plain h.1, ?_, ht⟩
    have := h
    rw [← ht] at this
    exact (isNum_text _).1 this
theorem get_val {l : List UInt8} {q : Rat} (h : ratText q = l) : q = textRat l := by rw [← h]; exact (isText_ratText q).2.symm
end Go.Proofs.YtpkhgdnkkdhlcaaGreatDoor.Ar
