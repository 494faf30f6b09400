/-
  Numbers in limbs of nine decimal digits: plain arithmetic, of no program.
-/
import Derived.Lib.ItoaNum
namespace Go.Proofs.YtpkhgdnkkdhlcaaGreatDoor.Ar

def B : Nat := 1000000000
theorem B_eq : B = 1000000000 := rfl
theorem B_pos : 0 < B := by decide

/-- The number of limbs, the least significant one first. -/
def val : List Nat → Nat
  | [] => 0
  | x :: xs => x + B * val xs

/-- The limbs of a number, without a most significant limb 0. -/
def limbs (n : Nat) : List Nat := if _h : n = 0 then [] else n % B :: limbs (n / B)
termination_by n
decreasing_by exact Nat.div_lt_self (Nat.pos_of_ne_zero _h) (by decide)

theorem limbs_zero : limbs 0 = [] := by rw [limbs]; rfl
theorem limbs_pos {n : Nat} (h : 0 < n) : limbs n = n % B :: limbs (n / B) := by
  rw [limbs]; rw [dif_neg (by omega)]

theorem val_limbs (n : Nat) : val (limbs n) = n := by
  induction n using Nat.strongRecOn with
  | _ n ih =>
    by_cases h : n = 0
    · subst h; rw [limbs_zero]; rfl
    · rw [limbs_pos (by omega)]
      show n % B + B * val (limbs (n / B)) = n
      rw [ih _ (Nat.div_lt_self (by omega) (by decide))]
      exact Nat.mod_add_div n B

theorem limbs_lt (n : Nat) : ∀ x ∈ limbs n, x < B := by
  induction n using Nat.strongRecOn with
  | _ n ih =>
    by_cases h : n = 0
    · subst h; rw [limbs_zero]; intro x hx; cases hx
    · rw [limbs_pos (by omega)]
      intro x hx
      rcases List.mem_cons.1 hx with rfl | hx
      · exact Nat.mod_lt _ B_pos
      · exact ih _ (Nat.div_lt_self (by omega) (by decide)) x hx

theorem limbs_nil {n : Nat} : limbs n = [] ↔ n = 0 := by
  constructor
  · intro h
    have := val_limbs n
    rw [h] at this
    exact this.symm
  · rintro rfl; exact limbs_zero

theorem limbs_len_pos {n : Nat} (h : 0 < n) : 0 < (limbs n).length := by
  rcases Nat.eq_zero_or_pos (limbs n).length with h0 | h0
  · have := limbs_nil.1 (List.eq_nil_of_length_eq_zero h0); omega
  · exact h0

theorem limbs_len_zero {n : Nat} : (limbs n).length = 0 ↔ n = 0 := by
  rw [List.length_eq_zero_iff, limbs_nil]

/-- All limbs are below the base. -/
def Small (l : List Nat) : Prop := ∀ x ∈ l, x < B

theorem Small.nil : Small [] := fun _ h => by cases h
theorem Small.cons {x : Nat} {l : List Nat} (hx : x < B) (h : Small l) : Small (x :: l) := fun y hy => by
  rcases List.mem_cons.1 hy with rfl | hy
  · exact hx
  · exact h y hy
theorem Small.head {x : Nat} {l : List Nat} (h : Small (x :: l)) : x < B := h x List.mem_cons_self
theorem Small.tail {x : Nat} {l : List Nat} (h : Small (x :: l)) : Small l := fun y hy => h y (List.mem_cons_of_mem _ hy)
theorem Small.take {l : List Nat} (h : Small l) (k : Nat) : Small (l.take k) := fun y hy => h y (List.mem_of_mem_take hy)
theorem Small.drop {l : List Nat} (h : Small l) (k : Nat) : Small (l.drop k) := fun y hy => h y (List.mem_of_mem_drop hy)
theorem Small.append {l m : List Nat} (h : Small l) (k : Small m) : Small (l ++ m) := fun y hy => by
  rcases List.mem_append.1 hy with hy | hy
  · exact h y hy
  · exact k y hy
theorem Small.limbs (n : Nat) : Small (limbs n) := limbs_lt n
theorem Small.getD {l : List Nat} (h : Small l) (k : Nat) : l.getD k 0 < B := by
  rw [List.getD_eq_getElem?_getD]
  rcases Nat.lt_or_ge k l.length with hk | hk
  · rw [List.getElem?_eq_getElem hk]; exact h _ (List.getElem_mem hk)
  · rw [List.getElem?_eq_none hk]; exact B_pos
theorem Small.replicate (n : Nat) : Small (List.replicate n 0) := fun x hx => by
  rw [List.eq_of_mem_replicate hx]; exact B_pos

theorem val_nil : val [] = 0 := rfl
theorem val_cons (x : Nat) (l : List Nat) : val (x :: l) = x + B * val l := rfl
theorem val_append (l m : List Nat) : val (l ++ m) = val l + B ^ l.length * val m := by
  induction l with
  | nil => simp [val]
  | cons x l ih =>
    simp only [List.cons_append, val, ih, List.length_cons, Nat.pow_succ]
    grind
theorem val_snoc (l : List Nat) (x : Nat) : val (l ++ [x]) = val l + B ^ l.length * x := by
  rw [val_append]; simp [val]
theorem val_replicate (n : Nat) : val (List.replicate n 0) = 0 := by
  induction n with
  | zero => rfl
  | succ n ih => rw [List.replicate_succ, val, ih]; rfl
theorem val_lt {l : List Nat} (h : Small l) : val l < B ^ l.length := by
  induction l with
  | nil => simp [val]
  | cons x l ih =>
    have hx := h.head
    have := ih h.tail
    simp only [val, List.length_cons, Nat.pow_succ]
    have h1 : val l + 1 ≤ B ^ l.length := this
    have h2 : B * (val l + 1) ≤ B * B ^ l.length := Nat.mul_le_mul_left _ h1
    rw [Nat.mul_add, Nat.mul_one] at h2
    rw [Nat.mul_comm (B ^ l.length) B]
    omega

theorem take_snoc (l : List Nat) {k : Nat} (hk : k < l.length) : l.take (k + 1) = l.take k ++ [l[k]] := by
  rw [List.take_succ_eq_append_getElem hk]

theorem val_take_succ (l : List Nat) {k : Nat} (hk : k < l.length) : val (l.take (k + 1)) = val (l.take k) + B ^ k * l[k] := by
  rw [take_snoc l hk, val_snoc, List.length_take, Nat.min_eq_left (by omega)]

/-- Limbs of which the most significant one is not 0 are those of their number. -/
theorem limbs_val {l : List Nat} (h : Small l) (hl : l = [] ∨ ∃ m x, l = m ++ [x] ∧ 0 < x) : limbs (val l) = l := by
  induction l with
  | nil => exact limbs_zero
  | cons x l ih =>
    have hx := h.head
    rcases hl with hl | ⟨m, y, hm, hy⟩
    · cases hl
    · have hpos : 0 < val (x :: l) := by
        rw [hm, val_snoc]
        have : 0 < B ^ m.length * y := Nat.mul_pos (Nat.pow_pos B_pos) hy
        omega
      have hq : (x + B * val l) / B = val l := by
        rw [Nat.add_mul_div_left _ _ B_pos, Nat.div_eq_of_lt hx]; omega
      have hr : (x + B * val l) % B = x := by
        rw [Nat.add_mul_mod_self_left, Nat.mod_eq_of_lt hx]
      rw [limbs_pos hpos, val, hq, hr]
      congr 1
      apply ih h.tail
      cases l with
      | nil => left; rfl
      | cons z l =>
        right
        cases m with
        | nil => simp at hm
        | cons w m =>
          simp only [List.cons_append, List.cons.injEq] at hm
          exact ⟨m, y, hm.2, hy⟩

theorem limbs_top {n : Nat} (h : 0 < n) : ∃ m x, limbs n = m ++ [x] ∧ 0 < x := by
  induction n using Nat.strongRecOn with
  | _ n ih =>
    rw [limbs_pos h]
    by_cases hq : n / B = 0
    · refine ⟨[], n % B, ?_, ?_⟩
      · rw [hq, limbs_zero]; rfl
      · have := Nat.mod_add_div n B; rw [hq] at this; omega
    · obtain ⟨m, x, hm, hx⟩ := ih (n / B) (Nat.div_lt_self h (by decide)) (Nat.pos_of_ne_zero hq)
      exact ⟨n % B :: m, x, by rw [hm]; rfl, hx⟩

/-- What 'trim' finds: the limbs up to the last one that is not 0. -/
theorem limbs_take {l : List Nat} (h : Small l) {k : Nat} (hk : k ≤ l.length) (hz : ∀ j, k ≤ j → j < l.length → l.getD j 0 = 0) (ht : k = 0 ∨ 0 < l.getD (k - 1) 0) :
    limbs (val l) = l.take k := by
  have hv : val l = val (l.take k) := by
    have hd : l.drop k = List.replicate (l.length - k) 0 := by
      apply List.ext_getElem
      · simp
      · intro i h1 h2
        simp only [List.length_drop] at h1
        have := hz (k + i) (by omega) (by omega)
        rw [List.getD_eq_getElem?_getD, List.getElem?_eq_getElem (by omega)] at this
        simpa using this
    conv => lhs; rw [← List.take_append_drop k l, val_append, hd, val_replicate]
    simp
  rw [hv]
  apply limbs_val (h.take k)
  rcases ht with rfl | ht
  · left; simp
  · rcases Nat.eq_zero_or_pos k with rfl | hk0
    · left; simp
    · right
      refine ⟨l.take (k - 1), l[k - 1], ?_, ?_⟩
      · have := take_snoc l (k := k - 1) (by omega)
        rw [show k - 1 + 1 = k by omega] at this
        exact this
      · rw [List.getD_eq_getElem?_getD, List.getElem?_eq_getElem (by omega)] at ht
        simpa using ht

theorem limbs_len_le {n k : Nat} (h : n < B ^ k) : (limbs n).length ≤ k := by
  rcases Nat.eq_zero_or_pos n with rfl | hn
  · rw [limbs_zero]; simp
  · obtain ⟨m, x, hm, hx⟩ := limbs_top hn
    have hv := val_limbs n
    rw [hm, val_snoc] at hv
    rw [hm, List.length_append, List.length_singleton]
    apply Nat.lt_of_not_le
    intro hle
    have h1 : B ^ k ≤ B ^ m.length := Nat.pow_le_pow_right B_pos hle
    have h2 : B ^ m.length ≤ B ^ m.length * x := Nat.le_mul_of_pos_right _ hx
    omega

theorem lt_pow_len (n : Nat) : n < B ^ (limbs n).length := by
  have := val_lt (Small.limbs n)
  rwa [val_limbs] at this

theorem pow_len_le {n : Nat} (h : 0 < n) : B ^ ((limbs n).length - 1) ≤ n := by
  obtain ⟨m, x, hm, hx⟩ := limbs_top h
  have hv := val_limbs n
  rw [hm, val_snoc] at hv
  rw [hm, List.length_append, List.length_singleton]
  have h2 : B ^ m.length ≤ B ^ m.length * x := Nat.le_mul_of_pos_right _ hx
  simp only [Nat.add_sub_cancel]
  omega

/-- Fewer limbs: a lesser number. -/
theorem lt_of_len {a b : Nat} (h : (limbs a).length < (limbs b).length) : a < b := by
  have hb : 0 < b := by
    rcases Nat.eq_zero_or_pos b with rfl | hb
    · rw [limbs_zero] at h; simp at h
    · exact hb
  have h1 := lt_pow_len a
  have h2 := pow_len_le hb
  have h3 : B ^ (limbs a).length ≤ B ^ ((limbs b).length - 1) := Nat.pow_le_pow_right B_pos (by omega)
  omega

theorem len_mono {a b : Nat} (h : a ≤ b) : (limbs a).length ≤ (limbs b).length := by
  apply Nat.le_of_not_lt
  intro hlt
  have := lt_of_len hlt
  omega

theorem len_mul_le (a b : Nat) : (limbs (a * b)).length ≤ (limbs a).length + (limbs b).length := by
  apply limbs_len_le
  rw [Nat.pow_add]
  exact Nat.mul_lt_mul'' (lt_pow_len a) (lt_pow_len b)
theorem len_add_le (a b : Nat) : (limbs (a + b)).length ≤ max (limbs a).length (limbs b).length + 1 := by
  apply limbs_len_le
  have h1 := lt_pow_len a
  have h2 := lt_pow_len b
  have h3 : B ^ (limbs a).length ≤ B ^ max (limbs a).length (limbs b).length := Nat.pow_le_pow_right B_pos (Nat.le_max_left _ _)
  have h4 : B ^ (limbs b).length ≤ B ^ max (limbs a).length (limbs b).length := Nat.pow_le_pow_right B_pos (Nat.le_max_right _ _)
  rw [Nat.pow_succ]
  have h5 : B ^ max (limbs a).length (limbs b).length * 2 ≤ B ^ max (limbs a).length (limbs b).length * B := Nat.mul_le_mul_left _ (by decide)
  omega
theorem limbs_single {x : Nat} (h0 : 0 < x) (h : x < B) : limbs x = [x] := by
  rw [limbs_pos h0, Nat.mod_eq_of_lt h, Nat.div_eq_of_lt h, limbs_zero]
theorem limbs_one : limbs 1 = [1] := limbs_single (by decide) (by decide)
theorem eq_one_of_limbs {n : Nat} (h : limbs n = [1]) : n = 1 := by have := val_limbs n; rw [h] at this; simpa [val] using this.symm

/-- Two numbers whose limbs from place k on are the same. -/
theorem val_split (l : List Nat) (k : Nat) : val l = val (l.take k) + B ^ min k l.length * val (l.drop k) := by
  conv => lhs; rw [← List.take_append_drop k l, val_append]
  rw [List.length_take]

/-- The first limb from above that differs decides. -/
theorem lt_of_top {l m : List Nat} (hl : Small l) (hm : l.length = m.length) {i : Nat} (hi : i < l.length) (hd : l.drop (i + 1) = m.drop (i + 1)) (hlt : l.getD i 0 < m.getD i 0) : val l < val m := by
  have e1 := val_split l (i + 1)
  have e2 := val_split m (i + 1)
  rw [hd] at e1
  rw [Nat.min_eq_left (by omega)] at e1 e2
  have t1 := val_take_succ l hi
  have t2 := val_take_succ m (k := i) (by omega)
  rw [List.getD_eq_getElem?_getD, List.getElem?_eq_getElem hi, List.getD_eq_getElem?_getD, List.getElem?_eq_getElem (by omega)] at hlt
  simp only [Option.getD_some] at hlt
  have hb := val_lt (hl.take i)
  rw [List.length_take, Nat.min_eq_left (by omega)] at hb
  have h1 : B ^ i * (l[i] + 1) ≤ B ^ i * m[i] := Nat.mul_le_mul_left _ hlt
  rw [Nat.mul_add, Nat.mul_one] at h1
  omega

end Go.Proofs.YtpkhgdnkkdhlcaaGreatDoor.Ar

namespace Go.Proofs.YtpkhgdnkkdhlcaaGreatDoor.Ar

/-- A digit of a quotient is at most what its divisor's first digit lets guess. -/
theorem guess_ge {W v b t vl p : Nat} (hp : 0 < p) (ht : 0 < t) (hv : v = vl + p * t) (hb : W < v * b) : W / v ≤ min (W / p / t) (b - 1) := by
  have hvp : 0 < v := by rw [hv]; have := Nat.mul_pos hp ht; omega
  have h1 : W / v < b := Nat.div_lt_of_lt_mul hb
  have h2 : W / v ≤ W / p / t := by
    rw [Nat.div_div_eq_div_mul]
    have : p * t ≤ v := by omega
    exact Nat.div_le_div_left this (Nat.mul_pos hp ht)
  omega

theorem div_eq_of {W v g : Nat} (h1 : v * g ≤ W) (h2 : W / v ≤ g) (hv : 0 < v) : W / v = g := by
  have : g ≤ W / v := (Nat.le_div_iff_mul_le hv).2 (by rw [Nat.mul_comm]; exact h1)
  omega

theorem mod_of_div {W v g : Nat} (h : W / v = g) : W - v * g = W % v := by
  subst h
  have := Nat.div_add_mod W v
  omega

/-- Euclid's step. -/
theorem gcd_step (a b : Nat) : Nat.gcd b (a % b) = Nat.gcd a b := by
  rw [Nat.gcd_comm b, ← Nat.gcd_rec, Nat.gcd_comm]

end Go.Proofs.YtpkhgdnkkdhlcaaGreatDoor.Ar

namespace Go.Proofs.YtpkhgdnkkdhlcaaGreatDoor.Ar

theorem val_set (l : List Nat) : ∀ (i v : Nat), i < l.length → val (l.set i v) + B ^ i * l.getD i 0 = val l + B ^ i * v := by
  induction l with
  | nil => intro i v h; simp at h
  | cons x l ih =>
    intro i v h
    cases i with
    | zero => simp [val]; omega
    | succ i =>
      have := ih i v (by simpa using h)
      simp only [List.set_cons_succ, val, List.getD_cons_succ, Nat.pow_succ]
      have e1 : B ^ i * B * l.getD i 0 = B * (B ^ i * l.getD i 0) := by grind
      have e2 : B ^ i * B * v = B * (B ^ i * v) := by grind
      rw [e1, e2]
      have : B * (val (l.set i v) + B ^ i * l.getD i 0) = B * (val l + B ^ i * v) := by rw [this]
      rw [Nat.mul_add, Nat.mul_add] at this
      omega
theorem Small.set {l : List Nat} (h : Small l) {i v : Nat} (hv : v < B) : Small (l.set i v) := fun x hx => by
  rcases List.mem_or_eq_of_mem_set hx with h1 | rfl
  · exact h x h1
  · exact hv
theorem val_take_snoc (l : List Nat) {k : Nat} (h : k < l.length) : val (l.take (k + 1)) = val (l.take k) + B ^ k * l.getD k 0 := by
  rw [val_take_succ l h, List.getD_eq_getElem?_getD, List.getElem?_eq_getElem h]; rfl
theorem val_take_all (l : List Nat) {k : Nat} (h : l.length ≤ k) : val (l.take k) = val l := by rw [List.take_of_length_le h]
/-- Beyond its end a list of limbs goes on with 0. -/
theorem val_take_ge (l : List Nat) (k : Nat) : val (l.take (k + 1)) = val (l.take k) + B ^ k * l.getD k 0 := by
  rcases Nat.lt_or_ge k l.length with h | h
  · exact val_take_snoc l h
  · rw [val_take_all l h, val_take_all l (by omega), List.getD_eq_getElem?_getD, List.getElem?_eq_none h]; simp
theorem take_set_lt (l : List Nat) (i k v : Nat) (h : k ≤ i) : (l.set i v).take k = l.take k := by
  apply List.ext_getElem?
  intro j
  rw [List.getElem?_take, List.getElem?_take]
  split
  · rw [List.getElem?_set_ne (by omega)]
  · rfl
theorem take_set_eq (l : List Nat) (i v : Nat) (h : i < l.length) : (l.set i v).take (i + 1) = l.take i ++ [v] := by
  rw [List.take_succ_eq_append_getElem (by simpa using h)]
  congr 1
  · exact take_set_lt l i i v (Nat.le_refl _)
  · simp

/-- One digit of a sum. -/
theorem add_step {A Bv o c s x y p : Nat} (h : o + c * p = A + Bv) (hs : s = x + y + c) : (o + p * (s % B)) + (s / B) * (p * B) = (A + p * x) + (Bv + p * y) := by
  have := Nat.mod_add_div s B
  have e : p * (s % B + B * (s / B)) = p * s := by rw [this]
  rw [Nat.mul_add] at e
  have e2 : s / B * (p * B) = p * (B * (s / B)) := by grind
  rw [e2]
  subst hs
  have : p * (x + y + c) = p * x + p * y + c * p := by grind
  omega
theorem carry_le {s c x y : Nat} (hx : x < B) (hy : y < B) (hc : c ≤ 1) (hs : s = x + y + c) : s / B ≤ 1 := by
  have : s < 2 * B := by omega
  have := Nat.div_lt_of_lt_mul (k := 2) (m := s) (n := B) (by omega)
  omega
/-- One digit of a product. -/
theorem mul_step {o c p s x y r t : Nat} (h : o + c * p = t) (hs : s = x * y + r + c) : (o + p * (s % B)) + (s / B) * (p * B) = t + p * (x * y) + p * r := by
  have := Nat.mod_add_div s B
  have e : p * (s % B + B * (s / B)) = p * s := by rw [this]
  rw [Nat.mul_add] at e
  have e2 : s / B * (p * B) = p * (B * (s / B)) := by grind
  rw [e2]
  subst hs
  have : p * (x * y + r + c) = p * (x * y) + p * r + c * p := by grind
  omega
theorem mul_carry {s x y r c : Nat} (hx : x < B) (hy : y < B) (hr : r < B) (hc : c < B) (hs : s = x * y + r + c) : s / B < B := by
  apply Nat.div_lt_of_lt_mul
  have h1 : x ≤ B - 1 := by omega
  have h2 : y ≤ B - 1 := by omega
  have := Nat.mul_le_mul h1 h2
  have e : (B - 1) * (B - 1) + 2 * (B - 1) < B * B := by decide
  omega
/-- One digit of a difference. -/
theorem sub_step {A Bv o c p x y d c' : Nat} (h : o + Bv = A + c * p) (hd : d + y + c = x + c' * B) : (o + p * d) + (Bv + p * y) = (A + p * x) + c' * (p * B) := by
  have e : p * (d + y + c) = p * (x + c' * B) := by rw [hd]
  rw [Nat.mul_add, Nat.mul_add, Nat.mul_add] at e
  have e2 : p * (c' * B) = c' * (p * B) := by grind
  have e3 : p * c = c * p := Nat.mul_comm _ _
  omega
end Go.Proofs.YtpkhgdnkkdhlcaaGreatDoor.Ar

