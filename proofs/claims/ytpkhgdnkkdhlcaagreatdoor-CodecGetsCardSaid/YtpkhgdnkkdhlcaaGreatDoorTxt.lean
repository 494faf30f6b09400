/-
  Decimal texts and rational numbers: plain arithmetic, of no program.
-/
import Derived.Lib.ItoaNum
import Derived.Lib.Atoi
import Derived.Test.YtpkhgdnkkdhlcaaGreatDoorNum
open Go Go.Lib
namespace Go.Proofs.YtpkhgdnkkdhlcaaGreatDoor.Ar

/-- A decimal digit as a byte. -/
def digit (d : Nat) : UInt8 := UInt8.ofNat (48 + d)

theorem digit_toNat {d : Nat} (h : d < 10) : (digit d).toNat = 48 + d := by
  unfold digit; rw [UInt8.toNat_ofNat']; omega
theorem digitVal_digit {d : Nat} (h : d < 10) : digitVal (digit d) = some d := by
  unfold digitVal; rw [digit_toNat h, if_pos (by omega)]; congr 1; omega

theorem decFrom_append (l m : List UInt8) : ∀ acc, decFrom acc (l ++ m) = (decFrom acc l).bind fun n => decFrom n m := by
  induction l with
  | nil => intro acc; rfl
  | cons b l ih =>
    intro acc
    simp only [List.cons_append, decFrom]
    cases h : digitVal b with
    | none => rfl
    | some d => exact ih _

theorem decFrom_add (l : List UInt8) : ∀ acc n, decFrom 0 l = some n → decFrom acc l = some (acc * 10 ^ l.length + n) := by
  suffices h : ∀ acc b n, decFrom b l = some n → ∃ m, n = b * 10 ^ l.length + m ∧ decFrom acc l = some (acc * 10 ^ l.length + m) by
    intro acc n hn
    obtain ⟨m, hm, h2⟩ := h acc 0 n hn
    rw [h2]; simp at hm; rw [hm]
  induction l with
  | nil => intro acc b n h; simp only [decFrom, Option.some.injEq] at h; exact ⟨0, by simp [h], by simp [decFrom]⟩
  | cons c l ih =>
    intro acc b n h
    simp only [decFrom] at h ⊢
    cases hc : digitVal c with
    | none => rw [hc] at h; cases h
    | some d =>
      rw [hc] at h
      obtain ⟨m, hm, h2⟩ := ih (acc * 10 + d) _ _ h
      refine ⟨d * 10 ^ l.length + m, ?_, ?_⟩
      · rw [hm, List.length_cons, Nat.pow_succ]; grind
      · simp only [h2, List.length_cons, Nat.pow_succ, Option.some.injEq]; grind

theorem decDigits_small {u : Nat} (h : u < 10) : decDigits u = [digit u] := by rw [decDigits, dif_pos h]; rfl
theorem decDigits_big {u : Nat} (h : 10 ≤ u) : decDigits u = decDigits (u / 10) ++ [digit (u % 10)] := by rw [decDigits, dif_neg (by omega)]; rfl

theorem decFrom_decDigits (u : Nat) : decFrom 0 (decDigits u) = some u := by
  induction u using Nat.strongRecOn with
  | _ u ih =>
    by_cases h : u < 10
    · rw [decDigits_small h]; simp [decFrom, digitVal_digit h]
    · rw [decDigits_big (by omega), decFrom_append, ih _ (by omega)]
      simp only [Option.bind_some, decFrom, digitVal_digit (Nat.mod_lt u (by decide : 0 < 10))]
      congr 1; omega

theorem decDigits_ne (u : Nat) : decDigits u ≠ [] := by
  by_cases h : u < 10
  · rw [decDigits_small h]; simp
  · rw [decDigits_big (by omega)]; simp

/-- All bytes are decimal digits. -/
def Digs (l : List UInt8) : Prop := ∀ b ∈ l, 48 ≤ b.toNat ∧ b.toNat ≤ 57

theorem digs_decFrom {l : List UInt8} (h : Digs l) : ∀ acc, ∃ n, decFrom acc l = some n := by
  induction l with
  | nil => intro acc; exact ⟨acc, rfl⟩
  | cons b l ih =>
    intro acc
    have hb := h b List.mem_cons_self
    have : digitVal b = some (b.toNat - 48) := by unfold digitVal; rw [if_pos hb]
    obtain ⟨n, hn⟩ := ih (fun c hc => h c (List.mem_cons_of_mem _ hc)) (acc * 10 + (b.toNat - 48))
    exact ⟨n, by simp only [decFrom, this, hn]⟩

theorem decFrom_digs (l : List UInt8) : ∀ acc n, decFrom acc l = some n → Digs l := by
  induction l with
  | nil => intro _ _ _ b hb; cases hb
  | cons c l ih =>
    intro acc n h
    simp only [decFrom] at h
    cases hc : digitVal c with
    | none => rw [hc] at h; cases h
    | some d =>
      rw [hc] at h
      intro b hb
      rcases List.mem_cons.1 hb with rfl | hb
      · unfold digitVal at hc
        split at hc
        · assumption
        · cases hc
      · exact ih _ _ h b hb

theorem digs_decDigits (u : Nat) : Digs (decDigits u) := decFrom_digs _ _ _ (decFrom_decDigits u)

/-- The number that digits spell. -/
def dval (l : List UInt8) : Nat := (decFrom 0 l).getD 0

theorem dval_eq {l : List UInt8} {n : Nat} (h : decFrom 0 l = some n) : dval l = n := by unfold dval; rw [h]; rfl
theorem decFrom_dval {l : List UInt8} (h : Digs l) : decFrom 0 l = some (dval l) := by
  obtain ⟨n, hn⟩ := digs_decFrom h 0
  rw [dval_eq hn, hn]
theorem dval_decDigits (u : Nat) : dval (decDigits u) = u := dval_eq (decFrom_decDigits u)
theorem Digs.app {l m : List UInt8} (h : Digs l) (k : Digs m) : Digs (l ++ m) := fun b hb => by
  rcases List.mem_append.1 hb with hb | hb
  · exact h b hb
  · exact k b hb
theorem Digs.left {l m : List UInt8} (h : Digs (l ++ m)) : Digs l := fun b hb => h b (List.mem_append_left _ hb)
theorem Digs.right {l m : List UInt8} (h : Digs (l ++ m)) : Digs m := fun b hb => h b (List.mem_append_right _ hb)
theorem dval_append {l m : List UInt8} (h : Digs l) (k : Digs m) : dval (l ++ m) = dval l * 10 ^ m.length + dval m := by
  apply dval_eq
  rw [decFrom_append, decFrom_dval h]
  exact decFrom_add m _ _ (decFrom_dval k)
theorem dval_nil : dval [] = 0 := rfl
theorem dval_lt {l : List UInt8} (h : Digs l) : dval l < 10 ^ l.length := by
  induction l with
  | nil => simp [dval_nil]
  | cons b l ih =>
    have hb := h b List.mem_cons_self
    have e : dval (b :: l) = dval [b] * 10 ^ l.length + dval l := dval_append (l := [b]) (fun c hc => by simp at hc; subst hc; exact hb) (fun c hc => h c (List.mem_cons_of_mem _ hc))
    have e1 : dval [b] = b.toNat - 48 := by
      apply dval_eq
      have : digitVal b = some (b.toNat - 48) := by unfold digitVal; rw [if_pos hb]
      simp [decFrom, this]
    have := ih (fun c hc => h c (List.mem_cons_of_mem _ hc))
    rw [e, e1, List.length_cons, Nat.pow_succ]
    have h2 : (b.toNat - 48) * 10 ^ l.length ≤ 9 * 10 ^ l.length := Nat.mul_le_mul_right _ (by omega)
    omega

/-- A numeral without a leading zero, or 0. -/
def Canon (l : List UInt8) : Prop := Digs l ∧ l ≠ [] ∧ (l.head? = some 48 → l = [48])

theorem digit_of_toNat {b : UInt8} {d : Nat} (h : b.toNat = 48 + d) : b = digit d := by
  apply UInt8.toNat_inj.1
  have := b.toNat_lt
  unfold digit; rw [UInt8.toNat_ofNat', h]; omega

theorem canon_decDigits (u : Nat) : Canon (decDigits u) := by
  refine ⟨digs_decDigits u, decDigits_ne u, ?_⟩
  suffices h : ∀ u, (decDigits u).head? = some 48 → u = 0 by
    intro h1
    rw [h u h1]; rw [decDigits_small (by decide)]; rfl
  intro u
  induction u using Nat.strongRecOn with
  | _ u ih =>
    intro h1
    by_cases h : u < 10
    · rw [decDigits_small h] at h1
      simp only [List.head?_cons, Option.some.injEq] at h1
      have := digit_toNat h
      rw [h1] at this
      have : (48 : UInt8).toNat = 48 := rfl
      omega
    · rw [decDigits_big (by omega), List.head?_append] at h1
      have hne := decDigits_ne (u / 10)
      cases hd : (decDigits (u / 10)).head? with
      | none => rw [List.head?_eq_none_iff] at hd; exact absurd hd hne
      | some c =>
        rw [hd] at h1
        have := ih (u / 10) (by omega) (by rw [hd]; exact h1)
        omega

/-- A canonical numeral is that of its number. -/
theorem decDigits_dval {l : List UInt8} (h : Canon l) : decDigits (dval l) = l := by
  obtain ⟨hd, hne, hz⟩ := h
  suffices hs : ∀ n, ∀ l : List UInt8, l.length = n → Digs l → l ≠ [] → (l.head? = some 48 → l = [48]) → decDigits (dval l) = l by
    exact hs _ l rfl hd hne hz
  intro n
  induction n with
  | zero => intro l hl _ hne; exact absurd (List.eq_nil_of_length_eq_zero hl) hne
  | succ n ih =>
    intro l hl hd hne hz
    obtain ⟨m, b, rfl⟩ : ∃ m b, l = m ++ [b] := ⟨l.dropLast, l.getLast hne, (List.dropLast_concat_getLast hne).symm⟩
    have hb := hd b (by simp)
    obtain ⟨d, hd10, hbd⟩ : ∃ d, d < 10 ∧ b = digit d := ⟨b.toNat - 48, by omega, digit_of_toNat (by omega)⟩
    have e1 : dval [b] = d := by
      apply dval_eq; rw [hbd]; simp [decFrom, digitVal_digit hd10]
    rw [dval_append hd.left hd.right, e1]
    simp only [List.length_singleton, Nat.pow_one]
    simp only [List.length_append, List.length_singleton, Nat.add_right_cancel_iff] at hl
    cases hm : m with
    | nil =>
      subst hm
      simp only [dval_nil, List.nil_append, Nat.zero_mul, Nat.zero_add]
      rw [decDigits_small hd10, hbd]
    | cons c m' =>
      rw [hm] at hz hd hl
      have hzm : m.head? ≠ some 48 := by
        rw [hm]; intro hc
        have := hz (by simpa using hc)
        simp at this
      have hih := ih m (by rw [hm]; exact hl) (by rw [hm]; exact hd.left) (by rw [hm]; simp) (fun hc => absurd hc hzm)
      have hpos : 0 < dval m := by
        rcases Nat.eq_zero_or_pos (dval m) with h0 | h0
        · rw [h0, decDigits_small (by decide)] at hih
          exfalso; apply hzm; rw [← hih]; rfl
        · exact h0
      rw [← hm]
      rw [decDigits_big (by omega)]
      rw [show (dval m * 10 + d) / 10 = dval m by omega, show (dval m * 10 + d) % 10 = d by omega, hih, hbd]

end Go.Proofs.YtpkhgdnkkdhlcaaGreatDoor.Ar

open Go Go.Lib
namespace Go.Proofs.YtpkhgdnkkdhlcaaGreatDoor.Ar

/-- The last k decimal digits of a number. -/
def pad : Nat → Nat → List UInt8
  | 0, _ => []
  | k + 1, d => pad k (d / 10) ++ [digit (d % 10)]
theorem pad_length (k d : Nat) : (pad k d).length = k := by
  induction k generalizing d with
  | zero => rfl
  | succ k ih => rw [pad, List.length_append, ih]; rfl
theorem digs_one {d : Nat} (h : d < 10) : Digs [digit d] := fun b hb => by simp at hb; subst hb; rw [digit_toNat h]; omega
theorem dval_one {d : Nat} (h : d < 10) : dval [digit d] = d := by apply dval_eq; simp [decFrom, digitVal_digit h]
theorem pad_digs (k d : Nat) : Digs (pad k d) := by
  induction k generalizing d with
  | zero => intro b hb; cases hb
  | succ k ih => exact (ih _).app (digs_one (Nat.mod_lt _ (by decide)))
theorem pad_dval (k d : Nat) : dval (pad k d) = d % 10 ^ k := by
  induction k generalizing d with
  | zero => rw [pad, dval_nil, Nat.pow_zero, Nat.mod_one]
  | succ k ih =>
    have h10 : d % 10 < 10 := Nat.mod_lt _ (by decide)
    rw [pad, dval_append (pad_digs k _) (digs_one h10), dval_one h10, ih]
    simp only [List.length_singleton, Nat.pow_one]
    rw [Nat.pow_succ, Nat.mul_comm (10 ^ k) 10, Nat.mod_mul]
    omega
/-- Digits of one length and one number are the same. -/
theorem eq_pad {l : List UInt8} (h : Digs l) : l = pad l.length (dval l) := by
  suffices hs : ∀ n, ∀ l : List UInt8, l.length = n → Digs l → l = pad n (dval l) by exact hs _ l rfl h
  intro n
  induction n with
  | zero => intro l hl _; exact List.eq_nil_of_length_eq_zero hl
  | succ n ih =>
    intro l hl h
    have hne : l ≠ [] := by rintro rfl; simp at hl
    obtain ⟨m, b, rfl⟩ : ∃ m b, l = m ++ [b] := ⟨l.dropLast, l.getLast hne, (List.dropLast_concat_getLast hne).symm⟩
    have hb := h b (by simp)
    obtain ⟨d, hd, rfl⟩ : ∃ d, d < 10 ∧ b = digit d := ⟨b.toNat - 48, by omega, digit_of_toNat (by omega)⟩
    simp at hl
    rw [dval_append h.left h.right, dval_one hd]
    simp only [List.length_singleton, Nat.pow_one, pad]
    rw [show (dval m * 10 + d) / 10 = dval m by omega, show (dval m * 10 + d) % 10 = d by omega, ← ih m hl h.left]
theorem digs_replicate (n : Nat) : Digs (List.replicate n 48) := fun b hb => by rw [List.eq_of_mem_replicate hb]; decide
theorem dval_replicate (n : Nat) : dval (List.replicate n 48) = 0 := by
  induction n with
  | zero => rfl
  | succ n ih =>
    have e : List.replicate (n + 1) (48 : UInt8) = [digit 0] ++ List.replicate n 48 := rfl
    rw [e, dval_append (digs_one (by decide)) (digs_replicate n), dval_one (by decide), ih]; omega
theorem zeros_pad {n k d : Nat} (h : n + (decDigits d).length = k) : List.replicate n 48 ++ decDigits d = pad k d := by
  have hD : Digs (List.replicate n 48 ++ decDigits d) := (digs_replicate n).app (digs_decDigits d)
  rw [eq_pad hD, dval_append (digs_replicate n) (digs_decDigits d), dval_replicate, dval_decDigits]
  simp only [List.length_append, List.length_replicate, Nat.zero_mul, Nat.zero_add]
  rw [h]
theorem decDigits_len_le {d k : Nat} (h0 : 0 < k) (h : d < 10 ^ k) : (decDigits d).length ≤ k := by
  induction k generalizing d with
  | zero => omega
  | succ k ih =>
    by_cases hd : d < 10
    · rw [decDigits_small hd]; simp
    · rw [decDigits_big (by omega), List.length_append]
      have hk : 0 < k := by
        rcases Nat.eq_zero_or_pos k with rfl | hk
        · simp at h; omega
        · exact hk
      have := ih hk (d := d / 10) (by rw [Nat.pow_succ] at h; omega)
      simp; omega
/-- Digits from the last one on, until nothing is left. -/
theorem pad_stop {d k : Nat} (h0 : 0 < d) (hz : d / 10 ^ k = 0) (hp : ∀ j, j < k → 0 < d / 10 ^ j) : pad k d = decDigits d := by
  have hk : d < 10 ^ k := by
    rcases Nat.lt_or_ge d (10 ^ k) with h | h
    · exact h
    · have := Nat.div_pos h (Nat.pow_pos (by decide)); omega
  have hk0 : 0 < k := by
    rcases Nat.eq_zero_or_pos k with rfl | hk
    · simp at hz; omega
    · exact hk
  have hc : Canon (pad k d) := by
    refine ⟨pad_digs k d, ?_, ?_⟩
    · intro e; have := pad_length k d; rw [e] at this; simp at this; omega
    · intro hh
      exfalso
      -- the first digit is that of d / 10^(k-1)
      obtain ⟨j, rfl⟩ : ∃ j, k = j + 1 := ⟨k - 1, by omega⟩
      have e : pad (j + 1) d = digit (d / 10 ^ j % 10) :: (pad j d) := by
        have gen : ∀ j d, pad (j + 1) d = digit (d / 10 ^ j % 10) :: pad j d := by
          intro j
          induction j with
          | zero => intro d; simp [pad]
          | succ j ih =>
            intro d
            rw [pad, ih, Nat.div_div_eq_div_mul, Nat.mul_comm 10, ← Nat.pow_succ]; rfl
        exact gen j d
      rw [e] at hh
      simp at hh
      have h1 := hp j (by omega)
      have h2 : d / 10 ^ j < 10 := by rw [Nat.pow_succ] at hk; exact Nat.div_lt_of_lt_mul (by rw [Nat.mul_comm]; rw [Nat.mul_comm] at hk; exact hk)
      rw [Nat.mod_eq_of_lt h2] at hh
      have := digit_toNat h2
      rw [hh] at this
      have : (48 : UInt8).toNat = 48 := rfl
      omega
  have := decDigits_dval hc
  rw [pad_dval, Nat.mod_eq_of_lt hk] at this
  exact this.symm

/-- The decimal digits of limbs, all but the most significant one written out. -/
def tail9 (m : List Nat) : List UInt8 := m.reverse.flatMap (pad 9)
theorem tail9_snoc (m : List Nat) (c : Nat) : tail9 (c :: m) = tail9 m ++ pad 9 c := by unfold tail9; simp
theorem tail9_digs (m : List Nat) : Digs (tail9 m) := by
  induction m with
  | nil => intro b hb; cases hb
  | cons c m ih => rw [tail9_snoc]; exact ih.app (pad_digs 9 c)
theorem tail9_len (m : List Nat) : (tail9 m).length = 9 * m.length := by
  induction m with
  | nil => rfl
  | cons c m ih => rw [tail9_snoc, List.length_append, ih, pad_length, List.length_cons]; omega
theorem tail9_dval {m : List Nat} (h : Small m) : dval (tail9 m) = val m := by
  induction m with
  | nil => rfl
  | cons c m ih =>
    rw [tail9_snoc, dval_append (tail9_digs m) (pad_digs 9 c), pad_length, pad_dval, ih h.tail, val_cons]
    have := h.head
    rw [B_eq] at *
    rw [Nat.mod_eq_of_lt (by simpa using this)]
    omega
/-- THE DECIMAL DIGITS OF A NUMBER by those of its limbs. -/
theorem text_limbs {m : List Nat} {x : Nat} (h : Small (m ++ [x])) (hx : 0 < x) : decDigits (val (m ++ [x])) = decDigits x ++ tail9 m := by
  have hm : Small m := fun y hy => h y (by simp [hy])
  have hc : Canon (decDigits x ++ tail9 m) := by
    refine ⟨(digs_decDigits x).app (tail9_digs m), by simp [decDigits_ne], ?_⟩
    intro hh
    exfalso
    obtain ⟨c1, c2, c3⟩ := canon_decDigits x
    rw [List.head?_append] at hh
    cases hd : (decDigits x).head? with
    | none => rw [List.head?_eq_none_iff] at hd; exact c2 hd
    | some c =>
      rw [hd] at hh
      simp at hh
      subst hh
      have := c3 hd
      have e := dval_decDigits x
      rw [this] at e
      have : dval [48] = 0 := rfl
      omega
  have := decDigits_dval hc
  rw [dval_append (digs_decDigits x) (tail9_digs m), dval_decDigits, tail9_len, tail9_dval hm] at this
  rw [← this, val_snoc]
  congr 1
  have : (10 : Nat) ^ (9 * m.length) = B ^ m.length := by rw [Nat.pow_mul]; rfl
  rw [this, Nat.mul_comm x]; omega
end Go.Proofs.YtpkhgdnkkdhlcaaGreatDoor.Ar

open Go Go.Lib
namespace Go.Proofs.YtpkhgdnkkdhlcaaGreatDoor.Ar

/-- A rational number from a sign, a numerator and a denominator. -/
def nr (neg : Bool) (n d : Nat) : Rat := mkRat (if neg then -(n : Int) else n) d

theorem natAbs_sign (neg : Bool) (n : Nat) : (if neg then -(n : Int) else (n : Int)).natAbs = n := by cases neg <;> simp

theorem num_neg_iff {q : Rat} : q.num < 0 ↔ q < 0 := by
  constructor
  · intro h; apply Rat.not_le.1; intro h'; have := Rat.num_nonneg.2 h'; omega
  · intro h; apply Int.not_le.1; intro h'; have := Rat.num_nonneg.1 h'; grind
theorem nr_num (neg : Bool) {n d : Nat} (hd : 0 < d) : (nr neg n d).num = (if neg then -((n / Nat.gcd n d : Nat) : Int) else ((n / Nat.gcd n d : Nat) : Int)) := by
  unfold nr
  rw [Rat.num_mkRat, if_neg (by omega), natAbs_sign]
  have hg := Nat.gcd_comm d n
  cases neg
  · simp [hg]
  · simp only [if_true, hg]
    have : ((Nat.gcd n d : Nat) : Int) ∣ (n : Int) := Int.natCast_dvd_natCast.2 (Nat.gcd_dvd_left n d)
    rw [Int.neg_ediv_of_dvd this]; rfl
theorem nr_den (neg : Bool) {n d : Nat} (hd : 0 < d) : (nr neg n d).den = d / Nat.gcd n d := by
  unfold nr
  rw [Rat.den_mkRat, if_neg (by omega), natAbs_sign, Nat.gcd_comm d n]
theorem nr_abs (neg : Bool) {n d : Nat} (hd : 0 < d) : (nr neg n d).num.natAbs = n / Nat.gcd n d := by
  rw [nr_num neg hd, natAbs_sign]
theorem nr_neg (neg : Bool) {n d : Nat} (hd : 0 < d) (hn : 0 < n) : decide (nr neg n d < 0) = neg := by
  have hg : 0 < n / Nat.gcd n d := Nat.div_pos (Nat.le_of_dvd hn (Nat.gcd_dvd_left n d)) (Nat.gcd_pos_of_pos_left d hn)
  have h : nr neg n d < 0 ↔ neg = true := by
    rw [← num_neg_iff, nr_num neg hd]
    cases neg
    · simp; omega
    · simp; omega
  cases neg <;> simp [h]
theorem nr_zero (neg : Bool) (d : Nat) : nr neg 0 d = 0 := by unfold nr; cases neg <;> simp
/-- A rational number is that of its parts. -/
theorem nr_self (q : Rat) : nr (decide (q < 0)) q.num.natAbs q.den = q := by
  unfold nr
  have : (if decide (q < 0) = true then -((q.num.natAbs : Nat) : Int) else ((q.num.natAbs : Nat) : Int)) = q.num := by
    by_cases h : q < 0
    · have := num_neg_iff.2 h; simp [h]; omega
    · have : 0 ≤ q.num := Rat.num_nonneg.2 (Rat.not_lt.1 h); simp [h]; omega
  rw [this, Rat.mkRat_self]

/-- The text of a number. -/
def ratText (q : Rat) : List UInt8 := (if q < 0 then [45] else []) ++ (decDigits q.num.natAbs ++ (if q.den = 1 then [] else 47 :: decDigits q.den))

/-- What stands in front of the first stroke, and what behind it. -/
def cut47 : List UInt8 → List UInt8 × Option (List UInt8)
  | [] => ([], none)
  | c :: r => if c = 47 then ([], some r) else (c :: (cut47 r).1, (cut47 r).2)
theorem cut47_none {l : List UInt8} (h : 47 ∉ l) : cut47 l = (l, none) := by
  induction l with
  | nil => rfl
  | cons c l ih =>
    simp at h
    rw [cut47, if_neg (fun e => h.1 e.symm), ih h.2]
theorem cut47_some {l : List UInt8} (h : 47 ∉ l) (m : List UInt8) : cut47 (l ++ 47 :: m) = (l, some m) := by
  induction l with
  | nil => rfl
  | cons c l ih =>
    simp at h
    rw [List.cons_append, cut47, if_neg (fun e => h.1 e.symm), ih h.2]
theorem cut47_eq (l : List UInt8) : 47 ∉ (cut47 l).1 ∧ l = (cut47 l).1 ++ (match (cut47 l).2 with | none => [] | some m => 47 :: m) := by
  induction l with
  | nil => simp [cut47]
  | cons c l ih =>
    by_cases h : c = 47
    · subst h; simp [cut47]
    · rw [cut47, if_neg h]
      constructor
      · simp; exact ⟨fun e => h e.symm, ih.1⟩
      · simp only [List.cons_append]; congr 1; exact ih.2
theorem digs_no47 {l : List UInt8} (h : Digs l) : 47 ∉ l := fun hm => by
  have := h 47 hm
  have e : (47 : UInt8).toNat = 47 := rfl
  omega

/-- The sign in front. -/
def isNeg (l : List UInt8) : Bool := l.head? == some 45
def unsign (l : List UInt8) : List UInt8 := if isNeg l then l.tail else l

/-- THE TEXTS OF NUMBERS. -/
structure IsText (l : List UInt8) : Prop where
  above : Canon (cut47 (unsign l)).1
  sign : isNeg l = true → (cut47 (unsign l)).1 ≠ [48]
  below : ∀ m, (cut47 (unsign l)).2 = some m → Canon m ∧ m ≠ [48] ∧ m ≠ [49] ∧ (cut47 (unsign l)).1 ≠ [48] ∧ Nat.gcd (dval (cut47 (unsign l)).1) (dval m) = 1

/-- The number of a text. -/
def textRat (l : List UInt8) : Rat := nr (isNeg l) (dval (cut47 (unsign l)).1) (match (cut47 (unsign l)).2 with | none => 1 | some m => dval m)

theorem dval_pos {l : List UInt8} (h : Canon l) (h0 : l ≠ [48]) : 0 < dval l := by
  rcases Nat.eq_zero_or_pos (dval l) with hz | hz
  · have := decDigits_dval h
    rw [hz, decDigits_small (by decide)] at this
    exact absurd this.symm h0
  · exact hz
theorem canon_zero {l : List UInt8} (h : Canon l) : dval l = 0 ↔ l = [48] := by
  constructor
  · intro hz
    have := decDigits_dval h
    rw [hz, decDigits_small (by decide)] at this
    exact this.symm
  · rintro rfl; rfl
theorem canon_one {l : List UInt8} (h : Canon l) : dval l = 1 ↔ l = [49] := by
  constructor
  · intro hz
    have := decDigits_dval h
    rw [hz, decDigits_small (by decide)] at this
    exact this.symm
  · rintro rfl; rfl

theorem ratText_head (q : Rat) : isNeg (ratText q) = decide (q < 0) ∧ unsign (ratText q) = decDigits q.num.natAbs ++ (if q.den = 1 then [] else 47 :: decDigits q.den) := by
  by_cases h : q < 0
  · have : isNeg (ratText q) = true := by unfold isNeg ratText; rw [if_pos h]; rfl
    refine ⟨by rw [this]; simp [h], ?_⟩
    unfold unsign; rw [this, if_pos rfl]; unfold ratText; rw [if_pos h]; rfl
  · have : isNeg (ratText q) = false := by
      unfold isNeg ratText
      rw [if_neg h, List.nil_append, List.head?_append]
      cases hd : (decDigits q.num.natAbs).head? with
      | none => rw [List.head?_eq_none_iff] at hd; exact absurd hd (decDigits_ne _)
      | some c =>
        simp
        rintro rfl
        have := digs_decDigits q.num.natAbs 45 (List.mem_of_mem_head? hd)
        have e : (45 : UInt8).toNat = 45 := rfl
        omega
    refine ⟨by rw [this]; simp [h], ?_⟩
    unfold unsign; rw [this, if_neg (by simp)]; unfold ratText; rw [if_neg h]; rfl
theorem ratText_cut (q : Rat) : cut47 (unsign (ratText q)) = (decDigits q.num.natAbs, if q.den = 1 then none else some (decDigits q.den)) := by
  rw [(ratText_head q).2]
  by_cases h : q.den = 1
  · rw [if_pos h, if_pos h, List.append_nil, cut47_none (digs_no47 (digs_decDigits _))]
  · rw [if_neg h, if_neg h, cut47_some (digs_no47 (digs_decDigits _))]

theorem isText_ratText (q : Rat) : IsText (ratText q) ∧ textRat (ratText q) = q := by
  have hc := ratText_cut q
  have hh := ratText_head q
  have canon := canon_decDigits q.num.natAbs
  constructor
  · refine ⟨by rw [hc]; exact canon, fun h => ?_, fun m hm => ?_⟩
    · rw [hc]
      intro e
      have := (canon_zero canon).2 e
      rw [dval_decDigits] at this
      rw [hh.1] at h
      have := num_neg_iff.2 (of_decide_eq_true h)
      omega
    · rw [hc] at hm ⊢
      by_cases h : q.den = 1
      · rw [if_pos h] at hm; cases hm
      · rw [if_neg h] at hm
        injection hm with hm
        subst hm
        have cd := canon_decDigits q.den
        refine ⟨cd, fun e => ?_, fun e => ?_, fun e => ?_, ?_⟩
        · have := (canon_zero cd).2 e; rw [dval_decDigits] at this; exact q.den_nz this
        · have := (canon_one cd).2 e; rw [dval_decDigits] at this; exact h this
        · have := (canon_zero canon).2 e; rw [dval_decDigits] at this
          have hr := q.reduced
          rw [this] at hr
          simp [Nat.Coprime] at hr
          exact h hr
        · rw [dval_decDigits, dval_decDigits]; exact q.reduced
  · unfold textRat
    rw [hc, hh.1, dval_decDigits]
    by_cases h : q.den = 1
    · simp only [if_pos h]
      have := nr_self q
      rw [h] at this; exact this
    · simp only [if_neg h, dval_decDigits]
      exact nr_self q

theorem ratText_textRat {l : List UInt8} (h : IsText l) : ratText (textRat l) = l := by
  obtain ⟨ha, hs, hb⟩ := h
  have hl : l = (if isNeg l then [45] else []) ++ unsign l := by
    unfold unsign
    cases hn : isNeg l
    · simp
    · simp only [if_true]
      unfold isNeg at hn
      cases l with
      | nil => simp at hn
      | cons c r => simp at hn; subst hn; rfl
  have hc := (cut47_eq (unsign l)).2
  unfold textRat
  cases hm : (cut47 (unsign l)).2 with
  | none =>
    rw [hm] at hc
    simp only [List.append_nil] at hc
    have e1 := nr_abs (isNeg l) (n := dval (cut47 (unsign l)).1) (d := 1) (by decide)
    have e2 := nr_den (isNeg l) (n := dval (cut47 (unsign l)).1) (d := 1) (by decide)
    simp at e1 e2
    unfold ratText
    simp only [e1, e2, if_true, List.append_nil]
    rw [decDigits_dval ha]
    have hneg : (nr (isNeg l) (dval (cut47 (unsign l)).1) 1 < 0) ↔ isNeg l = true := by
      rcases Nat.eq_zero_or_pos (dval (cut47 (unsign l)).1) with hz | hz
      · rw [hz, nr_zero]
        have := (canon_zero ha).1 hz
        constructor
        · intro h; exact absurd h (by decide)
        · intro h; exact absurd this (hs h)
      · have := nr_neg (isNeg l) (n := dval (cut47 (unsign l)).1) (d := 1) (by decide) hz
        cases hi : isNeg l
        · rw [hi] at this; simpa using this
        · rw [hi] at this; simpa using this
    have hif : (if nr (isNeg l) (dval (cut47 (unsign l)).1) 1 < 0 then [45] else []) = (if isNeg l then [45] else ([] : List UInt8)) := by
      by_cases h : isNeg l = true
      · rw [if_pos (hneg.2 h), if_pos h]
      · rw [if_neg (fun h' => h (hneg.1 h')), if_neg h]
    rw [hif]
    conv => rhs; rw [hl]
    rw [← hc]
  | some m =>
    rw [hm] at hc
    simp only at hc
    obtain ⟨b1, b2, b3, b4, b5⟩ := hb m hm
    have hd : 0 < dval m := dval_pos b1 b2
    have hn : 0 < dval (cut47 (unsign l)).1 := dval_pos ha b4
    have e1 := nr_abs (isNeg l) (n := dval (cut47 (unsign l)).1) hd
    have e2 := nr_den (isNeg l) (n := dval (cut47 (unsign l)).1) hd
    rw [b5] at e1 e2
    simp at e1 e2
    have h1 : dval m ≠ 1 := fun e => b3 ((canon_one b1).1 e)
    unfold ratText
    simp only [e1, e2, if_neg h1]
    rw [decDigits_dval ha, decDigits_dval b1]
    have hneg : (nr (isNeg l) (dval (cut47 (unsign l)).1) (dval m) < 0) ↔ isNeg l = true := by
      have := nr_neg (isNeg l) (n := dval (cut47 (unsign l)).1) hd hn
      cases hi : isNeg l
      · rw [hi] at this; simpa using this
      · rw [hi] at this; simpa using this
    have hif : (if nr (isNeg l) (dval (cut47 (unsign l)).1) (dval m) < 0 then [45] else []) = (if isNeg l then [45] else ([] : List UInt8)) := by
      by_cases h : isNeg l = true
      · rw [if_pos (hneg.2 h), if_pos h]
      · rw [if_neg (fun h' => h (hneg.1 h')), if_neg h]
    rw [hif]
    conv => rhs; rw [hl]
    rw [← hc]
end Go.Proofs.YtpkhgdnkkdhlcaaGreatDoor.Ar

open Go Go.Lib
namespace Go.Proofs.YtpkhgdnkkdhlcaaGreatDoor.Ar

def sg (q : Rat) : Bool := decide (q < 0)
def nm (q : Rat) : Nat := q.num.natAbs
def dn (q : Rat) : Nat := q.den
theorem dn_pos (q : Rat) : 0 < dn q := Nat.pos_of_ne_zero q.den_nz
theorem nr_sg (q : Rat) : nr (sg q) (nm q) (dn q) = q := nr_self q
theorem nm_zero {q : Rat} : nm q = 0 ↔ q = 0 := by unfold nm; rw [Int.natAbs_eq_zero, Rat.num_eq_zero]
theorem sg_zero : sg 0 = false := rfl
theorem nm_0 : nm 0 = 0 := rfl
theorem nm_nr (s : Bool) {n d : Nat} (hd : 0 < d) : nm (nr s n d) = n / Nat.gcd n d := nr_abs s hd
theorem dn_nr (s : Bool) {n d : Nat} (hd : 0 < d) : dn (nr s n d) = d / Nat.gcd n d := nr_den s hd
theorem sg_nr (s : Bool) {n d : Nat} (hd : 0 < d) (hn : 0 < n) : sg (nr s n d) = s := nr_neg s hd hn

/-- A number times its denominator. -/
theorem nr_mul (s : Bool) (n : Nat) {d : Nat} (hd : 0 < d) : nr s n d * (d : Rat) = if s then -(n : Rat) else (n : Rat) := by
  have hd' : (d : Rat) ≠ 0 := by
    intro e
    have : ((d : Nat) : Rat) = ((0 : Nat) : Rat) := e
    have := Rat.natCast_inj.1 this
    omega
  unfold nr
  rw [Rat.mkRat_eq_div]
  have : ((if s then -(n : Int) else (n : Int) : Int) : Rat) / ((d : Int) : Rat) * (d : Rat) = ((if s then -(n : Int) else (n : Int) : Int) : Rat) := Rat.div_mul_cancel hd'
  rw [show ((d : Nat) : Rat) = ((d : Int) : Rat) from rfl] at *
  rw [this]
  cases s
  · rfl
  · simp only [if_true]; exact Rat.intCast_neg _
theorem mul_dn (q : Rat) : q * (dn q : Rat) = if sg q then -(nm q : Rat) else (nm q : Rat) := by
  have := nr_mul (sg q) (nm q) (dn_pos q)
  rwa [nr_sg] at this
theorem cast_ne {d : Nat} (hd : 0 < d) : (d : Rat) ≠ 0 := by
  intro e
  have : ((d : Nat) : Rat) = ((0 : Nat) : Rat) := e
  have := Rat.natCast_inj.1 this
  omega
theorem eq_of_mul {x y d : Rat} (hd : d ≠ 0) (h : x * d = y * d) : x = y := by
  have : (x - y) * d = 0 := by grind
  rcases Rat.mul_eq_zero.1 this with h | h
  · grind
  · exact absurd h hd
theorem nr_eq {s : Bool} {n d : Nat} (hd : 0 < d) {x : Rat} (h : x * (d : Rat) = if s then -(n : Rat) else (n : Rat)) : x = nr s n d :=
  eq_of_mul (cast_ne hd) (by rw [h, nr_mul s n hd])

section
variable (p q : Rat)
theorem add_same (h : sg p = sg q) : p + q = nr (sg p) (nm p * dn q + nm q * dn p) (dn p * dn q) := by
  apply nr_eq (Nat.mul_pos (dn_pos p) (dn_pos q))
  have a := mul_dn p
  have b := mul_dn q
  rw [← h] at b
  rw [Rat.natCast_mul, Rat.natCast_add, Rat.natCast_mul, Rat.natCast_mul]
  cases hs : sg p
  · rw [hs] at a b; simp at a b ⊢; grind
  · rw [hs] at a b; simp at a b ⊢; grind
theorem add_ge (h : sg p ≠ sg q) (hge : nm q * dn p ≤ nm p * dn q) : p + q = nr (sg p) (nm p * dn q - nm q * dn p) (dn p * dn q) := by
  apply nr_eq (Nat.mul_pos (dn_pos p) (dn_pos q))
  have a := mul_dn p
  have b := mul_dn q
  obtain ⟨t, ht⟩ := Nat.le.dest hge
  have e : nm p * dn q - nm q * dn p = t := by omega
  rw [e]
  have hc : (nm q : Rat) * (dn p : Rat) + (t : Rat) = (nm p : Rat) * (dn q : Rat) := by
    rw [← Rat.natCast_mul, ← Rat.natCast_mul, ← Rat.natCast_add, ht]
  rw [Rat.natCast_mul]
  cases hs : sg p <;> cases hq : sg q
  · rw [hs, hq] at h; exact absurd rfl h
  · rw [hs] at a; rw [hq] at b; simp at a b ⊢; grind
  · rw [hs] at a; rw [hq] at b; simp at a b ⊢; grind
  · rw [hs, hq] at h; exact absurd rfl h
theorem add_lt (h : sg p ≠ sg q) (hlt : nm p * dn q ≤ nm q * dn p) : p + q = nr (sg q) (nm q * dn p - nm p * dn q) (dn p * dn q) := by
  rw [Rat.add_comm, add_ge q p (fun e => h e.symm) hlt, Nat.mul_comm (dn q) (dn p)]
theorem mul_nr : p * q = nr (sg p != sg q) (nm p * nm q) (dn p * dn q) := by
  apply nr_eq (Nat.mul_pos (dn_pos p) (dn_pos q))
  have a := mul_dn p
  have b := mul_dn q
  rw [Rat.natCast_mul, Rat.natCast_mul]
  cases hs : sg p <;> cases hq : sg q <;> (rw [hs] at a; rw [hq] at b; simp at a b ⊢; grind)
theorem div_nr (h : q ≠ 0) : p / q = nr (sg p != sg q) (nm p * dn q) (dn p * nm q) := by
  have hq : 0 < nm q := Nat.pos_of_ne_zero fun e => h (nm_zero.1 e)
  apply nr_eq (Nat.mul_pos (dn_pos p) hq)
  have a := mul_dn p
  have b := mul_dn q
  have c : p / q * q = p := Rat.div_mul_cancel h
  generalize p / q = r at *
  have hd := cast_ne (dn_pos q)
  rw [Rat.natCast_mul, Rat.natCast_mul]
  cases hs : sg p <;> cases hq : sg q <;> (rw [hs] at a; rw [hq] at b; simp at a b ⊢; grind)
theorem sg_neg : sg (-p) = (!sg p && decide (nm p ≠ 0)) := by
  by_cases hz : nm p = 0
  · rw [nm_zero.1 hz]; rfl
  · have hp : p ≠ 0 := fun e => hz (nm_zero.2 e)
    unfold sg
    by_cases h : p < 0
    · have : ¬ -p < 0 := by grind
      simp [h, this]
    · have : -p < 0 := by grind
      simp [h, this, hz]
theorem nm_neg : nm (-p) = nm p := by unfold nm; show (-p.num).natAbs = _; rw [Int.natAbs_neg]
theorem dn_neg : dn (-p) = dn p := rfl
theorem int_nr (n : Int) : ((n : Int) : Rat) = nr (decide (n < 0)) n.natAbs 1 := by
  unfold nr
  have : (if decide (n < 0) = true then -((n.natAbs : Nat) : Int) else ((n.natAbs : Nat) : Int)) = n := by
    by_cases h : n < 0
    · simp [h]; omega
    · simp [h]; omega
  rw [this, Rat.mkRat_one]
end
end Go.Proofs.YtpkhgdnkkdhlcaaGreatDoor.Ar

