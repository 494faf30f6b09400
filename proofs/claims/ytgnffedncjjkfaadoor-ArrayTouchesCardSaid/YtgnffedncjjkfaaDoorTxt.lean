/-
  Decimal texts and rational numbers: plain arithmetic, of no program.
-/
import Derived.Lib.ItoaNum
import Derived.Lib.Atoi
import Derived.Test.YtgnffedncjjkfaaDoorNum
open Go Go.Lib
namespace Go.Proofs.YtgnffedncjjkfaaDoor.Ar

/-- A decimal digit as a byte. -/
def digit (d : Nat) : UInt8 := UInt8.ofNat (48 + d)

theorem digit_toNat {d : Nat} (h : d < 10) : (digit d).toNat = 48 + d := by
  unfold digit; rw [UInt8.toNat_ofNat']; omega
theorem digitVal_digit {d : Nat} (h : d < 10) : digitVal (digit d) = some d := by
  unfold digitVal; rw [digit_toNat h, if_pos (by omega)]; congr 1; omega

theorem decFrom_append (l m : List UInt8) : ∀ acc, decFrom acc (l ++ m) = (decFrom acc l).bind fun n => decFrom n m := by
  induction l with
  | nil => intro acc; rfl
  | cons b l ih =>
    intro acc
    simp only [List.cons_append, decFrom]
    cases h : digitVal b with
    | none => rfl
    | some d => exact ih _

theorem decFrom_add (l : List UInt8) : ∀ acc n, decFrom 0 l = some n → decFrom acc l = some (acc * 10 ^ l.length + n) := by
  suffices h : ∀ acc b n, decFrom b l = some n → ∃ m, n = b * 10 ^ l.length + m ∧ decFrom acc l = some (acc * 10 ^ l.length + m) by
    intro acc n hn
    obtain ⟨m, hm, h2⟩ := h acc 0 n hn
    rw [h2]; simp at hm; rw [hm]
  induction l with
  | nil => intro acc b n h; simp only [decFrom, Option.some.injEq] at h; exact ⟨0, by simp [h], by simp [decFrom]⟩
  | cons c l ih =>
    intro acc b n h
    simp only [decFrom] at h ⊢
    cases hc : digitVal c with
    | none => rw [hc] at h; cases h
    | some d =>
      rw [hc] at h
      obtain ⟨m, hm, h2⟩ := ih (acc * 10 + d) _ _ h
      refine ⟨d * 10 ^ l.length + m, ?_, ?_⟩
      · rw [hm, List.length_cons, Nat.pow_succ]; grind
      · simp only [h2, List.length_cons, Nat.pow_succ, Option.some.injEq]; grind

theorem decDigits_small {u : Nat} (h : u < 10) : decDigits u = [digit u] := by rw [decDigits, dif_pos h]; rfl
theorem decDigits_big {u : Nat} (h : 10 ≤ u) : decDigits u = decDigits (u / 10) ++ [digit (u % 10)] := by rw [decDigits, dif_neg (by omega)]; rfl

/-- All bytes are decimal digits. -/
def Digs (l : List UInt8) : Prop := ∀ b ∈ l, 48 ≤ b.toNat ∧ b.toNat ≤ 57

theorem digs_decFrom {l : List UInt8} (h : Digs l) : ∀ acc, ∃ n, decFrom acc l = some n := by
  induction l with
  | nil => intro acc; exact ⟨acc, rfl⟩
  | cons b l ih =>
    intro acc
    have hb := h b List.mem_cons_self
    have : digitVal b = some (b.toNat - 48) := by unfold digitVal; rw [if_pos hb]
    obtain ⟨n, hn⟩ := ih (fun c hc => h c (List.mem_cons_of_mem _ hc)) (acc * 10 + (b.toNat - 48))
    exact ⟨n, by simp only [decFrom, this, hn]⟩

/-- The number that digits spell. -/
def dval (l : List UInt8) : Nat := (decFrom 0 l).getD 0

theorem dval_eq {l : List UInt8} {n : Nat} (h : decFrom 0 l = some n) : dval l = n := by unfold dval; rw [h]; rfl
theorem decFrom_dval {l : List UInt8} (h : Digs l) : decFrom 0 l = some (dval l) := by
  obtain ⟨n, hn⟩ := digs_decFrom h 0
  rw [dval_eq hn, hn]
theorem Digs.app {l m : List UInt8} (h : Digs l) (k : Digs m) : Digs (l ++ m) := fun b hb => by
  rcases List.mem_append.1 hb with hb | hb
  · exact h b hb
  · exact k b hb
theorem Digs.left {l m : List UInt8} (h : Digs (l ++ m)) : Digs l := fun b hb => h b (List.mem_append_left _ hb)
theorem Digs.right {l m : List UInt8} (h : Digs (l ++ m)) : Digs m := fun b hb => h b (List.mem_append_right _ hb)
theorem dval_append {l m : List UInt8} (h : Digs l) (k : Digs m) : dval (l ++ m) = dval l * 10 ^ m.length + dval m := by
  apply dval_eq
  rw [decFrom_append, decFrom_dval h]
  exact decFrom_add m _ _ (decFrom_dval k)
theorem dval_nil : dval [] = 0 := rfl
theorem dval_lt {l : List UInt8} (h : Digs l) : dval l < 10 ^ l.length := by
  induction l with
  | nil => simp [dval_nil]
  | cons b l ih =>
    have hb := h b List.mem_cons_self
    have e : dval (b :: l) = dval [b] * 10 ^ l.length + dval l := dval_append (l := [b]) (fun c hc => by simp at hc; subst hc; exact hb) (fun c hc => h c (List.mem_cons_of_mem _ hc))
    have e1 : dval [b] = b.toNat - 48 := by
      apply dval_eq
      have : digitVal b = some (b.toNat - 48) := by unfold digitVal; rw [if_pos hb]
      simp [decFrom, this]
    have := ih (fun c hc => h c (List.mem_cons_of_mem _ hc))
    rw [e, e1, List.length_cons, Nat.pow_succ]
    have h2 : (b.toNat - 48) * 10 ^ l.length ≤ 9 * 10 ^ l.length := Nat.mul_le_mul_right _ (by omega)
    omega

/-- A numeral without a leading zero, or 0. -/
def Canon (l : List UInt8) : Prop := Digs l ∧ l ≠ [] ∧ (l.head? = some 48 → l = [48])

theorem digit_of_toNat {b : UInt8} {d : Nat} (h : b.toNat = 48 + d) : b = digit d := by
  apply UInt8.toNat_inj.1
  have := b.toNat_lt
  unfold digit; rw [UInt8.toNat_ofNat', h]; omega

/-- A canonical numeral is that of its number. -/
theorem decDigits_dval {l : List UInt8} (h : Canon l) : decDigits (dval l) = l := by
  obtain ⟨hd, hne, hz⟩ := h
  suffices hs : ∀ n, ∀ l : List UInt8, l.length = n → Digs l → l ≠ [] → (l.head? = some 48 → l = [48]) → decDigits (dval l) = l by
    exact hs _ l rfl hd hne hz
  intro n
  induction n with
  | zero => intro l hl _ hne; exact absurd (List.eq_nil_of_length_eq_zero hl) hne
  | succ n ih =>
    intro l hl hd hne hz
    obtain ⟨m, b, rfl⟩ : ∃ m b, l = m ++ [b] := ⟨l.dropLast, l.getLast hne, (List.dropLast_concat_getLast hne).symm⟩
    have hb := hd b (by simp)
    obtain ⟨d, hd10, hbd⟩ : ∃ d, d < 10 ∧ b = digit d := ⟨b.toNat - 48, by omega, digit_of_toNat (by omega)⟩
    have e1 : dval [b] = d := by
      apply dval_eq; rw [hbd]; simp [decFrom, digitVal_digit hd10]
    rw [dval_append hd.left hd.right, e1]
    simp only [List.length_singleton, Nat.pow_one]
    simp only [List.length_append, List.length_singleton, Nat.add_right_cancel_iff] at hl
    cases hm : m with
    | nil =>
      subst hm
      simp only [dval_nil, List.nil_append, Nat.zero_mul, Nat.zero_add]
      rw [decDigits_small hd10, hbd]
    | cons c m' =>
      rw [hm] at hz hd hl
      have hzm : m.head? ≠ some 48 := by
        rw [hm]; intro hc
        have := hz (by simpa using hc)
        simp at this
      have hih := ih m (by rw [hm]; exact hl) (by rw [hm]; exact hd.left) (by rw [hm]; simp) (fun hc => absurd hc hzm)
      have hpos : 0 < dval m := by
        rcases Nat.eq_zero_or_pos (dval m) with h0 | h0
        · rw [h0, decDigits_small (by decide)] at hih
          exfalso; apply hzm; rw [← hih]; rfl
        · exact h0
      rw [← hm]
      rw [decDigits_big (by omega)]
      rw [show (dval m * 10 + d) / 10 = dval m by omega, show (dval m * 10 + d) % 10 = d by omega, hih, hbd]

end Go.Proofs.YtgnffedncjjkfaaDoor.Ar

open Go Go.Lib
namespace Go.Proofs.YtgnffedncjjkfaaDoor.Ar

end Go.Proofs.YtgnffedncjjkfaaDoor.Ar

open Go Go.Lib
namespace Go.Proofs.YtgnffedncjjkfaaDoor.Ar

/-- A rational number from a sign, a numerator and a denominator. -/
def nr (neg : Bool) (n d : Nat) : Rat := mkRat (if neg then -(n : Int) else n) d

theorem natAbs_sign (neg : Bool) (n : Nat) : (if neg then -(n : Int) else (n : Int)).natAbs = n := by cases neg <;> simp

theorem num_neg_iff {q : Rat} : q.num < 0 ↔ q < 0 := by
  constructor
  · intro h; apply Rat.not_le.1; intro h'; have := Rat.num_nonneg.2 h'; omega
  · intro h; apply Int.not_le.1; intro h'; have := Rat.num_nonneg.1 h'; grind
theorem nr_num (neg : Bool) {n d : Nat} (hd : 0 < d) : (nr neg n d).num = (if neg then -((n / Nat.gcd n d : Nat) : Int) else ((n / Nat.gcd n d : Nat) : Int)) := by
  unfold nr
  rw [Rat.num_mkRat, if_neg (by omega), natAbs_sign]
  have hg := Nat.gcd_comm d n
  cases neg
  · simp [hg]
  · simp only [if_true, hg]
    have : ((Nat.gcd n d : Nat) : Int) ∣ (n : Int) := Int.natCast_dvd_natCast.2 (Nat.gcd_dvd_left n d)
    rw [Int.neg_ediv_of_dvd this]; rfl
theorem nr_den (neg : Bool) {n d : Nat} (hd : 0 < d) : (nr neg n d).den = d / Nat.gcd n d := by
  unfold nr
  rw [Rat.den_mkRat, if_neg (by omega), natAbs_sign, Nat.gcd_comm d n]
theorem nr_abs (neg : Bool) {n d : Nat} (hd : 0 < d) : (nr neg n d).num.natAbs = n / Nat.gcd n d := by
  rw [nr_num neg hd, natAbs_sign]
theorem nr_neg (neg : Bool) {n d : Nat} (hd : 0 < d) (hn : 0 < n) : decide (nr neg n d < 0) = neg := by
  have hg : 0 < n / Nat.gcd n d := Nat.div_pos (Nat.le_of_dvd hn (Nat.gcd_dvd_left n d)) (Nat.gcd_pos_of_pos_left d hn)
  have h : nr neg n d < 0 ↔ neg = true := by
    rw [← num_neg_iff, nr_num neg hd]
    cases neg
    · simp; omega
    · simp; omega
  cases neg <;> simp [h]
theorem nr_zero (neg : Bool) (d : Nat) : nr neg 0 d = 0 := by unfold nr; cases neg <;> simp
/-- What stands in front of the first stroke, and what behind it. -/
def cut47 : List UInt8 → List UInt8 × Option (List UInt8)
  | [] => ([], none)
  | c :: r => if c = 47 then ([], some r) else (c :: (cut47 r).1, (cut47 r).2)
theorem cut47_none {l : List UInt8} (h : 47 ∉ l) : cut47 l = (l, none) := by
  induction l with
  | nil => rfl
  | cons c l ih =>
    simp at h
    rw [cut47, if_neg (fun e => h.1 e.symm), ih h.2]
theorem cut47_eq (l : List UInt8) : 47 ∉ (cut47 l).1 ∧ l = (cut47 l).1 ++ (match (cut47 l).2 with | none => [] | some m => 47 :: m) := by
  induction l with
  | nil => simp [cut47]
  | cons c l ih =>
    by_cases h : c = 47
    · subst h; simp [cut47]
    · rw [cut47, if_neg h]
      constructor
      · simp; exact ⟨fun e => h e.symm, ih.1⟩
      · simp only [List.cons_append]; congr 1; exact ih.2
theorem digs_no47 {l : List UInt8} (h : Digs l) : 47 ∉ l := fun hm => by
  have := h 47 hm
  have e : (47 : UInt8).toNat = 47 := rfl
  omega

/-- The sign in front. -/
def isNeg (l : List UInt8) : Bool := l.head? == some 45
def unsign (l : List UInt8) : List UInt8 := if isNeg l then l.tail else l

/-- THE TEXTS OF NUMBERS. -/
structure IsText (l : List UInt8) : Prop where
  above : Canon (cut47 (unsign l)).1
  sign : isNeg l = true → (cut47 (unsign l)).1 ≠ [48]
  below : ∀ m, (cut47 (unsign l)).2 = some m → Canon m ∧ m ≠ [48] ∧ m ≠ [49] ∧ (cut47 (unsign l)).1 ≠ [48] ∧ Nat.gcd (dval (cut47 (unsign l)).1) (dval m) = 1

/-- The number of a text. -/
def textRat (l : List UInt8) : Rat := nr (isNeg l) (dval (cut47 (unsign l)).1) (match (cut47 (unsign l)).2 with | none => 1 | some m => dval m)

theorem dval_pos {l : List UInt8} (h : Canon l) (h0 : l ≠ [48]) : 0 < dval l := by
  rcases Nat.eq_zero_or_pos (dval l) with hz | hz
  · have := decDigits_dval h
    rw [hz, decDigits_small (by decide)] at this
    exact absurd this.symm h0
  · exact hz
theorem canon_zero {l : List UInt8} (h : Canon l) : dval l = 0 ↔ l = [48] := by
  constructor
  · intro hz
    have := decDigits_dval h
    rw [hz, decDigits_small (by decide)] at this
    exact this.symm
  · rintro rfl; rfl
end Go.Proofs.YtgnffedncjjkfaaDoor.Ar

open Go Go.Lib
namespace Go.Proofs.YtgnffedncjjkfaaDoor.Ar

def sg (q : Rat) : Bool := decide (q < 0)
def nm (q : Rat) : Nat := q.num.natAbs
def dn (q : Rat) : Nat := q.den
theorem sg_zero : sg 0 = false := rfl
theorem nm_nr (s : Bool) {n d : Nat} (hd : 0 < d) : nm (nr s n d) = n / Nat.gcd n d := nr_abs s hd
theorem dn_nr (s : Bool) {n d : Nat} (hd : 0 < d) : dn (nr s n d) = d / Nat.gcd n d := nr_den s hd
theorem sg_nr (s : Bool) {n d : Nat} (hd : 0 < d) (hn : 0 < n) : sg (nr s n d) = s := nr_neg s hd hn

section
variable (p q : Rat)
end
end Go.Proofs.YtgnffedncjjkfaaDoor.Ar

