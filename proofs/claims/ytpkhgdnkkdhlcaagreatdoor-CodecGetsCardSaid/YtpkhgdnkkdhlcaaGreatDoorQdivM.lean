/-
  Plain mathematics: the reference's long division, and its texts of numbers.
-/
import Derived.Test.YtpkhgdnkkdhlcaaGreatDoorNum
import Derived.Test.YtpkhgdnkkdhlcaaGreatDoorTxt
open Go Go.Lib
namespace Go.Proofs.YtpkhgdnkkdhlcaaGreatDoor.Ar

/-- The state of the reference's division: what is left, and the digits found so far. -/
structure QS (U V m J R : Nat) (qs : List Nat) : Prop where
  ql : qs.length = m
  qsm : Small qs
  sum : U = V * val qs + R
  top : R < V * B ^ J
  low : ∀ i, i < J → qs.getD i 0 = 0
theorem QS.start {U V m : Nat} (h : U < V * B ^ m) : QS U V m m U (List.replicate m 0) :=
  ⟨by simp, Small.replicate _, by rw [val_replicate]; simp, h, fun i _ => by rw [List.getD_eq_getElem?_getD, List.getElem?_replicate]; split <;> rfl⟩
theorem QS.next {U V m j R g : Nat} {qs : List Nat} (h : QS U V m (j + 1) R qs) (hj : j < m) (h1 : V * B ^ j * g ≤ R) (h2 : R / (V * B ^ j) ≤ g) (hV : 0 < V) :
    QS U V m j (R - V * B ^ j * g) (qs.set j g) ∧ g < B := by
  have hp : 0 < V * B ^ j := Nat.mul_pos hV (Nat.pow_pos B_pos)
  have hg : R / (V * B ^ j) = g := div_eq_of h1 h2 hp
  have hgB : g < B := by
    rw [← hg]
    apply Nat.div_lt_of_lt_mul
    have := h.top
    rw [Nat.pow_succ, ← Nat.mul_assoc] at this
    exact this
  refine ⟨⟨by simpa using h.ql, h.qsm.set hgB, ?_, ?_, ?_⟩, hgB⟩
  · have e2 := val_set qs j g (by rw [h.ql]; exact hj)
    rw [h.low j (by omega), Nat.mul_zero, Nat.add_zero] at e2
    have e3 := h.sum
    have e4 : V * (B ^ j * g) = V * B ^ j * g := by rw [Nat.mul_assoc]
    rw [e2, Nat.mul_add, e4]
    omega
  · rw [mod_of_div hg]; exact Nat.mod_lt _ hp
  · intro i hi
    rw [List.getD_eq_getElem?_getD, List.getElem?_set_ne (by omega), ← List.getD_eq_getElem?_getD]
    exact h.low i (by omega)
theorem QS.done {a b f m R : Nat} {qs : List Nat} (h : QS (a * f) (b * f) m 0 R qs) (hf : 0 < f) (hb : 0 < b) : val qs = a / b ∧ R / f = a % b := by
  have ht := h.top
  rw [Nat.pow_zero, Nat.mul_one] at ht
  have hp : 0 < b * f := Nat.mul_pos hb hf
  have e1 : a * f / (b * f) = val qs := by rw [h.sum, Nat.mul_add_div hp, Nat.div_eq_of_lt ht, Nat.add_zero]
  have e2 : a * f % (b * f) = R := by rw [h.sum, Nat.mul_add_mod, Nat.mod_eq_of_lt ht]
  rw [Nat.mul_div_mul_right a b hf] at e1
  rw [Nat.mul_mod_mul_right] at e2
  exact ⟨e1.symm, by rw [← e2, Nat.mul_div_cancel _ hf]⟩
theorem limbs_shift {V : Nat} (h : 0 < V) (j : Nat) : limbs (V * B ^ j) = List.replicate j 0 ++ limbs V := by
  have e : val (List.replicate j 0 ++ limbs V) = V * B ^ j := by
    rw [val_append, val_replicate, val_limbs, List.length_replicate, Nat.zero_add, Nat.mul_comm]
  rw [← e]
  refine limbs_val ((Small.replicate j).append (Small.limbs V)) (.inr ?_)
  obtain ⟨m, x, hm, hx⟩ := limbs_top h
  exact ⟨List.replicate j 0 ++ m, x, by rw [hm, List.append_assoc], hx⟩
theorem getD_over (l : List Nat) {i : Nat} (h : l.length ≤ i) : l.getD i 0 = 0 := by
  rw [List.getD_eq_getElem?_getD, List.getElem?_eq_none h]; rfl
/-- The two most significant limbs. -/
theorem top_pair {l : List Nat} (hs : Small l) {k : Nat} (h : l.length ≤ k + 2) : val l / B ^ k = l.getD (k + 1) 0 * B + l.getD k 0 := by
  have hp : 0 < B ^ k := Nat.pow_pos B_pos
  rcases Nat.lt_or_ge k l.length with hk | hk
  · have e := val_split l k
    rw [Nat.min_eq_left (by omega)] at e
    have hlt : val (l.take k) < B ^ k := by
      have := val_lt (hs.take k)
      rwa [List.length_take, Nat.min_eq_left (by omega)] at this
    rw [e, Nat.add_comm, Nat.mul_add_div hp, Nat.div_eq_of_lt hlt, Nat.add_zero]
    have e2 : l.drop k = l.getD k 0 :: l.drop (k + 1) := by
      rw [List.drop_eq_getElem_cons hk, List.getD_eq_getElem?_getD, List.getElem?_eq_getElem hk]; rfl
    rw [e2, val_cons]
    rcases Nat.lt_or_ge (k + 1) l.length with h1 | h1
    · have e3 : l.drop (k + 1) = [l.getD (k + 1) 0] := by
        rw [List.drop_eq_getElem_cons h1, List.getD_eq_getElem?_getD, List.getElem?_eq_getElem h1, List.drop_of_length_le (by omega)]; rfl
      rw [e3, val_cons, val_nil, Nat.mul_zero, Nat.add_zero, Nat.mul_comm, Nat.add_comm]
    · rw [List.drop_of_length_le h1, val_nil, getD_over l h1]; omega
  · have hlt : val l < B ^ k := Nat.lt_of_lt_of_le (val_lt hs) (Nat.pow_le_pow_right B_pos hk)
    rw [Nat.div_eq_of_lt hlt, getD_over l hk, getD_over l (by omega)]; omega

/-- One more digit ahead. -/
theorem pad_front (j : Nat) : ∀ d, pad (j + 1) d = digit (d / 10 ^ j % 10) :: pad j d := by
  induction j with
  | zero => intro d; simp [pad]
  | succ j ih =>
    intro d
    rw [pad, ih, Nat.div_div_eq_div_mul, Nat.mul_comm 10, ← Nat.pow_succ]; rfl
theorem pad_front_rev (j d : Nat) : (pad (j + 1) d).reverse = (pad j d).reverse ++ [digit (d / 10 ^ j % 10)] := by rw [pad_front, List.reverse_cons]
theorem tail9_app (m : List Nat) (x : Nat) : tail9 (m ++ [x]) = pad 9 x ++ tail9 m := by unfold tail9; simp
theorem dval_snoc {l : List UInt8} {b : UInt8} (h : Digs (l ++ [b])) : dval (l ++ [b]) = dval l * 10 + (b.toNat - 48) := by
  have hb := h b (by simp)
  obtain ⟨d, hd, rfl⟩ : ∃ d, d < 10 ∧ b = digit d := ⟨b.toNat - 48, by omega, digit_of_toNat (by omega)⟩
  rw [dval_append h.left h.right, dval_one hd, digit_toNat hd]
  simp
theorem Digs.drop {l : List UInt8} (h : Digs l) (k : Nat) : Digs (l.drop k) := fun b hb => h b (List.mem_of_mem_drop hb)
theorem Digs.take {l : List UInt8} (h : Digs l) (k : Nat) : Digs (l.take k) := fun b hb => h b (List.mem_of_mem_take hb)
/-- Nine digits more. -/
theorem dval_part {S : List UInt8} (h : Digs S) {a e : Nat} (ha : a ≤ e) : dval (S.drop a) = dval ((S.drop a).take (e - a)) * 10 ^ (S.length - e) + dval (S.drop e) := by
  have e1 : S.drop a = (S.drop a).take (e - a) ++ S.drop e := by
    have := List.take_append_drop (e - a) (S.drop a)
    rw [List.drop_drop, show a + (e - a) = e by omega] at this
    exact this.symm
  rw [e1, dval_append ((h.drop a).take _) (h.drop e), List.length_drop, ← e1]
theorem ten_nine (t : Nat) : 10 ^ (9 * t) = B ^ t := by rw [Nat.pow_mul]; rfl
end Go.Proofs.YtpkhgdnkkdhlcaaGreatDoor.Ar

