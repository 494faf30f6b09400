/-
  Plain law: the texts that the reference reads as numbers are the canonical ones.
-/
import Derived.Test.YtpkhgdnkkdhlcaaGreatDoorTxt
namespace Go.Proofs.YtpkhgdnkkdhlcaaGreatDoor.Ar
open Go.Lib

def dig (b : UInt8) : Bool := decide (48 ≤ b.toNat) && decide (b.toNat ≤ 57)
/-- So many digits stand in front. -/
def digN : List UInt8 → Nat
  | [] => 0
  | b :: l => if dig b then digN l + 1 else 0
theorem digN_le : ∀ l, digN l ≤ l.length
  | [] => Nat.le_refl _
  | b :: l => by
    unfold digN
    have := digN_le l
    split <;> simp <;> omega
theorem dig_iff (b : UInt8) : dig b = true ↔ 48 ≤ b.toNat ∧ b.toNat ≤ 57 := by unfold dig; simp
theorem digN_take : ∀ l : List UInt8, Digs (l.take (digN l))
  | [] => fun b hb => by simp at hb
  | c :: l => by
    unfold digN
    split
    · rename_i h
      intro b hb
      rw [List.take_succ_cons] at hb
      rcases List.mem_cons.1 hb with rfl | hb
      · exact (dig_iff _).1 h
      · exact digN_take l b hb
    · intro b hb; simp at hb
theorem digN_digs {l : List UInt8} (h : Digs l) : digN l = l.length := by
  induction l with
  | nil => rfl
  | cons c l ih =>
    unfold digN
    rw [if_pos ((dig_iff c).2 (h c (by simp))), ih (fun b hb => h b (by simp [hb]))]
    rfl
theorem digs_of_digN {l : List UInt8} (h : digN l = l.length) : Digs l := by
  have := digN_take l
  rw [h, List.take_length] at this
  exact this
theorem digN_app {a : List UInt8} (h : Digs a) {c : UInt8} (hc : dig c = false) (m : List UInt8) : digN (a ++ c :: m) = a.length := by
  induction a with
  | nil => show (if dig c then digN m + 1 else 0) = 0; rw [hc]; rfl
  | cons b a ih =>
    show (if dig b then digN (a ++ c :: m) + 1 else 0) = _
    rw [if_pos ((dig_iff b).2 (h b (by simp))), ih (fun x hx => h x (by simp [hx]))]
    rfl
theorem digN_stop : ∀ {l : List UInt8}, digN l < l.length → ∃ c, l[digN l]? = some c ∧ dig c = false
  | [], h => by simp [digN] at h
  | b :: l, h => by
    unfold digN at h ⊢
    by_cases hb : dig b = true
    · rw [if_pos hb] at h ⊢
      obtain ⟨c, h1, h2⟩ := digN_stop (l := l) (by simp at h; omega)
      exact ⟨c, by simpa using h1, h2⟩
    · rw [if_neg hb]
      exact ⟨b, rfl, by simpa using hb⟩
/-- The number that the reference reads, whatever the form. -/
def refPlain (l : List UInt8) : Option Rat :=
  if digN (unsign l) = 0 then none
  else if digN (unsign l) = (unsign l).length then some (nr (isNeg l) (dval (unsign l)) 1)
  else if digN ((unsign l).drop (digN (unsign l) + 1)) ≠ ((unsign l).drop (digN (unsign l) + 1)).length ∨ (unsign l).drop (digN (unsign l) + 1) = [] ∨ ((unsign l).getD (digN (unsign l)) 0 ≠ 46 ∧ (unsign l).getD (digN (unsign l)) 0 ≠ 47) then none
  else if (unsign l).getD (digN (unsign l)) 0 = 47 then
    if dval ((unsign l).drop (digN (unsign l) + 1)) = 0 then none else some (nr (isNeg l) (dval ((unsign l).take (digN (unsign l)))) (dval ((unsign l).drop (digN (unsign l) + 1))))
  else some (nr (isNeg l) (dval ((unsign l).take (digN (unsign l)) ++ (unsign l).drop (digN (unsign l) + 1))) (10 ^ ((unsign l).drop (digN (unsign l) + 1)).length))
theorem text_plain {l : List UInt8} (h : IsText l) : refPlain l = some (textRat l) := by
  obtain ⟨ha, _, hb⟩ := h
  have hc := (cut47_eq (unsign l)).2
  have ha0 : 0 < (cut47 (unsign l)).1.length := List.length_pos_iff.2 ha.2.1
  unfold refPlain textRat
  cases hm : (cut47 (unsign l)).2 with
  | none =>
    rw [hm] at hc
    simp only [List.append_nil] at hc
    have hr : digN (unsign l) = (unsign l).length := digN_digs (by rw [hc]; exact ha.1)
    rw [← hc] at ha0
    rw [hr, if_neg (by omega), if_pos rfl, ← hc]
  | some m =>
    rw [hm] at hc
    simp only at hc
    obtain ⟨b1, b2, _, _, _⟩ := hb m hm
    generalize (cut47 (unsign l)).1 = a at *
    have hr : digN (unsign l) = a.length := by rw [hc]; exact digN_app ha.1 (by decide) m
    have hlen : (unsign l).length = a.length + m.length + 1 := by rw [hc]; simp; omega
    have hdrop : (unsign l).drop (a.length + 1) = m := by rw [hc]; simp
    have htake : (unsign l).take a.length = a := by rw [hc]; simp
    have hget : (unsign l).getD a.length 0 = 47 := by rw [hc]; simp
    have hm0 : m ≠ [] := b1.2.1
    have hd : dval m ≠ 0 := by have := dval_pos b1 b2; omega
    rw [hr, if_neg (by omega), if_neg (by omega), hdrop, hget, htake, if_neg, if_pos rfl, if_neg hd]
    rintro (h | h | h)
    · exact h (digN_digs b1.1)
    · exact hm0 h
    · exact h.2 rfl
/-- The texts of numbers of at most 40 digits above and below. -/
def IsNum (l : List UInt8) : Prop := IsText l ∧ (cut47 (unsign l)).1.length ≤ 40 ∧ ((cut47 (unsign l)).2.getD []).length ≤ 40
theorem isNum_len {l : List UInt8} (h : IsNum l) : l.length ≤ 82 := by
  obtain ⟨_, h1, h2⟩ := h
  have hc := congrArg List.length (cut47_eq (unsign l)).2
  have hu : l.length ≤ (unsign l).length + 1 := by unfold unsign; split <;> simp <;> omega
  rw [List.length_append] at hc
  cases hm : (cut47 (unsign l)).2 with
  | none => rw [hm] at hc h2; simp at hc h2; omega
  | some m => rw [hm] at hc h2; simp at hc h2; omega
theorem isNum_text (q : Rat) : IsNum (ratText q) ↔ (decDigits (nm q)).length ≤ 40 ∧ (decDigits (dn q)).length ≤ 40 := by
  unfold IsNum
  rw [ratText_cut]
  have h1 : decDigits 1 = [49] := decDigits_small (by decide)
  unfold nm dn
  by_cases h : q.den = 1
  · rw [if_pos h, h, h1]
    simp [(isText_ratText q).1]
  · rw [if_neg h]
    simp [(isText_ratText q).1]
theorem get_iff (l : List UInt8) : (∃ q, refPlain l = some q ∧ ((decDigits (nm q)).length ≤ 40 ∧ (decDigits (dn q)).length ≤ 40) ∧ ratText q = l) ↔ IsNum l := by
  constructor
  · rintro ⟨q, _, h2, h3⟩
    rw [← h3]
    exact (isNum_text q).2 h2
  · intro h
    have ht := ratText_textRat h.1
    refine ⟨textRat l, text_plain h.1, ?_, ht⟩
    have := h
    rw [← ht] at this
    exact (isNum_text _).1 this
theorem get_val {l : List UInt8} {q : Rat} (h : ratText q = l) : q = textRat l := by rw [← h]; exact (isText_ratText q).2.symm
end Go.Proofs.YtpkhgdnkkdhlcaaGreatDoor.Ar

