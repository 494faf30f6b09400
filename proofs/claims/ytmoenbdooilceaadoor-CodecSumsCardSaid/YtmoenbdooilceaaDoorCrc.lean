/-
  The checksum: plain mathematics, of no program.
-/
import Derived.Below
namespace Go.Proofs.YtmoenbdooilceaaDoor.Crc

def P : BitVec 32 := 0xEDB88320#32
/-- One bit. -/
def F (c : BitVec 32) : BitVec 32 := (c >>> 1) ^^^ (if c.getLsbD 0 then P else 0#32)

theorem ite_xor (p q : Bool) : (if (p ^^ q) = true then P else 0#32) = (if p = true then P else 0#32) ^^^ (if q = true then P else 0#32) := by
  cases p <;> cases q <;> decide
theorem F_xor (a b : BitVec 32) : F (a ^^^ b) = F a ^^^ F b := by
  unfold F
  rw [BitVec.ushiftRight_xor_distrib, BitVec.getLsbD_xor, ite_xor]
  ac_rfl

def F8 (c : BitVec 32) : BitVec 32 := F (F (F (F (F (F (F (F c)))))))
theorem F8_xor (a b : BitVec 32) : F8 (a ^^^ b) = F8 a ^^^ F8 b := by unfold F8; simp only [F_xor]

theorem F_inj {a b : BitVec 32} (h : F a = F b) : a = b := by
  have hb31 : ∀ c, (F c).getLsbD 31 = c.getLsbD 0 := by
    intro c
    unfold F
    rw [BitVec.getLsbD_xor]
    cases hc : c.getLsbD 0
    · simp
    · simp [P]
  have h0 : a.getLsbD 0 = b.getLsbD 0 := by rw [← hb31, ← hb31, h]
  have h1 : a >>> 1 = b >>> 1 := by
    unfold F at h
    rw [h0] at h
    have := congrArg (fun x => x ^^^ (if b.getLsbD 0 then P else 0#32)) h
    simpa [BitVec.xor_assoc] using this
  apply BitVec.eq_of_getLsbD_eq
  intro i hi
  cases i with
  | zero => exact h0
  | succ i =>
    have := congrArg (fun x => x.getLsbD i) h1
    simp only [BitVec.getLsbD_ushiftRight] at this
    rw [show i + 1 = 1 + i by omega]; exact this
theorem F8_inj {a b : BitVec 32} (h : F8 a = F8 b) : a = b := F_inj (F_inj (F_inj (F_inj (F_inj (F_inj (F_inj (F_inj h)))))))

def ones : BitVec 32 := 0xFFFFFFFF#32
/-- A byte into the state. -/
def by1 (c : BitVec 32) (x : Nat) : BitVec 32 := F8 (c ^^^ BitVec.ofNat 32 x)
def cs (c : BitVec 32) (l : List Nat) : BitVec 32 := l.foldl by1 c
def sumB (l : List Nat) : BitVec 32 := ~~~ cs ones l
theorem cs_snoc (c : BitVec 32) (l : List Nat) (x : Nat) : cs c (l ++ [x]) = by1 (cs c l) x := by simp [cs]
theorem cs_app (c : BitVec 32) (l m : List Nat) : cs c (l ++ m) = cs (cs c l) m := by simp [cs]
theorem xor_right {a b c : BitVec 32} (h : a ^^^ c = b ^^^ c) : a = b := by
  have := congrArg (· ^^^ c) h
  simpa [BitVec.xor_assoc] using this
theorem by1_inj {a b : BitVec 32} {x : Nat} (h : by1 a x = by1 b x) : a = b := xor_right (F8_inj h)
theorem cs_inj : ∀ {l : List Nat} {a b : BitVec 32}, cs a l = cs b l → a = b
  | [], _, _, h => h
  | _ :: l, _, _, h => by1_inj (cs_inj (l := l) h)
theorem ofNat_inj {x y : Nat} (hx : x < 256) (hy : y < 256) (h : BitVec.ofNat 32 x = BitVec.ofNat 32 y) : x = y := by
  have := congrArg BitVec.toNat h
  simp only [BitVec.toNat_ofNat] at this
  omega
/-- Another byte anywhere changes the checksum. -/
theorem sum_changed {l : List Nat} {k y : Nat} (hk : k < l.length) (hx : l.getD k 0 < 256) (hy : y < 256) (h : y ≠ l.getD k 0) : sumB (l.set k y) ≠ sumB l := by
  intro e
  have e1 : cs ones (l.set k y) = cs ones l := by
    have := congrArg (fun x => ~~~ x) e
    simpa [sumB] using this
  have e2 : l = l.take k ++ (l.getD k 0 :: l.drop (k + 1)) := by
    rw [List.getD_eq_getElem?_getD, List.getElem?_eq_getElem hk]
    exact (List.take_append_drop k l).symm.trans (by rw [List.drop_eq_getElem_cons hk]; rfl)
  have e3 : l.set k y = l.take k ++ (y :: l.drop (k + 1)) := by
    rw [List.set_eq_take_append_cons_drop, if_pos hk]
  generalize l.getD k 0 = x at *
  generalize l.take k = p at *
  generalize l.drop (k + 1) = q at *
  rw [e3, e2, cs_app, cs_app] at e1
  have e4 : by1 (cs ones p) y = by1 (cs ones p) x := cs_inj (l := q) e1
  have e5 := F8_inj e4
  have e6 : BitVec.ofNat 32 y = BitVec.ofNat 32 x := by
    have := congrArg (fun z => cs ones p ^^^ z) e5
    simpa [← BitVec.xor_assoc] using this
  exact h (ofNat_inj hy hx e6)

/-- Bit by bit. -/
def bit (x i : Nat) : BitVec 32 := BitVec.ofNat 32 (x / 2 ^ i % 2)
def bits8 (c : BitVec 32) (x : Nat) : Nat → BitVec 32
  | 0 => c
  | i + 1 => F (bits8 c x i ^^^ bit x i)
theorem F_zero : F 0#32 = 0#32 := by decide
theorem xor_left_zero (a : BitVec 32) : 0#32 ^^^ a = a := by simp
theorem bits8_lin (c : BitVec 32) (x : Nat) : bits8 c x 8 = F8 c ^^^ bits8 0#32 x 8 := by
  have step : ∀ (a b d : BitVec 32), F ((a ^^^ b) ^^^ d) = F a ^^^ F (b ^^^ d) := fun a b d => by rw [BitVec.xor_assoc, F_xor]
  show F (F (F (F (F (F (F (F (c ^^^ _) ^^^ _) ^^^ _) ^^^ _) ^^^ _) ^^^ _) ^^^ _) ^^^ _) = F8 c ^^^ F (F (F (F (F (F (F (F (0#32 ^^^ _) ^^^ _) ^^^ _) ^^^ _) ^^^ _) ^^^ _) ^^^ _) ^^^ _)
  rw [xor_left_zero, F_xor c, step, step, step, step, step, step, step]; rfl
theorem byte_table : ∀ x : Fin 256, bits8 0#32 x.val 8 = F8 (BitVec.ofNat 32 x.val) := by decide +kernel
theorem bits8_by1 (c : BitVec 32) {x : Nat} (hx : x < 256) : bits8 c x 8 = by1 c x := by
  rw [bits8_lin, byte_table ⟨x, hx⟩]; exact (F8_xor _ _).symm
/-- All bits of bytes: the state in front of bit i. -/
def st (l : List Nat) : Nat → BitVec 32
  | 0 => ones
  | i + 1 => F (st l i ^^^ bit (l.getD (i / 8) 0) (i % 8))
theorem st_in (l : List Nat) (k : Nat) : ∀ i, i ≤ 8 → st l (8 * k + i) = bits8 (st l (8 * k)) (l.getD k 0) i
  | 0, _ => rfl
  | i + 1, h => by
    show F (st l (8 * k + i) ^^^ bit (l.getD ((8 * k + i) / 8) 0) ((8 * k + i) % 8)) = F (bits8 _ _ i ^^^ bit _ i)
    rw [st_in l k i (by omega), show (8 * k + i) / 8 = k by omega, show (8 * k + i) % 8 = i by omega]
theorem st_bytes {l : List Nat} (hl : ∀ x ∈ l, x < 256) : ∀ k, k ≤ l.length → st l (8 * k) = cs ones (l.take k)
  | 0, _ => by simp [st, cs]
  | k + 1, h => by
    have hk : k < l.length := h
    have hx : l.getD k 0 < 256 := by
      rw [List.getD_eq_getElem?_getD, List.getElem?_eq_getElem hk]; exact hl _ (List.getElem_mem _)
    rw [show 8 * (k + 1) = 8 * k + 8 by omega, st_in l k 8 (by omega), st_bytes hl k (by omega), bits8_by1 _ hx, List.take_succ_eq_append_getElem hk, cs_snoc]
    rw [List.getD_eq_getElem?_getD, List.getElem?_eq_getElem hk]; rfl
theorem sumB_st {l : List Nat} (hl : ∀ x ∈ l, x < 256) : sumB l = ~~~ st l (8 * l.length) := by
  rw [st_bytes hl _ (Nat.le_refl _), List.take_of_length_le (Nat.le_refl _)]; rfl

/-- By a table. -/
theorem F_even {c : BitVec 32} (h : c.getLsbD 0 = false) : F c = c >>> 1 := by unfold F; rw [h]; simp
theorem F8_high {c : BitVec 32} (h : ∀ i, i < 8 → c.getLsbD i = false) : F8 c = c >>> 8 := by
  unfold F8
  have e : ∀ k, k < 8 → F (c >>> k) = c >>> (k + 1) := fun k hk => by
    rw [F_even (by rw [BitVec.getLsbD_ushiftRight]; exact h _ (by omega)), BitVec.shiftRight_add]
  have e0 := e 0 (by omega)
  rw [BitVec.ushiftRight_zero] at e0
  rw [e0, e 1 (by omega), e 2 (by omega), e 3 (by omega), e 4 (by omega), e 5 (by omega), e 6 (by omega), e 7 (by omega)]
theorem low_high (c : BitVec 32) : c = BitVec.ofNat 32 (c.toNat % 256) ^^^ (c &&& 0xFFFFFF00#32) := by
  have hm : BitVec.ofNat 32 (c.toNat % 256) = c &&& 0xFF#32 := by
    apply BitVec.eq_of_toNat_eq
    rw [BitVec.toNat_and, BitVec.toNat_ofNat]
    show c.toNat % 256 % 2 ^ 32 = c.toNat &&& (2 ^ 8 - 1)
    rw [Nat.and_two_pow_sub_one_eq_mod]
    omega
  rw [hm]
  apply BitVec.eq_of_getLsbD_eq
  intro i hi
  rw [BitVec.getLsbD_xor, BitVec.getLsbD_and, BitVec.getLsbD_and]
  have := (show ∀ i : Fin 32, ((0xFF#32).getLsbD i.val ^^ (0xFFFFFF00#32).getLsbD i.val) = true by decide) ⟨i, hi⟩
  generalize (0xFF#32).getLsbD i = p at *
  generalize (0xFFFFFF00#32).getLsbD i = q at *
  generalize c.getLsbD i = r
  revert this; cases p <;> cases q <;> cases r <;> decide
/-- What the table does: the low byte and the byte choose, the rest is shifted. -/
theorem by1_table (c : BitVec 32) {x : Nat} (hx : x < 256) : by1 c x = F8 (BitVec.ofNat 32 ((c.toNat % 256) ^^^ x)) ^^^ (c >>> 8) := by
  have e1 : BitVec.ofNat 32 ((c.toNat % 256) ^^^ x) = BitVec.ofNat 32 (c.toNat % 256) ^^^ BitVec.ofNat 32 x := by
    apply BitVec.eq_of_toNat_eq
    have h1 : c.toNat % 256 < 2 ^ 8 := Nat.mod_lt _ (by decide)
    have h2 := Nat.xor_lt_two_pow h1 (show x < 2 ^ 8 from hx)
    generalize c.toNat % 256 = y at *
    rw [BitVec.toNat_xor, BitVec.toNat_ofNat, BitVec.toNat_ofNat, BitVec.toNat_ofNat, Nat.mod_eq_of_lt (show y < 2 ^ 32 by omega), Nat.mod_eq_of_lt (show x < 2 ^ 32 by omega), Nat.mod_eq_of_lt (by omega)]
  have e2 : (c >>> 8) = F8 (c &&& 0xFFFFFF00#32) := by
    rw [F8_high fun i hi => by
      rw [BitVec.getLsbD_and]
      have : (0xFFFFFF00#32).getLsbD i = false := by
        have := (show ∀ i : Fin 8, (0xFFFFFF00#32).getLsbD i.val = false by decide) ⟨i, hi⟩
        exact this
      rw [this, Bool.and_false]]
    apply BitVec.eq_of_getLsbD_eq
    intro i hi
    rw [BitVec.getLsbD_ushiftRight, BitVec.getLsbD_ushiftRight, BitVec.getLsbD_and]
    rcases Nat.lt_or_ge i 24 with h | h
    · have := (show ∀ i : Fin 24, (0xFFFFFF00#32).getLsbD (8 + i.val) = true by decide) ⟨i, h⟩
      rw [this, Bool.and_true]
    · rw [BitVec.getLsbD_of_ge c (8 + i) (by omega), Bool.false_and]
  rw [e1, e2, F8_xor]
  unfold by1
  rw [F8_xor]
  conv => lhs; rw [low_high c]
  rw [F8_xor]
  ac_rfl
end Go.Proofs.YtmoenbdooilceaaDoor.Crc
