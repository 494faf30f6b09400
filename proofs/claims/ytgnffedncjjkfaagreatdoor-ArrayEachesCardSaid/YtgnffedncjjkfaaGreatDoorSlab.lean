/-
  Plain law: indexes, places, slabs.
-/
namespace Ix

/-- The product of sizes. -/
def prod : List Nat → Nat
  | [] => 1
  | s :: S => s * prod S
/-- The index at a place, in row-major order. -/
def idx : List Nat → Nat → List Nat
  | [], _ => []
  | _ :: S, k => k / prod S :: idx S (k % prod S)
/-- The place of an index. -/
def place : List Nat → List Nat → Nat
  | _ :: S, i :: I => i * prod S + place S I
  | _, _ => 0
/-- An index of a shape. -/
def Inside : List Nat → List Nat → Prop
  | [], [] => True
  | s :: S, i :: I => i < s ∧ Inside S I
  | _, _ => False
def strides : List Nat → List Nat
  | [] => []
  | _ :: S => prod S :: strides S
/-- The next index, and whether it has come round. -/
def inc : List Nat → List Nat → List Nat × Bool
  | s :: S, i :: I => if (inc S I).2 then (if i + 1 < s then ((i + 1) :: (inc S I).1, false) else (0 :: (inc S I).1, true)) else (i :: (inc S I).1, false)
  | _, _ => ([], true)
theorem inc_cons (s i : Nat) (S I : List Nat) : inc (s :: S) (i :: I) = if (inc S I).2 then (if i + 1 < s then ((i + 1) :: (inc S I).1, false) else (0 :: (inc S I).1, true)) else (i :: (inc S I).1, false) := rfl
theorem idx_len : ∀ (S : List Nat) (k : Nat), (idx S k).length = S.length
  | [], _ => rfl
  | _ :: S, k => by show (idx S _).length + 1 = _; rw [idx_len S]; rfl
theorem strides_len : ∀ S : List Nat, (strides S).length = S.length
  | [] => rfl
  | _ :: S => by show (strides S).length + 1 = _; rw [strides_len S]; rfl
theorem prod_app : ∀ S T : List Nat, prod (S ++ T) = prod S * prod T
  | [], T => by show prod T = 1 * prod T; omega
  | s :: S, T => by show s * prod (S ++ T) = s * prod S * prod T; rw [prod_app S T, Nat.mul_assoc]
theorem prod_pos_tail {s : Nat} {S : List Nat} (h : 0 < prod (s :: S)) : 0 < s ∧ 0 < prod S := by
  have h : 0 < s * prod S := h
  constructor
  · rcases Nat.eq_zero_or_pos s with e | e
    · rw [e, Nat.zero_mul] at h; omega
    · exact e
  · rcases Nat.eq_zero_or_pos (prod S) with e | e
    · rw [e, Nat.mul_zero] at h; omega
    · exact e
theorem idx_zero : ∀ S : List Nat, idx S 0 = List.replicate S.length 0
  | [] => rfl
  | s :: S => by show 0 / prod S :: idx S (0 % prod S) = _; rw [Nat.zero_div, Nat.zero_mod, idx_zero S]; rfl
theorem idx_inside : ∀ (S : List Nat) (k : Nat), k < prod S → Inside S (idx S k)
  | [], _, _ => trivial
  | s :: S, k, h => by
    have hp : 0 < prod S := (prod_pos_tail (s := s) (by omega)).2
    have h : k < s * prod S := h
    exact ⟨(Nat.div_lt_iff_lt_mul hp).2 h, idx_inside S _ (Nat.mod_lt _ hp)⟩
theorem place_idx : ∀ (S : List Nat) (k : Nat), k < prod S → place S (idx S k) = k
  | [], k, h => by have : k < 1 := h; show 0 = k; omega
  | s :: S, k, h => by
    have hp : 0 < prod S := (prod_pos_tail (s := s) (by omega)).2
    show k / prod S * prod S + place S (idx S (k % prod S)) = k
    rw [place_idx S _ (Nat.mod_lt _ hp), Nat.mul_comm]
    exact Nat.div_add_mod _ _
theorem place_lt : ∀ (S I : List Nat), Inside S I → place S I < prod S
  | [], [], _ => Nat.one_pos
  | [], _ :: _, h => h.elim
  | _ :: _, [], h => h.elim
  | s :: S, i :: I, h => by
    have h1 := place_lt S I h.2
    have h2 : (i + 1) * prod S ≤ s * prod S := Nat.mul_le_mul_right _ h.1
    rw [Nat.add_mul, Nat.one_mul] at h2
    show i * prod S + place S I < s * prod S
    omega
theorem idx_place : ∀ (S I : List Nat), Inside S I → idx S (place S I) = I
  | [], [], _ => rfl
  | [], _ :: _, h => h.elim
  | _ :: _, [], h => h.elim
  | s :: S, i :: I, h => by
    have h1 := place_lt S I h.2
    show (i * prod S + place S I) / prod S :: idx S ((i * prod S + place S I) % prod S) = i :: I
    rw [Nat.add_comm, Nat.add_mul_div_right _ _ (by omega), Nat.add_mul_mod_self_right, Nat.div_eq_of_lt h1, Nat.mod_eq_of_lt h1, idx_place S I h.2, Nat.zero_add]
theorem inside_len : ∀ (S I : List Nat), Inside S I → I.length = S.length
  | [], [], _ => rfl
  | [], _ :: _, h => h.elim
  | _ :: _, [], h => h.elim
  | s :: S, i :: I, h => by show I.length + 1 = S.length + 1; rw [inside_len S I h.2]
theorem inside_iff : ∀ (S I : List Nat), Inside S I ↔ I.length = S.length ∧ ∀ j, j < S.length → I.getD j 0 < S.getD j 0
  | [], [] => by simp [Inside]
  | [], _ :: _ => by simp [Inside]
  | _ :: _, [] => by simp [Inside]
  | s :: S, i :: I => by
    show i < s ∧ Inside S I ↔ _
    rw [inside_iff S I]
    constructor
    · rintro ⟨h1, h2, h3⟩
      refine ⟨by simp [h2], fun j hj => ?_⟩
      cases j with
      | zero => simpa using h1
      | succ j => simpa using h3 j (by simpa using hj)
    · rintro ⟨h1, h2⟩
      refine ⟨by simpa using h2 0 (by simp), by simpa using h1, fun j hj => ?_⟩
      simpa using h2 (j + 1) (by simpa using hj)
theorem idx_at : ∀ (S : List Nat) (k j : Nat), k < prod S → j < S.length → (idx S k).getD j 0 = k / prod (S.drop (j + 1)) % S.getD j 0
  | [], _, _, _, h => by simp at h
  | s :: S, k, 0, hk, _ => by
    have hp : 0 < prod S := (prod_pos_tail (s := s) (by omega)).2
    show k / prod S = k / prod S % s
    rw [Nat.mod_eq_of_lt]
    exact (Nat.div_lt_iff_lt_mul hp).2 hk
  | s :: S, k, j + 1, hk, hj => by
    have hp : 0 < prod S := (prod_pos_tail (s := s) (by omega)).2
    have hj : j < S.length := by simpa using hj
    show (idx S (k % prod S)).getD j 0 = k / prod (S.drop (j + 1)) % S.getD j 0
    rw [idx_at S _ j (Nat.mod_lt _ hp) hj]
    have e : prod S = prod (S.take j) * (S.getD j 0 * prod (S.drop (j + 1))) := by
      have e1 : S = S.take j ++ S.getD j 0 :: S.drop (j + 1) := by
        have e3 : S.getD j 0 = S[j] := by rw [List.getD_eq_getElem?_getD, List.getElem?_eq_getElem hj]; rfl
        have e2 : S.drop j = S[j] :: S.drop (j + 1) := List.drop_eq_getElem_cons hj
        rw [e3, ← e2, List.take_append_drop]
      have e4 := prod_app (S.take j) (S.getD j 0 :: S.drop (j + 1))
      rw [← e1] at e4
      exact e4
    generalize prod (S.take j) = a at e
    generalize S.getD j 0 = b at *
    generalize prod (S.drop (j + 1)) = c at *
    rw [e]
    rw [Nat.mul_comm a, Nat.mul_comm b c, Nat.mul_assoc]
    rw [Nat.mod_mul_right_div_self, Nat.mod_mul_right_mod]
theorem inc_idx : ∀ (S : List Nat) (k : Nat), k < prod S → inc S (idx S k) = (idx S ((k + 1) % prod S), decide (k + 1 = prod S))
  | [], k, h => by
    have h : k < 1 := h
    have : k = 0 := by omega
    subst this
    rfl
  | s :: S, k, h => by
    have hp : 0 < prod S := (prod_pos_tail (s := s) (by omega)).2
    have h : k < s * prod S := h
    have hm : k % prod S < prod S := Nat.mod_lt _ hp
    have ih := inc_idx S (k % prod S) hm
    have hd := Nat.div_add_mod k (prod S)
    have hq : k / prod S < s := (Nat.div_lt_iff_lt_mul hp).2 h
    show (if (inc S (idx S (k % prod S))).2 then _ else _) = (idx (s :: S) ((k + 1) % (s * prod S)), decide (k + 1 = s * prod S))
    rw [ih]
    simp only
    generalize hq' : k / prod S = q at *
    generalize hr' : k % prod S = r at *
    generalize hP : prod S = P at *
    have hk : k = P * q + r := hd.symm
    by_cases c1 : r + 1 = P
    · rw [decide_eq_true c1, if_pos rfl]
      have e0 : (r + 1) % P = 0 := by rw [c1, Nat.mod_self]
      by_cases c2 : q + 1 < s
      · rw [if_pos c2]
        have e1 : k + 1 = P * (q + 1) := by rw [Nat.mul_add]; omega
        have e2 : k + 1 < s * P := by rw [e1, Nat.mul_comm]; exact Nat.mul_lt_mul_of_pos_right c2 hp
        rw [Nat.mod_eq_of_lt e2, decide_eq_false (by omega)]
        show _ = ((k + 1) / prod S :: idx S ((k + 1) % prod S), false)
        rw [hP, e1, Nat.mul_div_cancel_left _ hp, Nat.mul_mod_right, e0]
      · rw [if_neg c2]
        have e3 : q + 1 = s := by omega
        have e1 : k + 1 = s * P := by rw [← e3, Nat.add_mul, Nat.mul_comm]; omega
        rw [e1, Nat.mod_self, decide_eq_true rfl]
        show _ = (0 / prod S :: idx S (0 % prod S), true)
        rw [Nat.zero_div, Nat.zero_mod, e0]
    · rw [decide_eq_false c1, if_neg (by decide)]
      have e1 : r + 1 < P := by omega
      have e2 : k + 1 < s * P := by
        have : P * (q + 1) ≤ P * s := Nat.mul_le_mul_left _ (by omega)
        rw [Nat.mul_add, Nat.mul_comm P s] at this
        omega
      rw [Nat.mod_eq_of_lt e2, decide_eq_false (by omega), Nat.mod_eq_of_lt e1]
      show _ = ((k + 1) / prod S :: idx S ((k + 1) % prod S), false)
      have e4 : k + 1 = r + 1 + P * q := by omega
      rw [hP, e4, Nat.add_mul_div_left _ _ hp, Nat.add_mul_mod_self_left, Nat.div_eq_of_lt e1, Nat.mod_eq_of_lt e1, Nat.zero_add]
theorem inc_len : ∀ (S I : List Nat), I.length = S.length → (inc S I).1.length = S.length
  | [], [], _ => rfl
  | [], _ :: _, h => by simp at h
  | _ :: _, [], h => by simp at h
  | s :: S, i :: I, h => by
    have := inc_len S I (by simpa using h)
    rw [inc_cons]
    split
    · split <;> simp [this]
    · simp [this]
/-- Where the loop over the dimensions stops. -/
theorem inc_break : ∀ (S I : List Nat) (j : Nat), I.length = S.length → j < S.length → (inc (S.drop (j + 1)) (I.drop (j + 1))).2 = true → I.getD j 0 + 1 < S.getD j 0 →
    (inc S I).1 = I.take j ++ (I.getD j 0 + 1) :: (inc (S.drop (j + 1)) (I.drop (j + 1))).1 ∧ (inc S I).2 = false
  | [], _, _, _, h, _, _ => by simp at h
  | _ :: _, [], _, h, _, _, _ => by simp at h
  | s :: S, i :: I, 0, _, _, hc, h1 => by
    have hc : (inc S I).2 = true := by simpa using hc
    have h1 : i + 1 < s := by simpa using h1
    rw [inc_cons, if_pos hc, if_pos h1]
    exact ⟨rfl, rfl⟩
  | s :: S, i :: I, j + 1, hl, hj, hc, h1 => by
    have ih := inc_break S I j (by simpa using hl) (by simpa using hj) (by simpa using hc) (by simpa using h1)
    rw [inc_cons, if_neg (by rw [ih.2]; decide), ih.1]
    exact ⟨rfl, rfl⟩
/-- .. and where it goes on. -/
theorem inc_roll {S I : List Nat} {j : Nat} (hl : I.length = S.length) (hj : j < S.length) (hc : (inc (S.drop (j + 1)) (I.drop (j + 1))).2 = true) (h1 : S.getD j 0 ≤ I.getD j 0 + 1) :
    (inc (S.drop j) (I.drop j)).1 = 0 :: (inc (S.drop (j + 1)) (I.drop (j + 1))).1 ∧ (inc (S.drop j) (I.drop j)).2 = true := by
  have e1 : S.drop j = S[j] :: S.drop (j + 1) := List.drop_eq_getElem_cons hj
  have hj2 : j < I.length := by omega
  have e2 : I.drop j = I[j] :: I.drop (j + 1) := List.drop_eq_getElem_cons hj2
  have g1 : S.getD j 0 = S[j] := by rw [List.getD_eq_getElem?_getD, List.getElem?_eq_getElem hj]; rfl
  have g2 : I.getD j 0 = I[j] := by rw [List.getD_eq_getElem?_getD, List.getElem?_eq_getElem hj2]; rfl
  rw [e1, e2, inc_cons, if_pos hc, if_neg (by rw [← g1, ← g2]; omega)]
  exact ⟨rfl, rfl⟩
theorem inc_end (S I : List Nat) (hl : I.length = S.length) : inc (S.drop S.length) (I.drop S.length) = ([], true) := by
  rw [List.drop_length, List.drop_of_length_le (by omega)]; rfl
/-- Horner's way. -/
def horner : Nat → List Nat → List Nat → Nat
  | n, s :: S, i :: I => horner (n * s + i) S I
  | n, _, _ => n
theorem horner_eq : ∀ (S I : List Nat) (n : Nat), I.length = S.length → horner n S I = n * prod S + place S I
  | [], [], n, _ => by show n = n * 1 + 0; omega
  | [], _ :: _, _, h => by simp at h
  | _ :: _, [], _, h => by simp at h
  | s :: S, i :: I, n, h => by
    show horner (n * s + i) S I = n * (s * prod S) + (i * prod S + place S I)
    rw [horner_eq S I _ (by simpa using h), Nat.add_mul, Nat.mul_assoc, Nat.add_assoc]
theorem horner_snoc : ∀ (S I : List Nat) (n s i : Nat), I.length = S.length → horner n (S ++ [s]) (I ++ [i]) = horner n S I * s + i
  | [], [], n, s, i, _ => rfl
  | [], _ :: _, _, _, _, h => by simp at h
  | _ :: _, [], _, _, _, h => by simp at h
  | s' :: S, i' :: I, n, s, i, h => horner_snoc S I (n * s' + i') s i (by simpa using h)
theorem place_snoc (S I : List Nat) (s i : Nat) (h : I.length = S.length) : place (S ++ [s]) (I ++ [i]) = place S I * s + i := by
  have h1 := horner_eq (S ++ [s]) (I ++ [i]) 0 (by simp [h])
  have h2 := horner_eq S I 0 h
  rw [horner_snoc S I 0 s i h, h2, Nat.zero_mul, Nat.zero_mul, Nat.zero_add, Nat.zero_add] at h1
  exact h1.symm
/-- The sum that the program makes. -/
def dot : List Nat → List Nat → Nat
  | i :: I, d :: D => i * d + dot I D
  | _, _ => 0
theorem dot_eq : ∀ (S I : List Nat), I.length = S.length → dot I (strides S) = place S I
  | [], [], _ => rfl
  | [], _ :: _, h => by simp at h
  | _ :: _, [], h => by simp at h
  | s :: S, i :: I, h => by show i * prod S + dot I (strides S) = _; rw [dot_eq S I (by simpa using h)]; rfl
theorem strides_at : ∀ (S : List Nat) (j : Nat), j < S.length → (strides S).getD j 0 = prod (S.drop (j + 1))
  | [], _, h => by simp at h
  | s :: S, 0, _ => rfl
  | s :: S, j + 1, h => by
    have := strides_at S j (by simpa using h)
    simpa [strides] using this
theorem prod_drop {S : List Nat} {j : Nat} (h : j < S.length) : prod (S.drop j) = S.getD j 0 * prod (S.drop (j + 1)) := by
  have e1 : S.drop j = S[j] :: S.drop (j + 1) := List.drop_eq_getElem_cons h
  have g1 : S.getD j 0 = S[j] := by rw [List.getD_eq_getElem?_getD, List.getElem?_eq_getElem h]; rfl
  rw [e1, g1]; rfl
theorem prod_le {M : Nat} : ∀ S : List Nat, (∀ s ∈ S, s ≤ M) → prod S ≤ M ^ S.length
  | [], _ => Nat.le_refl _
  | s :: S, h => by
    have h1 := prod_le S (fun x hx => h x (by simp [hx]))
    have h2 := h s (by simp)
    show s * prod S ≤ M ^ (S.length + 1)
    rw [Nat.pow_succ, Nat.mul_comm]
    exact Nat.mul_le_mul h1 h2

/-- A cut: start, count, step. -/
abbrev Cut := Int × Int × Int
/-- A cut fits a size. -/
def FitC (c : Cut) (s : Int) : Prop := 0 ≤ c.1 ∧ 0 ≤ c.2.1 ∧ 1 ≤ c.2.2 ∧ c.1 ≤ s ∧ (0 < c.2.1 → c.1 < s ∧ c.2.1 - 1 ≤ (s - 1 - c.1) / c.2.2)
def Fit : List Int → List Cut → Prop
  | [], [] => True
  | s :: S, c :: C => FitC c s ∧ Fit S C
  | _, _ => False
theorem fit_len : ∀ {S : List Int} {C : List Cut}, Fit S C → C.length = S.length
  | [], [], _ => rfl
  | [], _ :: _, h => h.elim
  | _ :: _, [], h => h.elim
  | s :: S, c :: C, h => by show C.length + 1 = S.length + 1; rw [fit_len h.2]
theorem fit_iff : ∀ (S : List Int) (C : List Cut), Fit S C ↔ C.length = S.length ∧ ∀ j, j < S.length → FitC (C.getD j (0, 0, 0)) (S.getD j 0)
  | [], [] => by simp [Fit]
  | [], _ :: _ => by simp [Fit]
  | _ :: _, [] => by simp [Fit]
  | s :: S, c :: C => by
    show FitC c s ∧ Fit S C ↔ _
    rw [fit_iff S C]
    constructor
    · rintro ⟨h1, h2, h3⟩
      refine ⟨by simp [h2], fun j hj => ?_⟩
      cases j with
      | zero => simpa using h1
      | succ j => simpa using h3 j (by simpa using hj)
    · rintro ⟨h1, h2⟩
      refine ⟨by simpa using h2 0 (by simp), by simpa using h1, fun j hj => ?_⟩
      simpa using h2 (j + 1) (by simpa using hj)
/-- The last element of a cut that fits. -/
theorem fitC_at {c : Cut} {s : Int} (h : FitC c s) {i : Int} (h0 : 0 ≤ i) (hi : i < c.2.1) : 0 ≤ i * c.2.2 ∧ c.1 + i * c.2.2 < s := by
  obtain ⟨a, b, d, e, f⟩ := h
  obtain ⟨f1, f2⟩ := f (by omega)
  have h1 : i ≤ (s - 1 - c.1) / c.2.2 := by omega
  have h2 : i * c.2.2 ≤ (s - 1 - c.1) / c.2.2 * c.2.2 := Int.mul_le_mul_of_nonneg_right h1 (by omega)
  have h3 : (s - 1 - c.1) / c.2.2 * c.2.2 ≤ s - 1 - c.1 := Int.ediv_mul_le _ (by omega)
  have h4 : 0 ≤ i * c.2.2 := Int.mul_nonneg h0 (by omega)
  omega
/-- The index in the whole of an index in a slab. -/
def thr : List Cut → List Nat → List Nat
  | c :: C, i :: I => (c.1 + i * c.2.2).toNat :: thr C I
  | _, _ => []
def cnt (C : List Cut) : List Nat := C.map fun c => c.2.1.toNat
theorem thr_inside : ∀ {S : List Int} {C : List Cut} {I : List Nat}, Fit S C → Inside (cnt C) I → Inside (S.map Int.toNat) (thr C I)
  | [], [], [], _, _ => trivial
  | [], [], _ :: _, _, h => h.elim
  | [], _ :: _, _, h, _ => h.elim
  | _ :: _, [], _, h, _ => h.elim
  | _ :: _, _ :: _, [], _, h => h.elim
  | s :: S, c :: C, i :: I, h, k => by
    have k1 : i < c.2.1.toNat := k.1
    have := fitC_at h.1 (i := i) (by omega) (by omega)
    have h0 : 0 ≤ c.1 := h.1.1
    exact ⟨by omega, thr_inside h.2 k.2⟩
theorem thr_inj : ∀ {S : List Int} {C : List Cut} {I J : List Nat}, Fit S C → Inside (cnt C) I → Inside (cnt C) J → thr C I = thr C J → I = J
  | [], [], [], [], _, _, _, _ => rfl
  | [], [], [], _ :: _, _, _, h, _ => h.elim
  | [], [], _ :: _, _, _, h, _, _ => h.elim
  | [], _ :: _, _, _, h, _, _, _ => h.elim
  | _ :: _, [], _, _, h, _, _, _ => h.elim
  | _ :: _, _ :: _, [], _, _, h, _, _ => h.elim
  | _ :: _, _ :: _, _ :: _, [], _, _, h, _ => h.elim
  | s :: S, c :: C, i :: I, j :: J, h, ki, kj, e => by
    have k1 : i < c.2.1.toNat := ki.1
    have k2 : j < c.2.1.toNat := kj.1
    have a1 := fitC_at h.1 (i := i) (by omega) (by omega)
    have a2 := fitC_at h.1 (i := j) (by omega) (by omega)
    have e1 : (c.1 + i * c.2.2).toNat = (c.1 + j * c.2.2).toNat := by injection e
    have e2 : thr C I = thr C J := by injection e
    have h0 : 0 ≤ c.1 := h.1.1
    have hs : 1 ≤ c.2.2 := h.1.2.2.1
    have e3 : (i : Int) * c.2.2 = j * c.2.2 := by omega
    have e4 : (i : Int) = j := Int.eq_of_mul_eq_mul_right (by omega) e3
    rw [show i = j by omega, thr_inj h.2 ki.2 kj.2 e2]
theorem thr_len : ∀ {C : List Cut} {I : List Nat}, I.length = C.length → (thr C I).length = C.length
  | [], [], _ => rfl
  | [], _ :: _, h => by simp at h
  | _ :: _, [], h => by simp at h
  | c :: C, i :: I, h => by show (thr C I).length + 1 = C.length + 1; rw [thr_len (by simpa using h)]
theorem thr_at : ∀ {C : List Cut} {I : List Nat} {j : Nat}, j < C.length → j < I.length → (thr C I).getD j 0 = ((C.getD j (0, 0, 0)).1 + (I.getD j 0 : Nat) * (C.getD j (0, 0, 0)).2.2).toNat
  | [], _, _, h, _ => by simp at h
  | _ :: _, [], _, _, h => by simp at h
  | c :: C, i :: I, 0, _, _ => rfl
  | c :: C, i :: I, j + 1, h1, h2 => by simpa [thr] using thr_at (C := C) (I := I) (j := j) (by simpa using h1) (by simpa using h2)
/-- The list whose elements a function of the index gives. -/
def tab {α : Type} (S : List Nat) (f : List Nat → α) : List α := (List.range (prod S)).map fun k => f (idx S k)
theorem tab_len {α : Type} (S : List Nat) (f : List Nat → α) : (tab S f).length = prod S := by simp [tab]
theorem tab_get {α : Type} (S : List Nat) (f : List Nat → α) {k : Nat} (h : k < prod S) : (tab S f)[k]? = some (f (idx S k)) := by
  unfold tab
  rw [List.getElem?_map, List.getElem?_range h]
  rfl
theorem tab_at {α : Type} (S : List Nat) (f : List Nat → α) {I : List Nat} (h : Inside S I) : (tab S f)[place S I]? = some (f I) := by
  rw [tab_get S f (place_lt S I h), idx_place S I h]
theorem tab_congr {α : Type} (S : List Nat) {f g : List Nat → α} (h : ∀ I, Inside S I → f I = g I) : tab S f = tab S g := by
  unfold tab
  apply List.map_congr_left
  intro k hk
  exact h _ (idx_inside S k (List.mem_range.1 hk))
theorem tab_self {α : Type} (S : List Nat) (l : List α) (d : α) (h : l.length = prod S) : tab S (fun I => l.getD (place S I) d) = l := by
  apply List.ext_getElem?
  intro i
  rcases Nat.lt_or_ge i (prod S) with h1 | h1
  · rw [tab_get S _ h1, place_idx S i h1, List.getD_eq_getElem?_getD, List.getElem?_eq_getElem (by omega)]
    rfl
  · rw [List.getElem?_eq_none (by rw [tab_len]; exact h1), List.getElem?_eq_none (by omega)]
/-- The elements of a slab. -/
def cutOut {α : Type} (S : List Nat) (C : List Cut) (V : List α) (d : α) : List α := tab (cnt C) fun I => V.getD (place S (thr C I)) d
/-- A cut of a cut. -/
def both1 (a b : Cut) : Cut := (if 0 < b.2.1 then a.1 + b.1 * a.2.2 else a.1, b.2.1, if 1 < b.2.1 then a.2.2 * b.2.2 else 1)
def both : List Cut → List Cut → List Cut
  | a :: A, b :: B => both1 a b :: both A B
  | _, _ => []
theorem both1_fit {a b : Cut} {s : Int} (h : FitC a s) (k : FitC b a.2.1) : FitC (both1 a b) s := by
  obtain ⟨a1, a2, a3⟩ := a
  obtain ⟨b1, b2, b3⟩ := b
  have hh := h
  obtain ⟨p1, p2, p3, p4, p5⟩ := h
  have kk := k
  obtain ⟨q1, q2, q3, q4, q5⟩ := k
  simp only at *
  unfold both1 FitC
  simp only
  by_cases c0 : 0 < b2
  · obtain ⟨q6, q7⟩ := q5 c0
    rw [if_pos c0]
    have f1 := fitC_at hh (i := b1) q1 q6
    simp only at f1
    by_cases c1 : 1 < b2
    · rw [if_pos c1]
      have f3 := fitC_at kk (i := b2 - 1) (by omega) (by simp only; omega)
      simp only at f3
      have f2 := fitC_at hh (i := b1 + (b2 - 1) * b3) (by omega) (by simp only; omega)
      simp only at f2
      have hm : 1 ≤ a3 * b3 := by
        have := Int.mul_le_mul_of_nonneg_left q3 (show 0 ≤ a3 by omega)
        omega
      have e : (b1 + (b2 - 1) * b3) * a3 = b1 * a3 + (b2 - 1) * (a3 * b3) := by
        rw [Int.add_mul, Int.mul_assoc, Int.mul_comm b3 a3]
      refine ⟨by omega, q2, hm, by omega, fun _ => ⟨by omega, ?_⟩⟩
      exact (Int.le_ediv_iff_mul_le (by omega)).2 (by omega)
    · rw [if_neg c1]
      refine ⟨by omega, q2, by omega, by omega, fun _ => ⟨by omega, ?_⟩⟩
      rw [Int.ediv_one]; omega
  · rw [if_neg c0, if_neg (by omega)]
    exact ⟨p1, q2, by omega, p4, fun h => absurd h c0⟩
theorem both_fit : ∀ {S : List Int} {A B : List Cut}, Fit S A → Fit (A.map fun c => c.2.1) B → Fit S (both A B)
  | [], [], [], _, _ => trivial
  | [], [], _ :: _, _, h => h.elim
  | [], _ :: _, _, h, _ => h.elim
  | _ :: _, [], _, h, _ => h.elim
  | _ :: _, _ :: _, [], _, h => h.elim
  | _ :: _, _ :: _, _ :: _, h, k => ⟨both1_fit h.1 k.1, both_fit h.2 k.2⟩
theorem both_cnt : ∀ {A B : List Cut}, A.length = B.length → cnt (both A B) = cnt B
  | [], [], _ => rfl
  | [], _ :: _, h => by simp at h
  | _ :: _, [], h => by simp at h
  | a :: A, b :: B, h => by
    show (both1 a b).2.1.toNat :: cnt (both A B) = b.2.1.toNat :: cnt B
    rw [both_cnt (by simpa using h)]; rfl
theorem both_thr : ∀ {S : List Int} {A B : List Cut} {I : List Nat}, Fit S A → Fit (A.map fun c => c.2.1) B → Inside (cnt B) I → thr (both A B) I = thr A (thr B I)
  | [], [], [], [], _, _, _ => rfl
  | [], [], [], _ :: _, _, _, h => h.elim
  | [], [], _ :: _, _, _, h, _ => h.elim
  | [], _ :: _, _, _, h, _, _ => h.elim
  | _ :: _, [], _, _, h, _, _ => h.elim
  | _ :: _, _ :: _, [], _, _, h, _ => h.elim
  | _ :: _, _ :: _, _ :: _, [], _, _, h => h.elim
  | s :: S, a :: A, b :: B, i :: I, h, k, hi => by
    show ((both1 a b).1 + i * (both1 a b).2.2).toNat :: thr (both A B) I = (a.1 + ((b.1 + i * b.2.2).toNat : Nat) * a.2.2).toNat :: thr A (thr B I)
    rw [both_thr h.2 k.2 hi.2]
    congr 2
    have h1 : i < b.2.1.toNat := hi.1
    have hb := fitC_at k.1 (i := i) (by omega) (by omega)
    have hb0 : 0 ≤ b.1 := k.1.1
    rw [show (((b.1 + i * b.2.2).toNat : Nat) : Int) = b.1 + i * b.2.2 by omega]
    unfold both1
    simp only
    rw [if_pos (by omega)]
    by_cases c1 : 1 < b.2.1
    · rw [if_pos c1, Int.add_mul, Int.mul_assoc, Int.mul_comm b.2.2 a.2.2]; omega
    · rw [if_neg c1]
      have : i = 0 := by omega
      subst this
      simp
/-- A slab of a slab. -/
theorem cut_both {α : Type} {S : List Int} {A B : List Cut} (V : List α) (d : α) (h : Fit S A) (k : Fit (A.map fun c => c.2.1) B) :
    cutOut (S.map Int.toNat) (both A B) V d = cutOut (cnt A) B (cutOut (S.map Int.toNat) A V d) d := by
  have hl : A.length = B.length := by have := fit_len k; rw [List.length_map] at this; exact this.symm
  have e0 : (A.map fun c => c.2.1).map Int.toNat = cnt A := by simp [cnt, List.map_map, Function.comp_def]
  unfold cutOut
  rw [both_cnt hl]
  refine tab_congr _ fun I hI => ?_
  rw [both_thr h k hI]
  have h1 : Inside (cnt A) (thr B I) := by have := thr_inside k hI; rwa [e0] at this
  rw [List.getD_eq_getElem?_getD (l := tab _ _), tab_at _ _ h1]
  rfl
/-- The list with the elements of a slab replaced, the first n of them. -/
def paste {α : Type} (S : List Nat) (C : List Cut) (V W : List α) (d : α) : Nat → List α
  | 0 => V
  | n + 1 => (paste S C V W d n).set (place S (thr C (idx (cnt C) n))) (W.getD n d)
theorem paste_len {α : Type} (S : List Nat) (C : List Cut) (V W : List α) (d : α) : ∀ n, (paste S C V W d n).length = V.length
  | 0 => rfl
  | n + 1 => by show (List.set _ _ _).length = _; rw [List.length_set, paste_len S C V W d n]
theorem place_inj {S I J : List Nat} (h : Inside S I) (k : Inside S J) (e : place S I = place S J) : I = J := by
  rw [← idx_place S I h, ← idx_place S J k, e]
theorem spot_inj {S : List Int} {C : List Cut} (h : Fit S C) {k m : Nat} (hk : k < prod (cnt C)) (hm : m < prod (cnt C)) (e : place (S.map Int.toNat) (thr C (idx (cnt C) k)) = place (S.map Int.toNat) (thr C (idx (cnt C) m))) : k = m := by
  have i1 := idx_inside _ k hk
  have i2 := idx_inside _ m hm
  have e1 := place_inj (thr_inside h i1) (thr_inside h i2) e
  have e2 := thr_inj h i1 i2 e1
  rw [← place_idx _ k hk, ← place_idx _ m hm, e2]
theorem paste_at {α : Type} {S : List Int} {C : List Cut} (h : Fit S C) (V W : List α) (d : α) (hV : V.length = prod (S.map Int.toNat)) : ∀ n, n ≤ prod (cnt C) → ∀ k, k < n →
    (paste (S.map Int.toNat) C V W d n)[place (S.map Int.toNat) (thr C (idx (cnt C) k))]? = some (W.getD k d)
  | 0, _, _, hk => absurd hk (Nat.not_lt_zero _)
  | n + 1, hn, k, hk => by
    show (List.set _ _ _)[_]? = _
    rcases Nat.lt_or_ge k n with h1 | h1
    · rw [List.getElem?_set_ne (fun e => by have := spot_inj h (by omega) (by omega) e; omega)]
      exact paste_at h V W d hV n (by omega) k h1
    · obtain rfl : k = n := by omega
      rw [List.getElem?_set_self (by rw [paste_len, hV]; exact place_lt _ _ (thr_inside h (idx_inside _ k (by omega))))]
theorem paste_far {α : Type} {S : List Int} {C : List Cut} (V W : List α) (d : α) (p : Nat) : ∀ n, (∀ k, k < n → place (S.map Int.toNat) (thr C (idx (cnt C) k)) ≠ p) → (paste (S.map Int.toNat) C V W d n)[p]? = V[p]?
  | 0, _ => rfl
  | n + 1, h => by
    show (List.set _ _ _)[_]? = _
    rw [List.getElem?_set_ne (h n (by omega))]
    exact paste_far V W d p n (fun k hk => h k (by omega))
/-- What was pasted is cut out. -/
theorem cut_paste {α : Type} {S : List Int} {C : List Cut} (h : Fit S C) (V W : List α) (d : α) (hV : V.length = prod (S.map Int.toNat)) (hW : W.length = prod (cnt C)) :
    cutOut (S.map Int.toNat) C (paste (S.map Int.toNat) C V W d (prod (cnt C))) d = W := by
  apply List.ext_getElem?
  intro k
  unfold cutOut
  rcases Nat.lt_or_ge k (prod (cnt C)) with h1 | h1
  · rw [tab_get _ _ h1, List.getD_eq_getElem?_getD, paste_at h V W d hV _ (Nat.le_refl _) k h1, List.getD_eq_getElem?_getD, List.getElem?_eq_getElem (by omega)]
    rfl
  · rw [List.getElem?_eq_none (by rw [tab_len]; exact h1), List.getElem?_eq_none (by omega)]
/-- .. and the old elements put back give what was. -/
theorem paste_back {α : Type} {S : List Int} {C : List Cut} (h : Fit S C) (V W : List α) (d : α) (hV : V.length = prod (S.map Int.toNat)) :
    paste (S.map Int.toNat) C (paste (S.map Int.toNat) C V W d (prod (cnt C))) (cutOut (S.map Int.toNat) C V d) d (prod (cnt C)) = V := by
  apply List.ext_getElem?
  intro p
  by_cases hp : ∃ k, k < prod (cnt C) ∧ place (S.map Int.toNat) (thr C (idx (cnt C) k)) = p
  · obtain ⟨k, hk, rfl⟩ := hp
    rw [paste_at h _ _ d (by rw [paste_len, hV]) _ (Nat.le_refl _) k hk]
    have hlt : place (S.map Int.toNat) (thr C (idx (cnt C) k)) < V.length := by rw [hV]; exact place_lt _ _ (thr_inside h (idx_inside _ k hk))
    unfold cutOut
    rw [List.getD_eq_getElem?_getD, tab_get _ _ hk, List.getElem?_eq_getElem hlt]
    show some (V.getD _ d) = _
    rw [List.getD_eq_getElem?_getD, List.getElem?_eq_getElem hlt]
    rfl
  · have hp' : ∀ k, k < prod (cnt C) → place (S.map Int.toNat) (thr C (idx (cnt C) k)) ≠ p := fun k hk e => hp ⟨k, hk, e⟩
    rw [paste_far _ _ d p _ hp', paste_far _ _ d p _ hp']
end Ix
