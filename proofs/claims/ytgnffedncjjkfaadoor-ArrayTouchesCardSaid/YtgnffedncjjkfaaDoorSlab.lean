/-
  Plain law: indexes, places, slabs.
-/
namespace Ix

/-- The product of sizes. -/
def prod : List Nat → Nat
  | [] => 1
  | s :: S => s * prod S
/-- The index at a place, in row-major order. -/
def idx : List Nat → Nat → List Nat
  | [], _ => []
  | _ :: S, k => k / prod S :: idx S (k % prod S)
/-- The place of an index. -/
def place : List Nat → List Nat → Nat
  | _ :: S, i :: I => i * prod S + place S I
  | _, _ => 0
/-- An index of a shape. -/
def Inside : List Nat → List Nat → Prop
  | [], [] => True
  | s :: S, i :: I => i < s ∧ Inside S I
  | _, _ => False
def strides : List Nat → List Nat
  | [] => []
  | _ :: S => prod S :: strides S
/-- The next index, and whether it has come round. -/
def inc : List Nat → List Nat → List Nat × Bool
  | s :: S, i :: I => if (inc S I).2 then (if i + 1 < s then ((i + 1) :: (inc S I).1, false) else (0 :: (inc S I).1, true)) else (i :: (inc S I).1, false)
  | _, _ => ([], true)
theorem inc_cons (s i : Nat) (S I : List Nat) : inc (s :: S) (i :: I) = if (inc S I).2 then (if i + 1 < s then ((i + 1) :: (inc S I).1, false) else (0 :: (inc S I).1, true)) else (i :: (inc S I).1, false) := rfl
theorem idx_len : ∀ (S : List Nat) (k : Nat), (idx S k).length = S.length
  | [], _ => rfl
  | _ :: S, k => by show (idx S _).length + 1 = _; rw [idx_len S]; rfl
theorem strides_len : ∀ S : List Nat, (strides S).length = S.length
  | [] => rfl
  | _ :: S => by show (strides S).length + 1 = _; rw [strides_len S]; rfl
theorem prod_app : ∀ S T : List Nat, prod (S ++ T) = prod S * prod T
  | [], T => by show prod T = 1 * prod T; omega
  | s :: S, T => by show s * prod (S ++ T) = s * prod S * prod T; rw [prod_app S T, Nat.mul_assoc]
theorem prod_pos_tail {s : Nat} {S : List Nat} (h : 0 < prod (s :: S)) : 0 < s ∧ 0 < prod S := by
  have h : 0 < s * prod S := h
  constructor
  · rcases Nat.eq_zero_or_pos s with e | e
    · rw [e, Nat.zero_mul] at h; omega
    · exact e
  · rcases Nat.eq_zero_or_pos (prod S) with e | e
    · rw [e, Nat.mul_zero] at h; omega
    · exact e
theorem idx_zero : ∀ S : List Nat, idx S 0 = List.replicate S.length 0
  | [] => rfl
  | s :: S => by show 0 / prod S :: idx S (0 % prod S) = _; rw [Nat.zero_div, Nat.zero_mod, idx_zero S]; rfl
theorem idx_inside : ∀ (S : List Nat) (k : Nat), k < prod S → Inside S (idx S k)
  | [], _, _ => trivial
  | s :: S, k, h => by
    have hp : 0 < prod S := (prod_pos_tail (s := s) (by omega)).2
    have h : k < s * prod S := h
    exact ⟨(Nat.div_lt_iff_lt_mul hp).2 h, idx_inside S _ (Nat.mod_lt _ hp)⟩
theorem place_lt : ∀ (S I : List Nat), Inside S I → place S I < prod S
  | [], [], _ => Nat.one_pos
  | [], _ :: _, h => h.elim
  | _ :: _, [], h => h.elim
  | s :: S, i :: I, h => by
    have h1 := place_lt S I h.2
    have h2 : (i + 1) * prod S ≤ s * prod S := Nat.mul_le_mul_right _ h.1
    rw [Nat.add_mul, Nat.one_mul] at h2
    show i * prod S + place S I < s * prod S
    omega
theorem inside_len : ∀ (S I : List Nat), Inside S I → I.length = S.length
  | [], [], _ => rfl
  | [], _ :: _, h => h.elim
  | _ :: _, [], h => h.elim
  | s :: S, i :: I, h => by show I.length + 1 = S.length + 1; rw [inside_len S I h.2]
theorem inside_iff : ∀ (S I : List Nat), Inside S I ↔ I.length = S.length ∧ ∀ j, j < S.length → I.getD j 0 < S.getD j 0
  | [], [] => by simp [Inside]
  | [], _ :: _ => by simp [Inside]
  | _ :: _, [] => by simp [Inside]
  | s :: S, i :: I => by
    show i < s ∧ Inside S I ↔ _
    rw [inside_iff S I]
    constructor
    · rintro ⟨h1, h2, h3⟩
      refine ⟨by simp [h2], fun j hj => ?_⟩
      cases j with
      | zero => simpa using h1
      | succ j => simpa using h3 j (by simpa using hj)
    · rintro ⟨h1, h2⟩
      refine ⟨by simpa using h2 0 (by simp), by simpa using h1, fun j hj => ?_⟩
      simpa using h2 (j + 1) (by simpa using hj)
theorem inc_idx : ∀ (S : List Nat) (k : Nat), k < prod S → inc S (idx S k) = (idx S ((k + 1) % prod S), decide (k + 1 = prod S))
  | [], k, h => by
    have h : k < 1 := h
    have : k = 0 := by omega
    subst this
    rfl
  | s :: S, k, h => by
    have hp : 0 < prod S := (prod_pos_tail (s := s) (by omega)).2
    have h : k < s * prod S := h
    have hm : k % prod S < prod S := Nat.mod_lt _ hp
    have ih := inc_idx S (k % prod S) hm
    have hd := Nat.div_add_mod k (prod S)
    have hq : k / prod S < s := (Nat.div_lt_iff_lt_mul hp).2 h
    show (if (inc S (idx S (k % prod S))).2 then _ else _) = (idx (s :: S) ((k + 1) % (s * prod S)), decide (k + 1 = s * prod S))
    rw [ih]
    simp only
    generalize hq' : k / prod S = q at *
    generalize hr' : k % prod S = r at *
    generalize hP : prod S = P at *
    have hk : k = P * q + r := hd.symm
    by_cases c1 : r + 1 = P
    · rw [decide_eq_true c1, if_pos rfl]
      have e0 : (r + 1) % P = 0 := by rw [c1, Nat.mod_self]
      by_cases c2 : q + 1 < s
      · rw [if_pos c2]
        have e1 : k + 1 = P * (q + 1) := by rw [Nat.mul_add]; omega
        have e2 : k + 1 < s * P := by rw [e1, Nat.mul_comm]; exact Nat.mul_lt_mul_of_pos_right c2 hp
        rw [Nat.mod_eq_of_lt e2, decide_eq_false (by omega)]
        show _ = ((k + 1) / prod S :: idx S ((k + 1) % prod S), false)
        rw [hP, e1, Nat.mul_div_cancel_left _ hp, Nat.mul_mod_right, e0]
      · rw [if_neg c2]
        have e3 : q + 1 = s := by omega
        have e1 : k + 1 = s * P := by rw [← e3, Nat.add_mul, Nat.mul_comm]; omega
        rw [e1, Nat.mod_self, decide_eq_true rfl]
        show _ = (0 / prod S :: idx S (0 % prod S), true)
        rw [Nat.zero_div, Nat.zero_mod, e0]
    · rw [decide_eq_false c1, if_neg (by decide)]
      have e1 : r + 1 < P := by omega
      have e2 : k + 1 < s * P := by
        have : P * (q + 1) ≤ P * s := Nat.mul_le_mul_left _ (by omega)
        rw [Nat.mul_add, Nat.mul_comm P s] at this
        omega
      rw [Nat.mod_eq_of_lt e2, decide_eq_false (by omega), Nat.mod_eq_of_lt e1]
      show _ = ((k + 1) / prod S :: idx S ((k + 1) % prod S), false)
      have e4 : k + 1 = r + 1 + P * q := by omega
      rw [hP, e4, Nat.add_mul_div_left _ _ hp, Nat.add_mul_mod_self_left, Nat.div_eq_of_lt e1, Nat.mod_eq_of_lt e1, Nat.zero_add]
theorem inc_len : ∀ (S I : List Nat), I.length = S.length → (inc S I).1.length = S.length
  | [], [], _ => rfl
  | [], _ :: _, h => by simp at h
  | _ :: _, [], h => by simp at h
  | s :: S, i :: I, h => by
    have := inc_len S I (by simpa using h)
    rw [inc_cons]
    split
    · split <;> simp [this]
    · simp [this]
/-- Where the loop over the dimensions stops. -/
theorem inc_break : ∀ (S I : List Nat) (j : Nat), I.length = S.length → j < S.length → (inc (S.drop (j + 1)) (I.drop (j + 1))).2 = true → I.getD j 0 + 1 < S.getD j 0 →
    (inc S I).1 = I.take j ++ (I.getD j 0 + 1) :: (inc (S.drop (j + 1)) (I.drop (j + 1))).1 ∧ (inc S I).2 = false
  | [], _, _, _, h, _, _ => by simp at h
  | _ :: _, [], _, h, _, _, _ => by simp at h
  | s :: S, i :: I, 0, _, _, hc, h1 => by
    have hc : (inc S I).2 = true := by simpa using hc
    have h1 : i + 1 < s := by simpa using h1
    rw [inc_cons, if_pos hc, if_pos h1]
    exact ⟨rfl, rfl⟩
  | s :: S, i :: I, j + 1, hl, hj, hc, h1 => by
    have ih := inc_break S I j (by simpa using hl) (by simpa using hj) (by simpa using hc) (by simpa using h1)
    rw [inc_cons, if_neg (by rw [ih.2]; decide), ih.1]
    exact ⟨rfl, rfl⟩
/-- .. and where it goes on. -/
theorem inc_roll {S I : List Nat} {j : Nat} (hl : I.length = S.length) (hj : j < S.length) (hc : (inc (S.drop (j + 1)) (I.drop (j + 1))).2 = true) (h1 : S.getD j 0 ≤ I.getD j 0 + 1) :
    (inc (S.drop j) (I.drop j)).1 = 0 :: (inc (S.drop (j + 1)) (I.drop (j + 1))).1 ∧ (inc (S.drop j) (I.drop j)).2 = true := by
  have e1 : S.drop j = S[j] :: S.drop (j + 1) := List.drop_eq_getElem_cons hj
  have hj2 : j < I.length := by omega
  have e2 : I.drop j = I[j] :: I.drop (j + 1) := List.drop_eq_getElem_cons hj2
  have g1 : S.getD j 0 = S[j] := by rw [List.getD_eq_getElem?_getD, List.getElem?_eq_getElem hj]; rfl
  have g2 : I.getD j 0 = I[j] := by rw [List.getD_eq_getElem?_getD, List.getElem?_eq_getElem hj2]; rfl
  rw [e1, e2, inc_cons, if_pos hc, if_neg (by rw [← g1, ← g2]; omega)]
  exact ⟨rfl, rfl⟩
theorem inc_end (S I : List Nat) (hl : I.length = S.length) : inc (S.drop S.length) (I.drop S.length) = ([], true) := by
  rw [List.drop_length, List.drop_of_length_le (by omega)]; rfl
/-- The sum that the program makes. -/
def dot : List Nat → List Nat → Nat
  | i :: I, d :: D => i * d + dot I D
  | _, _ => 0
theorem dot_eq : ∀ (S I : List Nat), I.length = S.length → dot I (strides S) = place S I
  | [], [], _ => rfl
  | [], _ :: _, h => by simp at h
  | _ :: _, [], h => by simp at h
  | s :: S, i :: I, h => by show i * prod S + dot I (strides S) = _; rw [dot_eq S I (by simpa using h)]; rfl
theorem strides_at : ∀ (S : List Nat) (j : Nat), j < S.length → (strides S).getD j 0 = prod (S.drop (j + 1))
  | [], _, h => by simp at h
  | s :: S, 0, _ => rfl
  | s :: S, j + 1, h => by
    have := strides_at S j (by simpa using h)
    simpa [strides] using this
theorem prod_drop {S : List Nat} {j : Nat} (h : j < S.length) : prod (S.drop j) = S.getD j 0 * prod (S.drop (j + 1)) := by
  have e1 : S.drop j = S[j] :: S.drop (j + 1) := List.drop_eq_getElem_cons h
  have g1 : S.getD j 0 = S[j] := by rw [List.getD_eq_getElem?_getD, List.getElem?_eq_getElem h]; rfl
  rw [e1, g1]; rfl
theorem prod_le {M : Nat} : ∀ S : List Nat, (∀ s ∈ S, s ≤ M) → prod S ≤ M ^ S.length
  | [], _ => Nat.le_refl _
  | s :: S, h => by
    have h1 := prod_le S (fun x hx => h x (by simp [hx]))
    have h2 := h s (by simp)
    show s * prod S ≤ M ^ (S.length + 1)
    rw [Nat.pow_succ, Nat.mul_comm]
    exact Nat.mul_le_mul h1 h2

/-- A cut: start, count, step. -/
abbrev Cut := Int × Int × Int
/-- A cut fits a size. -/
def FitC (c : Cut) (s : Int) : Prop := 0 ≤ c.1 ∧ 0 ≤ c.2.1 ∧ 1 ≤ c.2.2 ∧ c.1 ≤ s ∧ (0 < c.2.1 → c.1 < s ∧ c.2.1 - 1 ≤ (s - 1 - c.1) / c.2.2)
def Fit : List Int → List Cut → Prop
  | [], [] => True
  | s :: S, c :: C => FitC c s ∧ Fit S C
  | _, _ => False
theorem fit_len : ∀ {S : List Int} {C : List Cut}, Fit S C → C.length = S.length
  | [], [], _ => rfl
  | [], _ :: _, h => h.elim
  | _ :: _, [], h => h.elim
  | s :: S, c :: C, h => by show C.length + 1 = S.length + 1; rw [fit_len h.2]
theorem fit_iff : ∀ (S : List Int) (C : List Cut), Fit S C ↔ C.length = S.length ∧ ∀ j, j < S.length → FitC (C.getD j (0, 0, 0)) (S.getD j 0)
  | [], [] => by simp [Fit]
  | [], _ :: _ => by simp [Fit]
  | _ :: _, [] => by simp [Fit]
  | s :: S, c :: C => by
    show FitC c s ∧ Fit S C ↔ _
    rw [fit_iff S C]
    constructor
    · rintro ⟨h1, h2, h3⟩
      refine ⟨by simp [h2], fun j hj => ?_⟩
      cases j with
      | zero => simpa using h1
      | succ j => simpa using h3 j (by simpa using hj)
    · rintro ⟨h1, h2⟩
      refine ⟨by simpa using h2 0 (by simp), by simpa using h1, fun j hj => ?_⟩
      simpa using h2 (j + 1) (by simpa using hj)
/-- The last element of a cut that fits. -/
theorem fitC_at {c : Cut} {s : Int} (h : FitC c s) {i : Int} (h0 : 0 ≤ i) (hi : i < c.2.1) : 0 ≤ i * c.2.2 ∧ c.1 + i * c.2.2 < s := by
  obtain ⟨a, b, d, e, f⟩ := h
  obtain ⟨f1, f2⟩ := f (by omega)
  have h1 : i ≤ (s - 1 - c.1) / c.2.2 := by omega
  have h2 : i * c.2.2 ≤ (s - 1 - c.1) / c.2.2 * c.2.2 := Int.mul_le_mul_of_nonneg_right h1 (by omega)
  have h3 : (s - 1 - c.1) / c.2.2 * c.2.2 ≤ s - 1 - c.1 := Int.ediv_mul_le _ (by omega)
  have h4 : 0 ≤ i * c.2.2 := Int.mul_nonneg h0 (by omega)
  omega
/-- The index in the whole of an index in a slab. -/
def thr : List Cut → List Nat → List Nat
  | c :: C, i :: I => (c.1 + i * c.2.2).toNat :: thr C I
  | _, _ => []
def cnt (C : List Cut) : List Nat := C.map fun c => c.2.1.toNat
theorem thr_inside : ∀ {S : List Int} {C : List Cut} {I : List Nat}, Fit S C → Inside (cnt C) I → Inside (S.map Int.toNat) (thr C I)
  | [], [], [], _, _ => trivial
  | [], [], _ :: _, _, h => h.elim
  | [], _ :: _, _, h, _ => h.elim
  | _ :: _, [], _, h, _ => h.elim
  | _ :: _, _ :: _, [], _, h => h.elim
  | s :: S, c :: C, i :: I, h, k => by
    have k1 : i < c.2.1.toNat := k.1
    have := fitC_at h.1 (i := i) (by omega) (by omega)
    have h0 : 0 ≤ c.1 := h.1.1
    exact ⟨by omega, thr_inside h.2 k.2⟩
theorem thr_len : ∀ {C : List Cut} {I : List Nat}, I.length = C.length → (thr C I).length = C.length
  | [], [], _ => rfl
  | [], _ :: _, h => by simp at h
  | _ :: _, [], h => by simp at h
  | c :: C, i :: I, h => by show (thr C I).length + 1 = C.length + 1; rw [thr_len (by simpa using h)]
theorem thr_at : ∀ {C : List Cut} {I : List Nat} {j : Nat}, j < C.length → j < I.length → (thr C I).getD j 0 = ((C.getD j (0, 0, 0)).1 + (I.getD j 0 : Nat) * (C.getD j (0, 0, 0)).2.2).toNat
  | [], _, _, h, _ => by simp at h
  | _ :: _, [], _, _, h => by simp at h
  | c :: C, i :: I, 0, _, _ => rfl
  | c :: C, i :: I, j + 1, h1, h2 => by simpa [thr] using thr_at (C := C) (I := I) (j := j) (by simpa using h1) (by simpa using h2)
/-- The list whose elements a function of the index gives. -/
def tab {α : Type} (S : List Nat) (f : List Nat → α) : List α := (List.range (prod S)).map fun k => f (idx S k)
/-- The elements of a slab. -/
def cutOut {α : Type} (S : List Nat) (C : List Cut) (V : List α) (d : α) : List α := tab (cnt C) fun I => V.getD (place S (thr C I)) d
end Ix

