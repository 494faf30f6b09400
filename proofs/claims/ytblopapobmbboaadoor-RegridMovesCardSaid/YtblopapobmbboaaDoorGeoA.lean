/-
  Plane geometry over the rationals (A): plain Lean, of no program.
-/
namespace Go.Proofs.YtblopapobmbboaaDoor.Geo

theorem tot (a b : Rat) : a ≤ b ∨ b ≤ a := Rat.le_total
theorem lt_or_eq {a b : Rat} (h : a ≤ b) : a < b ∨ a = b := by
  by_cases e : a = b
  · exact .inr e
  · exact .inl (Rat.lt_of_le_of_ne h e)

theorem np {a b : Rat} (ha : a ≤ 0) (hb : 0 ≤ b) : a * b ≤ 0 := by
  have := Rat.mul_nonneg (a := -a) (b := b) (by grind) hb
  grind
theorem pn {a b : Rat} (ha : 0 ≤ a) (hb : b ≤ 0) : a * b ≤ 0 := by
  have := Rat.mul_nonneg (a := a) (b := -b) ha (by grind)
  grind
theorem nn {a b : Rat} (ha : a ≤ 0) (hb : b ≤ 0) : 0 ≤ a * b := by
  have := Rat.mul_nonneg (a := -a) (b := -b) (by grind) (by grind)
  grind
theorem nn' {a b : Rat} (ha : a < 0) (hb : b < 0) : 0 < a * b := by
  have := Rat.mul_pos (a := -a) (b := -b) (by grind) (by grind)
  grind
theorem np' {a b : Rat} (ha : a < 0) (hb : 0 < b) : a * b < 0 := by
  have := Rat.mul_pos (a := -a) (b := b) (by grind) hb
  grind
theorem pn' {a b : Rat} (ha : 0 < a) (hb : b < 0) : a * b < 0 := by
  have := Rat.mul_pos (a := a) (b := -b) ha (by grind)
  grind
/-- The sign of a factor. -/
theorem neg_of_mul {a q : Rat} (ha : a < 0) (h : a * q ≤ 0) : 0 ≤ q := by
  rcases tot 0 q with hq | hq
  · exact hq
  · rcases lt_or_eq hq with hq | hq
    · have := nn' ha hq; grind
    · grind
theorem neg_of_mul' {a q : Rat} (ha : a < 0) (h : 0 ≤ a * q) : q ≤ 0 := by
  rcases tot q 0 with hq | hq
  · exact hq
  · rcases lt_or_eq hq with hq | hq
    · have := np' ha hq; grind
    · grind
theorem pos_of_mul {a q : Rat} (ha : 0 < a) (h : a * q ≤ 0) : q ≤ 0 := by
  rcases tot q 0 with hq | hq
  · exact hq
  · rcases lt_or_eq hq with hq | hq
    · have := Rat.mul_pos ha hq; grind
    · grind
theorem pos_of_mul' {a q : Rat} (ha : 0 < a) (h : 0 ≤ a * q) : 0 ≤ q := by
  rcases tot 0 q with hq | hq
  · exact hq
  · rcases lt_or_eq hq with hq | hq
    · have := pn' ha hq; grind
    · grind

/-- A place, or the way from one place to another. -/
structure Pt where
  x : Rat
  y : Rat

@[ext] theorem Pt.ext' {p q : Pt} (h1 : p.x = q.x) (h2 : p.y = q.y) : p = q := by
  cases p; cases q; simp_all

def sub (p q : Pt) : Pt := ⟨p.x - q.x, p.y - q.y⟩
def wedge (u v : Pt) : Rat := u.x * v.y - u.y * v.x
def dot (u v : Pt) : Rat := u.x * v.x + u.y * v.y
/-- The number by which three places turn. -/
def cross (a b c : Pt) : Rat := (b.x - a.x) * (c.y - a.y) - (b.y - a.y) * (c.x - a.x)

theorem cross_rot (a b c : Pt) : cross b c a = cross a b c := by unfold cross; grind
theorem cross_swap (a b c : Pt) : cross b a c = - cross a b c := by unfold cross; grind

/-- How a step from u to v goes over the ray in direction d. -/
def k (d u v : Pt) : Int :=
  if wedge d u < 0 ∧ 0 ≤ wedge d v ∧ 0 < wedge u v then 1
  else if wedge d v < 0 ∧ 0 ≤ wedge d u ∧ wedge u v < 0 then -1 else 0

theorem k_anti (d u v : Pt) : k d v u = - k d u v := by
  have e : wedge v u = - wedge u v := by unfold wedge; grind
  unfold k
  rw [e]
  by_cases h1 : wedge d u < 0 ∧ 0 ≤ wedge d v ∧ 0 < wedge u v
  · rw [if_neg (by grind), if_pos (by grind), if_pos h1]
  · by_cases h2 : wedge d v < 0 ∧ 0 ≤ wedge d u ∧ wedge u v < 0
    · rw [if_pos (by grind), if_neg h1, if_pos h2]; rfl
    · rw [if_neg (by grind), if_neg (by grind), if_neg h1, if_neg h2]; rfl

theorem k_same_pos {d u v : Pt} (h1 : 0 ≤ wedge d u) (h2 : 0 ≤ wedge d v) : k d u v = 0 := by
  unfold k; rw [if_neg (by grind), if_neg (by grind)]
theorem k_same_neg {d u v : Pt} (h1 : wedge d u < 0) (h2 : wedge d v < 0) : k d u v = 0 := by
  unfold k; rw [if_neg (by grind), if_neg (by grind)]
theorem k_up {d u v : Pt} (h1 : wedge d u < 0) (h2 : 0 ≤ wedge d v) : k d u v = if 0 < wedge u v then 1 else 0 := by
  unfold k
  by_cases h : 0 < wedge u v
  · rw [if_pos ⟨h1, h2, h⟩, if_pos h]
  · rw [if_neg (by grind), if_neg (by grind), if_neg h]
theorem k_down {d u v : Pt} (h1 : 0 ≤ wedge d u) (h2 : wedge d v < 0) : k d u v = if wedge u v < 0 then -1 else 0 := by
  unfold k
  rw [if_neg (by grind)]
  by_cases h : wedge u v < 0
  · rw [if_pos ⟨h2, h1, h⟩, if_pos h]
  · rw [if_neg (by grind), if_neg h]

theorem plucker (d u v w : Pt) : wedge d u * wedge v w + wedge d v * wedge w u + wedge d w * wedge u v = 0 := by unfold wedge; grind

/-- The origin lies in the triangle. -/
def Same3 (u v w : Pt) : Prop := (0 ≤ wedge u v ∧ 0 ≤ wedge v w ∧ 0 ≤ wedge w u) ∨ (wedge u v ≤ 0 ∧ wedge v w ≤ 0 ∧ wedge w u ≤ 0)

theorem Same3.rot {u v w : Pt} (h : ¬ Same3 u v w) : ¬ Same3 v w u := by unfold Same3 at *; grind

theorem tri_a {d u v w : Pt} (h : ¬ Same3 u v w) (a : wedge d u < 0) (b : 0 ≤ wedge d v) (c : 0 ≤ wedge d w) : k d u v + k d v w + k d w u = 0 := by
  rw [k_up a b, k_same_pos b c, k_down c a]
  have hp := plucker d u v w
  by_cases p : 0 < wedge u v
  · by_cases r : wedge w u < 0
    · rw [if_pos p, if_pos r]; rfl
    · exfalso; apply h; left
      have h1 := Rat.mul_nonneg b (Rat.not_lt.1 r)
      have h2 := Rat.mul_nonneg c (Rat.le_of_lt p)
      have := neg_of_mul (q := wedge v w) a (by grind)
      exact ⟨Rat.le_of_lt p, this, Rat.not_lt.1 r⟩
  · by_cases r : wedge w u < 0
    · exfalso; apply h; right
      have h1 := pn b (Rat.le_of_lt r)
      have h2 := pn c (Rat.not_lt.1 p)
      have := neg_of_mul' (q := wedge v w) a (by grind)
      exact ⟨Rat.not_lt.1 p, this, Rat.le_of_lt r⟩
    · rw [if_neg p, if_neg r]; rfl

theorem tri_b {d u v w : Pt} (h : ¬ Same3 u v w) (a : 0 ≤ wedge d u) (b : wedge d v < 0) (c : wedge d w < 0) : k d u v + k d v w + k d w u = 0 := by
  rw [k_down a b, k_same_neg b c, k_up c a]
  have hp := plucker d u v w
  by_cases p : wedge u v < 0
  · by_cases r : 0 < wedge w u
    · rw [if_pos p, if_pos r]; rfl
    · exfalso; apply h; right
      have h1 := nn (Rat.le_of_lt b) (Rat.not_lt.1 r)
      have h2 := nn' c p
      have ha : 0 < wedge d u := by
        rcases lt_or_eq a with h | h
        · exact h
        · rw [← h] at hp; grind
      have := pos_of_mul (q := wedge v w) ha (by grind)
      exact ⟨Rat.le_of_lt p, this, Rat.not_lt.1 r⟩
  · by_cases r : 0 < wedge w u
    · exfalso; apply h; left
      have h1 := np' b r
      have h2 := np (Rat.le_of_lt c) (Rat.not_lt.1 p)
      have ha : 0 < wedge d u := by
        rcases lt_or_eq a with h | h
        · exact h
        · rw [← h] at hp; grind
      have := pos_of_mul' (q := wedge v w) ha (by grind)
      exact ⟨Rat.not_lt.1 p, this, Rat.le_of_lt r⟩
    · rw [if_neg p, if_neg r]; rfl

theorem tri {d u v w : Pt} (h : ¬ Same3 u v w) : k d u v + k d v w + k d w u = 0 := by
  have h' := Same3.rot h
  have h'' := Same3.rot h'
  by_cases A : wedge d u < 0 <;> by_cases B : wedge d v < 0 <;> by_cases C : wedge d w < 0
  all_goals
    first
      | (rw [k_same_neg A B, k_same_neg B C, k_same_neg C A]; rfl)
      | (rw [k_same_pos (Rat.not_lt.1 A) (Rat.not_lt.1 B), k_same_pos (Rat.not_lt.1 B) (Rat.not_lt.1 C), k_same_pos (Rat.not_lt.1 C) (Rat.not_lt.1 A)]; rfl)
      | exact tri_a h A (Rat.not_lt.1 B) (Rat.not_lt.1 C)
      | exact tri_b h (Rat.not_lt.1 A) B C
      | (have := tri_a h' B (Rat.not_lt.1 C) (Rat.not_lt.1 A); omega)
      | (have := tri_b h' (Rat.not_lt.1 B) C A; omega)
      | (have := tri_a h'' C (Rat.not_lt.1 A) (Rat.not_lt.1 B); omega)
      | (have := tri_b h'' (Rat.not_lt.1 C) A B; omega)

/-- A parallelogram that does not hold the origin: both ways around it come to the same. -/
theorem par {d u0 u1 u2 u3 : Pt} (hx : u0.x + u2.x = u1.x + u3.x) (hy : u0.y + u2.y = u1.y + u3.y)
    (h1 : ¬ (0 ≤ wedge u0 u1 ∧ 0 ≤ wedge u1 u2 ∧ 0 ≤ wedge u2 u3 ∧ 0 ≤ wedge u3 u0)) (h2 : ¬ (wedge u0 u1 ≤ 0 ∧ wedge u1 u2 ≤ 0 ∧ wedge u2 u3 ≤ 0 ∧ wedge u3 u0 ≤ 0)) :
    k d u0 u1 + k d u1 u2 = k d u0 u3 + k d u3 u2 := by
  have e1 : wedge u2 u3 = wedge u2 u0 + wedge u1 u2 := by unfold wedge; grind
  have e2 : wedge u3 u0 = wedge u2 u0 + wedge u0 u1 := by unfold wedge; grind
  have e3 : wedge u0 u2 = - wedge u2 u0 := by unfold wedge; grind
  have t1 : ¬ Same3 u0 u1 u2 := by unfold Same3; grind
  have t2 : ¬ Same3 u0 u2 u3 := by unfold Same3; grind
  have a := tri (d := d) t1
  have b := tri (d := d) t2
  have c1 := k_anti d u0 u2
  have c2 := k_anti d u2 u3
  have c3 := k_anti d u0 u3
  omega

theorem k_zero {d u v : Pt} (h : wedge u v = 0) : k d u v = 0 := by
  unfold k; rw [if_neg (by grind), if_neg (by grind)]

end Go.Proofs.YtblopapobmbboaaDoor.Geo
namespace Go.Proofs.YtblopapobmbboaaDoor.Geo

/-- Two sides have a place in common: as the program asks it, by four signs. -/
def onB (a b c : Pt) : Prop := min a.x b.x ≤ c.x ∧ c.x ≤ max a.x b.x ∧ min a.y b.y ≤ c.y ∧ c.y ≤ max a.y b.y
def Touch (a b c d : Pt) : Prop :=
  ((0 < cross a b c ∧ cross a b d < 0 ∨ cross a b c < 0 ∧ 0 < cross a b d) ∧ (0 < cross c d a ∧ cross c d b < 0 ∨ cross c d a < 0 ∧ 0 < cross c d b)) ∨
  (cross a b c = 0 ∧ onB a b c) ∨ (cross a b d = 0 ∧ onB a b d) ∨ (cross c d a = 0 ∧ onB c d a) ∨ (cross c d b = 0 ∧ onB c d b)

theorem between_of {a b c l m : Rat} (hl : 0 ≤ l) (hm : 0 ≤ m) (hs : 0 < l + m) (h : (l + m) * c = l * a + m * b) : min a b ≤ c ∧ c ≤ max a b := by
  have key : ∀ a b : Rat, a ≤ b → ∀ l m : Rat, 0 ≤ l → 0 ≤ m → 0 < l + m → (l + m) * c = l * a + m * b → a ≤ c ∧ c ≤ b := by
    intro a b hab l m hl hm hs h
    have h1 := Rat.mul_nonneg hm (show 0 ≤ b - a by grind)
    have h2 := Rat.mul_nonneg hl (show 0 ≤ b - a by grind)
    constructor
    · have := pos_of_mul' (q := c - a) hs (by grind)
      grind
    · have := pos_of_mul' (q := b - c) hs (by grind)
      grind
  rcases tot a b with hab | hab
  · have := key a b hab l m hl hm hs h
    grind
  · have := key b a hab m l hm hl (by grind) (by grind)
    grind

/-- A place on the line through a and b, on which the ends of another side lie on both sides or not at all, lies between a and b. -/
theorem on_of {a b c d : Pt} (h0 : cross a b c = 0) (h1 : cross c d a ≤ 0) (h2 : 0 ≤ cross c d b) (h3 : cross c d a ≠ cross c d b) : onB a b c := by
  have hs : 0 < cross c d b + - cross c d a := by grind
  have ex : (cross c d b + - cross c d a) * c.x = cross c d b * a.x + - cross c d a * b.x := by unfold cross at *; grind
  have ey : (cross c d b + - cross c d a) * c.y = cross c d b * a.y + - cross c d a * b.y := by unfold cross at *; grind
  have hx := between_of h2 (by grind) hs ex
  have hy := between_of h2 (by grind) hs ey
  exact ⟨hx.1, hx.2, hy.1, hy.2⟩
theorem on_of' {a b c d : Pt} (h0 : cross a b c = 0) (h1 : 0 ≤ cross c d a) (h2 : cross c d b ≤ 0) (h3 : cross c d a ≠ cross c d b) : onB a b c := by
  have := on_of (a := b) (b := a) (c := c) (d := d) (by rw [cross_swap, h0]; rfl) h2 h1 (fun e => h3 e.symm)
  unfold onB at *
  grind

theorem sum_cross (a b c d : Pt) : cross a b c + cross c d a = cross a b d + cross c d b := by unfold cross; grind

/-- If the origin lies in the parallelogram of the differences, the sides meet, or all lies on one line. -/
theorem touch_of {a b c d : Pt} (hp : 0 ≤ cross a b c) (hs : 0 ≤ cross c d b) (hq : cross a b d ≤ 0) (hr : cross c d a ≤ 0) :
    Touch a b c d ∨ (cross a b c = 0 ∧ cross c d b = 0 ∧ cross a b d = 0 ∧ cross c d a = 0) := by
  have e := sum_cross a b c d
  by_cases p : cross a b c = 0
  · by_cases z : cross c d a = cross c d b
    · right; grind
    · left; unfold Touch; right; left; exact ⟨p, on_of p hr hs z⟩
  · by_cases q : cross a b d = 0
    · by_cases z : cross c d a = cross c d b
      · exfalso; grind
      · left; unfold Touch; right; right; left
        refine ⟨q, ?_⟩
        have e1 : cross d c a = - cross c d a := cross_swap c d a
        have e2 : cross d c b = - cross c d b := cross_swap c d b
        exact on_of' (c := d) (d := c) q (by grind) (by grind) (by grind)
    · by_cases r : cross c d a = 0
      · left; unfold Touch; right; right; right; left
        exact ⟨r, on_of' (a := c) (b := d) (c := a) (d := b) r hp hq (by grind)⟩
      · by_cases s : cross c d b = 0
        · left; unfold Touch; right; right; right; right
          have e1 : cross b a c = - cross a b c := cross_swap a b c
          have e2 : cross b a d = - cross a b d := cross_swap a b d
          exact ⟨s, on_of (a := c) (b := d) (c := b) (d := a) s (by grind) (by grind) (by grind)⟩
        · left; left; grind
theorem touch_of' {a b c d : Pt} (hp : cross a b c ≤ 0) (hs : cross c d b ≤ 0) (hq : 0 ≤ cross a b d) (hr : 0 ≤ cross c d a) :
    Touch a b c d ∨ (cross a b c = 0 ∧ cross c d b = 0 ∧ cross a b d = 0 ∧ cross c d a = 0) := by
  have e := sum_cross a b c d
  by_cases p : cross a b c = 0
  · by_cases z : cross c d a = cross c d b
    · right; grind
    · left; unfold Touch; right; left; exact ⟨p, on_of' p hr hs z⟩
  · by_cases q : cross a b d = 0
    · by_cases z : cross c d a = cross c d b
      · exfalso; grind
      · left; unfold Touch; right; right; left
        refine ⟨q, ?_⟩
        have e1 : cross d c a = - cross c d a := cross_swap c d a
        have e2 : cross d c b = - cross c d b := cross_swap c d b
        exact on_of (c := d) (d := c) q (by grind) (by grind) (by grind)
    · by_cases r : cross c d a = 0
      · left; unfold Touch; right; right; right; left
        exact ⟨r, on_of (a := c) (b := d) (c := a) (d := b) r hp hq (by grind)⟩
      · by_cases s : cross c d b = 0
        · left; unfold Touch; right; right; right; right
          have e1 : cross b a c = - cross a b c := cross_swap a b c
          have e2 : cross b a d = - cross a b d := cross_swap a b d
          exact ⟨s, on_of' (a := c) (b := d) (c := b) (d := a) s (by grind) (by grind) (by grind)⟩
        · left; left; grind

/-- Two sides that do not meet: the cell of differences turns nothing. -/
theorem cell {d a b c e : Pt} (h : ¬ Touch a b c e) : k d (sub c a) (sub c b) + k d (sub c b) (sub e b) = k d (sub c a) (sub e a) + k d (sub e a) (sub e b) := by
  have w1 : wedge (sub c a) (sub c b) = cross a b c := by unfold wedge sub cross; grind
  have w2 : wedge (sub c b) (sub e b) = cross c e b := by unfold wedge sub cross; grind
  have w3 : wedge (sub e b) (sub e a) = - cross a b e := by unfold wedge sub cross; grind
  have w4 : wedge (sub e a) (sub c a) = - cross c e a := by unfold wedge sub cross; grind
  by_cases z : cross a b c = 0 ∧ cross c e b = 0 ∧ cross a b e = 0 ∧ cross c e a = 0
  · obtain ⟨z1, z2, z3, z4⟩ := z
    have w5 : wedge (sub e a) (sub e b) = cross a b e := by unfold wedge sub cross; grind
    have w6 : wedge (sub c a) (sub e a) = cross c e a := by unfold wedge sub cross; grind
    rw [k_zero (by rw [w1, z1]), k_zero (by rw [w2, z2]), k_zero (by rw [w6, z4]), k_zero (by rw [w5, z3])]
  · refine par (u0 := sub c a) (u1 := sub c b) (u2 := sub e b) (u3 := sub e a) (by unfold sub; grind) (by unfold sub; grind) ?_ ?_
    · rw [w1, w2, w3, w4]
      rintro ⟨g1, g2, g3, g4⟩
      rcases touch_of g1 g2 (by grind) (by grind) with t | t
      · exact h t
      · exact z t
    · rw [w1, w2, w3, w4]
      rintro ⟨g1, g2, g3, g4⟩
      rcases touch_of' g1 g2 (by grind) (by grind) with t | t
      · exact h t
      · exact z t

/-- Sums. -/
def S (f : Nat → Int) (a : Nat) : Nat → Int
  | 0 => 0
  | m + 1 => S f a m + f (a + m)
theorem S_front (f : Nat → Int) (a m : Nat) : S f a (m + 1) = f a + S f (a + 1) m := by
  induction m with
  | zero => simp [S]
  | succ m ih => rw [S, ih]; simp only [S]; rw [show a + (m + 1) = a + 1 + m by omega]; omega
theorem S_zero {f : Nat → Int} {a m : Nat} (h : ∀ i, a ≤ i → i < a + m → f i = 0) : S f a m = 0 := by
  induction m with
  | zero => rfl
  | succ m ih => rw [S, ih (fun i h1 h2 => h i h1 (by omega)), h _ (by omega) (by omega)]; rfl
theorem S_nonneg_zero {f : Nat → Int} {a m : Nat} (h : ∀ i, a ≤ i → i < a + m → 0 ≤ f i) (hs : S f a m ≤ 0) : ∀ i, a ≤ i → i < a + m → f i = 0 := by
  have hn : ∀ m, (∀ i, a ≤ i → i < a + m → 0 ≤ f i) → 0 ≤ S f a m := by
    intro m
    induction m with
    | zero => intro _; exact Int.le_refl _
    | succ m ih => intro h; rw [S]; have := ih (fun i h1 h2 => h i h1 (by omega)); have := h (a + m) (by omega) (by omega); omega
  induction m with
  | zero => intro i h1 h2; omega
  | succ m ih =>
    rw [S] at hs
    have h1 := hn m (fun i h1 h2 => h i h1 (by omega))
    have h2 := h (a + m) (by omega) (by omega)
    intro i hi1 hi2
    by_cases e : i = a + m
    · subst e; omega
    · exact ih (fun i h1 h2 => h i h1 (by omega)) (by omega) i hi1 (by omega)

section
variable (p : Nat → Pt)
def D (i j : Nat) : Pt := sub (p j) (p i)
def col (d : Pt) (a m c : Nat) : Int := S (fun i => k d (D p i c) (D p (i + 1) c)) a m
def row (d : Pt) (a m : Nat) : Int := S (fun j => k d (D p a j) (D p a (j + 1))) (a + 1) m
def diag (d : Pt) (a m : Nat) : Int := S (fun i => k d (D p i (i + 1)) (D p (i + 1) (i + 2))) a m

variable {p} {n : Nat} (turn : ∀ i, 0 < cross (p i) (p (i + 1)) (p (i + 2))) (apart : ∀ i j, i + 2 ≤ j → j + 2 ≤ i + n → ¬ Touch (p i) (p (i + 1)) (p j) (p (j + 1)))
include turn in
theorem corner (d : Pt) (i : Nat) : k d (D p i (i + 1)) (D p i (i + 2)) + k d (D p i (i + 2)) (D p (i + 1) (i + 2)) = k d (D p i (i + 1)) (D p (i + 1) (i + 2)) := by
  have ht := turn i
  have w1 : wedge (D p i (i + 1)) (D p i (i + 2)) = cross (p i) (p (i + 1)) (p (i + 2)) := by unfold wedge D sub cross; grind
  have w2 : wedge (D p i (i + 2)) (D p (i + 1) (i + 2)) = cross (p i) (p (i + 1)) (p (i + 2)) := by unfold wedge D sub cross; grind
  have w3 : wedge (D p (i + 1) (i + 2)) (D p i (i + 1)) = - cross (p i) (p (i + 1)) (p (i + 2)) := by unfold wedge D sub cross; grind
  have := tri (d := d) (u := D p i (i + 1)) (v := D p i (i + 2)) (w := D p (i + 1) (i + 2)) (by unfold Same3; rw [w1, w2, w3]; grind)
  have := k_anti d (D p i (i + 1)) (D p (i + 1) (i + 2))
  omega

include apart in
theorem strip_aux (d : Pt) (a c : Nat) (h : c + 2 ≤ a + n) : ∀ t, a + t + 1 ≤ c →
    col p d a t c + k d (D p (a + t) c) (D p (a + t) (c + 1)) = k d (D p a c) (D p a (c + 1)) + col p d a t (c + 1) := by
  intro t
  induction t with
  | zero => intro _; simp [col, S]
  | succ t ih =>
    intro ht
    have h1 := ih (by omega)
    have h2 := cell (d := d) (apart (a + t) c (by omega) (by omega))
    unfold col at h1 ⊢
    rw [S, S]
    have e : a + (t + 1) = a + t + 1 := by omega
    rw [e]
    unfold D at h1 ⊢
    omega

include turn apart in
theorem strip (d : Pt) (a m : Nat) (h : m + 3 ≤ n) : col p d a m (a + m + 1) + k d (D p (a + m) (a + m + 1)) (D p (a + m + 1) (a + m + 2)) =
    k d (D p a (a + m + 1)) (D p a (a + m + 2)) + col p d a (m + 1) (a + m + 2) := by
  have h1 := strip_aux apart d a (a + m + 1) (by omega) m (by omega)
  have h2 := corner turn d (a + m)
  have e : col p d a (m + 1) (a + m + 2) = col p d a m (a + m + 2) + k d (D p (a + m) (a + m + 2)) (D p (a + m + 1) (a + m + 2)) := rfl
  rw [e]
  have e2 : a + m + 1 + 1 = a + m + 2 := rfl
  rw [e2] at h1
  omega

include turn apart in
theorem grid (d : Pt) (a m : Nat) (h : m + 2 ≤ n) : diag p d a m = row p d a m + col p d a m (a + m + 1) := by
  induction m with
  | zero => rfl
  | succ m ih =>
    have h1 := ih (by omega)
    have h2 := strip turn apart d a m (by omega)
    have e1 : diag p d a (m + 1) = diag p d a m + k d (D p (a + m) (a + m + 1)) (D p (a + m + 1) (a + m + 2)) := rfl
    have e2 : row p d a (m + 1) = row p d a m + k d (D p a (a + 1 + m)) (D p a (a + 1 + m + 1)) := rfl
    rw [e1, e2, show a + 1 + m = a + m + 1 by omega]
    rw [show a + (m + 1) + 1 = a + m + 2 by omega]
    rw [show a + m + 1 + 1 = a + m + 2 by omega]
    omega
end
end Go.Proofs.YtblopapobmbboaaDoor.Geo
namespace Go.Proofs.YtblopapobmbboaaDoor.Geo

theorem par_d {d u v : Pt} (_hd : 0 < dot d d) (hv : wedge d v = 0) : dot d d * wedge u v = - (dot d v * wedge d u) := by
  unfold dot wedge at *; grind

section
variable {p : Nat → Pt} {n : Nat} (hn : 3 ≤ n) (per : ∀ i, p (i + n) = p i) (turn : ∀ i, 0 < cross (p i) (p (i + 1)) (p (i + 2))) (apart : ∀ i j, i + 2 ≤ j → j + 2 ≤ i + n → ¬ Touch (p i) (p (i + 1)) (p j) (p (j + 1)))
include hn per turn apart in
theorem up_down (d : Pt) (hd : 0 < dot d d) (low : ∀ j, 0 ≤ wedge d (D p 0 j)) (low' : ∀ j, wedge d (D p 0 j) = 0 → 0 ≤ dot d (D p 0 j)) :
    ∀ i, i + 2 ≤ n → ¬ (wedge d (D p i (i + 1)) < 0 ∧ 0 ≤ wedge d (D p (i + 1) (i + 2))) := by
  obtain ⟨m, rfl⟩ : ∃ m, n = m + 3 := ⟨n - 3, by omega⟩
  have pn : p (m + 3) = p 0 := by have := per 0; simpa using this
  have pn1 : p (m + 4) = p 1 := by have := per 1; rwa [show 1 + (m + 3) = m + 4 by omega] at this
  have g := grid turn apart d 0 (m + 1) (by omega)
  have hrow : row p d 0 (m + 1) = 0 := S_zero fun j _ _ => k_same_pos (low j) (low (j + 1))
  have hcol : col p d 0 (m + 1) (m + 2) = k d (D p 0 (m + 2)) (D p 1 (m + 2)) + col p d 1 m (m + 2) := by
    unfold col; exact S_front _ 0 m
  have st := strip turn apart d 1 m (by omega)
  have hcol2 : col p d 1 (m + 1) (m + 3) = 0 := by
    refine S_zero fun i _ _ => ?_
    show k d (D p i (m + 3)) (D p (i + 1) (m + 3)) = 0
    have neg : ∀ i, D p i (m + 3) = ⟨-(D p 0 i).x, -(D p 0 i).y⟩ := by intro i; unfold D; rw [pn]; apply Pt.ext' <;> (unfold sub; grind)
    have e : ∀ i, wedge d (D p i (m + 3)) = - wedge d (D p 0 i) := by intro i; rw [neg]; unfold wedge; grind
    have e' : ∀ i, dot d (D p i (m + 3)) = - dot d (D p 0 i) := by intro i; rw [neg]; unfold dot; grind
    have l1 := low i
    have l2 := low (i + 1)
    by_cases z1 : wedge d (D p 0 i) = 0
    · have d1 := low' i z1
      have z1' : wedge d (D p i (m + 3)) = 0 := by rw [e, z1]; rfl
      by_cases z2 : wedge d (D p 0 (i + 1)) = 0
      · exact k_same_pos (by rw [e]; grind) (by rw [e]; grind)
      · rw [k_down (by rw [e]; grind) (by rw [e]; grind), if_neg]
        have f := par_d (u := D p (i + 1) (m + 3)) hd z1'
        have f2 : wedge (D p i (m + 3)) (D p (i + 1) (m + 3)) = - wedge (D p (i + 1) (m + 3)) (D p i (m + 3)) := by unfold wedge; grind
        have f3 := nn (a := dot d (D p i (m + 3))) (b := wedge d (D p (i + 1) (m + 3))) (by rw [e']; grind) (by rw [e]; grind)
        intro hlt
        have f4 := Rat.mul_pos (a := dot d d) (b := wedge (D p (i + 1) (m + 3)) (D p i (m + 3))) hd (by grind)
        grind
    · by_cases z2 : wedge d (D p 0 (i + 1)) = 0
      · have d2 := low' (i + 1) z2
        have z2' : wedge d (D p (i + 1) (m + 3)) = 0 := by rw [e, z2]; rfl
        rw [k_up (by rw [e]; grind) (by rw [e]; grind), if_neg]
        have f := par_d (u := D p i (m + 3)) hd z2'
        have f3 := nn (a := dot d (D p (i + 1) (m + 3))) (b := wedge d (D p i (m + 3))) (by rw [e']; grind) (by rw [e]; grind)
        intro hlt
        have f4 := Rat.mul_pos hd hlt
        grind
      · exact k_same_neg (by rw [e]; grind) (by rw [e]; grind)
  -- the corner at the beginning of the chain
  have hcorner : k d (D p 0 (m + 2)) (D p 1 (m + 2)) + k d (D p 1 (m + 2)) (D p 1 (m + 3)) = 0 := by
    have t := turn (m + 2)
    rw [show m + 2 + 1 = m + 3 by omega, show m + 2 + 2 = m + 4 by omega, pn, pn1] at t
    have w1 : wedge (D p 0 (m + 2)) (D p 1 (m + 2)) = cross (p (m + 2)) (p 0) (p 1) := by unfold wedge D sub cross; grind
    have w2 : wedge (D p 1 (m + 2)) (D p 1 (m + 3)) = cross (p (m + 2)) (p 0) (p 1) := by unfold D; rw [pn]; unfold wedge sub cross; grind
    have w3 : wedge (D p 1 (m + 3)) (D p 0 (m + 2)) = - cross (p (m + 2)) (p 0) (p 1) := by unfold D; rw [pn]; unfold wedge sub cross; grind
    have a := tri (d := d) (u := D p 0 (m + 2)) (v := D p 1 (m + 2)) (w := D p 1 (m + 3)) (by unfold Same3; rw [w1, w2, w3]; grind)
    have e : D p 1 (m + 3) = ⟨-(D p 0 1).x, -(D p 0 1).y⟩ := by unfold D; rw [pn]; apply Pt.ext' <;> (unfold sub; grind)
    have e1 : wedge d (D p 1 (m + 3)) = - wedge d (D p 0 1) := by rw [e]; unfold wedge; grind
    have l1 := low 1
    have l2 := low (m + 2)
    have b : k d (D p 1 (m + 3)) (D p 0 (m + 2)) = 0 := by
      by_cases z : wedge d (D p 0 1) = 0
      · exact k_same_pos (by rw [e1]; grind) l2
      · rw [k_up (by rw [e1]; grind) l2, if_neg (by rw [w3]; grind)]
    omega
  have e1 : 1 + m + 1 = m + 2 := by omega
  have e2 : 1 + m + 2 = m + 3 := by omega
  have e3 : 1 + m = m + 1 := by omega
  rw [e1, e2, e3] at st
  have hdiag : diag p d 0 (m + 2) = diag p d 0 (m + 1) + k d (D p (m + 1) (m + 2)) (D p (m + 2) (m + 3)) := by
    have : 0 + (m + 1) = m + 1 := by omega
    show S _ 0 (m + 1) + _ = _
    rw [this]; rfl
  rw [show 0 + (m + 1) + 1 = m + 2 by omega] at g
  have hz : diag p d 0 (m + 2) = 0 := by omega
  have nonneg : ∀ i, 0 ≤ i → i < 0 + (m + 2) → 0 ≤ k d (D p i (i + 1)) (D p (i + 1) (i + 2)) := by
    intro i _ _
    have w : wedge (D p i (i + 1)) (D p (i + 1) (i + 2)) = cross (p i) (p (i + 1)) (p (i + 2)) := by unfold wedge D sub cross; grind
    have t := turn i
    unfold k
    split
    · decide
    · split
      · exfalso; rename_i h; rw [w] at h; grind
      · decide
  have all := S_nonneg_zero (f := fun i => k d (D p i (i + 1)) (D p (i + 1) (i + 2))) nonneg (by show diag p d 0 (m + 2) ≤ 0; omega)
  intro i hi ⟨h1, h2⟩
  have := all i (by omega) (by omega)
  have w : wedge (D p i (i + 1)) (D p (i + 1) (i + 2)) = cross (p i) (p (i + 1)) (p (i + 2)) := by unfold wedge D sub cross; grind
  have t := turn i
  rw [k_up h1 h2, if_pos (by rw [w]; exact t)] at this
  exact absurd this (by decide)

/-- A least element of a finite list of pairs. -/
theorem exists_low (a b : Nat → Rat) : ∀ n, 0 < n → ∃ m, m < n ∧ ∀ j, j < n → a m ≤ a j ∧ (a m = a j → b m ≤ b j) := by
  intro n
  induction n with
  | zero => intro h; omega
  | succ n ih =>
    intro _
    by_cases h0 : n = 0
    · subst h0
      refine ⟨0, by omega, fun j hj => ?_⟩
      have : j = 0 := by omega
      subst this
      exact ⟨Rat.le_refl, fun _ => Rat.le_refl⟩
    · obtain ⟨m, hm, hl⟩ := ih (by omega)
      by_cases hb : a n < a m ∨ (a n = a m ∧ b n < b m)
      · refine ⟨n, by omega, fun j hj => ?_⟩
        by_cases e : j = n
        · subst e; exact ⟨Rat.le_refl, fun _ => Rat.le_refl⟩
        · have := hl j (by omega); grind
      · refine ⟨m, by omega, fun j hj => ?_⟩
        by_cases e : j = n
        · subst e; grind
        · exact hl j (by omega)

theorem per_mod (per : ∀ i, p (i + n) = p i) (j : Nat) : p j = p (j % n) := by
  have h : ∀ q r, p (r + n * q) = p r := by
    intro q
    induction q with
    | zero => intro r; simp
    | succ q ih => intro r; rw [Nat.mul_succ, ← Nat.add_assoc, per, ih]
  conv => lhs; rw [← Nat.mod_add_div j n]
  exact h _ _

include hn per turn apart in
/-- A closed chain of left turns whose sides do not meet is convex: every corner lies to the left of every side that it does not end. -/
theorem convex (i j : Nat) (h2 : 2 ≤ j) (hj : j < n) : 0 < cross (p i) (p (i + 1)) (p (i + j)) := by
  obtain ⟨d, hd⟩ : ∃ d, d = D p i (i + 1) := ⟨_, rfl⟩
  have t0 := turn i
  have hdd : 0 < dot d d := by
    have hne : d.x ≠ 0 ∨ d.y ≠ 0 := by
      apply Classical.byContradiction
      intro hc
      have : cross (p i) (p (i + 1)) (p (i + 2)) = d.x * ((p (i + 2)).y - (p i).y) - d.y * ((p (i + 2)).x - (p i).x) := by rw [hd]; unfold cross D sub; grind
      grind
    have sq : ∀ a : Rat, 0 ≤ a * a := fun a => by
      rcases tot 0 a with h | h
      · exact Rat.mul_nonneg h h
      · exact nn h h
    have sq' : ∀ a : Rat, a ≠ 0 → 0 < a * a := fun a ha => Rat.lt_of_le_of_ne (sq a) (fun e => ha (by rcases Rat.mul_eq_zero.1 e.symm with h | h <;> exact h))
    have a1 := sq d.x
    have a2 := sq d.y
    unfold dot
    rcases hne with h | h
    · have := sq' _ h; grind
    · have := sq' _ h; grind
  -- the lowest corner
  obtain ⟨b, hb, hl⟩ := exists_low (fun t => wedge d (p (i + t))) (fun t => dot d (p (i + t))) n (by omega)
  have hall : ∀ t, wedge d (p (i + b)) ≤ wedge d (p t) ∧ (wedge d (p (i + b)) = wedge d (p t) → dot d (p (i + b)) ≤ dot d (p t)) := by
    intro t
    have e : p t = p (i + ((t + n * i - i) % n)) := by
      have hle : i ≤ n * i := Nat.le_mul_of_pos_left _ (by omega)
      rw [per_mod per t, per_mod per (i + _), Nat.add_mod_mod, show i + (t + n * i - i) = t + n * i by omega, Nat.add_mul_mod_self_left]
    rw [e]
    exact hl _ (Nat.mod_lt _ (by omega))
  have ud := up_down (p := fun t => p (i + b + t)) hn (fun t => by show p (i + b + (t + n)) = p (i + b + t); rw [← Nat.add_assoc]; exact per _)
    (fun t => turn _) (fun a c h1 h2 => apart (i + b + a) (i + b + c) (by omega) (by omega)) d hdd
    (fun t => by
      have := (hall (i + b + t)).1
      have e : wedge d (D (fun t => p (i + b + t)) 0 t) = wedge d (p (i + b + t)) - wedge d (p (i + b)) := by unfold D sub wedge; simp only [Nat.add_zero]; grind
      rw [e]; grind)
    (fun t => by
      have := (hall (i + b + t)).2
      have e : wedge d (D (fun t => p (i + b + t)) 0 t) = wedge d (p (i + b + t)) - wedge d (p (i + b)) := by unfold D sub wedge; simp only [Nat.add_zero]; grind
      have e' : dot d (D (fun t => p (i + b + t)) 0 t) = dot d (p (i + b + t)) - dot d (p (i + b)) := by unfold D sub dot; simp only [Nat.add_zero]; grind
      rw [e, e']
      intro h
      have := this (by grind)
      grind)
  have hb0 : b = 0 := by
    apply Classical.byContradiction
    intro hb0
    refine ud (n - b - 1) (by omega) ⟨?_, ?_⟩
    · have t := turn (i + n - 1)
      rw [show i + n - 1 + 1 = i + n by omega, show i + n - 1 + 2 = i + 1 + n by omega, per, per] at t
      have e : D (fun t => p (i + b + t)) (n - b - 1) (n - b - 1 + 1) = D p (i + n - 1) (i + n) := by
        unfold D; simp only []; rw [show i + b + (n - b - 1 + 1) = i + n by omega, show i + b + (n - b - 1) = i + n - 1 by omega]
      rw [e]
      have : wedge d (D p (i + n - 1) (i + n)) = - cross (p (i + n - 1)) (p i) (p (i + 1)) := by rw [hd]; unfold D; rw [per]; unfold wedge sub cross; grind
      rw [this]; grind
    · have e : D (fun t => p (i + b + t)) (n - b - 1 + 1) (n - b - 1 + 2) = D p i (i + 1) := by
        unfold D; simp only []; rw [show i + b + (n - b - 1 + 1) = i + n by omega, show i + b + (n - b - 1 + 2) = i + 1 + n by omega, per, per]
      rw [e, ← hd]
      have : wedge d d = 0 := by unfold wedge; grind
      rw [this]; exact Rat.le_refl
  subst hb0
  have ud' : ∀ t, t + 2 ≤ n → ¬ (wedge d (D p (i + t) (i + t + 1)) < 0 ∧ 0 ≤ wedge d (D p (i + t + 1) (i + t + 2))) := fun t ht => ud t ht
  -- heights
  have f0 : ∀ t, wedge d (D p i (i + (t + 1))) = wedge d (D p i (i + t)) + wedge d (D p (i + t) (i + t + 1)) := by
    intro t; unfold D sub wedge; rw [show i + (t + 1) = i + t + 1 by omega]; grind
  have goal_eq : cross (p i) (p (i + 1)) (p (i + j)) = wedge d (D p i (i + j)) := by rw [hd]; unfold cross wedge D sub; grind
  rw [goal_eq]
  have f2 : 0 < wedge d (D p i (i + 2)) := by
    have : cross (p i) (p (i + 1)) (p (i + 2)) = wedge d (D p i (i + 2)) := by rw [hd]; unfold cross wedge D sub; grind
    rw [← this]; exact t0
  by_cases hup : 0 ≤ wedge d (D p (i + (j - 1)) (i + (j - 1) + 1))
  · -- everything before goes up
    have back : ∀ s, s + 2 ≤ j → 0 ≤ wedge d (D p (i + (j - 1 - s)) (i + (j - 1 - s) + 1)) := by
      intro s
      induction s with
      | zero => intro _; exact hup
      | succ s ih =>
        intro hs
        have h1 := ih (by omega)
        apply Rat.not_lt.1
        intro hneg
        refine ud' (j - 1 - (s + 1)) (by omega) ⟨hneg, ?_⟩
        rw [show i + (j - 1 - (s + 1)) + 1 = i + (j - 1 - s) by omega, show i + (j - 1 - (s + 1)) + 2 = i + (j - 1 - s) + 1 by omega]
        exact h1
    have up : ∀ s, s + 2 ≤ j → 0 < wedge d (D p i (i + (s + 2))) := by
      intro s
      induction s with
      | zero => intro _; exact f2
      | succ s ih =>
        intro hs
        have h1 := ih (by omega)
        have h3 := back (j - 1 - (s + 2)) (by omega)
        rw [show j - 1 - (j - 1 - (s + 2)) = s + 2 by omega] at h3
        rw [show s + 1 + 2 = s + 2 + 1 by omega, f0]
        grind
    have := up (j - 2) (by omega)
    rwa [show j - 2 + 2 = j by omega] at this
  · -- everything behind goes down
    have hneg : wedge d (D p (i + (j - 1)) (i + (j - 1) + 1)) < 0 := Rat.not_le.1 hup
    have fwd : ∀ s, j - 1 + s < n → wedge d (D p (i + (j - 1 + s)) (i + (j - 1 + s) + 1)) < 0 := by
      intro s
      induction s with
      | zero => intro _; exact hneg
      | succ s ih =>
        intro hs
        have h1 := ih (by omega)
        apply Rat.not_le.1
        intro hge
        refine ud' (j - 1 + s) (by omega) ⟨h1, ?_⟩
        rw [show i + (j - 1 + s) + 1 = i + (j - 1 + (s + 1)) by omega, show i + (j - 1 + s) + 2 = i + (j - 1 + (s + 1)) + 1 by omega]
        exact hge
    have fn : wedge d (D p i (i + n)) = 0 := by unfold D; rw [per]; unfold sub wedge; grind
    have down : ∀ s, s + j + 1 ≤ n → 0 < wedge d (D p i (i + (n - 1 - s))) := by
      intro s
      induction s with
      | zero =>
        intro _
        have h1 := fwd (n - 1 - (j - 1)) (by omega)
        rw [show j - 1 + (n - 1 - (j - 1)) = n - 1 by omega] at h1
        have h3 := f0 (n - 1)
        rw [show n - 1 + 1 = n by omega, fn] at h3
        rw [Nat.sub_zero]
        grind
      | succ s ih =>
        intro hs
        have h0 := ih (by omega)
        have h1 := fwd (n - 1 - (s + 1) - (j - 1)) (by omega)
        rw [show j - 1 + (n - 1 - (s + 1) - (j - 1)) = n - 1 - (s + 1) by omega] at h1
        have h3 := f0 (n - 1 - (s + 1))
        rw [show n - 1 - (s + 1) + 1 = n - 1 - s by omega] at h3
        grind
    have := down (n - 1 - j) (by omega)
    rwa [show n - 1 - (n - 1 - j) = j by omega] at this
end
end Go.Proofs.YtblopapobmbboaaDoor.Geo
namespace Go.Proofs.YtblopapobmbboaaDoor.Geo

/-- The place at the part t of the way from c to d. -/
def lerp (c d : Pt) (t : Rat) : Pt := ⟨c.x + (d.x - c.x) * t, c.y + (d.y - c.y) * t⟩
theorem cross_lerp (a b c d : Pt) (t : Rat) : cross a b (lerp c d t) = (1 - t) * cross a b c + t * cross a b d := by unfold cross lerp; grind
theorem cross_lerp1 (a b c d : Pt) (t : Rat) : cross (lerp c d t) a b = (1 - t) * cross c a b + t * cross d a b := by unfold cross lerp; grind
theorem cross_lerp2 (a b c d : Pt) (t : Rat) : cross a (lerp c d t) b = (1 - t) * cross a c b + t * cross a d b := by unfold cross lerp; grind

/-- Where the way from c to d meets the line on which a linear function is 0. -/
def meet (f : Pt → Rat) (c d : Pt) : Pt := lerp c d (f c / (f c - f d))

/-- What a side gives: its beginning, if it lies to the left, and the place where it meets the line. -/
def step (f : Pt → Rat) (c d : Pt) : List Pt := (if 0 ≤ f c then [c] else []) ++ (if f c * f d < 0 then [meet f c d] else [])

/-- The sides of an open chain that goes on at nxt. -/
def seg (f : Pt → Rat) (nxt : Pt) : List Pt → List Pt
  | [] => []
  | [c] => step f c nxt
  | c :: d :: r => step f c d ++ seg f nxt (d :: r)

/-- The part of a polygon to the left of a line. -/
def clip (f : Pt → Rat) : List Pt → List Pt
  | [] => []
  | c :: r => seg f c (c :: r)

theorem seg_append (f : Pt → Rat) (nxt : Pt) (u : List Pt) (h : Pt) (t : List Pt) : seg f nxt (u ++ h :: t) = seg f h u ++ seg f nxt (h :: t) := by
  induction u with
  | nil => rfl
  | cons c u ih =>
    cases u with
    | nil => rfl
    | cons d u =>
      have : c :: d :: u ++ h :: t = c :: d :: (u ++ h :: t) := rfl
      rw [this]
      simp only [seg]
      have e : d :: (u ++ h :: t) = d :: u ++ h :: t := rfl
      rw [e, ih]
      simp

/-- Rotations of a list. -/
def Rot (l m : List Pt) : Prop := ∃ u v, l = u ++ v ∧ m = v ++ u
theorem Rot.refl (l : List Pt) : Rot l l := ⟨[], l, rfl, by simp⟩
theorem Rot.symm {l m : List Pt} (h : Rot l m) : Rot m l := by obtain ⟨u, v, rfl, rfl⟩ := h; exact ⟨v, u, rfl, rfl⟩
theorem Rot.mem {l m : List Pt} (h : Rot l m) (x : Pt) : x ∈ m ↔ x ∈ l := by obtain ⟨u, v, rfl, rfl⟩ := h; simp [or_comm]
theorem Rot.length {l m : List Pt} (h : Rot l m) : m.length = l.length := by obtain ⟨u, v, rfl, rfl⟩ := h; simp [Nat.add_comm]

theorem clip_rot (f : Pt → Rat) {l m : List Pt} (h : Rot l m) : Rot (clip f l) (clip f m) := by
  obtain ⟨u, v, rfl, rfl⟩ := h
  cases u with
  | nil => simp; exact Rot.refl _
  | cons c u =>
    cases v with
    | nil => simp; exact Rot.refl _
    | cons d v =>
      refine ⟨seg f d (c :: u), seg f c (d :: v), ?_, ?_⟩
      · show seg f c (c :: u ++ d :: v) = _
        rw [seg_append]
      · show seg f d (d :: v ++ c :: u) = _
        rw [seg_append]

/-- Every three places, in their order, turn to the left. -/
def TC : List Pt → Prop
  | [] => True
  | c :: r => r.Pairwise (fun d e => 0 < cross c d e) ∧ TC r

theorem TC.sub {l m : List Pt} (h : TC m) (hs : l.Sublist m) : TC l := by
  induction hs with
  | slnil => trivial
  | cons a _ ih => exact ih h.2
  | cons_cons a hs ih => exact ⟨h.1.sublist hs, ih h.2⟩

theorem TC.snoc {l : List Pt} {x : Pt} : TC (l ++ [x]) ↔ TC l ∧ l.Pairwise (fun c d => 0 < cross c d x) := by
  induction l with
  | nil => simp [TC]
  | cons c l ih =>
    simp only [List.cons_append, TC, ih, List.pairwise_append, List.pairwise_cons]
    simp
    grind

theorem TC.rot1 {c : Pt} {l : List Pt} (h : TC (c :: l)) : TC (l ++ [c]) := by
  rw [TC.snoc]
  refine ⟨h.2, h.1.imp fun {a b} hab => ?_⟩
  have : cross a b c = cross c a b := cross_rot c a b
  rw [this]; exact hab

theorem TC.rot {l m : List Pt} (h : TC l) (hr : Rot l m) : TC m := by
  obtain ⟨u, v, rfl, rfl⟩ := hr
  induction u generalizing v with
  | nil => simpa using h
  | cons c u ih =>
    have h1 := TC.rot1 (c := c) (l := u ++ v) h
    rw [List.append_assoc] at h1
    have := ih (v ++ [c]) h1
    simpa using this

theorem TC.three {l : List Pt} {a b c : Pt} (h : TC l) (hs : [a, b, c].Sublist l) : 0 < cross a b c := by
  have := h.sub hs
  simp [TC] at this
  exact this

/-- A linear function. -/
def Aff (f : Pt → Rat) : Prop := ∃ a b c : Rat, ∀ p, f p = a * p.x + b * p.y + c
theorem aff_cross (a b : Pt) : Aff (cross a b) := ⟨a.y - b.y, b.x - a.x, a.x * (a.y - b.y) * (-1) + a.y * (b.x - a.x) * (-1), fun p => by unfold cross; grind⟩
theorem Aff.lerp {f : Pt → Rat} (h : Aff f) (c d : Pt) (t : Rat) : f (lerp c d t) = (1 - t) * f c + t * f d := by
  obtain ⟨a, b, e, hf⟩ := h
  rw [hf, hf, hf]; unfold Geo.lerp; grind
theorem Aff.neg {f : Pt → Rat} (h : Aff f) : Aff (fun p => - f p) := by
  obtain ⟨a, b, e, hf⟩ := h
  exact ⟨-a, -b, -e, fun p => by show - f p = _; rw [hf]; grind⟩
/-- Four places: what a linear function is at them. -/
theorem Aff.four {f : Pt → Rat} (h : Aff f) (p q r s : Pt) : cross q r s * f p + cross p q s * f r = cross p r s * f q + cross p q r * f s := by
  obtain ⟨a, b, e, hf⟩ := h
  rw [hf, hf, hf, hf]; unfold cross; grind
theorem Aff.meet_zero {f : Pt → Rat} (h : Aff f) {c d : Pt} (hc : f c - f d ≠ 0) : f (meet f c d) = 0 := by
  unfold meet
  rw [h.lerp]
  have e : f c / (f c - f d) * (f c - f d) = f c := Rat.div_mul_cancel hc
  generalize f c / (f c - f d) = t at *
  grind

theorem step_pos {f : Pt → Rat} {c d : Pt} (hc : 0 < f c) (hd : 0 ≤ f d) : step f c d = [c] := by
  unfold step
  rw [if_pos (Rat.le_of_lt hc), if_neg (by have := Rat.mul_nonneg (Rat.le_of_lt hc) hd; grind)]; rfl
theorem step_nonneg {f : Pt → Rat} {c d : Pt} (hc : 0 ≤ f c) (hd : 0 ≤ f d) : step f c d = [c] := by
  unfold step
  rw [if_pos hc, if_neg (by have := Rat.mul_nonneg hc hd; grind)]; rfl
theorem step_zero {f : Pt → Rat} {c d : Pt} (hc : f c = 0) : step f c d = [c] := by
  unfold step
  rw [if_pos (by grind), if_neg (by rw [hc]; grind)]; rfl
theorem step_cross {f : Pt → Rat} {c d : Pt} (hc : 0 < f c) (hd : f d < 0) : step f c d = [c, meet f c d] := by
  unfold step
  rw [if_pos (Rat.le_of_lt hc), if_pos (pn' hc hd)]; rfl
theorem step_neg {f : Pt → Rat} {c d : Pt} (hc : f c < 0) (hd : f d ≤ 0) : step f c d = [] := by
  unfold step
  rw [if_neg (by grind), if_neg (by have := nn (Rat.le_of_lt hc) hd; grind)]; rfl
theorem step_back {f : Pt → Rat} {c d : Pt} (hc : f c < 0) (hd : 0 < f d) : step f c d = [meet f c d] := by
  unfold step
  rw [if_neg (by grind), if_pos (np' hc hd)]; rfl

theorem seg_nonneg {f : Pt → Rat} {nxt : Pt} {l : List Pt} (h : ∀ x ∈ l, 0 ≤ f x) (hn : 0 ≤ f nxt) : seg f nxt l = l := by
  induction l with
  | nil => rfl
  | cons c l ih =>
    cases l with
    | nil => exact step_nonneg (h c (by simp)) hn
    | cons d l =>
      simp only [seg]
      rw [step_nonneg (h c (by simp)) (h d (by simp)), ih (fun x hx => h x (by simp at hx ⊢; grind))]
      rfl
theorem seg_neg {f : Pt → Rat} {nxt : Pt} {l : List Pt} (h : ∀ x ∈ l, f x < 0) (hn : f nxt ≤ 0) : seg f nxt l = [] := by
  induction l with
  | nil => rfl
  | cons c l ih =>
    cases l with
    | nil => exact step_neg (h c (by simp)) hn
    | cons d l =>
      simp only [seg]
      rw [step_neg (h c (by simp)) (Rat.le_of_lt (h d (by simp))), ih (fun x hx => h x (by simp at hx ⊢; grind))]
      rfl
theorem clip_nonneg {f : Pt → Rat} {l : List Pt} (h : ∀ x ∈ l, 0 ≤ f x) : clip f l = l := by
  cases l with
  | nil => rfl
  | cons c r => exact seg_nonneg h (h c (by simp))

/-- The places of a clipped polygon are places of it, or lie between two of them; none lies to the right. -/
theorem seg_mem {f : Pt → Rat} (hf : Aff f) {nxt : Pt} {l : List Pt} {x : Pt} (h : x ∈ seg f nxt l) : 0 ≤ f x ∧ ∃ c d t, c ∈ nxt :: l ∧ d ∈ nxt :: l ∧ 0 ≤ t ∧ t ≤ 1 ∧ x = lerp c d t := by
  have hs : ∀ c d, x ∈ step f c d → 0 ≤ f x ∧ ∃ t, 0 ≤ t ∧ t ≤ 1 ∧ x = lerp c d t := by
    intro c d hx
    unfold step at hx
    rcases List.mem_append.1 hx with hx | hx
    · by_cases hc : 0 ≤ f c
      · rw [if_pos hc] at hx
        simp at hx
        subst hx
        exact ⟨hc, 0, Rat.le_refl, by decide, by unfold lerp; apply Pt.ext' <;> simp <;> grind⟩
      · rw [if_neg hc] at hx; simp at hx
    · by_cases hc : f c * f d < 0
      · rw [if_pos hc] at hx
        simp at hx
        subst hx
        have hne : f c - f d ≠ 0 := by
          intro e
          have : f c = f d := by grind
          rw [this] at hc
          rcases tot 0 (f d) with h | h
          · have := Rat.mul_nonneg h h; grind
          · have := nn h h; grind
        refine ⟨by rw [hf.meet_zero hne]; exact Rat.le_refl, f c / (f c - f d), ?_, ?_, rfl⟩
        · have e : f c / (f c - f d) * (f c - f d) = f c := Rat.div_mul_cancel hne
          generalize f c / (f c - f d) = t at *
          rcases tot 0 (f c - f d) with h | h
          · have hp : 0 < f c - f d := Rat.lt_of_le_of_ne h (fun e => hne e.symm)
            have : 0 ≤ f c := by
              apply Rat.not_lt.1; intro hlt
              have := nn' hlt (show f d < 0 by grind); grind
            exact pos_of_mul' (a := f c - f d) hp (by grind)
          · have hp : f c - f d < 0 := Rat.lt_of_le_of_ne h hne
            have : f c ≤ 0 := by
              apply Rat.not_lt.1; intro hlt
              have := Rat.mul_pos hlt (show 0 < f d by grind); grind
            exact neg_of_mul (a := f c - f d) hp (by grind)
        · have e : f c / (f c - f d) * (f c - f d) = f c := Rat.div_mul_cancel hne
          generalize f c / (f c - f d) = t at *
          rcases tot 0 (f c - f d) with h | h
          · have hp : 0 < f c - f d := Rat.lt_of_le_of_ne h (fun e => hne e.symm)
            have : f d ≤ 0 := by
              apply Rat.not_lt.1; intro hlt
              have := Rat.mul_pos (show 0 < f c by grind) hlt; grind
            have := pos_of_mul' (a := f c - f d) (q := 1 - t) hp (by grind)
            grind
          · have hp : f c - f d < 0 := Rat.lt_of_le_of_ne h hne
            have : 0 ≤ f d := by
              apply Rat.not_lt.1; intro hlt
              have := nn' (show f c < 0 by grind) hlt; grind
            have := neg_of_mul (a := f c - f d) (q := 1 - t) hp (by grind)
            grind
      · rw [if_neg hc] at hx; simp at hx
  induction l with
  | nil => simp [seg] at h
  | cons c l ih =>
    cases l with
    | nil =>
      obtain ⟨h0, t, h1, h2, h3⟩ := hs c nxt h
      exact ⟨h0, c, nxt, t, by simp, by simp, h1, h2, h3⟩
    | cons d l =>
      simp only [seg] at h
      rcases List.mem_append.1 h with h | h
      · obtain ⟨h0, t, h1, h2, h3⟩ := hs c d h
        exact ⟨h0, c, d, t, by simp, by simp, h1, h2, h3⟩
      · obtain ⟨h0, a, b, t, ha, hb, h1⟩ := ih h
        exact ⟨h0, a, b, t, by simp at ha ⊢; grind, by simp at hb ⊢; grind, h1⟩
theorem clip_mem {f : Pt → Rat} (hf : Aff f) {l : List Pt} {x : Pt} (h : x ∈ clip f l) : 0 ≤ f x ∧ ∃ c d t, c ∈ l ∧ d ∈ l ∧ 0 ≤ t ∧ t ≤ 1 ∧ x = lerp c d t := by
  cases l with
  | nil => simp [clip] at h
  | cons c r =>
    obtain ⟨h0, a, b, t, ha, hb, h1⟩ := seg_mem hf h
    exact ⟨h0, a, b, t, by simpa using ha, by simpa using hb, h1⟩
theorem clip_ge {f g : Pt → Rat} (hf : Aff f) (hg : Aff g) {l : List Pt} (h : ∀ x ∈ l, 0 ≤ g x) : ∀ x ∈ clip f l, 0 ≤ g x := by
  intro x hx
  obtain ⟨_, c, d, t, hc, hd, h1, h2, rfl⟩ := clip_mem hf hx
  rw [hg.lerp]
  have a := Rat.mul_nonneg (show 0 ≤ 1 - t by grind) (h c hc)
  have b := Rat.mul_nonneg h1 (h d hd)
  grind
end Go.Proofs.YtblopapobmbboaaDoor.Geo
