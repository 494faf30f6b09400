/-
  Plane geometry over the rationals (A): plain Lean, of no program.
  Plane geometry over the rationals (B): plain Lean, of no program.
-/
namespace Go.Proofs.YtbddmkklkbkliaaGreatDoor.Geo

theorem tot (a b : Rat) : a ≤ b ∨ b ≤ a := Rat.le_total
theorem lt_or_eq {a b : Rat} (h : a ≤ b) : a < b ∨ a = b := by
  by_cases e : a = b
  · exact .inr e
  · exact .inl (Rat.lt_of_le_of_ne h e)

theorem np {a b : Rat} (ha : a ≤ 0) (hb : 0 ≤ b) : a * b ≤ 0 := by
  have := Rat.mul_nonneg (a := -a) (b := b) (by grind) hb
  grind
theorem pn {a b : Rat} (ha : 0 ≤ a) (hb : b ≤ 0) : a * b ≤ 0 := by
  have := Rat.mul_nonneg (a := a) (b := -b) ha (by grind)
  grind
theorem nn {a b : Rat} (ha : a ≤ 0) (hb : b ≤ 0) : 0 ≤ a * b := by
  have := Rat.mul_nonneg (a := -a) (b := -b) (by grind) (by grind)
  grind
theorem nn' {a b : Rat} (ha : a < 0) (hb : b < 0) : 0 < a * b := by
  have := Rat.mul_pos (a := -a) (b := -b) (by grind) (by grind)
  grind
theorem np' {a b : Rat} (ha : a < 0) (hb : 0 < b) : a * b < 0 := by
  have := Rat.mul_pos (a := -a) (b := b) (by grind) hb
  grind
theorem pn' {a b : Rat} (ha : 0 < a) (hb : b < 0) : a * b < 0 := by
  have := Rat.mul_pos (a := a) (b := -b) ha (by grind)
  grind
/-- The sign of a factor. -/
theorem neg_of_mul {a q : Rat} (ha : a < 0) (h : a * q ≤ 0) : 0 ≤ q := by
  rcases tot 0 q with hq | hq
  · exact hq
  · rcases lt_or_eq hq with hq | hq
    · have := nn' ha hq; grind
    · grind
theorem neg_of_mul' {a q : Rat} (ha : a < 0) (h : 0 ≤ a * q) : q ≤ 0 := by
  rcases tot q 0 with hq | hq
  · exact hq
  · rcases lt_or_eq hq with hq | hq
    · have := np' ha hq; grind
    · grind
theorem pos_of_mul {a q : Rat} (ha : 0 < a) (h : a * q ≤ 0) : q ≤ 0 := by
  rcases tot q 0 with hq | hq
  · exact hq
  · rcases lt_or_eq hq with hq | hq
    · have := Rat.mul_pos ha hq; grind
    · grind
theorem pos_of_mul' {a q : Rat} (ha : 0 < a) (h : 0 ≤ a * q) : 0 ≤ q := by
  rcases tot 0 q with hq | hq
  · exact hq
  · rcases lt_or_eq hq with hq | hq
    · have := pn' ha hq; grind
    · grind

/-- A place, or the way from one place to another. -/
structure Pt where
  x : Rat
  y : Rat

@[ext] theorem Pt.ext' {p q : Pt} (h1 : p.x = q.x) (h2 : p.y = q.y) : p = q := by
  cases p; cases q; simp_all

def sub (p q : Pt) : Pt := ⟨p.x - q.x, p.y - q.y⟩
def wedge (u v : Pt) : Rat := u.x * v.y - u.y * v.x
def dot (u v : Pt) : Rat := u.x * v.x + u.y * v.y
/-- The number by which three places turn. -/
def cross (a b c : Pt) : Rat := (b.x - a.x) * (c.y - a.y) - (b.y - a.y) * (c.x - a.x)

theorem cross_rot (a b c : Pt) : cross b c a = cross a b c := by unfold cross; grind
theorem cross_swap (a b c : Pt) : cross b a c = - cross a b c := by unfold cross; grind

/-- How a step from u to v goes over the ray in direction d. -/
def k (d u v : Pt) : Int :=
  if wedge d u < 0 ∧ 0 ≤ wedge d v ∧ 0 < wedge u v then 1
  else if wedge d v < 0 ∧ 0 ≤ wedge d u ∧ wedge u v < 0 then -1 else 0

theorem k_anti (d u v : Pt) : k d v u = - k d u v := by
  have e : wedge v u = - wedge u v := by unfold wedge; grind
  unfold k
  rw [e]
  by_cases h1 : wedge d u < 0 ∧ 0 ≤ wedge d v ∧ 0 < wedge u v
  · rw [if_neg (by grind), if_pos (by grind), if_pos h1]
  · by_cases h2 : wedge d v < 0 ∧ 0 ≤ wedge d u ∧ wedge u v < 0
    · rw [if_pos (by grind), if_neg h1, if_pos h2]; rfl
    · rw [if_neg (by grind), if_neg (by grind), if_neg h1, if_neg h2]; rfl

theorem k_same_pos {d u v : Pt} (h1 : 0 ≤ wedge d u) (h2 : 0 ≤ wedge d v) : k d u v = 0 := by
  unfold k; rw [if_neg (by grind), if_neg (by grind)]
theorem k_same_neg {d u v : Pt} (h1 : wedge d u < 0) (h2 : wedge d v < 0) : k d u v = 0 := by
  unfold k; rw [if_neg (by grind), if_neg (by grind)]
theorem k_up {d u v : Pt} (h1 : wedge d u < 0) (h2 : 0 ≤ wedge d v) : k d u v = if 0 < wedge u v then 1 else 0 := by
  unfold k
  by_cases h : 0 < wedge u v
  · rw [if_pos ⟨h1, h2, h⟩, if_pos h]
  · rw [if_neg (by grind), if_neg (by grind), if_neg h]
theorem k_down {d u v : Pt} (h1 : 0 ≤ wedge d u) (h2 : wedge d v < 0) : k d u v = if wedge u v < 0 then -1 else 0 := by
  unfold k
  rw [if_neg (by grind)]
  by_cases h : wedge u v < 0
  · rw [if_pos ⟨h2, h1, h⟩, if_pos h]
  · rw [if_neg (by grind), if_neg h]

theorem plucker (d u v w : Pt) : wedge d u * wedge v w + wedge d v * wedge w u + wedge d w * wedge u v = 0 := by unfold wedge; grind

/-- The origin lies in the triangle. -/
def Same3 (u v w : Pt) : Prop := (0 ≤ wedge u v ∧ 0 ≤ wedge v w ∧ 0 ≤ wedge w u) ∨ (wedge u v ≤ 0 ∧ wedge v w ≤ 0 ∧ wedge w u ≤ 0)

theorem Same3.rot {u v w : Pt} (h : ¬ Same3 u v w) : ¬ Same3 v w u := by unfold Same3 at *; grind

theorem tri_a {d u v w : Pt} (h : ¬ Same3 u v w) (a : wedge d u < 0) (b : 0 ≤ wedge d v) (c : 0 ≤ wedge d w) : k d u v + k d v w + k d w u = 0 := by
  rw [k_up a b, k_same_pos b c, k_down c a]
  have hp := plucker d u v w
  by_cases p : 0 < wedge u v
  · by_cases r : wedge w u < 0
    · rw [if_pos p, if_pos r]; rfl
    · exfalso; apply h; left
      have h1 := Rat.mul_nonneg b (Rat.not_lt.1 r)
      have h2 := Rat.mul_nonneg c (Rat.le_of_lt p)
      have := neg_of_mul (q := wedge v w) a (by grind)
      exact ⟨Rat.le_of_lt p, this, Rat.not_lt.1 r⟩
  · by_cases r : wedge w u < 0
    · exfalso; apply h; right
      have h1 := pn b (Rat.le_of_lt r)
      have h2 := pn c (Rat.not_lt.1 p)
      have := neg_of_mul' (q := wedge v w) a (by grind)
      exact ⟨Rat.not_lt.1 p, this, Rat.le_of_lt r⟩
    · rw [if_neg p, if_neg r]; rfl

theorem tri_b {d u v w : Pt} (h : ¬ Same3 u v w) (a : 0 ≤ wedge d u) (b : wedge d v < 0) (c : wedge d w < 0) : k d u v + k d v w + k d w u = 0 := by
  rw [k_down a b, k_same_neg b c, k_up c a]
  have hp := plucker d u v w
  by_cases p : wedge u v < 0
  · by_cases r : 0 < wedge w u
    · rw [if_pos p, if_pos r]; rfl
    · exfalso; apply h; right
      have h1 := nn (Rat.le_of_lt b) (Rat.not_lt.1 r)
      have h2 := nn' c p
      have ha : 0 < wedge d u := by
        rcases lt_or_eq a with h | h
        · exact h
        · rw [← h] at hp; grind
      have := pos_of_mul (q := wedge v w) ha (by grind)
      exact ⟨Rat.le_of_lt p, this, Rat.not_lt.1 r⟩
  · by_cases r : 0 < wedge w u
    · exfalso; apply h; left
      have h1 := np' b r
      have h2 := np (Rat.le_of_lt c) (Rat.not_lt.1 p)
      have ha : 0 < wedge d u := by
        rcases lt_or_eq a with h | h
        · exact h
        · rw [← h] at hp; grind
      have := pos_of_mul' (q := wedge v w) ha (by grind)
      exact ⟨Rat.not_lt.1 p, this, Rat.le_of_lt r⟩
    · rw [if_neg p, if_neg r]; rfl

theorem tri {d u v w : Pt} (h : ¬ Same3 u v w) : k d u v + k d v w + k d w u = 0 := by
  have h' := Same3.rot h
  have h'' := Same3.rot h'
  by_cases A : wedge d u < 0 <;> by_cases B : wedge d v < 0 <;> by_cases C : wedge d w < 0
  all_goals
    first
      | (rw [k_same_neg A B, k_same_neg B C, k_same_neg C A]; rfl)
      | (rw [k_same_pos (Rat.not_lt.1 A) (Rat.not_lt.1 B), k_same_pos (Rat.not_lt.1 B) (Rat.not_lt.1 C), k_same_pos (Rat.not_lt.1 C) (Rat.not_lt.1 A)]; rfl)
      | exact tri_a h A (Rat.not_lt.1 B) (Rat.not_lt.1 C)
      | exact tri_b h (Rat.not_lt.1 A) B C
      | (have := tri_a h' B (Rat.not_lt.1 C) (Rat.not_lt.1 A); omega)
      | (have := tri_b h' (Rat.not_lt.1 B) C A; omega)
      | (have := tri_a h'' C (Rat.not_lt.1 A) (Rat.not_lt.1 B); omega)
      | (have := tri_b h'' (Rat.not_lt.1 C) A B; omega)

/-- A parallelogram that does not hold the origin: both ways around it come to the same. -/
theorem par {d u0 u1 u2 u3 : Pt} (hx : u0.x + u2.x = u1.x + u3.x) (hy : u0.y + u2.y = u1.y + u3.y)
    (h1 : ¬ (0 ≤ wedge u0 u1 ∧ 0 ≤ wedge u1 u2 ∧ 0 ≤ wedge u2 u3 ∧ 0 ≤ wedge u3 u0)) (h2 : ¬ (wedge u0 u1 ≤ 0 ∧ wedge u1 u2 ≤ 0 ∧ wedge u2 u3 ≤ 0 ∧ wedge u3 u0 ≤ 0)) :
    k d u0 u1 + k d u1 u2 = k d u0 u3 + k d u3 u2 := by
  have e1 : wedge u2 u3 = wedge u2 u0 + wedge u1 u2 := by unfold wedge; grind
  have e2 : wedge u3 u0 = wedge u2 u0 + wedge u0 u1 := by unfold wedge; grind
  have e3 : wedge u0 u2 = - wedge u2 u0 := by unfold wedge; grind
  have t1 : ¬ Same3 u0 u1 u2 := by unfold Same3; grind
  have t2 : ¬ Same3 u0 u2 u3 := by unfold Same3; grind
  have a := tri (d := d) t1
  have b := tri (d := d) t2
  have c1 := k_anti d u0 u2
  have c2 := k_anti d u2 u3
  have c3 := k_anti d u0 u3
  omega

theorem k_zero {d u v : Pt} (h : wedge u v = 0) : k d u v = 0 := by
  unfold k; rw [if_neg (by grind), if_neg (by grind)]

end Go.Proofs.YtbddmkklkbkliaaGreatDoor.Geo
namespace Go.Proofs.YtbddmkklkbkliaaGreatDoor.Geo

/-- Two sides have a place in common: as the program asks it, by four signs. -/
def onB (a b c : Pt) : Prop := min a.x b.x ≤ c.x ∧ c.x ≤ max a.x b.x ∧ min a.y b.y ≤ c.y ∧ c.y ≤ max a.y b.y
def Touch (a b c d : Pt) : Prop :=
  ((0 < cross a b c ∧ cross a b d < 0 ∨ cross a b c < 0 ∧ 0 < cross a b d) ∧ (0 < cross c d a ∧ cross c d b < 0 ∨ cross c d a < 0 ∧ 0 < cross c d b)) ∨
  (cross a b c = 0 ∧ onB a b c) ∨ (cross a b d = 0 ∧ onB a b d) ∨ (cross c d a = 0 ∧ onB c d a) ∨ (cross c d b = 0 ∧ onB c d b)

theorem between_of {a b c l m : Rat} (hl : 0 ≤ l) (hm : 0 ≤ m) (hs : 0 < l + m) (h : (l + m) * c = l * a + m * b) : min a b ≤ c ∧ c ≤ max a b := by
  have key : ∀ a b : Rat, a ≤ b → ∀ l m : Rat, 0 ≤ l → 0 ≤ m → 0 < l + m → (l + m) * c = l * a + m * b → a ≤ c ∧ c ≤ b := by
    intro a b hab l m hl hm hs h
    have h1 := Rat.mul_nonneg hm (show 0 ≤ b - a by grind)
    have h2 := Rat.mul_nonneg hl (show 0 ≤ b - a by grind)
    constructor
    · have := pos_of_mul' (q := c - a) hs (by grind)
      grind
    · have := pos_of_mul' (q := b - c) hs (by grind)
      grind
  rcases tot a b with hab | hab
  · have := key a b hab l m hl hm hs h
    grind
  · have := key b a hab m l hm hl (by grind) (by grind)
    grind

/-- A place on the line through a and b, on which the ends of another side lie on both sides or not at all, lies between a and b. -/
theorem on_of {a b c d : Pt} (h0 : cross a b c = 0) (h1 : cross c d a ≤ 0) (h2 : 0 ≤ cross c d b) (h3 : cross c d a ≠ cross c d b) : onB a b c := by
  have hs : 0 < cross c d b + - cross c d a := by grind
  have ex : (cross c d b + - cross c d a) * c.x = cross c d b * a.x + - cross c d a * b.x := by unfold cross at *; grind
  have ey : (cross c d b + - cross c d a) * c.y = cross c d b * a.y + - cross c d a * b.y := by unfold cross at *; grind
  have hx := between_of h2 (by grind) hs ex
  have hy := between_of h2 (by grind) hs ey
  exact ⟨hx.1, hx.2, hy.1, hy.2⟩
theorem on_of' {a b c d : Pt} (h0 : cross a b c = 0) (h1 : 0 ≤ cross c d a) (h2 : cross c d b ≤ 0) (h3 : cross c d a ≠ cross c d b) : onB a b c := by
  have := on_of (a := b) (b := a) (c := c) (d := d) (by rw [cross_swap, h0]; rfl) h2 h1 (fun e => h3 e.symm)
  unfold onB at *
  grind

theorem sum_cross (a b c d : Pt) : cross a b c + cross c d a = cross a b d + cross c d b := by unfold cross; grind

/-- If the origin lies in the parallelogram of the differences, the sides meet, or all lies on one line. -/
theorem touch_of {a b c d : Pt} (hp : 0 ≤ cross a b c) (hs : 0 ≤ cross c d b) (hq : cross a b d ≤ 0) (hr : cross c d a ≤ 0) :
    Touch a b c d ∨ (cross a b c = 0 ∧ cross c d b = 0 ∧ cross a b d = 0 ∧ cross c d a = 0) := by
  have e := sum_cross a b c d
  by_cases p : cross a b c = 0
  · by_cases z : cross c d a = cross c d b
    · right; grind
    · left; unfold Touch; right; left; exact ⟨p, on_of p hr hs z⟩
  · by_cases q : cross a b d = 0
    · by_cases z : cross c d a = cross c d b
      · exfalso; grind
      · left; unfold Touch; right; right; left
        refine ⟨q, ?_⟩
        have e1 : cross d c a = - cross c d a := cross_swap c d a
        have e2 : cross d c b = - cross c d b := cross_swap c d b
        exact on_of' (c := d) (d := c) q (by grind) (by grind) (by grind)
    · by_cases r : cross c d a = 0
      · left; unfold Touch; right; right; right; left
        exact ⟨r, on_of' (a := c) (b := d) (c := a) (d := b) r hp hq (by grind)⟩
      · by_cases s : cross c d b = 0
        · left; unfold Touch; right; right; right; right
          have e1 : cross b a c = - cross a b c := cross_swap a b c
          have e2 : cross b a d = - cross a b d := cross_swap a b d
          exact ⟨s, on_of (a := c) (b := d) (c := b) (d := a) s (by grind) (by grind) (by grind)⟩
        · left; left; grind
theorem touch_of' {a b c d : Pt} (hp : cross a b c ≤ 0) (hs : cross c d b ≤ 0) (hq : 0 ≤ cross a b d) (hr : 0 ≤ cross c d a) :
    Touch a b c d ∨ (cross a b c = 0 ∧ cross c d b = 0 ∧ cross a b d = 0 ∧ cross c d a = 0) := by
  have e := sum_cross a b c d
  by_cases p : cross a b c = 0
  · by_cases z : cross c d a = cross c d b
    · right; grind
    · left; unfold Touch; right; left; exact ⟨p, on_of' p hr hs z⟩
  · by_cases q : cross a b d = 0
    · by_cases z : cross c d a = cross c d b
      · exfalso; grind
      · left; unfold Touch; right; right; left
        refine ⟨q, ?_⟩
        have e1 : cross d c a = - cross c d a := cross_swap c d a
        have e2 : cross d c b = - cross c d b := cross_swap c d b
        exact on_of (c := d) (d := c) q (by grind) (by grind) (by grind)
    · by_cases r : cross c d a = 0
      · left; unfold Touch; right; right; right; left
        exact ⟨r, on_of (a := c) (b := d) (c := a) (d := b) r hp hq (by grind)⟩
      · by_cases s : cross c d b = 0
        · left; unfold Touch; right; right; right; right
          have e1 : cross b a c = - cross a b c := cross_swap a b c
          have e2 : cross b a d = - cross a b d := cross_swap a b d
          exact ⟨s, on_of' (a := c) (b := d) (c := b) (d := a) s (by grind) (by grind) (by grind)⟩
        · left; left; grind

/-- Two sides that do not meet: the cell of differences turns nothing. -/
theorem cell {d a b c e : Pt} (h : ¬ Touch a b c e) : k d (sub c a) (sub c b) + k d (sub c b) (sub e b) = k d (sub c a) (sub e a) + k d (sub e a) (sub e b) := by
  have w1 : wedge (sub c a) (sub c b) = cross a b c := by unfold wedge sub cross; grind
  have w2 : wedge (sub c b) (sub e b) = cross c e b := by unfold wedge sub cross; grind
  have w3 : wedge (sub e b) (sub e a) = - cross a b e := by unfold wedge sub cross; grind
  have w4 : wedge (sub e a) (sub c a) = - cross c e a := by unfold wedge sub cross; grind
  by_cases z : cross a b c = 0 ∧ cross c e b = 0 ∧ cross a b e = 0 ∧ cross c e a = 0
  · obtain ⟨z1, z2, z3, z4⟩ := z
    have w5 : wedge (sub e a) (sub e b) = cross a b e := by unfold wedge sub cross; grind
    have w6 : wedge (sub c a) (sub e a) = cross c e a := by unfold wedge sub cross; grind
    rw [k_zero (by rw [w1, z1]), k_zero (by rw [w2, z2]), k_zero (by rw [w6, z4]), k_zero (by rw [w5, z3])]
  · refine par (u0 := sub c a) (u1 := sub c b) (u2 := sub e b) (u3 := sub e a) (by unfold sub; grind) (by unfold sub; grind) ?_ ?_
    · rw [w1, w2, w3, w4]
      rintro ⟨g1, g2, g3, g4⟩
      rcases touch_of g1 g2 (by grind) (by grind) with t | t
      · exact h t
      · exact z t
    · rw [w1, w2, w3, w4]
      rintro ⟨g1, g2, g3, g4⟩
      rcases touch_of' g1 g2 (by grind) (by grind) with t | t
      · exact h t
      · exact z t

/-- Sums. -/
def S (f : Nat → Int) (a : Nat) : Nat → Int
  | 0 => 0
  | m + 1 => S f a m + f (a + m)
theorem S_front (f : Nat → Int) (a m : Nat) : S f a (m + 1) = f a + S f (a + 1) m := by
  induction m with
  | zero => simp [S]
  | succ m ih => rw [S, ih]; simp only [S]; rw [show a + (m + 1) = a + 1 + m by omega]; omega
theorem S_zero {f : Nat → Int} {a m : Nat} (h : ∀ i, a ≤ i → i < a + m → f i = 0) : S f a m = 0 := by
  induction m with
  | zero => rfl
  | succ m ih => rw [S, ih (fun i h1 h2 => h i h1 (by omega)), h _ (by omega) (by omega)]; rfl
theorem S_nonneg_zero {f : Nat → Int} {a m : Nat} (h : ∀ i, a ≤ i → i < a + m → 0 ≤ f i) (hs : S f a m ≤ 0) : ∀ i, a ≤ i → i < a + m → f i = 0 := by
  have hn : ∀ m, (∀ i, a ≤ i → i < a + m → 0 ≤ f i) → 0 ≤ S f a m := by
    intro m
    induction m with
    | zero => intro _; exact Int.le_refl _
    | succ m ih => intro h; rw [S]; have := ih (fun i h1 h2 => h i h1 (by omega)); have := h (a + m) (by omega) (by omega); omega
  induction m with
  | zero => intro i h1 h2; omega
  | succ m ih =>
    rw [S] at hs
    have h1 := hn m (fun i h1 h2 => h i h1 (by omega))
    have h2 := h (a + m) (by omega) (by omega)
    intro i hi1 hi2
    by_cases e : i = a + m
    · subst e; omega
    · exact ih (fun i h1 h2 => h i h1 (by omega)) (by omega) i hi1 (by omega)

section
variable (p : Nat → Pt)
def D (i j : Nat) : Pt := sub (p j) (p i)
def col (d : Pt) (a m c : Nat) : Int := S (fun i => k d (D p i c) (D p (i + 1) c)) a m
def row (d : Pt) (a m : Nat) : Int := S (fun j => k d (D p a j) (D p a (j + 1))) (a + 1) m
def diag (d : Pt) (a m : Nat) : Int := S (fun i => k d (D p i (i + 1)) (D p (i + 1) (i + 2))) a m

variable {p} {n : Nat} (turn : ∀ i, 0 < cross (p i) (p (i + 1)) (p (i + 2))) (apart : ∀ i j, i + 2 ≤ j → j + 2 ≤ i + n → ¬ Touch (p i) (p (i + 1)) (p j) (p (j + 1)))
include turn in
theorem corner (d : Pt) (i : Nat) : k d (D p i (i + 1)) (D p i (i + 2)) + k d (D p i (i + 2)) (D p (i + 1) (i + 2)) = k d (D p i (i + 1)) (D p (i + 1) (i + 2)) := by
  have ht := turn i
  have w1 : wedge (D p i (i + 1)) (D p i (i + 2)) = cross (p i) (p (i + 1)) (p (i + 2)) := by unfold wedge D sub cross; grind
  have w2 : wedge (D p i (i + 2)) (D p (i + 1) (i + 2)) = cross (p i) (p (i + 1)) (p (i + 2)) := by unfold wedge D sub cross; grind
  have w3 : wedge (D p (i + 1) (i + 2)) (D p i (i + 1)) = - cross (p i) (p (i + 1)) (p (i + 2)) := by unfold wedge D sub cross; grind
  have := tri (d := d) (u := D p i (i + 1)) (v := D p i (i + 2)) (w := D p (i + 1) (i + 2)) (by unfold Same3; rw [w1, w2, w3]; grind)
  have := k_anti d (D p i (i + 1)) (D p (i + 1) (i + 2))
  omega

include apart in
theorem strip_aux (d : Pt) (a c : Nat) (h : c + 2 ≤ a + n) : ∀ t, a + t + 1 ≤ c →
    col p d a t c + k d (D p (a + t) c) (D p (a + t) (c + 1)) = k d (D p a c) (D p a (c + 1)) + col p d a t (c + 1) := by
  intro t
  induction t with
  | zero => intro _; simp [col, S]
  | succ t ih =>
    intro ht
    have h1 := ih (by omega)
    have h2 := cell (d := d) (apart (a + t) c (by omega) (by omega))
    unfold col at h1 ⊢
    rw [S, S]
    have e : a + (t + 1) = a + t + 1 := by omega
    rw [e]
    unfold D at h1 ⊢
    omega

include turn apart in
theorem strip (d : Pt) (a m : Nat) (h : m + 3 ≤ n) : col p d a m (a + m + 1) + k d (D p (a + m) (a + m + 1)) (D p (a + m + 1) (a + m + 2)) =
    k d (D p a (a + m + 1)) (D p a (a + m + 2)) + col p d a (m + 1) (a + m + 2) := by
  have h1 := strip_aux apart d a (a + m + 1) (by omega) m (by omega)
  have h2 := corner turn d (a + m)
  have e : col p d a (m + 1) (a + m + 2) = col p d a m (a + m + 2) + k d (D p (a + m) (a + m + 2)) (D p (a + m + 1) (a + m + 2)) := rfl
  rw [e]
  have e2 : a + m + 1 + 1 = a + m + 2 := rfl
  rw [e2] at h1
  omega

include turn apart in
theorem grid (d : Pt) (a m : Nat) (h : m + 2 ≤ n) : diag p d a m = row p d a m + col p d a m (a + m + 1) := by
  induction m with
  | zero => rfl
  | succ m ih =>
    have h1 := ih (by omega)
    have h2 := strip turn apart d a m (by omega)
    have e1 : diag p d a (m + 1) = diag p d a m + k d (D p (a + m) (a + m + 1)) (D p (a + m + 1) (a + m + 2)) := rfl
    have e2 : row p d a (m + 1) = row p d a m + k d (D p a (a + 1 + m)) (D p a (a + 1 + m + 1)) := rfl
    rw [e1, e2, show a + 1 + m = a + m + 1 by omega]
    rw [show a + (m + 1) + 1 = a + m + 2 by omega]
    rw [show a + m + 1 + 1 = a + m + 2 by omega]
    omega
end
end Go.Proofs.YtbddmkklkbkliaaGreatDoor.Geo
namespace Go.Proofs.YtbddmkklkbkliaaGreatDoor.Geo

theorem par_d {d u v : Pt} (_hd : 0 < dot d d) (hv : wedge d v = 0) : dot d d * wedge u v = - (dot d v * wedge d u) := by
  unfold dot wedge at *; grind

section
variable {p : Nat → Pt} {n : Nat} (hn : 3 ≤ n) (per : ∀ i, p (i + n) = p i) (turn : ∀ i, 0 < cross (p i) (p (i + 1)) (p (i + 2))) (apart : ∀ i j, i + 2 ≤ j → j + 2 ≤ i + n → ¬ Touch (p i) (p (i + 1)) (p j) (p (j + 1)))
include hn per turn apart in
theorem up_down (d : Pt) (hd : 0 < dot d d) (low : ∀ j, 0 ≤ wedge d (D p 0 j)) (low' : ∀ j, wedge d (D p 0 j) = 0 → 0 ≤ dot d (D p 0 j)) :
    ∀ i, i + 2 ≤ n → ¬ (wedge d (D p i (i + 1)) < 0 ∧ 0 ≤ wedge d (D p (i + 1) (i + 2))) := by
  obtain ⟨m, rfl⟩ : ∃ m, n = m + 3 := ⟨n - 3, by omega⟩
  have pn : p (m + 3) = p 0 := by have := per 0; simpa using this
  have pn1 : p (m + 4) = p 1 := by have := per 1; rwa [show 1 + (m + 3) = m + 4 by omega] at this
  have g := grid turn apart d 0 (m + 1) (by omega)
  have hrow : row p d 0 (m + 1) = 0 := S_zero fun j _ _ => k_same_pos (low j) (low (j + 1))
  have hcol : col p d 0 (m + 1) (m + 2) = k d (D p 0 (m + 2)) (D p 1 (m + 2)) + col p d 1 m (m + 2) := by
    unfold col; exact S_front _ 0 m
  have st := strip turn apart d 1 m (by omega)
  have hcol2 : col p d 1 (m + 1) (m + 3) = 0 := by
    refine S_zero fun i _ _ => ?_
    show k d (D p i (m + 3)) (D p (i + 1) (m + 3)) = 0
    have neg : ∀ i, D p i (m + 3) = ⟨-(D p 0 i).x, -(D p 0 i).y⟩ := by intro i; unfold D; rw [pn]; apply Pt.ext' <;> (unfold sub; grind)
    have e : ∀ i, wedge d (D p i (m + 3)) = - wedge d (D p 0 i) := by intro i; rw [neg]; unfold wedge; grind
    have e' : ∀ i, dot d (D p i (m + 3)) = - dot d (D p 0 i) := by intro i; rw [neg]; unfold dot; grind
    have l1 := low i
    have l2 := low (i + 1)
    by_cases z1 : wedge d (D p 0 i) = 0
    · have d1 := low' i z1
      have z1' : wedge d (D p i (m + 3)) = 0 := by rw [e, z1]; rfl
      by_cases z2 : wedge d (D p 0 (i + 1)) = 0
      · exact k_same_pos (by rw [e]; grind) (by rw [e]; grind)
      · rw [k_down (by rw [e]; grind) (by rw [e]; grind), if_neg]
        have f := par_d (u := D p (i + 1) (m + 3)) hd z1'
        have f2 : wedge (D p i (m + 3)) (D p (i + 1) (m + 3)) = - wedge (D p (i + 1) (m + 3)) (D p i (m + 3)) := by unfold wedge; grind
        have f3 := nn (a := dot d (D p i (m + 3))) (b := wedge d (D p (i + 1) (m + 3))) (by rw [e']; grind) (by rw [e]; grind)
        intro hlt
        have f4 := Rat.mul_pos (a := dot d d) (b := wedge (D p (i + 1) (m + 3)) (D p i (m + 3))) hd (by grind)
        grind
    · by_cases z2 : wedge d (D p 0 (i + 1)) = 0
      · have d2 := low' (i + 1) z2
        have z2' : wedge d (D p (i + 1) (m + 3)) = 0 := by rw [e, z2]; rfl
        rw [k_up (by rw [e]; grind) (by rw [e]; grind), if_neg]
        have f := par_d (u := D p i (m + 3)) hd z2'
        have f3 := nn (a := dot d (D p (i + 1) (m + 3))) (b := wedge d (D p i (m + 3))) (by rw [e']; grind) (by rw [e]; grind)
        intro hlt
        have f4 := Rat.mul_pos hd hlt
        grind
      · exact k_same_neg (by rw [e]; grind) (by rw [e]; grind)
  -- the corner at the beginning of the chain
  have hcorner : k d (D p 0 (m + 2)) (D p 1 (m + 2)) + k d (D p 1 (m + 2)) (D p 1 (m + 3)) = 0 := by
    have t := turn (m + 2)
    rw [show m + 2 + 1 = m + 3 by omega, show m + 2 + 2 = m + 4 by omega, pn, pn1] at t
    have w1 : wedge (D p 0 (m + 2)) (D p 1 (m + 2)) = cross (p (m + 2)) (p 0) (p 1) := by unfold wedge D sub cross; grind
    have w2 : wedge (D p 1 (m + 2)) (D p 1 (m + 3)) = cross (p (m + 2)) (p 0) (p 1) := by unfold D; rw [pn]; unfold wedge sub cross; grind
    have w3 : wedge (D p 1 (m + 3)) (D p 0 (m + 2)) = - cross (p (m + 2)) (p 0) (p 1) := by unfold D; rw [pn]; unfold wedge sub cross; grind
    have a := tri (d := d) (u := D p 0 (m + 2)) (v := D p 1 (m + 2)) (w := D p 1 (m + 3)) (by unfold Same3; rw [w1, w2, w3]; grind)
    have e : D p 1 (m + 3) = ⟨-(D p 0 1).x, -(D p 0 1).y⟩ := by unfold D; rw [pn]; apply Pt.ext' <;> (unfold sub; grind)
    have e1 : wedge d (D p 1 (m + 3)) = - wedge d (D p 0 1) := by rw [e]; unfold wedge; grind
    have l1 := low 1
    have l2 := low (m + 2)
    have b : k d (D p 1 (m + 3)) (D p 0 (m + 2)) = 0 := by
      by_cases z : wedge d (D p 0 1) = 0
      · exact k_same_pos (by rw [e1]; grind) l2
      · rw [k_up (by rw [e1]; grind) l2, if_neg (by rw [w3]; grind)]
    omega
  have e1 : 1 + m + 1 = m + 2 := by omega
  have e2 : 1 + m + 2 = m + 3 := by omega
  have e3 : 1 + m = m + 1 := by omega
  rw [e1, e2, e3] at st
  have hdiag : diag p d 0 (m + 2) = diag p d 0 (m + 1) + k d (D p (m + 1) (m + 2)) (D p (m + 2) (m + 3)) := by
    have : 0 + (m + 1) = m + 1 := by omega
    show S _ 0 (m + 1) + _ = _
    rw [this]; rfl
  rw [show 0 + (m + 1) + 1 = m + 2 by omega] at g
  have hz : diag p d 0 (m + 2) = 0 := by omega
  have nonneg : ∀ i, 0 ≤ i → i < 0 + (m + 2) → 0 ≤ k d (D p i (i + 1)) (D p (i + 1) (i + 2)) := by
    intro i _ _
    have w : wedge (D p i (i + 1)) (D p (i + 1) (i + 2)) = cross (p i) (p (i + 1)) (p (i + 2)) := by unfold wedge D sub cross; grind
    have t := turn i
    unfold k
    split
    · decide
    · split
      · exfalso; rename_i h; rw [w] at h; grind
      · decide
  have all := S_nonneg_zero (f := fun i => k d (D p i (i + 1)) (D p (i + 1) (i + 2))) nonneg (by show diag p d 0 (m + 2) ≤ 0; omega)
  intro i hi ⟨h1, h2⟩
  have := all i (by omega) (by omega)
  have w : wedge (D p i (i + 1)) (D p (i + 1) (i + 2)) = cross (p i) (p (i + 1)) (p (i + 2)) := by unfold wedge D sub cross; grind
  have t := turn i
  rw [k_up h1 h2, if_pos (by rw [w]; exact t)] at this
  exact absurd this (by decide)

/-- A least element of a finite list of pairs. -/
theorem exists_low (a b : Nat → Rat) : ∀ n, 0 < n → ∃ m, m < n ∧ ∀ j, j < n → a m ≤ a j ∧ (a m = a j → b m ≤ b j) := by
  intro n
  induction n with
  | zero => intro h; omega
  | succ n ih =>
    intro _
    by_cases h0 : n = 0
    · subst h0
      refine ⟨0, by omega, fun j hj => ?_⟩
      have : j = 0 := by omega
      subst this
      exact ⟨Rat.le_refl, fun _ => Rat.le_refl⟩
    · obtain ⟨m, hm, hl⟩ := ih (by omega)
      by_cases hb : a n < a m ∨ (a n = a m ∧ b n < b m)
      · refine ⟨n, by omega, fun j hj => ?_⟩
        by_cases e : j = n
        · subst e; exact ⟨Rat.le_refl, fun _ => Rat.le_refl⟩
        · have := hl j (by omega); grind
      · refine ⟨m, by omega, fun j hj => ?_⟩
        by_cases e : j = n
        · subst e; grind
        · exact hl j (by omega)

theorem per_mod (per : ∀ i, p (i + n) = p i) (j : Nat) : p j = p (j % n) := by
  have h : ∀ q r, p (r + n * q) = p r := by
    intro q
    induction q with
    | zero => intro r; simp
    | succ q ih => intro r; rw [Nat.mul_succ, ← Nat.add_assoc, per, ih]
  conv => lhs; rw [← Nat.mod_add_div j n]
  exact h _ _

include hn per turn apart in
/-- A closed chain of left turns whose sides do not meet is convex: every corner lies to the left of every side that it does not end. -/
theorem convex (i j : Nat) (h2 : 2 ≤ j) (hj : j < n) : 0 < cross (p i) (p (i + 1)) (p (i + j)) := by
  obtain ⟨d, hd⟩ : ∃ d, d = D p i (i + 1) := ⟨_, rfl⟩
  have t0 := turn i
  have hdd : 0 < dot d d := by
    have hne : d.x ≠ 0 ∨ d.y ≠ 0 := by
      apply Classical.byContradiction
      intro hc
      have : cross (p i) (p (i + 1)) (p (i + 2)) = d.x * ((p (i + 2)).y - (p i).y) - d.y * ((p (i + 2)).x - (p i).x) := by rw [hd]; unfold cross D sub; grind
      grind
    have sq : ∀ a : Rat, 0 ≤ a * a := fun a => by
      rcases tot 0 a with h | h
      · exact Rat.mul_nonneg h h
      · exact nn h h
    have sq' : ∀ a : Rat, a ≠ 0 → 0 < a * a := fun a ha => Rat.lt_of_le_of_ne (sq a) (fun e => ha (by rcases Rat.mul_eq_zero.1 e.symm with h | h <;> exact h))
    have a1 := sq d.x
    have a2 := sq d.y
    unfold dot
    rcases hne with h | h
    · have := sq' _ h; grind
    · have := sq' _ h; grind
  -- the lowest corner
  obtain ⟨b, hb, hl⟩ := exists_low (fun t => wedge d (p (i + t))) (fun t => dot d (p (i + t))) n (by omega)
  have hall : ∀ t, wedge d (p (i + b)) ≤ wedge d (p t) ∧ (wedge d (p (i + b)) = wedge d (p t) → dot d (p (i + b)) ≤ dot d (p t)) := by
    intro t
    have e : p t = p (i + ((t + n * i - i) % n)) := by
      have hle : i ≤ n * i := Nat.le_mul_of_pos_left _ (by omega)
      rw [per_mod per t, per_mod per (i + _), Nat.add_mod_mod, show i + (t + n * i - i) = t + n * i by omega, Nat.add_mul_mod_self_left]
    rw [e]
    exact hl _ (Nat.mod_lt _ (by omega))
  have ud := up_down (p := fun t => p (i + b + t)) hn (fun t => by show p (i + b + (t + n)) = p (i + b + t); rw [← Nat.add_assoc]; exact per _)
    (fun t => turn _) (fun a c h1 h2 => apart (i + b + a) (i + b + c) (by omega) (by omega)) d hdd
    (fun t => by
      have := (hall (i + b + t)).1
      have e : wedge d (D (fun t => p (i + b + t)) 0 t) = wedge d (p (i + b + t)) - wedge d (p (i + b)) := by unfold D sub wedge; simp only [Nat.add_zero]; grind
      rw [e]; grind)
    (fun t => by
      have := (hall (i + b + t)).2
      have e : wedge d (D (fun t => p (i + b + t)) 0 t) = wedge d (p (i + b + t)) - wedge d (p (i + b)) := by unfold D sub wedge; simp only [Nat.add_zero]; grind
      have e' : dot d (D (fun t => p (i + b + t)) 0 t) = dot d (p (i + b + t)) - dot d (p (i + b)) := by unfold D sub dot; simp only [Nat.add_zero]; grind
      rw [e, e']
      intro h
      have := this (by grind)
      grind)
  have hb0 : b = 0 := by
    apply Classical.byContradiction
    intro hb0
    refine ud (n - b - 1) (by omega) ⟨?_, ?_⟩
    · have t := turn (i + n - 1)
      rw [show i + n - 1 + 1 = i + n by omega, show i + n - 1 + 2 = i + 1 + n by omega, per, per] at t
      have e : D (fun t => p (i + b + t)) (n - b - 1) (n - b - 1 + 1) = D p (i + n - 1) (i + n) := by
        unfold D; simp only []; rw [show i + b + (n - b - 1 + 1) = i + n by omega, show i + b + (n - b - 1) = i + n - 1 by omega]
      rw [e]
      have : wedge d (D p (i + n - 1) (i + n)) = - cross (p (i + n - 1)) (p i) (p (i + 1)) := by rw [hd]; unfold D; rw [per]; unfold wedge sub cross; grind
      rw [this]; grind
    · have e : D (fun t => p (i + b + t)) (n - b - 1 + 1) (n - b - 1 + 2) = D p i (i + 1) := by
        unfold D; simp only []; rw [show i + b + (n - b - 1 + 1) = i + n by omega, show i + b + (n - b - 1 + 2) = i + 1 + n by omega, per, per]
      rw [e, ← hd]
      have : wedge d d = 0 := by unfold wedge; grind
      rw [this]; exact Rat.le_refl
  subst hb0
  have ud' : ∀ t, t + 2 ≤ n → ¬ (wedge d (D p (i + t) (i + t + 1)) < 0 ∧ 0 ≤ wedge d (D p (i + t + 1) (i + t + 2))) := fun t ht => ud t ht
  -- heights
  have f0 : ∀ t, wedge d (D p i (i + (t + 1))) = wedge d (D p i (i + t)) + wedge d (D p (i + t) (i + t + 1)) := by
    intro t; unfold D sub wedge; rw [show i + (t + 1) = i + t + 1 by omega]; grind
  have goal_eq : cross (p i) (p (i + 1)) (p (i + j)) = wedge d (D p i (i + j)) := by rw [hd]; unfold cross wedge D sub; grind
  rw [goal_eq]
  have f2 : 0 < wedge d (D p i (i + 2)) := by
    have : cross (p i) (p (i + 1)) (p (i + 2)) = wedge d (D p i (i + 2)) := by rw [hd]; unfold cross wedge D sub; grind
    rw [← this]; exact t0
  by_cases hup : 0 ≤ wedge d (D p (i + (j - 1)) (i + (j - 1) + 1))
  · -- everything before goes up
    have back : ∀ s, s + 2 ≤ j → 0 ≤ wedge d (D p (i + (j - 1 - s)) (i + (j - 1 - s) + 1)) := by
      intro s
      induction s with
      | zero => intro _; exact hup
      | succ s ih =>
        intro hs
        have h1 := ih (by omega)
        apply Rat.not_lt.1
        intro hneg
        refine ud' (j - 1 - (s + 1)) (by omega) ⟨hneg, ?_⟩
        rw [show i + (j - 1 - (s + 1)) + 1 = i + (j - 1 - s) by omega, show i + (j - 1 - (s + 1)) + 2 = i + (j - 1 - s) + 1 by omega]
        exact h1
    have up : ∀ s, s + 2 ≤ j → 0 < wedge d (D p i (i + (s + 2))) := by
      intro s
      induction s with
      | zero => intro _; exact f2
      | succ s ih =>
        intro hs
        have h1 := ih (by omega)
        have h3 := back (j - 1 - (s + 2)) (by omega)
        rw [show j - 1 - (j - 1 - (s + 2)) = s + 2 by omega] at h3
        rw [show s + 1 + 2 = s + 2 + 1 by omega, f0]
        grind
    have := up (j - 2) (by omega)
    rwa [show j - 2 + 2 = j by omega] at this
  · -- everything behind goes down
    have hneg : wedge d (D p (i + (j - 1)) (i + (j - 1) + 1)) < 0 := Rat.not_le.1 hup
    have fwd : ∀ s, j - 1 + s < n → wedge d (D p (i + (j - 1 + s)) (i + (j - 1 + s) + 1)) < 0 := by
      intro s
      induction s with
      | zero => intro _; exact hneg
      | succ s ih =>
        intro hs
        have h1 := ih (by omega)
        apply Rat.not_le.1
        intro hge
        refine ud' (j - 1 + s) (by omega) ⟨h1, ?_⟩
        rw [show i + (j - 1 + s) + 1 = i + (j - 1 + (s + 1)) by omega, show i + (j - 1 + s) + 2 = i + (j - 1 + (s + 1)) + 1 by omega]
        exact hge
    have fn : wedge d (D p i (i + n)) = 0 := by unfold D; rw [per]; unfold sub wedge; grind
    have down : ∀ s, s + j + 1 ≤ n → 0 < wedge d (D p i (i + (n - 1 - s))) := by
      intro s
      induction s with
      | zero =>
        intro _
        have h1 := fwd (n - 1 - (j - 1)) (by omega)
        rw [show j - 1 + (n - 1 - (j - 1)) = n - 1 by omega] at h1
        have h3 := f0 (n - 1)
        rw [show n - 1 + 1 = n by omega, fn] at h3
        rw [Nat.sub_zero]
        grind
      | succ s ih =>
        intro hs
        have h0 := ih (by omega)
        have h1 := fwd (n - 1 - (s + 1) - (j - 1)) (by omega)
        rw [show j - 1 + (n - 1 - (s + 1) - (j - 1)) = n - 1 - (s + 1) by omega] at h1
        have h3 := f0 (n - 1 - (s + 1))
        rw [show n - 1 - (s + 1) + 1 = n - 1 - s by omega] at h3
        grind
    have := down (n - 1 - j) (by omega)
    rwa [show n - 1 - (n - 1 - j) = j by omega] at this
end
end Go.Proofs.YtbddmkklkbkliaaGreatDoor.Geo
namespace Go.Proofs.YtbddmkklkbkliaaGreatDoor.Geo

/-- The place at the part t of the way from c to d. -/
def lerp (c d : Pt) (t : Rat) : Pt := ⟨c.x + (d.x - c.x) * t, c.y + (d.y - c.y) * t⟩
theorem cross_lerp (a b c d : Pt) (t : Rat) : cross a b (lerp c d t) = (1 - t) * cross a b c + t * cross a b d := by unfold cross lerp; grind
theorem cross_lerp1 (a b c d : Pt) (t : Rat) : cross (lerp c d t) a b = (1 - t) * cross c a b + t * cross d a b := by unfold cross lerp; grind
theorem cross_lerp2 (a b c d : Pt) (t : Rat) : cross a (lerp c d t) b = (1 - t) * cross a c b + t * cross a d b := by unfold cross lerp; grind

/-- Where the way from c to d meets the line on which a linear function is 0. -/
def meet (f : Pt → Rat) (c d : Pt) : Pt := lerp c d (f c / (f c - f d))

/-- What a side gives: its beginning, if it lies to the left, and the place where it meets the line. -/
def step (f : Pt → Rat) (c d : Pt) : List Pt := (if 0 ≤ f c then [c] else []) ++ (if f c * f d < 0 then [meet f c d] else [])

/-- The sides of an open chain that goes on at nxt. -/
def seg (f : Pt → Rat) (nxt : Pt) : List Pt → List Pt
  | [] => []
  | [c] => step f c nxt
  | c :: d :: r => step f c d ++ seg f nxt (d :: r)

/-- The part of a polygon to the left of a line. -/
def clip (f : Pt → Rat) : List Pt → List Pt
  | [] => []
  | c :: r => seg f c (c :: r)

theorem seg_append (f : Pt → Rat) (nxt : Pt) (u : List Pt) (h : Pt) (t : List Pt) : seg f nxt (u ++ h :: t) = seg f h u ++ seg f nxt (h :: t) := by
  induction u with
  | nil => rfl
  | cons c u ih =>
    cases u with
    | nil => rfl
    | cons d u =>
      have : c :: d :: u ++ h :: t = c :: d :: (u ++ h :: t) := rfl
      rw [this]
      simp only [seg]
      have e : d :: (u ++ h :: t) = d :: u ++ h :: t := rfl
      rw [e, ih]
      simp

/-- Rotations of a list. -/
def Rot (l m : List Pt) : Prop := ∃ u v, l = u ++ v ∧ m = v ++ u
theorem Rot.refl (l : List Pt) : Rot l l := ⟨[], l, rfl, by simp⟩
theorem Rot.symm {l m : List Pt} (h : Rot l m) : Rot m l := by obtain ⟨u, v, rfl, rfl⟩ := h; exact ⟨v, u, rfl, rfl⟩
theorem Rot.mem {l m : List Pt} (h : Rot l m) (x : Pt) : x ∈ m ↔ x ∈ l := by obtain ⟨u, v, rfl, rfl⟩ := h; simp [or_comm]
theorem Rot.length {l m : List Pt} (h : Rot l m) : m.length = l.length := by obtain ⟨u, v, rfl, rfl⟩ := h; simp [Nat.add_comm]

theorem clip_rot (f : Pt → Rat) {l m : List Pt} (h : Rot l m) : Rot (clip f l) (clip f m) := by
  obtain ⟨u, v, rfl, rfl⟩ := h
  cases u with
  | nil => simp; exact Rot.refl _
  | cons c u =>
    cases v with
    | nil => simp; exact Rot.refl _
    | cons d v =>
      refine ⟨seg f d (c :: u), seg f c (d :: v), ?_, ?_⟩
      · show seg f c (c :: u ++ d :: v) = _
        rw [seg_append]
      · show seg f d (d :: v ++ c :: u) = _
        rw [seg_append]

/-- Every three places, in their order, turn to the left. -/
def TC : List Pt → Prop
  | [] => True
  | c :: r => r.Pairwise (fun d e => 0 < cross c d e) ∧ TC r

theorem TC.sub {l m : List Pt} (h : TC m) (hs : l.Sublist m) : TC l := by
  induction hs with
  | slnil => trivial
  | cons a _ ih => exact ih h.2
  | cons_cons a hs ih => exact ⟨h.1.sublist hs, ih h.2⟩

theorem TC.snoc {l : List Pt} {x : Pt} : TC (l ++ [x]) ↔ TC l ∧ l.Pairwise (fun c d => 0 < cross c d x) := by
  induction l with
  | nil => simp [TC]
  | cons c l ih =>
    simp only [List.cons_append, TC, ih, List.pairwise_append, List.pairwise_cons]
    simp
    grind

theorem TC.rot1 {c : Pt} {l : List Pt} (h : TC (c :: l)) : TC (l ++ [c]) := by
  rw [TC.snoc]
  refine ⟨h.2, h.1.imp fun {a b} hab => ?_⟩
  have : cross a b c = cross c a b := cross_rot c a b
  rw [this]; exact hab

theorem TC.rot {l m : List Pt} (h : TC l) (hr : Rot l m) : TC m := by
  obtain ⟨u, v, rfl, rfl⟩ := hr
  induction u generalizing v with
  | nil => simpa using h
  | cons c u ih =>
    have h1 := TC.rot1 (c := c) (l := u ++ v) h
    rw [List.append_assoc] at h1
    have := ih (v ++ [c]) h1
    simpa using this

theorem TC.three {l : List Pt} {a b c : Pt} (h : TC l) (hs : [a, b, c].Sublist l) : 0 < cross a b c := by
  have := h.sub hs
  simp [TC] at this
  exact this

/-- A linear function. -/
def Aff (f : Pt → Rat) : Prop := ∃ a b c : Rat, ∀ p, f p = a * p.x + b * p.y + c
theorem aff_cross (a b : Pt) : Aff (cross a b) := ⟨a.y - b.y, b.x - a.x, a.x * (a.y - b.y) * (-1) + a.y * (b.x - a.x) * (-1), fun p => by unfold cross; grind⟩
theorem Aff.lerp {f : Pt → Rat} (h : Aff f) (c d : Pt) (t : Rat) : f (lerp c d t) = (1 - t) * f c + t * f d := by
  obtain ⟨a, b, e, hf⟩ := h
  rw [hf, hf, hf]; unfold Geo.lerp; grind
theorem Aff.neg {f : Pt → Rat} (h : Aff f) : Aff (fun p => - f p) := by
  obtain ⟨a, b, e, hf⟩ := h
  exact ⟨-a, -b, -e, fun p => by show - f p = _; rw [hf]; grind⟩
/-- Four places: what a linear function is at them. -/
theorem Aff.four {f : Pt → Rat} (h : Aff f) (p q r s : Pt) : cross q r s * f p + cross p q s * f r = cross p r s * f q + cross p q r * f s := by
  obtain ⟨a, b, e, hf⟩ := h
  rw [hf, hf, hf, hf]; unfold cross; grind
theorem Aff.meet_zero {f : Pt → Rat} (h : Aff f) {c d : Pt} (hc : f c - f d ≠ 0) : f (meet f c d) = 0 := by
  unfold meet
  rw [h.lerp]
  have e : f c / (f c - f d) * (f c - f d) = f c := Rat.div_mul_cancel hc
  generalize f c / (f c - f d) = t at *
  grind

theorem step_pos {f : Pt → Rat} {c d : Pt} (hc : 0 < f c) (hd : 0 ≤ f d) : step f c d = [c] := by
  unfold step
  rw [if_pos (Rat.le_of_lt hc), if_neg (by have := Rat.mul_nonneg (Rat.le_of_lt hc) hd; grind)]; rfl
theorem step_nonneg {f : Pt → Rat} {c d : Pt} (hc : 0 ≤ f c) (hd : 0 ≤ f d) : step f c d = [c] := by
  unfold step
  rw [if_pos hc, if_neg (by have := Rat.mul_nonneg hc hd; grind)]; rfl
theorem step_zero {f : Pt → Rat} {c d : Pt} (hc : f c = 0) : step f c d = [c] := by
  unfold step
  rw [if_pos (by grind), if_neg (by rw [hc]; grind)]; rfl
theorem step_cross {f : Pt → Rat} {c d : Pt} (hc : 0 < f c) (hd : f d < 0) : step f c d = [c, meet f c d] := by
  unfold step
  rw [if_pos (Rat.le_of_lt hc), if_pos (pn' hc hd)]; rfl
theorem step_neg {f : Pt → Rat} {c d : Pt} (hc : f c < 0) (hd : f d ≤ 0) : step f c d = [] := by
  unfold step
  rw [if_neg (by grind), if_neg (by have := nn (Rat.le_of_lt hc) hd; grind)]; rfl
theorem step_back {f : Pt → Rat} {c d : Pt} (hc : f c < 0) (hd : 0 < f d) : step f c d = [meet f c d] := by
  unfold step
  rw [if_neg (by grind), if_pos (np' hc hd)]; rfl

theorem seg_nonneg {f : Pt → Rat} {nxt : Pt} {l : List Pt} (h : ∀ x ∈ l, 0 ≤ f x) (hn : 0 ≤ f nxt) : seg f nxt l = l := by
  induction l with
  | nil => rfl
  | cons c l ih =>
    cases l with
    | nil => exact step_nonneg (h c (by simp)) hn
    | cons d l =>
      simp only [seg]
      rw [step_nonneg (h c (by simp)) (h d (by simp)), ih (fun x hx => h x (by simp at hx ⊢; grind))]
      rfl
theorem seg_neg {f : Pt → Rat} {nxt : Pt} {l : List Pt} (h : ∀ x ∈ l, f x < 0) (hn : f nxt ≤ 0) : seg f nxt l = [] := by
  induction l with
  | nil => rfl
  | cons c l ih =>
    cases l with
    | nil => exact step_neg (h c (by simp)) hn
    | cons d l =>
      simp only [seg]
      rw [step_neg (h c (by simp)) (Rat.le_of_lt (h d (by simp))), ih (fun x hx => h x (by simp at hx ⊢; grind))]
      rfl
theorem clip_nonneg {f : Pt → Rat} {l : List Pt} (h : ∀ x ∈ l, 0 ≤ f x) : clip f l = l := by
  cases l with
  | nil => rfl
  | cons c r => exact seg_nonneg h (h c (by simp))

/-- The places of a clipped polygon are places of it, or lie between two of them; none lies to the right. -/
theorem seg_mem {f : Pt → Rat} (hf : Aff f) {nxt : Pt} {l : List Pt} {x : Pt} (h : x ∈ seg f nxt l) : 0 ≤ f x ∧ ∃ c d t, c ∈ nxt :: l ∧ d ∈ nxt :: l ∧ 0 ≤ t ∧ t ≤ 1 ∧ x = lerp c d t := by
  have hs : ∀ c d, x ∈ step f c d → 0 ≤ f x ∧ ∃ t, 0 ≤ t ∧ t ≤ 1 ∧ x = lerp c d t := by
    intro c d hx
    unfold step at hx
    rcases List.mem_append.1 hx with hx | hx
    · by_cases hc : 0 ≤ f c
      · rw [if_pos hc] at hx
        simp at hx
        subst hx
        exact ⟨hc, 0, Rat.le_refl, by decide, by unfold lerp; apply Pt.ext' <;> simp <;> grind⟩
      · rw [if_neg hc] at hx; simp at hx
    · by_cases hc : f c * f d < 0
      · rw [if_pos hc] at hx
        simp at hx
        subst hx
        have hne : f c - f d ≠ 0 := by
          intro e
          have : f c = f d := by grind
          rw [this] at hc
          rcases tot 0 (f d) with h | h
          · have := Rat.mul_nonneg h h; grind
          · have := nn h h; grind
        refine ⟨by rw [hf.meet_zero hne]; exact Rat.le_refl, f c / (f c - f d), ?_, ?_, rfl⟩
        · have e : f c / (f c - f d) * (f c - f d) = f c := Rat.div_mul_cancel hne
          generalize f c / (f c - f d) = t at *
          rcases tot 0 (f c - f d) with h | h
          · have hp : 0 < f c - f d := Rat.lt_of_le_of_ne h (fun e => hne e.symm)
            have : 0 ≤ f c := by
              apply Rat.not_lt.1; intro hlt
              have := nn' hlt (show f d < 0 by grind); grind
            exact pos_of_mul' (a := f c - f d) hp (by grind)
          · have hp : f c - f d < 0 := Rat.lt_of_le_of_ne h hne
            have : f c ≤ 0 := by
              apply Rat.not_lt.1; intro hlt
              have := Rat.mul_pos hlt (show 0 < f d by grind); grind
            exact neg_of_mul (a := f c - f d) hp (by grind)
        · have e : f c / (f c - f d) * (f c - f d) = f c := Rat.div_mul_cancel hne
          generalize f c / (f c - f d) = t at *
          rcases tot 0 (f c - f d) with h | h
          · have hp : 0 < f c - f d := Rat.lt_of_le_of_ne h (fun e => hne e.symm)
            have : f d ≤ 0 := by
              apply Rat.not_lt.1; intro hlt
              have := Rat.mul_pos (show 0 < f c by grind) hlt; grind
            have := pos_of_mul' (a := f c - f d) (q := 1 - t) hp (by grind)
            grind
          · have hp : f c - f d < 0 := Rat.lt_of_le_of_ne h hne
            have : 0 ≤ f d := by
              apply Rat.not_lt.1; intro hlt
              have := nn' (show f c < 0 by grind) hlt; grind
            have := neg_of_mul (a := f c - f d) (q := 1 - t) hp (by grind)
            grind
      · rw [if_neg hc] at hx; simp at hx
  induction l with
  | nil => simp [seg] at h
  | cons c l ih =>
    cases l with
    | nil =>
      obtain ⟨h0, t, h1, h2, h3⟩ := hs c nxt h
      exact ⟨h0, c, nxt, t, by simp, by simp, h1, h2, h3⟩
    | cons d l =>
      simp only [seg] at h
      rcases List.mem_append.1 h with h | h
      · obtain ⟨h0, t, h1, h2, h3⟩ := hs c d h
        exact ⟨h0, c, d, t, by simp, by simp, h1, h2, h3⟩
      · obtain ⟨h0, a, b, t, ha, hb, h1⟩ := ih h
        exact ⟨h0, a, b, t, by simp at ha ⊢; grind, by simp at hb ⊢; grind, h1⟩
theorem clip_mem {f : Pt → Rat} (hf : Aff f) {l : List Pt} {x : Pt} (h : x ∈ clip f l) : 0 ≤ f x ∧ ∃ c d t, c ∈ l ∧ d ∈ l ∧ 0 ≤ t ∧ t ≤ 1 ∧ x = lerp c d t := by
  cases l with
  | nil => simp [clip] at h
  | cons c r =>
    obtain ⟨h0, a, b, t, ha, hb, h1⟩ := seg_mem hf h
    exact ⟨h0, a, b, t, by simpa using ha, by simpa using hb, h1⟩
theorem clip_ge {f g : Pt → Rat} (hf : Aff f) (hg : Aff g) {l : List Pt} (h : ∀ x ∈ l, 0 ≤ g x) : ∀ x ∈ clip f l, 0 ≤ g x := by
  intro x hx
  obtain ⟨_, c, d, t, hc, hd, h1, h2, rfl⟩ := clip_mem hf hx
  rw [hg.lerp]
  have a := Rat.mul_nonneg (show 0 ≤ 1 - t by grind) (h c hc)
  have b := Rat.mul_nonneg h1 (h d hd)
  grind
end Go.Proofs.YtbddmkklkbkliaaGreatDoor.Geo

namespace Go.Proofs.YtbddmkklkbkliaaGreatDoor.Geo

theorem rot_head {l : List Pt} {x : Pt} (h : x ∈ l) : ∃ r, Rot l (x :: r) := by
  obtain ⟨u, v, rfl⟩ := List.append_of_mem h
  exact ⟨v ++ u, u, x :: v, rfl, rfl⟩
theorem Rot.trans {l m n : List Pt} (h : Rot l m) (h' : Rot m n) : Rot l n := by
  obtain ⟨u, v, rfl, rfl⟩ := h
  obtain ⟨s, t, e, rfl⟩ := h'
  rcases List.append_eq_append_iff.1 e with ⟨a, h1, h2⟩ | ⟨a, h1, h2⟩
  · -- s = v ++ a, u = a ++ t
    subst h1 h2
    exact ⟨a, t ++ v, by simp, by simp⟩
  · subst h1 h2
    exact ⟨u ++ s, a, by simp, by simp⟩

/-- The longest end of a list on which a test holds. -/
theorem split_end (q : Pt → Bool) (l : List Pt) : ∃ m e, l = m ++ e ∧ (∀ x ∈ e, q x = true) ∧ (m = [] ∨ ∃ m' y, m = m' ++ [y] ∧ q y = false) := by
  induction l with
  | nil => exact ⟨[], [], rfl, by simp, .inl rfl⟩
  | cons c l ih =>
    obtain ⟨m, e, rfl, he, hm⟩ := ih
    rcases hm with rfl | ⟨m', y, rfl, hy⟩
    · by_cases hc : q c = true
      · exact ⟨[], c :: e, rfl, by simpa using ⟨hc, he⟩, .inl rfl⟩
      · exact ⟨[c], e, rfl, he, .inr ⟨[], c, rfl, by simpa using hc⟩⟩
    · exact ⟨c :: (m' ++ [y]), e, rfl, he, .inr ⟨c :: m', y, rfl, hy⟩⟩
theorem split_begin (q : Pt → Bool) (l : List Pt) : ∃ e m, l = e ++ m ∧ (∀ x ∈ e, q x = true) ∧ (m = [] ∨ ∃ y m', m = y :: m' ∧ q y = false) := by
  induction l with
  | nil => exact ⟨[], [], rfl, by simp, .inl rfl⟩
  | cons c l ih =>
    by_cases hc : q c = true
    · obtain ⟨e, m, rfl, he, hm⟩ := ih
      exact ⟨c :: e, m, rfl, by simpa using ⟨hc, he⟩, hm⟩
    · exact ⟨[], c :: l, rfl, by simp, .inr ⟨c, l, rfl, by simpa using hc⟩⟩

theorem sub4 {a b c d : Pt} {x y z w : List Pt} : [a, b, c, d].Sublist (x ++ a :: y ++ b :: z ++ c :: w ++ [d]) := by
  have h1 : [a].Sublist (x ++ a :: y) := by simp
  have h2 : [b].Sublist (b :: z) := by simp
  have h3 : [c].Sublist (c :: w) := by simp
  have := ((h1.append h2).append h3).append (List.Sublist.refl [d])
  simpa using this

/-- The cyclic order in which a line meets a polygon: first what lies to its left, then the rest. -/
theorem norm {f : Pt → Rat} (hf : Aff f) {l : List Pt} (hl : TC l) (hp : ∃ x ∈ l, 0 < f x) (hn : ∃ x ∈ l, f x < 0) :
    ∃ P R, Rot l (P ++ R) ∧ P ≠ [] ∧ (∀ x ∈ P, 0 < f x) ∧ R ≠ [] ∧ (∀ x ∈ R, f x ≤ 0) ∧ (∃ y ∈ R, f y < 0) := by
  obtain ⟨x, hx, hfx⟩ := hp
  obtain ⟨r, hr⟩ := rot_head hx
  obtain ⟨m, e, hme, he, hm⟩ := split_end (fun y => decide (0 < f y)) r
  have h2 : Rot l (e ++ x :: m) := hr.trans (by rw [hme]; exact ⟨x :: m, e, rfl, rfl⟩)
  -- begins with a place to the left, ends with one that is not
  obtain ⟨y, hy, hfy⟩ := hn
  have hy2 : y ∈ e ++ x :: m := (h2.mem y).2 hy
  have hend : ∃ m' z, m = m' ++ [z] ∧ f z ≤ 0 := by
    rcases hm with rfl | ⟨m', z, rfl, hz⟩
    · exfalso
      rcases List.mem_append.1 hy2 with h | h
      · have := he y h; simp at this; grind
      · simp at h; subst h; grind
    · exact ⟨m', z, rfl, Rat.not_lt.1 (by simpa using hz)⟩
  obtain ⟨m', z, rfl, hz⟩ := hend
  obtain ⟨P, R, hPR, hP, hR⟩ := split_begin (fun y => decide (0 < f y)) (e ++ x :: (m' ++ [z]))
  have hTC := hl.rot h2
  rw [hPR] at h2 hTC
  have hPne : P ≠ [] := by
    rintro rfl
    cases e with
    | nil =>
      rcases hR with rfl | ⟨q, R', rfl, hq⟩
      · simp at hPR
      · simp at hPR
        rw [← hPR.1] at hq; simp at hq; grind
    | cons c e =>
      rcases hR with rfl | ⟨q, R', rfl, hq⟩
      · simp at hPR
      · simp at hPR
        have := he c (by simp)
        rw [← hPR.1] at hq; simp at hq this; grind
  have hP' : ∀ x ∈ P, 0 < f x := fun x hx => by simpa using hP x hx
  rcases hR with rfl | ⟨q, R', rfl, hq⟩
  · exfalso
    have : z ∈ P := by
      have : z ∈ P ++ [] := by rw [← hPR]; simp
      simpa using this
    have := hP' z this
    grind
  have hq' : f q ≤ 0 := Rat.not_lt.1 (by simpa using hq)
  have hlast : ∃ R'', q :: R' = R'' ++ [z] := by
    have h1 : (P ++ q :: R').getLast? = some z := by rw [← hPR, show e ++ x :: (m' ++ [z]) = (e ++ x :: m') ++ [z] by simp, List.getLast?_append]; simp
    rw [List.getLast?_append] at h1
    have hne : (q :: R').getLast? = some ((q :: R').getLast (by simp)) := List.getLast?_eq_some_getLast _
    rw [hne] at h1
    simp only [Option.some_or, Option.some.injEq] at h1
    exact ⟨(q :: R').dropLast, by rw [← h1]; exact (List.dropLast_concat_getLast (by simp)).symm⟩
  obtain ⟨R'', hR''⟩ := hlast
  refine ⟨P, q :: R', h2, hPne, hP', by simp, ?_, ?_⟩
  · intro w hw
    apply Rat.not_lt.1
    intro hfw
    -- P's head, q, w, z
    obtain ⟨p0, P0, rfl⟩ : ∃ p0 P0, P = p0 :: P0 := by cases P with
      | nil => exact absurd rfl hPne
      | cons a b => exact ⟨a, b, rfl⟩
    have hp0 := hP' p0 (by simp)
    have hwR : w ∈ R' := by
      rcases List.mem_cons.1 hw with rfl | h
      · grind
      · exact h
    obtain ⟨s, t, rfl⟩ := List.append_of_mem hwR
    have hzt : ∃ t', t = t' ++ [z] := by
      cases t with
      | nil =>
        have : (q :: (s ++ [w])).getLast? = some z := by rw [hR'']; simp
        have e : w = z := by
          rw [show q :: (s ++ [w]) = (q :: s) ++ [w] from rfl, List.getLast?_append] at this
          simpa using this
        rw [e] at hfw; grind
      | cons a t =>
        have h9 : (q :: (s ++ w :: a :: t)).getLast? = some z := by rw [hR'']; simp
        have h10 : (q :: (s ++ w :: a :: t)) = (q :: s ++ [w]) ++ (a :: t) := by simp
        rw [h10, List.getLast?_append] at h9
        rw [List.getLast?_eq_some_getLast (by simp : (a :: t) ≠ [])] at h9
        simp only [Option.some_or, Option.some.injEq] at h9
        exact ⟨(a :: t).dropLast, by rw [← h9]; exact (List.dropLast_concat_getLast (by simp)).symm⟩
    obtain ⟨t', rfl⟩ := hzt
    have hsub : [p0, q, w, z].Sublist (p0 :: P0 ++ q :: (s ++ w :: (t' ++ [z]))) := by
      simp
    have h4 := hTC.sub hsub
    simp [TC] at h4
    obtain ⟨⟨⟨h5, h6⟩, h7⟩, h8⟩ := h4
    have id4 := hf.four p0 q w z
    have a1 := Rat.mul_pos h8 hp0
    have a2 := Rat.mul_pos h6 hfw
    have a3 := pn (Rat.le_of_lt h7) hq'
    have a4 := pn (Rat.le_of_lt h5) hz
    grind
  · refine ⟨y, ?_, hfy⟩
    have : y ∈ P ++ q :: R' := by rw [← hPR]; exact hy2
    rcases List.mem_append.1 this with h | h
    · have := hP' y h; grind
    · exact h
end Go.Proofs.YtbddmkklkbkliaaGreatDoor.Geo
namespace Go.Proofs.YtbddmkklkbkliaaGreatDoor.Geo

theorem meet_part {f : Pt → Rat} {c d : Pt} (hc : 0 < f c) (hd : f d ≤ 0) : ∃ t, 0 < t ∧ t ≤ 1 ∧ (t = 1 → f d = 0) ∧ (f d = 0 → t = 1) ∧ meet f c d = lerp c d t := by
  have hp : 0 < f c - f d := by grind
  refine ⟨f c / (f c - f d), ?_, ?_, ?_, ?_, rfl⟩
  all_goals have e : f c / (f c - f d) * (f c - f d) = f c := Rat.div_mul_cancel (by grind)
  all_goals generalize f c / (f c - f d) = t at *
  · apply Rat.not_le.1; intro h
    have := np h (Rat.le_of_lt hp); grind
  · have := pos_of_mul' (q := 1 - t) hp (by grind)
    grind
  · rintro rfl; grind
  · intro h; rw [h] at e
    have : f c * (t - 1) = 0 := by grind
    rcases Rat.mul_eq_zero.1 this with h | h <;> grind
theorem meet_end {f : Pt → Rat} {c d : Pt} (hc : 0 < f c) (hd : f d = 0) : meet f c d = d := by
  obtain ⟨t, _, _, _, h, e⟩ := meet_part hc (show f d ≤ 0 by grind)
  rw [e, h hd]; unfold lerp; apply Pt.ext' <;> simp <;> grind
theorem meet_comm {f : Pt → Rat} {c d : Pt} (hc : f c - f d ≠ 0) : meet f d c = meet f c d := by
  unfold meet
  have e : f c / (f c - f d) * (f c - f d) = f c := Rat.div_mul_cancel hc
  have e' : f d / (f d - f c) * (f d - f c) = f d := Rat.div_mul_cancel (by grind)
  generalize f c / (f c - f d) = t at *
  generalize f d / (f d - f c) = s at *
  have : (f c - f d) * (1 - s - t) = 0 := by grind
  have : s = 1 - t := by rcases Rat.mul_eq_zero.1 this with h | h <;> grind
  subst this
  unfold lerp; apply Pt.ext' <;> simp only [] <;> grind

theorem seg_last (f : Pt → Rat) (nxt c : Pt) (u : List Pt) : seg f nxt (u ++ [c]) = seg f c u ++ step f c nxt := by
  rw [seg_append]; rfl

/-- How a line cuts a polygon: P lies to its left, R does not. -/
structure Cut (f : Pt → Rat) (l : List Pt) where
  p0 : Pt
  P0 : List Pt
  P1 : List Pt
  pl : Pt
  r : Pt
  R0 : List Pt
  R1 : List Pt
  z : Pt
  hP : p0 :: P0 = P1 ++ [pl]
  hR : r :: R0 = R1 ++ [z]
  rot : Rot l ((p0 :: P0) ++ (r :: R0))
  pos : ∀ x ∈ p0 :: P0, 0 < f x
  neg : ∀ x ∈ r :: R0, f x ≤ 0
  some_neg : ∃ x ∈ r :: R0, f x < 0
  out : clip f ((p0 :: P0) ++ (r :: R0)) = (p0 :: P0) ++ [meet f pl r, meet f p0 z]

theorem exists_cut {f : Pt → Rat} (hf : Aff f) {l : List Pt} (hl : TC l) (hp : ∃ x ∈ l, 0 < f x) (hn : ∃ x ∈ l, f x < 0) : Nonempty (Cut f l) := by
  obtain ⟨P, R, hrot, hPne, hP, hRne, hR, hneg⟩ := norm hf hl hp hn
  obtain ⟨p0, P0, rfl⟩ : ∃ p0 P0, P = p0 :: P0 := by cases P with
    | nil => exact absurd rfl hPne
    | cons a b => exact ⟨a, b, rfl⟩
  obtain ⟨r, R0, rfl⟩ : ∃ p0 P0, R = p0 :: P0 := by cases R with
    | nil => exact absurd rfl hRne
    | cons a b => exact ⟨a, b, rfl⟩
  obtain ⟨P1, pl, hP1⟩ : ∃ P1 pl, p0 :: P0 = P1 ++ [pl] := ⟨_, _, (List.dropLast_concat_getLast (by simp)).symm⟩
  obtain ⟨R1, z, hR1⟩ : ∃ P1 pl, r :: R0 = P1 ++ [pl] := ⟨_, _, (List.dropLast_concat_getLast (by simp)).symm⟩
  have hTC := hl.rot hrot
  have hp0 : 0 < f p0 := hP p0 (by simp)
  have hpl : 0 < f pl := hP pl (by rw [hP1]; simp)
  have hz : f z ≤ 0 := hR z (by rw [hR1]; simp)
  have hr : f r ≤ 0 := hR r (by simp)
  refine ⟨⟨p0, P0, P1, pl, r, R0, R1, z, hP1, hR1, hrot, hP, hR, hneg, ?_⟩⟩
  -- the middle of R lies to the right
  have mid : ∀ a w b, r :: R0 = r :: (a ++ w :: (b ++ [z])) → f w < 0 := by
    intro a w b hab
    have hw : f w ≤ 0 := hR w (by rw [hab]; simp)
    rcases lt_or_eq hw with h | h
    · exact h
    · exfalso
      have hsub : [p0, r, w, z].Sublist (p0 :: P0 ++ r :: R0) := by rw [hab]; simp
      have h4 := hTC.sub hsub
      simp [TC] at h4
      obtain ⟨⟨⟨h5, h6⟩, h7⟩, h8⟩ := h4
      have id4 := hf.four p0 r w z
      have a1 := Rat.mul_pos h8 hp0
      have a3 := pn (Rat.le_of_lt h7) hr
      have a4 := pn (Rat.le_of_lt h5) hz
      rw [h] at id4
      grind
  have hclip : clip f (p0 :: P0 ++ r :: R0) = seg f r (p0 :: P0) ++ seg f p0 (r :: R0) := by
    show seg f p0 (p0 :: P0 ++ r :: R0) = _
    rw [seg_append]
  have hsegP : seg f r (p0 :: P0) = P1 ++ step f pl r := by
    rw [hP1, seg_last, seg_nonneg (fun x hx => Rat.le_of_lt (hP x (by rw [hP1]; simp [hx]))) (Rat.le_of_lt hpl)]
  -- the end of R
  have tail : ∀ M, (∀ x ∈ M, f x < 0) → seg f p0 (M ++ [z]) = [meet f p0 z] := by
    intro M hM
    rw [seg_last, seg_neg hM hz]
    rcases lt_or_eq hz with h | h
    · rw [step_back h hp0, meet_comm (by grind)]; rfl
    · rw [step_zero h, meet_end hp0 h]; rfl
  have headR : step f pl r ++ seg f p0 (r :: R0) = [pl, meet f pl r, meet f p0 z] := by
    rcases lt_or_eq hr with h | h
    · rw [step_cross hpl h, hR1, tail]
      · rfl
      · intro x hx
        cases R1 with
        | nil => simp at hx
        | cons a R1 =>
          have : r = a := by simp at hR1; exact hR1.1
          subst this
          rcases List.mem_cons.1 hx with rfl | hx
          · exact h
          · obtain ⟨s, t, rfl⟩ := List.append_of_mem hx
            exact mid s x t (by rw [hR1]; simp)
    · cases R0 with
      | nil =>
        exfalso
        obtain ⟨x, hx, hlt⟩ := hneg
        simp at hx; subst hx; grind
      | cons b R0 =>
        have hR1' : ∃ M, b :: R0 = M ++ [z] := by
          cases R1 with
          | nil => simp at hR1
          | cons a R1 => simp at hR1; exact ⟨R1, hR1.2⟩
        obtain ⟨M, hM⟩ := hR1'
        have e : seg f p0 (r :: b :: R0) = step f r b ++ seg f p0 (b :: R0) := rfl
        rw [e, step_zero h, step_pos hpl (by grind), hM, tail, meet_end hpl h]
        · rfl
        · intro x hx
          obtain ⟨s, t, rfl⟩ := List.append_of_mem hx
          exact mid s x t (by rw [hM]; simp)
  rw [hclip, hsegP, List.append_assoc, headR, hP1]
  simp

section
variable {f : Pt → Rat} {l : List Pt} (hf : Aff f) (hl : TC l) (h3 : 3 ≤ l.length) (C : Cut f l)
include hl h3 hf
omit hf in
/-- The new side turns to the left of what is left. -/
theorem Cut.turn : 0 < cross C.p0 (meet f C.pl C.r) (meet f C.p0 C.z) := by
  have hTC := hl.rot C.rot
  have hp0 := C.pos C.p0 (by simp)
  have hpl := C.pos C.pl (by rw [C.hP]; simp)
  have hz := C.neg C.z (by rw [C.hR]; simp)
  have hr := C.neg C.r (by simp)
  obtain ⟨t, t0, t1, tz, _, e1⟩ := meet_part hpl hr
  obtain ⟨s, s0, s1, sz, _, e2⟩ := meet_part hp0 hz
  rw [e1, e2, cross_lerp, cross_lerp2, cross_lerp2]
  have c0 : cross C.p0 C.pl C.p0 = 0 := by unfold cross; grind
  have c1 : cross C.p0 C.r C.p0 = 0 := by unfold cross; grind
  rw [c0, c1]
  have hP := C.hP
  have hR := C.hR
  -- cross p0 r z
  have crz : 0 ≤ cross C.p0 C.r C.z ∧ (C.r ≠ C.z → 0 < cross C.p0 C.r C.z) := by
    cases hR1 : C.R1 with
    | nil =>
      rw [hR1] at hR
      have : C.r = C.z := by simp at hR; exact hR.1
      rw [this]
      have : cross C.p0 C.z C.z = 0 := by unfold cross; grind
      exact ⟨by rw [this]; exact Rat.le_refl, fun h => absurd rfl h⟩
    | cons a R1 =>
      rw [hR1] at hR
      have ha : C.r = a := by simp at hR; exact hR.1
      have hsub : [C.p0, C.r, C.z].Sublist (C.p0 :: C.P0 ++ C.r :: C.R0) := by rw [hR, ha]; simp
      have := hTC.three hsub
      exact ⟨Rat.le_of_lt this, fun _ => this⟩
  have cpz : 0 ≤ cross C.p0 C.pl C.z ∧ (C.P1 ≠ [] → 0 < cross C.p0 C.pl C.z) := by
    cases hP1 : C.P1 with
    | nil =>
      rw [hP1] at hP
      have : C.p0 = C.pl := by simp at hP; exact hP.1
      rw [← this]
      have : cross C.p0 C.p0 C.z = 0 := by unfold cross; grind
      exact ⟨by rw [this]; exact Rat.le_refl, fun h => absurd rfl h⟩
    | cons a P1 =>
      rw [hP1] at hP
      have ha : C.p0 = a := by simp at hP; exact hP.1
      have hsub : [C.p0, C.pl, C.z].Sublist (C.p0 :: C.P0 ++ C.r :: C.R0) := by rw [hP, hR, ha]; simp
      have := hTC.three hsub
      exact ⟨Rat.le_of_lt this, fun _ => this⟩
  by_cases hrz : C.r = C.z
  · -- one place to the right: it lies strictly there
    have hne : C.R1 = [] := by
      cases hR1 : C.R1 with
      | nil => rfl
      | cons a R1 =>
        exfalso
        rw [hR1] at hR
        have ha : C.r = a := by simp at hR; exact hR.1
        have hsub : [C.p0, C.r, C.z].Sublist (C.p0 :: C.P0 ++ C.r :: C.R0) := by rw [hR, ha]; simp
        have := hTC.three hsub
        rw [hrz] at this
        have : cross C.p0 C.z C.z = 0 := by unfold cross; grind
        grind
    have hlt : f C.r < 0 := by
      obtain ⟨x, hx, hlt⟩ := C.some_neg
      rw [hR, hne] at hx
      simp at hx
      rw [hrz, ← hx]; exact hlt
    have t1' : t < 1 := Rat.lt_of_le_of_ne t1 (fun e => by have := tz e; grind)
    have hP1 : C.P1 ≠ [] := by
      intro h
      have := C.rot.length
      rw [hP, hR, h, hne] at this
      simp at this; omega
    have a1 := Rat.mul_pos (show 0 < 1 - t by grind) (cpz.2 hP1)
    have a2 := Rat.mul_nonneg (Rat.le_of_lt t0) crz.1
    have a3 := Rat.mul_pos s0 (show 0 < (1 - t) * cross C.p0 C.pl C.z + t * cross C.p0 C.r C.z by grind)
    grind
  · have a1 := Rat.mul_nonneg (show 0 ≤ 1 - t by grind) cpz.1
    have a2 := Rat.mul_pos t0 (crz.2 hrz)
    have a3 := Rat.mul_pos s0 (show 0 < (1 - t) * cross C.p0 C.pl C.z + t * cross C.p0 C.r C.z by grind)
    grind

/-- To the left of the new side is to the left of the line. -/
theorem Cut.side : ∃ k, 0 < k ∧ ∀ x, cross (meet f C.pl C.r) (meet f C.p0 C.z) x = k * f x := by
  have ht := C.turn hl h3
  have hp0 := C.pos C.p0 (by simp)
  have hpl := C.pos C.pl (by rw [C.hP]; simp)
  have hz := C.neg C.z (by rw [C.hR]; simp)
  have hr := C.neg C.r (by simp)
  have z1 : f (meet f C.pl C.r) = 0 := hf.meet_zero (by grind)
  have z2 : f (meet f C.p0 C.z) = 0 := hf.meet_zero (by grind)
  generalize meet f C.pl C.r = W1 at *
  generalize meet f C.p0 C.z = W2 at *
  refine ⟨cross C.p0 W1 W2 / f C.p0, ?_, fun x => ?_⟩
  · have e : cross C.p0 W1 W2 / f C.p0 * f C.p0 = cross C.p0 W1 W2 := Rat.div_mul_cancel (by grind)
    generalize cross C.p0 W1 W2 / f C.p0 = q at *
    apply Rat.not_le.1
    intro h
    have := np h (Rat.le_of_lt hp0)
    grind
  · have e : cross C.p0 W1 W2 / f C.p0 * f C.p0 = cross C.p0 W1 W2 := Rat.div_mul_cancel (by grind)
    generalize cross C.p0 W1 W2 / f C.p0 = q at *
    have id4 := hf.four C.p0 W1 W2 x
    rw [z1, z2] at id4
    have : f C.p0 * (cross W1 W2 x - q * f x) = 0 := by grind
    rcases Rat.mul_eq_zero.1 this with h | h <;> grind

theorem Cut.tc : TC (C.p0 :: C.P0 ++ [meet f C.pl C.r, meet f C.p0 C.z]) := by
  have hTC := hl.rot C.rot
  have hp0 := C.pos C.p0 (by simp)
  have hpl := C.pos C.pl (by rw [C.hP]; simp)
  have hz := C.neg C.z (by rw [C.hR]; simp)
  have hr := C.neg C.r (by simp)
  obtain ⟨kk, hk, hside⟩ := C.side hf hl h3
  obtain ⟨t, t0, t1, tz, _, e1⟩ := meet_part hpl hr
  obtain ⟨s, s0, s1, sz, _, e2⟩ := meet_part hp0 hz
  have hPT : TC (C.p0 :: C.P0) := hTC.sub (List.sublist_append_left _ _)
  have hPr : TC (C.p0 :: C.P0 ++ [C.r]) := hTC.sub (by simp)
  have hPz : TC (C.p0 :: C.P0 ++ [C.z]) := hTC.sub (List.Sublist.append (List.Sublist.refl _) (by rw [C.hR]; simp))
  rw [TC.snoc] at hPr hPz
  have hA : (C.p0 :: C.P0).Pairwise (fun c d => 0 < cross c d (meet f C.pl C.r)) := by
    rw [e1]
    -- every pair ends at pl or goes before it
    have hpp : (C.p0 :: C.P0).Pairwise (fun c d => 0 ≤ cross c d C.pl) := by
      rw [C.hP, List.pairwise_append]
      rw [C.hP, TC.snoc] at hPT
      refine ⟨hPT.2.imp fun h => Rat.le_of_lt h, by simp, fun c _ d hd => ?_⟩
      simp at hd; subst hd
      have : cross c C.pl C.pl = 0 := by unfold cross; grind
      rw [this]; exact Rat.le_refl
    refine List.Pairwise.imp₂ ?_ hpp hPr.2
    intro c d h1 h2
    rw [cross_lerp]
    have a1 := Rat.mul_nonneg (show 0 ≤ 1 - t by grind) h1
    have a2 := Rat.mul_pos t0 h2
    grind
  have hB : (C.p0 :: C.P0).Pairwise (fun c d => 0 < cross c d (meet f C.p0 C.z)) := by
    rw [e2]
    have hpp : (C.p0 :: C.P0).Pairwise (fun c d => 0 ≤ cross c d C.p0) := by
      rw [List.pairwise_cons]
      refine ⟨fun d _ => ?_, ?_⟩
      · have : cross C.p0 d C.p0 = 0 := by unfold cross; grind
        rw [this]; exact Rat.le_refl
      · refine hPT.1.imp fun {c d} h => ?_
        rw [show cross c d C.p0 = cross C.p0 c d from cross_rot _ _ _]; exact Rat.le_of_lt h
    refine List.Pairwise.imp₂ ?_ hpp hPz.2
    intro c d h1 h2
    rw [cross_lerp]
    have a1 := Rat.mul_nonneg (show 0 ≤ 1 - s by grind) h1
    have a2 := Rat.mul_pos s0 h2
    grind
  have e : C.p0 :: C.P0 ++ [meet f C.pl C.r, meet f C.p0 C.z] = (C.p0 :: C.P0 ++ [meet f C.pl C.r]) ++ [meet f C.p0 C.z] := by simp
  rw [e, TC.snoc, TC.snoc]
  refine ⟨⟨hPT, hA⟩, ?_⟩
  rw [List.pairwise_append]
  refine ⟨hB, by simp, fun c hc d hd => ?_⟩
  simp at hd; subst hd
  have : cross c (meet f C.pl C.r) (meet f C.p0 C.z) = cross (meet f C.pl C.r) (meet f C.p0 C.z) c := (cross_rot _ _ _).symm
  rw [this, hside]
  exact Rat.mul_pos hk (C.pos c hc)
end
end Go.Proofs.YtbddmkklkbkliaaGreatDoor.Geo
namespace Go.Proofs.YtbddmkklkbkliaaGreatDoor.Geo

/-- The sides of an open chain that goes on at nxt. -/
def sides (nxt : Pt) : List Pt → List (Pt × Pt)
  | [] => []
  | [c] => [(c, nxt)]
  | c :: d :: r => (c, d) :: sides nxt (d :: r)
/-- The sides of a polygon. -/
def cyc : List Pt → List (Pt × Pt)
  | [] => []
  | c :: r => sides c (c :: r)

theorem sides_append (nxt : Pt) (u : List Pt) (h : Pt) (t : List Pt) : sides nxt (u ++ h :: t) = sides h u ++ sides nxt (h :: t) := by
  induction u with
  | nil => rfl
  | cons c u ih =>
    cases u with
    | nil => rfl
    | cons d u =>
      have e : c :: d :: u ++ h :: t = c :: d :: (u ++ h :: t) := rfl
      have e2 : d :: (u ++ h :: t) = d :: u ++ h :: t := rfl
      rw [e]
      simp only [sides]
      rw [e2, ih]
      rfl
theorem sides_last (nxt c : Pt) (u : List Pt) : sides nxt (u ++ [c]) = sides c u ++ [(c, nxt)] := by rw [sides_append]; rfl
theorem cyc_append (c d : Pt) (u v : List Pt) : cyc ((c :: u) ++ (d :: v)) = sides d (c :: u) ++ sides c (d :: v) := by
  show sides c (c :: u ++ d :: v) = _
  rw [sides_append]
theorem cyc_rot {l m : List Pt} (h : Rot l m) (e : Pt × Pt) : e ∈ cyc m ↔ e ∈ cyc l := by
  obtain ⟨u, v, rfl, rfl⟩ := h
  cases u with
  | nil => simp
  | cons c u =>
    cases v with
    | nil => simp
    | cons d v => rw [cyc_append, cyc_append]; simp [or_comm]

theorem sides_split {nxt : Pt} {l : List Pt} {c d : Pt} (h : (c, d) ∈ sides nxt l) : (∃ u v, l = u ++ c :: d :: v) ∨ (∃ u, l = u ++ [c] ∧ d = nxt) := by
  induction l with
  | nil => simp [sides] at h
  | cons a l ih =>
    cases l with
    | nil => simp [sides] at h; obtain ⟨rfl, rfl⟩ := h; exact .inr ⟨[], rfl, rfl⟩
    | cons b l =>
      simp only [sides, List.mem_cons, Prod.mk.injEq] at h
      rcases h with ⟨rfl, rfl⟩ | h
      · exact .inl ⟨[], l, rfl⟩
      · rcases ih (by simpa using h) with ⟨u, v, e⟩ | ⟨u, e, e2⟩
        · exact .inl ⟨a :: u, v, by rw [e]; rfl⟩
        · exact .inr ⟨a :: u, by rw [e]; rfl, e2⟩
theorem cyc_split {l : List Pt} {c d : Pt} (h2 : 2 ≤ l.length) (h : (c, d) ∈ cyc l) : ∃ r, Rot l (c :: d :: r) := by
  cases l with
  | nil => simp at h2
  | cons a l =>
    rcases sides_split h with ⟨u, v, e⟩ | ⟨u, e, rfl⟩
    · exact ⟨v ++ u, by rw [e]; exact ⟨u, c :: d :: v, rfl, rfl⟩⟩
    · cases u with
      | nil => simp at e; rw [e.2] at h2; simp at h2
      | cons b u =>
        simp at e
        obtain ⟨rfl, rfl⟩ := e
        exact ⟨u, d :: u, [c], rfl, rfl⟩
theorem cyc_of_rot {l r : List Pt} {c d : Pt} (h : Rot l (c :: d :: r)) : (c, d) ∈ cyc l := by
  rw [← cyc_rot h]; simp [cyc, sides]

theorem mem_of_cyc {l : List Pt} {c d : Pt} (h : (c, d) ∈ cyc l) : c ∈ l ∧ d ∈ l := by
  cases l with
  | nil => simp [cyc] at h
  | cons a l =>
    rcases sides_split h with ⟨u, v, e⟩ | ⟨u, e, rfl⟩
    · rw [e]; simp
    · constructor
      · rw [e]; simp
      · simp

/-- Every place of a polygon ends a side and begins one. -/
theorem around {l : List Pt} (h2 : 2 ≤ l.length) {v : Pt} (hv : v ∈ l) : ∃ u w, (u, v) ∈ cyc l ∧ (v, w) ∈ cyc l ∧ (3 ≤ l.length → ∃ r, Rot l (u :: v :: w :: r)) := by
  obtain ⟨r, hr⟩ := rot_head hv
  have hlen := hr.length
  simp at hlen
  obtain ⟨m, u, rfl⟩ : ∃ m u, r = m ++ [u] := by
    cases r with
    | nil => simp at hlen; omega
    | cons a b => exact ⟨_, _, (List.dropLast_concat_getLast (by simp)).symm⟩
  have h1 : Rot l (u :: v :: m) := hr.trans ⟨v :: m, [u], by simp, by simp⟩
  refine ⟨u, m.headD u, cyc_of_rot h1, ?_, ?_⟩
  · cases m with
    | nil =>
      have : Rot l (v :: u :: []) := hr
      exact cyc_of_rot this
    | cons w m => exact cyc_of_rot (r := m ++ [u]) (by simpa using hr)
  · intro h3
    cases m with
    | nil => simp at hlen; omega
    | cons w m => exact ⟨m, by simpa using h1⟩

/-- A place lies to the left of all sides. -/
def In (l : List Pt) (x : Pt) : Prop := ∀ c d, (c, d) ∈ cyc l → 0 ≤ cross c d x

theorem TC.left {l : List Pt} (h : TC l) (h2 : 2 ≤ l.length) {c d : Pt} (hs : (c, d) ∈ cyc l) : ∃ r, Rot l (c :: d :: r) ∧ ∀ x ∈ r, 0 < cross c d x := by
  obtain ⟨r, hr⟩ := cyc_split h2 hs
  have := h.rot hr
  exact ⟨r, hr, fun x hx => by
    have h1 := this.1
    rw [List.pairwise_cons] at h1
    exact h1.1 x hx⟩
theorem TC.inside {l : List Pt} (h : TC l) (h2 : 2 ≤ l.length) {x : Pt} (hx : x ∈ l) : In l x := by
  intro c d hs
  obtain ⟨r, hr, hl⟩ := h.left h2 hs
  have := (hr.mem x).2 hx
  simp at this
  rcases this with rfl | rfl | this
  · have : cross x d x = 0 := by unfold cross; grind
    rw [this]; exact Rat.le_refl
  · have : cross c x x = 0 := by unfold cross; grind
    rw [this]; exact Rat.le_refl
  · exact Rat.le_of_lt (hl x this)

theorem exists_min (f : Pt → Rat) (l : List Pt) (h : l ≠ []) : ∃ v ∈ l, ∀ x ∈ l, f v ≤ f x := by
  induction l with
  | nil => exact absurd rfl h
  | cons a l ih =>
    by_cases hl : l = []
    · subst hl; exact ⟨a, by simp, fun x hx => by simp at hx; subst hx; exact Rat.le_refl⟩
    · obtain ⟨v, hv, hm⟩ := ih hl
      rcases tot (f a) (f v) with h1 | h1
      · exact ⟨a, by simp, fun x hx => by
          rcases List.mem_cons.1 hx with rfl | hx
          · exact Rat.le_refl
          · exact Rat.le_trans h1 (hm x hx)⟩
      · exact ⟨v, by simp [hv], fun x hx => by
          rcases List.mem_cons.1 hx with rfl | hx
          · exact h1
          · exact hm x hx⟩

theorem Aff.cone {f : Pt → Rat} (h : Aff f) (u v w x : Pt) : cross u v w * (f x - f v) = cross v w x * (f u - f v) + cross u v x * (f w - f v) := by
  obtain ⟨a, b, e, hf⟩ := h
  rw [hf, hf, hf, hf]; unfold cross; grind

/-- A linear function is least, on a polygon, at a corner. -/
theorem TC.min {f : Pt → Rat} (hf : Aff f) {l : List Pt} (h : TC l) (h3 : 3 ≤ l.length) {x : Pt} (hx : In l x) : ∃ v ∈ l, f v ≤ f x ∧ ∀ y ∈ l, f v ≤ f y := by
  obtain ⟨v, hv, hm⟩ := exists_min f l (by intro e; rw [e] at h3; simp at h3)
  refine ⟨v, hv, ?_, hm⟩
  obtain ⟨u, w, h1, h2, h4⟩ := around (by omega) hv
  obtain ⟨r, hr⟩ := h4 h3
  have ht := h.rot hr
  have hc : 0 < cross u v w := by
    have := ht.1
    simp at this
    exact this.1.1
  have e := hf.cone u v w x
  have a1 := Rat.mul_nonneg (hx v w h2) (show 0 ≤ f u - f v by have := hm u (mem_of_cyc h1).1; grind)
  have a2 := Rat.mul_nonneg (hx u v h1) (show 0 ≤ f w - f v by have := hm w (mem_of_cyc h2).2; grind)
  have := pos_of_mul' (q := f x - f v) hc (by grind)
  grind

/-- Lines: each side of a polygon lies on one of them. -/
def On (L : List (Pt × Pt)) (l : List Pt) : Prop := ∀ c d, (c, d) ∈ cyc l → ∃ a b, (a, b) ∈ L ∧ ∃ k, 0 < k ∧ ∀ x, cross c d x = k * cross a b x

theorem On.self (l : List Pt) : On (cyc l) l := fun c d h => ⟨c, d, h, 1, by decide, fun x => by grind⟩
theorem On.mono {L M : List (Pt × Pt)} {l : List Pt} (h : On L l) (hs : ∀ e ∈ L, e ∈ M) : On M l := fun c d hc => by
  obtain ⟨a, b, hab, r⟩ := h c d hc
  exact ⟨a, b, hs _ hab, r⟩
theorem On.inside {L : List (Pt × Pt)} {l : List Pt} (h : On L l) {x : Pt} (hx : ∀ a b, (a, b) ∈ L → 0 ≤ cross a b x) : In l x := fun c d hc => by
  obtain ⟨a, b, hab, k, hk, e⟩ := h c d hc
  rw [e]; exact Rat.mul_nonneg (Rat.le_of_lt hk) (hx a b hab)

/-- The sides of a clipped polygon lie on those of the polygon, and on the line. -/
theorem Cut.on {a b : Pt} {l : List Pt} (hl : TC l) (h3 : 3 ≤ l.length) (C : Cut (cross a b) l) {L : List (Pt × Pt)} (h : On L l) : On ((a, b) :: L) (clip (cross a b) l) := by
  have hf := aff_cross a b
  have hp0 := C.pos C.p0 (by simp)
  have hpl := C.pos C.pl (by rw [C.hP]; simp)
  have hz := C.neg C.z (by rw [C.hR]; simp)
  have hr := C.neg C.r (by simp)
  have hside := C.side hf hl h3
  obtain ⟨t, t0, t1, tz, _, e1⟩ := meet_part hpl hr
  obtain ⟨s, s0, s1, sz, _, e2⟩ := meet_part hp0 hz
  intro c d hcd
  rw [← cyc_rot (clip_rot _ C.rot), C.out] at hcd
  have hcyc : ∀ e, e ∈ cyc ((C.p0 :: C.P0) ++ (C.r :: C.R0)) ↔ e ∈ sides C.pl C.P1 ∨ e = (C.pl, C.r) ∨ e ∈ sides C.z C.R1 ∨ e = (C.z, C.p0) := by
    intro e
    rw [cyc_append, C.hP, C.hR, sides_last, sides_last]
    simp
  have hold : ∀ e, e ∈ cyc ((C.p0 :: C.P0) ++ (C.r :: C.R0)) → e ∈ cyc l := fun e he => (cyc_rot C.rot e).1 he
  rw [cyc_append, C.hP, sides_last] at hcd
  simp only [List.append_assoc, List.mem_append, sides, List.mem_cons, List.not_mem_nil, or_false] at hcd
  rcases hcd with hcd | hcd | hcd | hcd
  · obtain ⟨x, y, hxy, r⟩ := h c d (hold _ ((hcyc _).2 (.inl hcd)))
    exact ⟨x, y, by simp [hxy], r⟩
  · obtain ⟨rfl, rfl⟩ := Prod.mk.inj hcd
    obtain ⟨x, y, hxy, k, hk, e⟩ := h C.pl C.r (hold _ ((hcyc _).2 (.inr (.inl rfl))))
    refine ⟨x, y, by simp [hxy], t * k, Rat.mul_pos t0 hk, fun q => ?_⟩
    rw [e1, cross_lerp2, e q]
    have : cross C.pl C.pl q = 0 := by unfold cross; grind
    rw [this]; grind
  · obtain ⟨rfl, rfl⟩ := Prod.mk.inj hcd
    obtain ⟨k, hk, e⟩ := hside
    exact ⟨a, b, by simp, k, hk, e⟩
  · obtain ⟨rfl, rfl⟩ := Prod.mk.inj hcd
    obtain ⟨x, y, hxy, k, hk, e⟩ := h C.z C.p0 (hold _ ((hcyc _).2 (.inr (.inr (.inr rfl)))))
    refine ⟨x, y, by simp [hxy], s * k, Rat.mul_pos s0 hk, fun q => ?_⟩
    rw [e2, cross_lerp1, e q]
    have : cross C.p0 C.p0 q = 0 := by unfold cross; grind
    rw [this]; grind
end Go.Proofs.YtbddmkklkbkliaaGreatDoor.Geo
namespace Go.Proofs.YtbddmkklkbkliaaGreatDoor.Geo

/-- Sums over lists. -/
def sm {α : Type} (l : List α) (f : α → Rat) : Rat := (l.map f).foldr (· + ·) 0
theorem sm_nil {α : Type} (f : α → Rat) : sm [] f = 0 := rfl
theorem sm_cons {α : Type} (a : α) (l : List α) (f : α → Rat) : sm (a :: l) f = f a + sm l f := rfl
theorem sm_append {α : Type} (l m : List α) (f : α → Rat) : sm (l ++ m) f = sm l f + sm m f := by
  induction l with
  | nil => rw [sm_nil]; simp; grind
  | cons a l ih => rw [List.cons_append, sm_cons, sm_cons, ih]; grind
theorem sm_congr {α : Type} {l : List α} {f g : α → Rat} (h : ∀ x ∈ l, f x = g x) : sm l f = sm l g := by
  induction l with
  | nil => rfl
  | cons a l ih => rw [sm_cons, sm_cons, h a (by simp), ih (fun x hx => h x (by simp [hx]))]
theorem sm_add {α : Type} (l : List α) (f g : α → Rat) : sm l (fun x => f x + g x) = sm l f + sm l g := by
  induction l with
  | nil => rw [sm_nil, sm_nil, sm_nil]; grind
  | cons a l ih => rw [sm_cons, sm_cons, sm_cons, ih]; grind
theorem sm_mul {α : Type} (l : List α) (k : Rat) (f : α → Rat) : sm l (fun x => k * f x) = k * sm l f := by
  induction l with
  | nil => rw [sm_nil, sm_nil]; grind
  | cons a l ih => rw [sm_cons, sm_cons, ih]; grind
theorem sm_zero {α : Type} {l : List α} {f : α → Rat} (h : ∀ x ∈ l, f x = 0) : sm l f = 0 := by
  induction l with
  | nil => rfl
  | cons a l ih => rw [sm_cons, h a (by simp), ih (fun x hx => h x (by simp [hx]))]; grind
theorem sm_swap {α β : Type} (l : List α) (m : List β) (f : α → β → Rat) : sm l (fun x => sm m (f x)) = sm m (fun y => sm l (fun x => f x y)) := by
  induction l with
  | nil => rw [sm_nil]; exact (sm_zero fun y _ => rfl).symm
  | cons a l ih => rw [sm_cons, ih, ← sm_add]; exact sm_congr fun y _ => rfl
theorem sm_perm {α : Type} {l m : List α} (h : l.Perm m) (f : α → Rat) : sm l f = sm m f := by
  induction h with
  | nil => rfl
  | cons a _ ih => rw [sm_cons, sm_cons, ih]
  | swap a b l => rw [sm_cons, sm_cons, sm_cons, sm_cons]; grind
  | trans _ _ h1 h2 => rw [h1, h2]
theorem sm_filter {α : Type} (l : List α) (q : α → Bool) (f : α → Rat) : sm l (fun x => if q x = true then f x else 0) = sm (l.filter q) f := by
  induction l with
  | nil => rfl
  | cons a l ih =>
    rw [sm_cons, ih, List.filter_cons]
    split
    · rw [sm_cons]
    · grind
theorem sm_map {α β : Type} (l : List α) (g : α → β) (f : β → Rat) : sm (l.map g) f = sm l (fun x => f (g x)) := by
  induction l with
  | nil => rfl
  | cons a l ih => rw [List.map_cons, sm_cons, sm_cons, ih]
/-- One member of a list counts. -/
theorem sm_one {α : Type} {l : List α} (hn : l.Nodup) {a : α} (ha : a ∈ l) {f : α → Rat} (h : ∀ x ∈ l, x ≠ a → f x = 0) : sm l f = f a := by
  induction l with
  | nil => cases ha
  | cons b l ih =>
    rw [sm_cons]
    rw [List.nodup_cons] at hn
    rcases List.mem_cons.1 ha with rfl | ha
    · rw [sm_zero (fun x hx => h x (by simp [hx]) (fun e => hn.1 (e ▸ hx)))]; grind
    · rw [h b (by simp) (fun e => hn.1 (e ▸ ha)), ih hn.2 ha (fun x hx => h x (by simp [hx]))]; grind

/-- The steps from each number of a list to the next greater one. -/
def Next (L : List Rat) (a b : Rat) : Prop := a < b ∧ ∀ j ∈ L, ¬ (a < j ∧ j < b)
instance (L : List Rat) (a b : Rat) : Decidable (Next L a b) := by unfold Next; exact inferInstance
def steps (L : List Rat) : Rat := sm L fun a => sm L fun b => if Next L a b then b - a else 0

theorem steps_sorted : ∀ (L : List Rat) (x : Rat), (x :: L).Pairwise (· < ·) → ∃ y, y ∈ x :: L ∧ (∀ j ∈ x :: L, j ≤ y) ∧ steps (x :: L) = y - x
  | [], x, _ => ⟨x, by simp, fun j hj => by simp at hj; subst hj; exact Rat.le_refl, by
      unfold steps
      rw [sm_cons, sm_nil, sm_cons, sm_nil]
      rw [if_neg (by unfold Next; grind)]
      grind⟩
  | z :: L, x, h => by
    rw [List.pairwise_cons] at h
    obtain ⟨hx, h⟩ := h
    obtain ⟨y, hy, hm, hs⟩ := steps_sorted L z h
    have hz := h
    rw [List.pairwise_cons] at hz
    refine ⟨y, by simp at hy ⊢; grind, fun j hj => ?_, ?_⟩
    · rcases List.mem_cons.1 hj with rfl | hj
      · exact Rat.le_of_lt (hx y hy)
      · exact hm j hj
    · have hxz := hx z (by simp)
      have inner : ∀ a ∈ z :: L, sm (x :: z :: L) (fun b => if Next (x :: z :: L) a b then b - a else 0) = sm (z :: L) (fun b => if Next (z :: L) a b then b - a else 0) := by
        intro a ha
        have hxa := hx a ha
        rw [sm_cons, if_neg (by unfold Next; grind)]
        rw [sm_congr (g := fun b => if Next (z :: L) a b then b - a else 0)]
        · grind
        · intro b hb
          have : Next (x :: z :: L) a b ↔ Next (z :: L) a b := by
            unfold Next
            constructor
            · rintro ⟨h1, h2⟩; exact ⟨h1, fun j hj => h2 j (by simp at hj ⊢; grind)⟩
            · rintro ⟨h1, h2⟩
              refine ⟨h1, fun j hj => ?_⟩
              rcases List.mem_cons.1 hj with rfl | hj
              · grind
              · exact h2 j hj
          by_cases hn : Next (z :: L) a b
          · rw [if_pos hn, if_pos (this.2 hn)]
          · rw [if_neg hn, if_neg (fun h => hn (this.1 h))]
      have first : sm (x :: z :: L) (fun b => if Next (x :: z :: L) x b then b - x else 0) = z - x := by
        rw [sm_cons, sm_cons, if_neg (by unfold Next; grind), if_pos ?_, sm_zero ?_]
        · grind
        · intro b hb
          rw [if_neg]
          rintro ⟨_, h2⟩
          exact h2 z (by simp) ⟨hxz, hz.1 b hb⟩
        · refine ⟨hxz, fun j hj => ?_⟩
          rintro ⟨h1, h2⟩
          simp only [List.mem_cons] at hj
          rcases hj with rfl | rfl | hj
          · grind
          · grind
          · have := hz.1 j hj; grind
      unfold steps at hs ⊢
      rw [sm_cons, first, sm_congr inner, hs]
      grind

theorem steps_perm {L M : List Rat} (h : L.Perm M) : steps L = steps M := by
  unfold steps
  rw [sm_perm h]
  apply sm_congr
  intro a _
  rw [sm_perm h]
  apply sm_congr
  intro b _
  have : Next L a b ↔ Next M a b := by
    unfold Next
    constructor
    · rintro ⟨h1, h2⟩; exact ⟨h1, fun j hj => h2 j (h.mem_iff.2 hj)⟩
    · rintro ⟨h1, h2⟩; exact ⟨h1, fun j hj => h2 j (h.mem_iff.1 hj)⟩
  by_cases hn : Next M a b
  · rw [if_pos hn, if_pos (this.2 hn)]
  · rw [if_neg hn, if_neg (fun h => hn (this.1 h))]

theorem exists_sorted (L : List Rat) (hn : L.Nodup) : ∃ M, L.Perm M ∧ M.Pairwise (· < ·) := by
  induction L with
  | nil => exact ⟨[], .nil, .nil⟩
  | cons a L ih =>
    rw [List.nodup_cons] at hn
    obtain ⟨M, hp, hs⟩ := ih hn.2
    have ha : a ∉ M := fun h => hn.1 (hp.mem_iff.2 h)
    refine ⟨M.filter (fun x => decide (x < a)) ++ a :: M.filter (fun x => !decide (x < a)), ?_, ?_⟩
    · refine (hp.cons a).trans ?_
      refine List.Perm.trans ?_ List.perm_middle.symm
      exact (List.filter_append_perm _ M).symm.cons a
    · rw [List.pairwise_append]
      refine ⟨hs.filter _, ?_, ?_⟩
      · rw [List.pairwise_cons]
        refine ⟨fun x hx => ?_, hs.filter _⟩
        simp at hx
        exact Rat.lt_of_le_of_ne (Rat.not_lt.1 hx.2) (fun e => ha (e ▸ hx.1))
      · intro x hx y hy
        simp at hx
        rcases List.mem_cons.1 hy with rfl | hy
        · exact hx.2
        · simp at hy
          have := Rat.not_lt.1 hy.2
          grind

/-- The steps of a list of different numbers from its least one to its greatest one. -/
theorem steps_eq {L : List Rat} (hn : L.Nodup) {lo hi : Rat} (h1 : lo ∈ L) (h2 : hi ∈ L) (hlo : ∀ x ∈ L, lo ≤ x) (hhi : ∀ x ∈ L, x ≤ hi) : steps L = hi - lo := by
  obtain ⟨M, hp, hs⟩ := exists_sorted L hn
  rw [steps_perm hp]
  cases M with
  | nil => exact absurd (hp.mem_iff.1 h1) (by simp)
  | cons x M =>
    obtain ⟨y, hy, hm, e⟩ := steps_sorted M x hs
    rw [e]
    rw [List.pairwise_cons] at hs
    have e1 : y = hi := by
      have a := hm hi (hp.mem_iff.1 h2)
      have b := hhi y (hp.mem_iff.2 hy)
      grind
    have e2 : x = lo := by
      have a := hlo x (hp.mem_iff.2 (by simp))
      have b : x ≤ lo := by
        rcases List.mem_cons.1 (hp.mem_iff.1 h1) with h | h
        · rw [h]; exact Rat.le_refl
        · exact Rat.le_of_lt (hs.1 lo h)
      grind
    rw [e1, e2]
end Go.Proofs.YtbddmkklkbkliaaGreatDoor.Geo
