/-
  Numbers packed into as many bits each as the greatest difference needs: plain mathematics, of no program.
-/
import Derived.Test.YtmoenbdooilceaaDoorBy
namespace Go.Proofs.YtmoenbdooilceaaDoor.By

/-- The number of bits of x. -/
def bl (x : Nat) : Nat := if x = 0 then 0 else Nat.log2 x + 1
theorem bl_le {x n : Nat} : bl x ≤ n ↔ x < 2 ^ n := by
  unfold bl
  split
  · rename_i h; subst h; simp [Nat.two_pow_pos]
  · rename_i h; rw [← Nat.log2_lt h]; omega
theorem lt_bl (x : Nat) : x < 2 ^ bl x := bl_le.1 (Nat.le_refl _)
theorem bl_max (a b : Nat) : bl (max a b) = max (bl a) (bl b) := by
  apply Nat.le_antisymm
  · rw [bl_le]
    have h1 := bl_le.1 (Nat.le_max_left (bl a) (bl b))
    have h2 := bl_le.1 (Nat.le_max_right (bl a) (bl b))
    omega
  · have h1 : bl a ≤ bl (max a b) := bl_le.2 (Nat.lt_of_le_of_lt (Nat.le_max_left a b) (lt_bl _))
    have h2 : bl b ≤ bl (max a b) := bl_le.2 (Nat.lt_of_le_of_lt (Nat.le_max_right a b) (lt_bl _))
    omega
theorem bl_zero : bl 0 = 0 := rfl
theorem bl_half {x : Nat} (h : x ≠ 0) : bl x = bl (x / 2) + 1 := by
  apply Nat.le_antisymm
  · rw [bl_le]
    have := lt_bl (x / 2)
    rw [Nat.pow_succ]; omega
  · have h1 := lt_bl x
    have h2 : bl x ≠ 0 := by
      intro h0; rw [h0] at h1; simp at h1; exact h h1
    obtain ⟨k, hk⟩ := Nat.exists_eq_succ_of_ne_zero h2
    rw [hk] at h1 ⊢
    rw [Nat.succ_eq_add_one, Nat.pow_succ] at h1
    have : bl (x / 2) ≤ k := bl_le.2 (by omega)
    omega

/-- The least and the greatest of the first k numbers (of the number 0 at least). -/
def lo (g : Nat → Nat) : Nat → Nat
  | 0 => g 0
  | j + 1 => min (lo g j) (g j)
def hi (g : Nat → Nat) : Nat → Nat
  | 0 => g 0
  | j + 1 => max (hi g j) (g j)
def wd (g : Nat → Nat) (m : Nat) : Nat → Nat
  | 0 => 0
  | j + 1 => max (wd g m j) (bl (g j - m))
theorem lo_le (g : Nat → Nat) : ∀ {k i : Nat}, i < k → lo g k ≤ g i
  | k + 1, i, h => by
    show min (lo g k) (g k) ≤ g i
    rcases Nat.lt_or_ge i k with h1 | h1
    · exact Nat.le_trans (Nat.min_le_left _ _) (lo_le g h1)
    · have : i = k := by omega
      subst this; exact Nat.min_le_right _ _
theorem le_hi (g : Nat → Nat) : ∀ {k i : Nat}, i < k → g i ≤ hi g k
  | k + 1, i, h => by
    show g i ≤ max (hi g k) (g k)
    rcases Nat.lt_or_ge i k with h1 | h1
    · exact Nat.le_trans (le_hi g h1) (Nat.le_max_left _ _)
    · have : i = k := by omega
      subst this; exact Nat.le_max_right _ _
theorem lo_congr {f g : Nat → Nat} : ∀ {k : Nat}, 0 < k → (∀ i, i < k → f i = g i) → lo f k = lo g k
  | 1, _, h => by show min (f 0) (f 0) = min (g 0) (g 0); rw [h 0 (by omega)]
  | k + 2, _, h => by show min (lo f (k + 1)) (f (k + 1)) = _; rw [lo_congr (by omega) (fun i hi => h i (by omega)), h (k + 1) (by omega)]; rfl
theorem hi_congr {f g : Nat → Nat} : ∀ {k : Nat}, 0 < k → (∀ i, i < k → f i = g i) → hi f k = hi g k
  | 1, _, h => by show max (f 0) (f 0) = max (g 0) (g 0); rw [h 0 (by omega)]
  | k + 2, _, h => by show max (hi f (k + 1)) (f (k + 1)) = _; rw [hi_congr (by omega) (fun i hi => h i (by omega)), h (k + 1) (by omega)]; rfl
theorem lo_lt {g : Nat → Nat} {M : Nat} : ∀ {k : Nat}, 0 < k → (∀ i, i < k → g i < M) → lo g k < M
  | k + 1, _, h => Nat.lt_of_le_of_lt (lo_le g (Nat.lt_succ_self k)) (h k (Nat.lt_succ_self k))
theorem hi_lt {g : Nat → Nat} {M : Nat} : ∀ {k : Nat}, 0 < k → (∀ i, i < k → g i < M) → hi g k < M
  | 1, _, h => by show max (g 0) (g 0) < M; rw [Nat.max_self]; exact h 0 (by omega)
  | k + 2, _, h => by
    show max (hi g (k + 1)) (g (k + 1)) < M
    have h1 := hi_lt (k := k + 1) (by omega) (fun i hi => h i (by omega))
    have h2 := h (k + 1) (by omega)
    omega
theorem wd_eq (g : Nat → Nat) (m : Nat) : ∀ k, 0 < k → wd g m k = bl (hi g k - m)
  | 1, _ => by show max 0 (bl (g 0 - m)) = bl (max (g 0) (g 0) - m); rw [Nat.max_self, Nat.zero_max]
  | k + 2, _ => by
    show max (wd g m (k + 1)) (bl (g (k + 1) - m)) = bl (max (hi g (k + 1)) (g (k + 1)) - m)
    rw [wd_eq g m (k + 1) (by omega), ← bl_max]
    congr 1; omega

/-- Bit t of a row of bytes, the greatest bit of each byte first. -/
def bt (l : List Nat) (t : Nat) : Nat := l.getD (t / 8) 0 / 2 ^ (7 - t % 8) % 2
def put1 (l : List Nat) (t b : Nat) : List Nat := l.set (t / 8) (l.getD (t / 8) 0 ||| b * 2 ^ (7 - t % 8))
/-- Bit j of a number of w bits, the greatest first. -/
def nb (x w j : Nat) : Nat := x / 2 ^ (w - 1 - j) % 2
/-- The row of size bytes when t bits of the numbers are in. -/
def fld (xs : Nat → Nat) (w size : Nat) : Nat → List Nat
  | 0 => List.replicate size 0
  | t + 1 => put1 (fld xs w size t) t (nb (xs (t / w)) w (t % w))
theorem put1_len (l : List Nat) (t b : Nat) : (put1 l t b).length = l.length := by simp [put1]
theorem fld_len (xs : Nat → Nat) (w size : Nat) : ∀ t, (fld xs w size t).length = size
  | 0 => by simp [fld]
  | t + 1 => by show (put1 _ _ _).length = _; rw [put1_len, fld_len]
theorem nb_lt (x w j : Nat) : nb x w j < 2 := Nat.mod_lt _ (by decide)
theorem put1_bytes {l : List Nat} (h : Bytes l) (t : Nat) {b : Nat} (hb : b < 2) : Bytes (put1 l t b) := by
  intro z hz
  rcases List.mem_or_eq_of_mem_set hz with h1 | rfl
  · exact h z h1
  · have h2 : b * 2 ^ (7 - t % 8) < 256 := by
      have h3 : 2 ^ (7 - t % 8) ≤ 2 ^ 7 := Nat.pow_le_pow_right (by decide) (by omega)
      have h4 : b * 2 ^ (7 - t % 8) ≤ 1 * 2 ^ (7 - t % 8) := Nat.mul_le_mul_right _ (by omega)
      omega
    exact Nat.or_lt_two_pow (n := 8) (h.at_ _) h2
theorem fld_bytes (xs : Nat → Nat) (w size : Nat) : ∀ t, Bytes (fld xs w size t)
  | 0 => by intro z hz; simp [fld] at hz; omega
  | t + 1 => put1_bytes (fld_bytes xs w size t) _ (nb_lt _ _ _)
theorem nb_test (x w j : Nat) : nb x w j = (x.testBit (w - 1 - j)).toNat := by
  rw [nb, Nat.testBit_eq_decide_div_mod_eq]
  rcases Nat.mod_two_eq_zero_or_one (x / 2 ^ (w - 1 - j)) with h | h <;> simp [h]
theorem bt_test (l : List Nat) (t : Nat) : bt l t = ((l.getD (t / 8) 0).testBit (7 - t % 8)).toNat := by
  rw [bt, Nat.testBit_eq_decide_div_mod_eq]
  generalize l.getD (t / 8) 0 / 2 ^ (7 - t % 8) = q
  rcases Nat.mod_two_eq_zero_or_one q with h | h <;> simp [h]
theorem bt_put1 {l : List Nat} {t b : Nat} (hb : b < 2) (ht : t < 8 * l.length) (h0 : bt l t = 0) (u : Nat) : bt (put1 l t b) u = if u = t then b else bt l u := by
  rw [bt_test, bt_test, put1]
  rw [bt_test] at h0
  have hl : t / 8 < l.length := by omega
  by_cases hq : u / 8 = t / 8
  · rw [hq, List.getD_eq_getElem?_getD, List.getElem?_set_self hl, Option.getD_some, Nat.testBit_or]
    have hs : (b * 2 ^ (7 - t % 8)).testBit (7 - u % 8) = (decide (u = t) && decide (b = 1)) := by
      rw [Nat.testBit_mul_two_pow]
      rcases Nat.lt_or_ge b 1 with hb0 | hb1
      · obtain rfl : b = 0 := by omega
        simp
      · obtain rfl : b = 1 := by omega
        by_cases hut : u = t
        · subst hut; simp
        · rcases Nat.lt_or_ge (7 - u % 8) (7 - t % 8) with h1 | h1
          · simp [hut]; omega
          · have h2 : Nat.testBit 1 (7 - u % 8 - (7 - t % 8)) = false := by
              cases h : Nat.testBit 1 (7 - u % 8 - (7 - t % 8)) with
              | false => rfl
              | true => have := Nat.testBit_one_eq_true_iff_self_eq_zero.1 h; omega
            rw [h2]; simp [hut]
    rw [hs]
    by_cases hut : u = t
    · subst hut
      rw [if_pos rfl]
      have : ((l.getD (u / 8) 0).testBit (7 - u % 8)) = false := by
        cases h : (l.getD (u / 8) 0).testBit (7 - u % 8) with
        | false => rfl
        | true => rw [h] at h0; cases h0
      rw [this]
      rcases Nat.lt_or_ge b 1 with hb0 | hb1
      · obtain rfl : b = 0 := by omega
        simp
      · obtain rfl : b = 1 := by omega
        simp
    · rw [if_neg hut]; simp [hut]
  · have hut : u ≠ t := fun e => hq (by rw [e])
    rw [if_neg hut, List.getD_eq_getElem?_getD, List.getElem?_set_ne (fun e => hq e.symm), ← List.getD_eq_getElem?_getD]
theorem bt_fld (xs : Nat → Nat) (w size : Nat) : ∀ t, t ≤ 8 * size → ∀ u, bt (fld xs w size t) u = if u < t then nb (xs (u / w)) w (u % w) else 0
  | 0, _, u => by
    rw [if_neg (by omega), bt]
    have : (fld xs w size 0).getD (u / 8) 0 = 0 := by
      simp only [fld, List.getD_eq_getElem?_getD, List.getElem?_replicate]
      split <;> rfl
    rw [this]; simp
  | t + 1, ht, u => by
    have ih := bt_fld xs w size t (by omega)
    show bt (put1 _ _ _) u = _
    rw [bt_put1 (nb_lt _ _ _) (by rw [fld_len]; omega) (by rw [ih, if_neg (by omega)]), ih]
    by_cases h : u = t
    · subst h; rw [if_pos rfl, if_pos (by omega)]
    · rw [if_neg h]
      by_cases h2 : u < t
      · rw [if_pos h2, if_pos (by omega)]
      · rw [if_neg h2, if_neg (by omega)]
/-- The number that j bits from bit a on say. -/
def rd (l : List Nat) (a : Nat) : Nat → Nat
  | 0 => 0
  | j + 1 => 2 * rd l a j + bt l (a + j)
theorem bt_lt (l : List Nat) (t : Nat) : bt l t < 2 := Nat.mod_lt _ (by decide)
theorem rd_lt (l : List Nat) (a : Nat) : ∀ j, rd l a j < 2 ^ j
  | 0 => by simp [rd]
  | j + 1 => by
    have h1 := rd_lt l a j
    have h2 := bt_lt l (a + j)
    show 2 * rd l a j + bt l (a + j) < _
    rw [Nat.pow_succ]; omega
theorem rd_congr {l m : List Nat} {a b : Nat} : ∀ {j : Nat}, (∀ i, i < j → bt l (a + i) = bt m (b + i)) → rd l a j = rd m b j
  | 0, _ => rfl
  | j + 1, h => by show 2 * _ + _ = 2 * _ + _; rw [rd_congr (fun i hi => h i (by omega)), h j (by omega)]
theorem rd_top {l : List Nat} {a x w : Nat} (hx : x < 2 ^ w) (h : ∀ j, j < w → bt l (a + j) = nb x w j) : ∀ j, j ≤ w → rd l a j = x / 2 ^ (w - j)
  | 0, _ => by rw [Nat.sub_zero, Nat.div_eq_of_lt hx]; rfl
  | j + 1, hj => by
    show 2 * rd l a j + bt l (a + j) = _
    rw [rd_top hx h j (by omega), h j (by omega), nb, show w - (j + 1) = w - 1 - j by omega, show w - j = w - 1 - j + 1 by omega, Nat.pow_succ, ← Nat.div_div_eq_div_mul]
    omega
theorem rd_all {l : List Nat} {a x w : Nat} (hx : x < 2 ^ w) (h : ∀ j, j < w → bt l (a + j) = nb x w j) : rd l a w = x := by
  rw [rd_top hx h w (Nat.le_refl _), Nat.sub_self, Nat.pow_zero, Nat.div_one]
theorem rd_fld (xs : Nat → Nat) {w size k i : Nat} (hs : k * w ≤ 8 * size) (hi : i < k) (hx : xs i < 2 ^ w) : rd (fld xs w size (k * w)) (i * w) w = xs i := by
  refine rd_all hx fun j hj => ?_
  have h1 : i * w + w ≤ k * w := by rw [← Nat.succ_mul]; exact Nat.mul_le_mul_right _ hi
  rw [bt_fld xs w size _ hs, if_pos (by omega)]
  have hd : (i * w + j) / w = i := by rw [Nat.mul_comm, Nat.mul_add_div (by omega), Nat.div_eq_of_lt hj, Nat.add_zero]
  have hm : (i * w + j) % w = j := by rw [Nat.mul_comm, Nat.mul_add_mod, Nat.mod_eq_of_lt hj]
  rw [hd, hm]
theorem fld_congr {f g : Nat → Nat} {w size k : Nat} (h : ∀ i, i < k → f i = g i) : ∀ {t : Nat}, t ≤ k * w → fld f w size t = fld g w size t
  | 0, _ => rfl
  | t + 1, ht => by
    show put1 _ _ _ = put1 _ _ _
    rw [fld_congr h (by omega), h (t / w) (by
      rcases Nat.eq_zero_or_pos w with h0 | h0
      · subst h0; omega
      · exact (Nat.div_lt_iff_lt_mul h0).2 (by omega))]

theorem bt_app {l r : List Nat} {t : Nat} (h : t < 8 * l.length) : bt (l ++ r) t = bt l t := by
  unfold bt
  rw [List.getD_eq_getElem?_getD, List.getElem?_append_left (by omega), ← List.getD_eq_getElem?_getD]

/-- The numbers g 0 .. g (k - 1) of n bytes each, packed; the rest r behind them. -/
def packW (g : Nat → Nat) (k : Nat) : Nat := bl (hi g k - lo g k)
def packF (g : Nat → Nat) (k : Nat) : List Nat := fld (fun i => g i - lo g k) (packW g k) ((k * packW g k + 7) / 8) (k * packW g k)
def packB (g : Nat → Nat) (k n : Nat) (r : List Nat) : List Nat := (if k = 0 then gb 4 k else gb 4 k ++ gb n (lo g k) ++ [packW g k] ++ packF g k) ++ r
def packL (b : List Nat) (n : Nat) : List Nat := packB (G b n) (b.length / n) n (rest b n)
def ukN (b : List Nat) : Nat := gv (b.take 4)
def ukM (b : List Nat) (n : Nat) : Nat := gv ((b.drop 4).take n)
def ukW (b : List Nat) (n : Nat) : Nat := (b.drop 4).getD n 0
def ukF (b : List Nat) (n : Nat) : List Nat := (b.drop 4).drop (n + 1)
def ukS (b : List Nat) (n : Nat) : Nat := (ukN b * ukW b n + 7) / 8
def ukG (b : List Nat) (n i : Nat) : Nat := (ukM b n + rd (ukF b n) (i * ukW b n) (ukW b n)) % 2 ^ 64
def ukR (b : List Nat) (n : Nat) : List Nat := if ukN b = 0 then b.drop 4 else (ukF b n).drop (ukS b n)
def ukB (b : List Nat) (n : Nat) : List Nat := jn (ukG b n) n (ukN b) ++ ukR b n
def ukOk (b : List Nat) (n : Nat) : Prop := 4 ≤ b.length ∧ (ukN b = 0 ∨ (n + 1 ≤ (b.drop 4).length ∧ ukN b ≤ 1048576 / n ∧ ukW b n ≤ 64 ∧ ukS b n ≤ (ukF b n).length))
theorem packF_len (g : Nat → Nat) (k : Nat) : (packF g k).length = (k * packW g k + 7) / 8 := fld_len _ _ _ _
theorem packF_bytes (g : Nat → Nat) (k : Nat) : Bytes (packF g k) := fld_bytes _ _ _ _
theorem packF_rd (g : Nat → Nat) {k i : Nat} (hi_ : i < k) (r : List Nat) : rd (packF g k ++ r) (i * packW g k) (packW g k) = g i - lo g k := by
  have hs : k * packW g k ≤ 8 * ((k * packW g k + 7) / 8) := by omega
  have h1 : i * packW g k + packW g k ≤ k * packW g k := by rw [← Nat.succ_mul]; exact Nat.mul_le_mul_right _ hi_
  rw [rd_congr (m := packF g k) (b := i * packW g k) (fun j hj => bt_app (by rw [packF_len]; omega))]
  refine rd_fld (fun i => g i - lo g k) hs hi_ ?_
  refine bl_le.1 ?_
  refine bl_le.2 (Nat.lt_of_le_of_lt ?_ (lt_bl (hi g k - lo g k)))
  have := le_hi g hi_
  show g i - lo g k ≤ _
  omega
theorem take_exact {a b : List Nat} {n : Nat} (h : a.length = n) : (a ++ b).take n = a := by subst h; simp
theorem drop_exact {a b : List Nat} {n : Nat} (h : a.length = n) : (a ++ b).drop n = b := by subst h; simp
theorem uk_zero {r : List Nat} : ukN (gb 4 0 ++ r) = 0 ∧ (gb 4 0 ++ r).drop 4 = r := ⟨by unfold ukN; rw [take_exact (gb_len _ _), gv_gb], drop_exact (gb_len _ _)⟩
theorem uk_parts {k m w n : Nat} {f r : List Nat} (hk : k < 2 ^ 32) (hm : m < 256 ^ n) :
    ukN (gb 4 k ++ gb n m ++ [w] ++ f ++ r) = k ∧ ukM (gb 4 k ++ gb n m ++ [w] ++ f ++ r) n = m ∧ ukW (gb 4 k ++ gb n m ++ [w] ++ f ++ r) n = w ∧ ukF (gb 4 k ++ gb n m ++ [w] ++ f ++ r) n = f ++ r := by
  have e : gb 4 k ++ gb n m ++ [w] ++ f ++ r = gb 4 k ++ (gb n m ++ ([w] ++ (f ++ r))) := by simp only [List.append_assoc]
  have h4 : (gb 4 k ++ (gb n m ++ ([w] ++ (f ++ r)))).drop 4 = gb n m ++ ([w] ++ (f ++ r)) := drop_exact (gb_len _ _)
  rw [e]
  refine ⟨?_, ?_, ?_, ?_⟩
  · unfold ukN; rw [take_exact (gb_len _ _), gv_gb]; exact Nat.mod_eq_of_lt hk
  · unfold ukM; rw [h4, take_exact (gb_len _ _), gv_gb]; exact Nat.mod_eq_of_lt hm
  · unfold ukW; rw [h4, List.getD_eq_getElem?_getD, List.getElem?_append_right (by rw [gb_len]; exact Nat.le_refl _), gb_len, Nat.sub_self]; rfl
  · unfold ukF; rw [h4, ← List.drop_drop, drop_exact (gb_len _ _)]; rfl
theorem packB_congr {f g : Nat → Nat} {k n : Nat} {r : List Nat} (h : ∀ i, i < k → f i = g i) : packB f k n r = packB g k n r := by
  unfold packB
  split
  · rfl
  · rename_i hk
    have h1 : lo f k = lo g k := lo_congr (by omega) h
    have h2 : packW f k = packW g k := by unfold packW; rw [h1, hi_congr (by omega) h]
    have h3 : packF f k = packF g k := by
      unfold packF
      rw [h2, h1]
      exact fld_congr (k := k) (fun i hi => by rw [h i hi]) (Nat.le_refl _)
    rw [h1, h2, h3]
theorem packB_pos {g : Nat → Nat} {k n : Nat} {r : List Nat} (h : k ≠ 0) : packB g k n r = gb 4 k ++ gb n (lo g k) ++ [packW g k] ++ packF g k ++ r := by unfold packB; rw [if_neg h]
theorem packB_zero {g : Nat → Nat} {n : Nat} {r : List Nat} : packB g 0 n r = gb 4 0 ++ r := by unfold packB; rw [if_pos rfl]
/-- What is read of a row that was packed. -/
theorem uk_pack {g : Nat → Nat} {k n : Nat} {r : List Nat} (hk : k < 2 ^ 32) (h0 : k ≠ 0) (h8 : n ≤ 8) (hg : ∀ i, i < k → g i < 256 ^ n) :
    ukN (packB g k n r) = k ∧ ukW (packB g k n r) n = packW g k ∧ ukF (packB g k n r) n = packF g k ++ r ∧ ukR (packB g k n r) n = r ∧ ∀ i, i < k → ukG (packB g k n r) n i = g i := by
  rw [packB_pos h0]
  obtain ⟨p1, p2, p3, p4⟩ := uk_parts (w := packW g k) (f := packF g k) (r := r) hk (lo_lt (by omega) hg)
  refine ⟨p1, p3, p4, ?_, fun i hi_ => ?_⟩
  · unfold ukR ukS
    rw [p1, p3, p4, if_neg h0, drop_exact (packF_len g k)]
  · unfold ukG
    rw [p2, p3, p4, packF_rd g hi_ r]
    have h1 := lo_le g hi_
    rw [Nat.add_sub_cancel' h1]
    refine Nat.mod_eq_of_lt (Nat.lt_of_lt_of_le (hg i hi_) ?_)
    calc 256 ^ n ≤ 256 ^ 8 := Nat.pow_le_pow_right (by decide) h8
      _ = 2 ^ 64 := by decide
theorem packL_bytes {b : List Nat} (hb : Bytes b) {n : Nat} (h8 : n ≤ 8) : Bytes (packL b n) := by
  unfold packL packB
  refine Bytes.app ?_ (hb.drop _)
  split
  · exact gb_bytes _ _
  · refine ((Bytes.app (gb_bytes _ _) (gb_bytes _ _)).app (bytes_one ?_)).app (packF_bytes _ _)
    rename_i h0
    have hG : ∀ i, i < b.length / n → G b n i < 2 ^ 64 := fun i hi => Nat.lt_of_lt_of_le (G_lt hb hi) (by
      calc 256 ^ n ≤ 256 ^ 8 := Nat.pow_le_pow_right (by decide) h8
        _ = 2 ^ 64 := by decide)
    have h2 : packW (G b n) (b.length / n) ≤ 64 := bl_le.2 (Nat.lt_of_le_of_lt (Nat.sub_le _ _) (hi_lt (Nat.pos_of_ne_zero h0) hG))
    omega
theorem packW_le {b : List Nat} (hb : Bytes b) {n : Nat} (h8 : n ≤ 8) (h0 : b.length / n ≠ 0) : packW (G b n) (b.length / n) ≤ 64 := by
  have hG : ∀ i, i < b.length / n → G b n i < 2 ^ 64 := fun i hi => Nat.lt_of_lt_of_le (G_lt hb hi) (by
    calc 256 ^ n ≤ 256 ^ 8 := Nat.pow_le_pow_right (by decide) h8
      _ = 2 ^ 64 := by decide)
  exact bl_le.2 (Nat.lt_of_le_of_lt (Nat.sub_le _ _) (hi_lt (Nat.pos_of_ne_zero h0) hG))
/-- What was packed is unpacked. -/
theorem unpack_pack {b : List Nat} (hb : Bytes b) {n : Nat} (h8 : n ≤ 8) (hl : b.length ≤ 1048576) : ukOk (packL b n) n ∧ ukB (packL b n) n = b := by
  have hk : b.length / n < 2 ^ 32 := Nat.lt_of_le_of_lt (Nat.div_le_self _ _) (by omega)
  unfold packL
  by_cases h0 : b.length / n = 0
  · have hr : rest b n = b := by unfold rest; rw [h0]; simp
    rw [h0, packB_zero, hr]
    obtain ⟨z1, z2⟩ := uk_zero (r := b)
    refine ⟨⟨by rw [List.length_append, gb_len]; omega, .inl z1⟩, ?_⟩
    unfold ukB ukR
    rw [z1, z2, if_pos rfl]
    simp [jn]
  · obtain ⟨p1, p2, p3, p4, p5⟩ := uk_pack (r := rest b n) hk h0 h8 (fun i hi_ => G_lt hb hi_)
    refine ⟨⟨?_, .inr ⟨?_, ?_, ?_, ?_⟩⟩, ?_⟩
    · rw [packB_pos h0]; simp [gb_len]; try omega
    · rw [packB_pos h0]; simp [gb_len]; try omega
    · rw [p1]; exact Nat.div_le_div_right hl
    · rw [p2]; exact packW_le hb h8 h0
    · unfold ukS
      rw [p1, p2, p3, List.length_append, packF_len]; omega
    · unfold ukB
      rw [p1, p4, jn_congr (fun j hj => by rw [p5 j hj]), whole hb n]
/-- A row that is the packing of what it unpacks to is the packing of the very numbers that were read. -/
theorem pack_again {b : List Nat} {n : Nat} (h8 : n ≤ 8) (hb : Bytes b) (hl : (ukB b n).length ≤ 1048576) (h : packL (ukB b n) n = b) : packB (ukG b n) (ukN b) n (ukR b n) = b := by
  have hR : Bytes (ukR b n) := by unfold ukR; split; exact hb.drop _; exact (((hb.drop _).drop _).drop _)
  have hB : Bytes (ukB b n) := (jn_bytes _ _ _).app hR
  have hk : (ukB b n).length / n < 2 ^ 32 := Nat.lt_of_le_of_lt (Nat.div_le_self _ _) (by omega)
  obtain ⟨o, ho⟩ : ∃ o, o = ukB b n := ⟨_, rfl⟩
  rw [← ho] at h hl hB hk
  by_cases h0 : o.length / n = 0
  · have e : b = gb 4 0 ++ rest o n := by rw [← h]; unfold packL; rw [h0, packB_zero]
    obtain ⟨z1, z2⟩ := uk_zero (r := rest o n)
    have hN : ukN b = 0 := by rw [e]; exact z1
    unfold ukR
    rw [hN, if_pos rfl, packB_zero]
    conv => lhs; rw [e, z2]
    exact e.symm
  · obtain ⟨p1, p2, p3, p4, p5⟩ := uk_pack (r := rest o n) hk h0 h8 (fun i hi_ => G_lt hB hi_)
    have e : packB (G o n) (o.length / n) n (rest o n) = b := h
    rw [e] at p1 p2 p3 p4 p5
    rw [p1, p4, packB_congr p5, e]
end Go.Proofs.YtmoenbdooilceaaDoor.By
