/-
  Numbers packed into as many bits each as the greatest difference needs: plain mathematics, of no program.
  Walks: the least, the greatest of numbers; bits written and read.
  Walks: bits written into a row of bytes.
  Walks: the reference's bits, least, packed.
  Walk: the reference's packed.
  Walk: the reference's Pack.
  Walks: what Pack and Unpack answer to a size or a length that they refuse.
  Walk: the reference's unpacked.
  Walk: the reference's unpacked.
  Walks: slices.Chunk and its iterator.
  Walk: codec.put, the whole block known.
  Walk: codec.unpacked.
  Walk: codec.unpacked, the packed rows.
  Walk: codec.Pack.
  Walk: codec.Unpack.
  Walk: the reference's unpacked, the packed rows.
  Walk: the reference's Unpack.
  Walk: the reference's Unpack.
-/
import Derived.Test.YtpkhgdnkkdhlcaaGreatDoorCodX
import Derived.Lib.ItoaNum
import Derived.StillTailTactics
import Derived.Test.YtpkhgdnkkdhlcaaGreatDoorCoX
import Derived.OwnWalk
import Derived.RangeFuncNested
import Derived.RangeFuncBound
import Derived.RangeFuncCalls
import Derived.RangeFuncLeaves
import Derived.RangeFuncBox
import Derived.Shelf.Abstract
import Derived.WalkKit
import Derived.OwnWalkIn
import Derived.TacticsInMore
import Derived.LoopNIn
import Derived.LoopIn
import Derived.Maps.AppendAt
import Derived.StillTactics
import Derived.Test.YtpkhgdnkkdhlcaaGreatDoorShelf
import Derived.TacticsIn
import Derived.RegionIn
import Derived.Shelf.RegionOpen
import Derived.RegionTactic
import Derived.Deep.RegionWith
import Derived.Deep.QuietTactic
import Derived.BigQuiet
import Derived.Deep.RegionHeld3
namespace Go.Proofs.YtpkhgdnkkdhlcaaGreatDoor.By

/-- The number of bits of x. -/
def bl (x : Nat) : Nat := if x = 0 then 0 else Nat.log2 x + 1
theorem bl_le {x n : Nat} : bl x ≤ n ↔ x < 2 ^ n := by
  unfold bl
  split
  · rename_i h; subst h; simp [Nat.two_pow_pos]
  · rename_i h; rw [← Nat.log2_lt h]; omega
theorem lt_bl (x : Nat) : x < 2 ^ bl x := bl_le.1 (Nat.le_refl _)
theorem bl_max (a b : Nat) : bl (max a b) = max (bl a) (bl b) := by
  apply Nat.le_antisymm
  · rw [bl_le]
    have h1 := bl_le.1 (Nat.le_max_left (bl a) (bl b))
    have h2 := bl_le.1 (Nat.le_max_right (bl a) (bl b))
    omega
  · have h1 : bl a ≤ bl (max a b) := bl_le.2 (Nat.lt_of_le_of_lt (Nat.le_max_left a b) (lt_bl _))
    have h2 : bl b ≤ bl (max a b) := bl_le.2 (Nat.lt_of_le_of_lt (Nat.le_max_right a b) (lt_bl _))
    omega
theorem bl_zero : bl 0 = 0 := rfl
theorem bl_half {x : Nat} (h : x ≠ 0) : bl x = bl (x / 2) + 1 := by
  apply Nat.le_antisymm
  · rw [bl_le]
    have := lt_bl (x / 2)
    rw [Nat.pow_succ]; omega
  · have h1 := lt_bl x
    have h2 : bl x ≠ 0 := by
      intro h0; rw [h0] at h1; simp at h1; exact h h1
    obtain ⟨k, hk⟩ := Nat.exists_eq_succ_of_ne_zero h2
    rw [hk] at h1 ⊢
    rw [Nat.succ_eq_add_one, Nat.pow_succ] at h1
    have : bl (x / 2) ≤ k := bl_le.2 (by omega)
    omega

/-- The least and the greatest of the first k numbers (of the number 0 at least). -/
def lo (g : Nat → Nat) : Nat → Nat
  | 0 => g 0
  | j + 1 => min (lo g j) (g j)
def hi (g : Nat → Nat) : Nat → Nat
  | 0 => g 0
  | j + 1 => max (hi g j) (g j)
def wd (g : Nat → Nat) (m : Nat) : Nat → Nat
  | 0 => 0
  | j + 1 => max (wd g m j) (bl (g j - m))
theorem lo_le (g : Nat → Nat) : ∀ {k i : Nat}, i < k → lo g k ≤ g i
  | k + 1, i, h => by
    show min (lo g k) (g k) ≤ g i
    rcases Nat.lt_or_ge i k with h1 | h1
    · exact Nat.le_trans (Nat.min_le_left _ _) (lo_le g h1)
    · have : i = k := by omega
      subst this; exact Nat.min_le_right _ _
theorem le_hi (g : Nat → Nat) : ∀ {k i : Nat}, i < k → g i ≤ hi g k
  | k + 1, i, h => by
    show g i ≤ max (hi g k) (g k)
    rcases Nat.lt_or_ge i k with h1 | h1
    · exact Nat.le_trans (le_hi g h1) (Nat.le_max_left _ _)
    · have : i = k := by omega
      subst this; exact Nat.le_max_right _ _
theorem lo_congr {f g : Nat → Nat} : ∀ {k : Nat}, 0 < k → (∀ i, i < k → f i = g i) → lo f k = lo g k
  | 1, _, h => by show min (f 0) (f 0) = min (g 0) (g 0); rw [h 0 (by omega)]
  | k + 2, _, h => by show min (lo f (k + 1)) (f (k + 1)) = _; rw [lo_congr (by omega) (fun i hi => h i (by omega)), h (k + 1) (by omega)]; rfl
theorem hi_congr {f g : Nat → Nat} : ∀ {k : Nat}, 0 < k → (∀ i, i < k → f i = g i) → hi f k = hi g k
  | 1, _, h => by show max (f 0) (f 0) = max (g 0) (g 0); rw [h 0 (by omega)]
  | k + 2, _, h => by show max (hi f (k + 1)) (f (k + 1)) = _; rw [hi_congr (by omega) (fun i hi => h i (by omega)), h (k + 1) (by omega)]; rfl
theorem lo_lt {g : Nat → Nat} {M : Nat} : ∀ {k : Nat}, 0 < k → (∀ i, i < k → g i < M) → lo g k < M
  | k + 1, _, h => Nat.lt_of_le_of_lt (lo_le g (Nat.lt_succ_self k)) (h k (Nat.lt_succ_self k))
theorem hi_lt {g : Nat → Nat} {M : Nat} : ∀ {k : Nat}, 0 < k → (∀ i, i < k → g i < M) → hi g k < M
  | 1, _, h => by show max (g 0) (g 0) < M; rw [Nat.max_self]; exact h 0 (by omega)
  | k + 2, _, h => by
    show max (hi g (k + 1)) (g (k + 1)) < M
    have h1 := hi_lt (k := k + 1) (by omega) (fun i hi => h i (by omega))
    have h2 := h (k + 1) (by omega)
    omega
theorem wd_eq (g : Nat → Nat) (m : Nat) : ∀ k, 0 < k → wd g m k = bl (hi g k - m)
  | 1, _ => by show max 0 (bl (g 0 - m)) = bl (max (g 0) (g 0) - m); rw [Nat.max_self, Nat.zero_max]
  | k + 2, _ => by
    show max (wd g m (k + 1)) (bl (g (k + 1) - m)) = bl (max (hi g (k + 1)) (g (k + 1)) - m)
    rw [wd_eq g m (k + 1) (by omega), ← bl_max]
    congr 1; omega

/-- Bit t of a row of bytes, the greatest bit of each byte first. -/
def bt (l : List Nat) (t : Nat) : Nat := l.getD (t / 8) 0 / 2 ^ (7 - t % 8) % 2
def put1 (l : List Nat) (t b : Nat) : List Nat := l.set (t / 8) (l.getD (t / 8) 0 ||| b * 2 ^ (7 - t % 8))
/-- Bit j of a number of w bits, the greatest first. -/
def nb (x w j : Nat) : Nat := x / 2 ^ (w - 1 - j) % 2
/-- The row of size bytes when t bits of the numbers are in. -/
def fld (xs : Nat → Nat) (w size : Nat) : Nat → List Nat
  | 0 => List.replicate size 0
  | t + 1 => put1 (fld xs w size t) t (nb (xs (t / w)) w (t % w))
theorem put1_len (l : List Nat) (t b : Nat) : (put1 l t b).length = l.length := by simp [put1]
theorem fld_len (xs : Nat → Nat) (w size : Nat) : ∀ t, (fld xs w size t).length = size
  | 0 => by simp [fld]
  | t + 1 => by show (put1 _ _ _).length = _; rw [put1_len, fld_len]
theorem nb_lt (x w j : Nat) : nb x w j < 2 := Nat.mod_lt _ (by decide)
theorem put1_bytes {l : List Nat} (h : Bytes l) (t : Nat) {b : Nat} (hb : b < 2) : Bytes (put1 l t b) := by
  intro z hz
  rcases List.mem_or_eq_of_mem_set hz with h1 | rfl
  · exact h z h1
  · have h2 : b * 2 ^ (7 - t % 8) < 256 := by
      have h3 : 2 ^ (7 - t % 8) ≤ 2 ^ 7 := Nat.pow_le_pow_right (by decide) (by omega)
      have h4 : b * 2 ^ (7 - t % 8) ≤ 1 * 2 ^ (7 - t % 8) := Nat.mul_le_mul_right _ (by omega)
      omega
    exact Nat.or_lt_two_pow (n := 8) (h.at_ _) h2
theorem fld_bytes (xs : Nat → Nat) (w size : Nat) : ∀ t, Bytes (fld xs w size t)
  | 0 => by intro z hz; simp [fld] at hz; omega
  | t + 1 => put1_bytes (fld_bytes xs w size t) _ (nb_lt _ _ _)
theorem nb_test (x w j : Nat) : nb x w j = (x.testBit (w - 1 - j)).toNat := by
  rw [nb, Nat.testBit_eq_decide_div_mod_eq]
  rcases Nat.mod_two_eq_zero_or_one (x / 2 ^ (w - 1 - j)) with h | h <;> simp [h]
theorem bt_test (l : List Nat) (t : Nat) : bt l t = ((l.getD (t / 8) 0).testBit (7 - t % 8)).toNat := by
  rw [bt, Nat.testBit_eq_decide_div_mod_eq]
  generalize l.getD (t / 8) 0 / 2 ^ (7 - t % 8) = q
  rcases Nat.mod_two_eq_zero_or_one q with h | h <;> simp [h]
theorem bt_put1 {l : List Nat} {t b : Nat} (hb : b < 2) (ht : t < 8 * l.length) (h0 : bt l t = 0) (u : Nat) : bt (put1 l t b) u = if u = t then b else bt l u := by
  rw [bt_test, bt_test, put1]
  rw [bt_test] at h0
  have hl : t / 8 < l.length := by omega
  by_cases hq : u / 8 = t / 8
  · rw [hq, List.getD_eq_getElem?_getD, List.getElem?_set_self hl, Option.getD_some, Nat.testBit_or]
    have hs : (b * 2 ^ (7 - t % 8)).testBit (7 - u % 8) = (decide (u = t) && decide (b = 1)) := by
      rw [Nat.testBit_mul_two_pow]
      rcases Nat.lt_or_ge b 1 with hb0 | hb1
      · obtain rfl : b = 0 := by omega
        simp
      · obtain rfl : b = 1 := by omega
        by_cases hut : u = t
        · subst hut; simp
        · rcases Nat.lt_or_ge (7 - u % 8) (7 - t % 8) with h1 | h1
          · simp [hut]; omega
          · have h2 : Nat.testBit 1 (7 - u % 8 - (7 - t % 8)) = false := by
              cases h : Nat.testBit 1 (7 - u % 8 - (7 - t % 8)) with
              | false => rfl
              | true => have := Nat.testBit_one_eq_true_iff_self_eq_zero.1 h; omega
            rw [h2]; simp [hut]
    rw [hs]
    by_cases hut : u = t
    · subst hut
      rw [if_pos rfl]
      have : ((l.getD (u / 8) 0).testBit (7 - u % 8)) = false := by
        cases h : (l.getD (u / 8) 0).testBit (7 - u % 8) with
        | false => rfl
        | true => rw [h] at h0; cases h0
      rw [this]
      rcases Nat.lt_or_ge b 1 with hb0 | hb1
      · obtain rfl : b = 0 := by omega
        simp
      · obtain rfl : b = 1 := by omega
        simp
    · rw [if_neg hut]; simp [hut]
  · have hut : u ≠ t := fun e => hq (by rw [e])
    rw [if_neg hut, List.getD_eq_getElem?_getD, List.getElem?_set_ne (fun e => hq e.symm), ← List.getD_eq_getElem?_getD]
theorem bt_fld (xs : Nat → Nat) (w size : Nat) : ∀ t, t ≤ 8 * size → ∀ u, bt (fld xs w size t) u = if u < t then nb (xs (u / w)) w (u % w) else 0
  | 0, _, u => by
    rw [if_neg (by omega), bt]
    have : (fld xs w size 0).getD (u / 8) 0 = 0 := by
      simp only [fld, List.getD_eq_getElem?_getD, List.getElem?_replicate]
      split <;> rfl
    rw [this]; simp
  | t + 1, ht, u => by
    have ih := bt_fld xs w size t (by omega)
    show bt (put1 _ _ _) u = _
    rw [bt_put1 (nb_lt _ _ _) (by rw [fld_len]; omega) (by rw [ih, if_neg (by omega)]), ih]
    by_cases h : u = t
    · subst h; rw [if_pos rfl, if_pos (by omega)]
    · rw [if_neg h]
      by_cases h2 : u < t
      · rw [if_pos h2, if_pos (by omega)]
      · rw [if_neg h2, if_neg (by omega)]
/-- The number that j bits from bit a on say. -/
def rd (l : List Nat) (a : Nat) : Nat → Nat
  | 0 => 0
  | j + 1 => 2 * rd l a j + bt l (a + j)
theorem bt_lt (l : List Nat) (t : Nat) : bt l t < 2 := Nat.mod_lt _ (by decide)
theorem rd_lt (l : List Nat) (a : Nat) : ∀ j, rd l a j < 2 ^ j
  | 0 => by simp [rd]
  | j + 1 => by
    have h1 := rd_lt l a j
    have h2 := bt_lt l (a + j)
    show 2 * rd l a j + bt l (a + j) < _
    rw [Nat.pow_succ]; omega
theorem rd_congr {l m : List Nat} {a b : Nat} : ∀ {j : Nat}, (∀ i, i < j → bt l (a + i) = bt m (b + i)) → rd l a j = rd m b j
  | 0, _ => rfl
  | j + 1, h => by show 2 * _ + _ = 2 * _ + _; rw [rd_congr (fun i hi => h i (by omega)), h j (by omega)]
theorem rd_top {l : List Nat} {a x w : Nat} (hx : x < 2 ^ w) (h : ∀ j, j < w → bt l (a + j) = nb x w j) : ∀ j, j ≤ w → rd l a j = x / 2 ^ (w - j)
  | 0, _ => by rw [Nat.sub_zero, Nat.div_eq_of_lt hx]; rfl
  | j + 1, hj => by
    show 2 * rd l a j + bt l (a + j) = _
    rw [rd_top hx h j (by omega), h j (by omega), nb, show w - (j + 1) = w - 1 - j by omega, show w - j = w - 1 - j + 1 by omega, Nat.pow_succ, ← Nat.div_div_eq_div_mul]
    omega
theorem rd_all {l : List Nat} {a x w : Nat} (hx : x < 2 ^ w) (h : ∀ j, j < w → bt l (a + j) = nb x w j) : rd l a w = x := by
  rw [rd_top hx h w (Nat.le_refl _), Nat.sub_self, Nat.pow_zero, Nat.div_one]
theorem rd_fld (xs : Nat → Nat) {w size k i : Nat} (hs : k * w ≤ 8 * size) (hi : i < k) (hx : xs i < 2 ^ w) : rd (fld xs w size (k * w)) (i * w) w = xs i := by
  refine rd_all hx fun j hj => ?_
  have h1 : i * w + w ≤ k * w := by rw [← Nat.succ_mul]; exact Nat.mul_le_mul_right _ hi
  rw [bt_fld xs w size _ hs, if_pos (by omega)]
  have hd : (i * w + j) / w = i := by rw [Nat.mul_comm, Nat.mul_add_div (by omega), Nat.div_eq_of_lt hj, Nat.add_zero]
  have hm : (i * w + j) % w = j := by rw [Nat.mul_comm, Nat.mul_add_mod, Nat.mod_eq_of_lt hj]
  rw [hd, hm]
theorem fld_congr {f g : Nat → Nat} {w size k : Nat} (h : ∀ i, i < k → f i = g i) : ∀ {t : Nat}, t ≤ k * w → fld f w size t = fld g w size t
  | 0, _ => rfl
  | t + 1, ht => by
    show put1 _ _ _ = put1 _ _ _
    rw [fld_congr h (by omega), h (t / w) (by
      rcases Nat.eq_zero_or_pos w with h0 | h0
      · subst h0; omega
      · exact (Nat.div_lt_iff_lt_mul h0).2 (by omega))]

theorem bt_app {l r : List Nat} {t : Nat} (h : t < 8 * l.length) : bt (l ++ r) t = bt l t := by
  unfold bt
  rw [List.getD_eq_getElem?_getD, List.getElem?_append_left (by omega), ← List.getD_eq_getElem?_getD]

/-- The numbers g 0 .. g (k - 1) of n bytes each, packed; the rest r behind them. -/
def packW (g : Nat → Nat) (k : Nat) : Nat := bl (hi g k - lo g k)
def packF (g : Nat → Nat) (k : Nat) : List Nat := fld (fun i => g i - lo g k) (packW g k) ((k * packW g k + 7) / 8) (k * packW g k)
def packB (g : Nat → Nat) (k n : Nat) (r : List Nat) : List Nat := (if k = 0 then gb 4 k else gb 4 k ++ gb n (lo g k) ++ [packW g k] ++ packF g k) ++ r
def packL (b : List Nat) (n : Nat) : List Nat := packB (G b n) (b.length / n) n (rest b n)
def ukN (b : List Nat) : Nat := gv (b.take 4)
def ukM (b : List Nat) (n : Nat) : Nat := gv ((b.drop 4).take n)
def ukW (b : List Nat) (n : Nat) : Nat := (b.drop 4).getD n 0
def ukF (b : List Nat) (n : Nat) : List Nat := (b.drop 4).drop (n + 1)
def ukS (b : List Nat) (n : Nat) : Nat := (ukN b * ukW b n + 7) / 8
def ukG (b : List Nat) (n i : Nat) : Nat := (ukM b n + rd (ukF b n) (i * ukW b n) (ukW b n)) % 2 ^ 64
def ukR (b : List Nat) (n : Nat) : List Nat := if ukN b = 0 then b.drop 4 else (ukF b n).drop (ukS b n)
def ukB (b : List Nat) (n : Nat) : List Nat := jn (ukG b n) n (ukN b) ++ ukR b n
def ukOk (b : List Nat) (n : Nat) : Prop := 4 ≤ b.length ∧ (ukN b = 0 ∨ (n + 1 ≤ (b.drop 4).length ∧ ukN b ≤ 1048576 / n ∧ ukW b n ≤ 64 ∧ ukS b n ≤ (ukF b n).length))
theorem packF_len (g : Nat → Nat) (k : Nat) : (packF g k).length = (k * packW g k + 7) / 8 := fld_len _ _ _ _
theorem packF_bytes (g : Nat → Nat) (k : Nat) : Bytes (packF g k) := fld_bytes _ _ _ _
theorem packF_rd (g : Nat → Nat) {k i : Nat} (hi_ : i < k) (r : List Nat) : rd (packF g k ++ r) (i * packW g k) (packW g k) = g i - lo g k := by
  have hs : k * packW g k ≤ 8 * ((k * packW g k + 7) / 8) := by omega
  have h1 : i * packW g k + packW g k ≤ k * packW g k := by rw [← Nat.succ_mul]; exact Nat.mul_le_mul_right _ hi_
  rw [rd_congr (m := packF g k) (b := i * packW g k) (fun j hj => bt_app (by rw [packF_len]; omega))]
  refine rd_fld (fun i => g i - lo g k) hs hi_ ?_
  refine bl_le.1 ?_
  refine bl_le.2 (Nat.lt_of_le_of_lt ?_ (lt_bl (hi g k - lo g k)))
  have := le_hi g hi_
  show g i - lo g k ≤ _
  omega
theorem take_exact {a b : List Nat} {n : Nat} (h : a.length = n) : (a ++ b).take n = a := by subst h; simp
theorem drop_exact {a b : List Nat} {n : Nat} (h : a.length = n) : (a ++ b).drop n = b := by subst h; simp
theorem uk_zero {r : List Nat} : ukN (gb 4 0 ++ r) = 0 ∧ (gb 4 0 ++ r).drop 4 = r := ⟨by unfold ukN; rw [take_exact (gb_len _ _), gv_gb], drop_exact (gb_len _ _)⟩
theorem uk_parts {k m w n : Nat} {f r : List Nat} (hk : k < 2 ^ 32) (hm : m < 256 ^ n) :
    ukN (gb 4 k ++ gb n m ++ [w] ++ f ++ r) = k ∧ ukM (gb 4 k ++ gb n m ++ [w] ++ f ++ r) n = m ∧ ukW (gb 4 k ++ gb n m ++ [w] ++ f ++ r) n = w ∧ ukF (gb 4 k ++ gb n m ++ [w] ++ f ++ r) n = f ++ r := by
  have e : gb 4 k ++ gb n m ++ [w] ++ f ++ r = gb 4 k ++ (gb n m ++ ([w] ++ (f ++ r))) := by simp only [List.append_assoc]
  have h4 : (gb 4 k ++ (gb n m ++ ([w] ++ (f ++ r)))).drop 4 = gb n m ++ ([w] ++ (f ++ r)) := drop_exact (gb_len _ _)
  rw [e]
  refine ⟨?_, ?_, ?_, ?_⟩
  · unfold ukN; rw [take_exact (gb_len _ _), gv_gb]; exact Nat.mod_eq_of_lt hk
  · unfold ukM; rw [h4, take_exact (gb_len _ _), gv_gb]; exact Nat.mod_eq_of_lt hm
  · unfold ukW; rw [h4, List.getD_eq_getElem?_getD, List.getElem?_append_right (by rw [gb_len]; exact Nat.le_refl _), gb_len, Nat.sub_self]; rfl
  · unfold ukF; rw [h4, ← List.drop_drop, drop_exact (gb_len _ _)]; rfl
theorem packB_congr {f g : Nat → Nat} {k n : Nat} {r : List Nat} (h : ∀ i, i < k → f i = g i) : packB f k n r = packB g k n r := by
  unfold packB
  split
  · rfl
  · rename_i hk
    have h1 : lo f k = lo g k := lo_congr (by omega) h
    have h2 : packW f k = packW g k := by unfold packW; rw [h1, hi_congr (by omega) h]
    have h3 : packF f k = packF g k := by
      unfold packF
      rw [h2, h1]
      exact fld_congr (k := k) (fun i hi => by rw [h i hi]) (Nat.le_refl _)
    rw [h1, h2, h3]
theorem packB_pos {g : Nat → Nat} {k n : Nat} {r : List Nat} (h : k ≠ 0) : packB g k n r = gb 4 k ++ gb n (lo g k) ++ [packW g k] ++ packF g k ++ r := by unfold packB; rw [if_neg h]
theorem packB_zero {g : Nat → Nat} {n : Nat} {r : List Nat} : packB g 0 n r = gb 4 0 ++ r := by unfold packB; rw [if_pos rfl]
/-- What is read of a row that was packed. -/
theorem uk_pack {g : Nat → Nat} {k n : Nat} {r : List Nat} (hk : k < 2 ^ 32) (h0 : k ≠ 0) (h8 : n ≤ 8) (hg : ∀ i, i < k → g i < 256 ^ n) :
    ukN (packB g k n r) = k ∧ ukW (packB g k n r) n = packW g k ∧ ukF (packB g k n r) n = packF g k ++ r ∧ ukR (packB g k n r) n = r ∧ ∀ i, i < k → ukG (packB g k n r) n i = g i := by
  rw [packB_pos h0]
  obtain ⟨p1, p2, p3, p4⟩ := uk_parts (w := packW g k) (f := packF g k) (r := r) hk (lo_lt (by omega) hg)
  refine ⟨p1, p3, p4, ?_, fun i hi_ => ?_⟩
  · unfold ukR ukS
    rw [p1, p3, p4, if_neg h0, drop_exact (packF_len g k)]
  · unfold ukG
    rw [p2, p3, p4, packF_rd g hi_ r]
    have h1 := lo_le g hi_
    rw [Nat.add_sub_cancel' h1]
    refine Nat.mod_eq_of_lt (Nat.lt_of_lt_of_le (hg i hi_) ?_)
    calc 256 ^ n ≤ 256 ^ 8 := Nat.pow_le_pow_right (by decide) h8
      _ = 2 ^ 64 := by decide
theorem packL_bytes {b : List Nat} (hb : Bytes b) {n : Nat} (h8 : n ≤ 8) : Bytes (packL b n) := by
  unfold packL packB
  refine Bytes.app ?_ (hb.drop _)
  split
  · exact gb_bytes _ _
  · refine ((Bytes.app (gb_bytes _ _) (gb_bytes _ _)).app (bytes_one ?_)).app (packF_bytes _ _)
    rename_i h0
    have hG : ∀ i, i < b.length / n → G b n i < 2 ^ 64 := fun i hi => Nat.lt_of_lt_of_le (G_lt hb hi) (by
      calc 256 ^ n ≤ 256 ^ 8 := Nat.pow_le_pow_right (by decide) h8
        _ = 2 ^ 64 := by decide)
    have h2 : packW (G b n) (b.length / n) ≤ 64 := bl_le.2 (Nat.lt_of_le_of_lt (Nat.sub_le _ _) (hi_lt (Nat.pos_of_ne_zero h0) hG))
    omega
theorem packW_le {b : List Nat} (hb : Bytes b) {n : Nat} (h8 : n ≤ 8) (h0 : b.length / n ≠ 0) : packW (G b n) (b.length / n) ≤ 64 := by
  have hG : ∀ i, i < b.length / n → G b n i < 2 ^ 64 := fun i hi => Nat.lt_of_lt_of_le (G_lt hb hi) (by
    calc 256 ^ n ≤ 256 ^ 8 := Nat.pow_le_pow_right (by decide) h8
      _ = 2 ^ 64 := by decide)
  exact bl_le.2 (Nat.lt_of_le_of_lt (Nat.sub_le _ _) (hi_lt (Nat.pos_of_ne_zero h0) hG))
/-- What was packed is unpacked. -/
theorem unpack_pack {b : List Nat} (hb : Bytes b) {n : Nat} (h8 : n ≤ 8) (hl : b.length ≤ 1048576) : ukOk (packL b n) n ∧ ukB (packL b n) n = b := by
  have hk : b.length / n < 2 ^ 32 := Nat.lt_of_le_of_lt (Nat.div_le_self _ _) (by omega)
  unfold packL
  by_cases h0 : b.length / n = 0
  · have hr : rest b n = b := by unfold rest; rw [h0]; simp
    rw [h0, packB_zero, hr]
    obtain ⟨z1, z2⟩ := uk_zero (r := b)
    refine ⟨⟨by rw [List.length_append, gb_len]; omega, .inl z1⟩, ?_⟩
    unfold ukB ukR
    rw [z1, z2, if_pos rfl]
    simp [jn]
  · obtain ⟨p1, p2, p3, p4, p5⟩ := uk_pack (r := rest b n) hk h0 h8 (fun i hi_ => G_lt hb hi_)
    refine ⟨⟨?_, .inr ⟨?_, ?_, ?_, ?_⟩⟩, ?_⟩
    · rw [packB_pos h0]; simp [gb_len]; try omega
    · rw [packB_pos h0]; simp [gb_len]; try omega
    · rw [p1]; exact Nat.div_le_div_right hl
    · rw [p2]; exact packW_le hb h8 h0
    · unfold ukS
      rw [p1, p2, p3, List.length_append, packF_len]; omega
    · unfold ukB
      rw [p1, p4, jn_congr (fun j hj => by rw [p5 j hj]), whole hb n]
/-- A row that is the packing of what it unpacks to is the packing of the very numbers that were read. -/
theorem pack_again {b : List Nat} {n : Nat} (h8 : n ≤ 8) (hb : Bytes b) (hl : (ukB b n).length ≤ 1048576) (h : packL (ukB b n) n = b) : packB (ukG b n) (ukN b) n (ukR b n) = b := by
  have hR : Bytes (ukR b n) := by unfold ukR; split; exact hb.drop _; exact (((hb.drop _).drop _).drop _)
  have hB : Bytes (ukB b n) := (jn_bytes _ _ _).app hR
  have hk : (ukB b n).length / n < 2 ^ 32 := Nat.lt_of_le_of_lt (Nat.div_le_self _ _) (by omega)
  obtain ⟨o, ho⟩ : ∃ o, o = ukB b n := ⟨_, rfl⟩
  rw [← ho] at h hl hB hk
  by_cases h0 : o.length / n = 0
  · have e : b = gb 4 0 ++ rest o n := by rw [← h]; unfold packL; rw [h0, packB_zero]
    obtain ⟨z1, z2⟩ := uk_zero (r := rest o n)
    have hN : ukN b = 0 := by rw [e]; exact z1
    unfold ukR
    rw [hN, if_pos rfl, packB_zero]
    conv => lhs; rw [e, z2]
    exact e.symm
  · obtain ⟨p1, p2, p3, p4, p5⟩ := uk_pack (r := rest o n) hk h0 h8 (fun i hi_ => G_lt hB hi_)
    have e : packB (G o n) (o.length / n) n (rest o n) = b := h
    rw [e] at p1 p2 p3 p4 p5
    rw [p1, p4, packB_congr p5, e]
end Go.Proofs.YtpkhgdnkkdhlcaaGreatDoor.By

namespace Go.Proofs.YtpkhgdnkkdhlcaaGreatDoor
open Go.RowKit By

/-- A list's numbers, by place. -/
def el (l : List Nat) (i : Nat) : Nat := l.getD i 0
theorem lo_one (g : Nat → Nat) : lo g 1 = g 0 := Nat.min_self _
theorem hi_one (g : Nat → Nat) : hi g 1 = g 0 := Nat.max_self _

set_option maxRecDepth 100000 in
set_option maxHeartbeats 800000 in
theorem min_any (A : Option Addr) (c n : Nat) (l : List Nat) (w : World) (hn : l.length = n) (h0 : 0 < n) (hm : n ≤ 4000000000000) (h : Rd w w.heap.size A (ints .u64 l)) :
    Calls Tryz.prog 166 #[.slice A n c] w fun e w' => w = w' ∧ e = .returned (.int .u64 ((lo (el l) n : Nat) : Int)) := by
  subst hn
  obtain ⟨ad, rfl, hb, hcell⟩ := h.int (j := 0) h0
  rw [addr_zero, show l.getD 0 0 = el l 0 from rfl] at hcell
  go_enter Tryz.func166, Tryz.ntmps166
  go_wp2
  go_loop [3, 4] (fun m i => ∃ k : Nat, 1 ≤ k ∧ k ≤ l.length ∧ i = .int .i64 k ∧ m = .int .u64 ((lo (el l) k : Nat) : Int)) (fun _ i => l.length - (intOf i).toNat)
  case atStart => exact ⟨1, Nat.le_refl _, h0, rfl, by rw [lo_one]⟩
  case round =>
    obtain ⟨k, hk1, hk, rfl, rfl⟩ := hrel
    by_cases hlt : k < l.length
    · obtain ⟨ad2, e2, hb2, hcell2⟩ := h.int (j := k) hlt
      cases e2
      have HN : Hid (lo (el l) (k + 1) = min (lo (el l) k) (l.getD k 0)) := rfl
      generalize l.getD k 0 = x at *
      generalize lo (el l) k = m at *
      go_wp2
      go_round
      case rel => exact ⟨k + 1, by omega, by omega, by go_num, by rw [HN.out]; congr 1; first | (split <;> omega) | omega⟩
      case measure => simp [intOf]; omega
    · obtain rfl : k = l.length := by omega
      go_wp2
      go_ret
      exact ⟨rfl, rfl⟩

set_option maxRecDepth 100000 in
set_option maxHeartbeats 800000 in
theorem max_any (A : Option Addr) (c n : Nat) (l : List Nat) (w : World) (hn : l.length = n) (h0 : 0 < n) (hm : n ≤ 4000000000000) (h : Rd w w.heap.size A (ints .u64 l)) :
    Calls Tryz.prog 168 #[.slice A n c] w fun e w' => w = w' ∧ e = .returned (.int .u64 ((hi (el l) n : Nat) : Int)) := by
  subst hn
  obtain ⟨ad, rfl, hb, hcell⟩ := h.int (j := 0) h0
  rw [addr_zero, show l.getD 0 0 = el l 0 from rfl] at hcell
  go_enter Tryz.func168, Tryz.ntmps168
  go_wp2
  go_loop [3, 4] (fun m i => ∃ k : Nat, 1 ≤ k ∧ k ≤ l.length ∧ i = .int .i64 k ∧ m = .int .u64 ((hi (el l) k : Nat) : Int)) (fun _ i => l.length - (intOf i).toNat)
  case atStart => exact ⟨1, Nat.le_refl _, h0, rfl, by rw [hi_one]⟩
  case round =>
    obtain ⟨k, hk1, hk, rfl, rfl⟩ := hrel
    by_cases hlt : k < l.length
    · obtain ⟨ad2, e2, hb2, hcell2⟩ := h.int (j := k) hlt
      cases e2
      have HN : Hid (hi (el l) (k + 1) = max (hi (el l) k) (l.getD k 0)) := rfl
      generalize l.getD k 0 = x at *
      generalize hi (el l) k = m at *
      go_wp2
      go_round
      case rel => exact ⟨k + 1, by omega, by omega, by go_num, by rw [HN.out]; congr 1; first | (split <;> omega) | omega⟩
      case measure => simp [intOf]; omega
    · obtain rfl : k = l.length := by omega
      go_wp2
      go_ret
      exact ⟨rfl, rfl⟩

theorem len64_bl {x : Nat} (h : x < 2 ^ 64) : Lib.bitLen x = bl x := by
  rcases Nat.eq_zero_or_pos x with rfl | h0
  · rfl
  · obtain ⟨h1, h2, h3⟩ := Lib.bitLenAux_bounds 64 x h (by omega)
    apply Nat.le_antisymm
    · have h4 := lt_bl x
      have h5 : 2 ^ (Lib.bitLen x - 1) < 2 ^ bl x := Nat.lt_of_le_of_lt h2 h4
      have h6 := (Nat.pow_lt_pow_iff_right (by decide)).1 h5
      omega
    · exact bl_le.2 h3

theorem and1_u8 {y : Nat} (hy : y < 256) : bits .and .u8 (y : Int) 1 = ((y % 2 : Nat) : Int) := by
  show IntKind.u8.wrap ((BitVec.ofInt 8 (y : Int) &&& BitVec.ofInt 8 ((1 : Nat) : Int)).toNat : Int) = _
  rw [BitVec.ofInt_natCast, BitVec.ofInt_natCast, BitVec.toNat_and, BitVec.toNat_ofNat, BitVec.toNat_ofNat, Nat.mod_eq_of_lt (show y < 2 ^ 8 from hy), Nat.mod_eq_of_lt (show 1 < 2 ^ 8 by decide), Nat.and_one_is_mod]
  exact wrap_u8 (by omega)
theorem bit_u8 {x k : Nat} (hx : x < 256) : bits .and .u8 ((x : Int) / 2 ^ k) 1 = ((x / 2 ^ k % 2 : Nat) : Int) := by
  have e : ((x / 2 ^ k : Nat) : Int) = (x : Int) / 2 ^ k := by simp
  rw [← e]
  exact and1_u8 (Nat.lt_of_le_of_lt (Nat.div_le_self _ _) hx)
theorem or_bit {R b : Nat} {B : Int} (hR : R < 2 ^ 63) (hB : B = ((b % 2 : Nat) : Int)) : bits .or .u64 (IntKind.u64.wrap ((R : Int) * 2)) (IntKind.u64.wrap B) = ((2 * R + b % 2 : Nat) : Int) := by
  rw [hB, show (R : Int) * 2 = ((2 * R : Nat) : Int) by omega, wrap_u64 (by omega), wrap_u64 (by omega), or_u64 (by omega) (by omega)]
  have := Nat.shiftLeft_add_eq_or_of_lt (i := 1) (show b % 2 < 2 ^ 1 by omega) R
  rw [Nat.shiftLeft_eq] at this
  rw [Nat.mul_comm 2 R, ← this]

set_option maxRecDepth 100000 in
set_option maxHeartbeats 800000 in
theorem equal_any (A B : Option Addr) (c d n m : Nat) (l r : List Nat) (w : World) (hn : l.length = n) (hm : r.length = m) (hb1 : n ≤ 4000000000000) (hb2 : m ≤ 4000000000000) (h : Rd w w.heap.size A (ints .u8 l)) (h' : Rd w w.heap.size B (ints .u8 r)) :
    Calls Tryz.prog 38 #[.slice A n c, .slice B m d] w fun e w' => Below w.heap.size w w' ∧ e = .returned (.bool (decide (l = r))) := by
  subst hn
  subst hm
  by_cases hlen : l.length = r.length
  · have HF : Hid (l.length = r.length) := hlen
    go_enter Tryz.func38, Tryz.ntmps38
    have h1 : ((l.length : Int) != (r.length : Int)) = false := by simp [hlen]
    clear hlen
    go_wp2
    go_loopw [13] (fun i wr => ∃ j : Nat, j ≤ l.length ∧ i = .int .i64 j ∧ l.take j = r.take j ∧ Below w.heap.size w wr) (fun i _ => l.length - (intOf i).toNat)
    case atStart => exact ⟨0, Nat.zero_le _, rfl, rfl, Below.refl _ _⟩
    case round =>
      obtain ⟨j, hj, rfl, HE, hB⟩ := hrel
      have HE := Lib.hid HE
      by_cases hlt : j < l.length
      · have hlr : j < r.length := by rw [← HF.out]; exact hlt
        obtain ⟨ad, rfl, hab, hcell⟩ := (h.below hB).int (j := j) hlt
        obtain ⟨bd, rfl, hbb, hcell'⟩ := (h'.below hB).int (j := j) hlr
        have HX : Hid (l.getD j 0 = l[j]) := by show _ = _; simp [hlt]
        have HY : Hid (r.getD j 0 = r[j]) := by show _ = _; simp [hlr]
        generalize l.getD j 0 = x at *
        generalize r.getD j 0 = y at *
        have h3 : (j : Int) < l.length := by omega
        have h4 : (j : Int) < r.length := by omega
        by_cases hxy : x = y
        · have t1 : ((x : Int) != (y : Int)) = false := by simp [hxy]
          go_wp2
          go_still (by kernel_rfl)
          go_wp2
          go_roundw
          case rel =>
            refine ⟨j + 1, by omega, by go_num, ?_, hB.drew⟩
            rw [List.take_succ_eq_append_getElem hlt, List.take_succ_eq_append_getElem hlr, HE.out, ← HX.out, ← HY.out, hxy]
          case measure => simp [intOf]; omega
        · have t1 : ((x : Int) != (y : Int)) = true := by rw [bne_iff_ne]; omega
          have hne : Hid (decide (l = r) = false) := by
            refine decide_eq_false (fun e => hxy ?_)
            subst e
            have := HX.out
            rw [← HY.out] at this
            exact this
          go_wp2
          go_still (by kernel_rfl)
          go_wp2
          go_ret
          exact ⟨hB.drew, by rw [hne.out]; rfl⟩
      · have HJ : Hid (decide (l = r) = true) := by
          refine decide_eq_true ?_
          have h2 := HE.out
          rwa [List.take_of_length_le (by omega), List.take_of_length_le (by have := HF.out; omega)] at h2
        go_wp2
        go_ret
        exact ⟨hB, by rw [HJ.out]; rfl⟩
  · have hne : decide (l = r) = false := decide_eq_false (fun e => hlen (by rw [e]))
    rw [hne]
    clear hne
    have h1 : ((l.length : Int) != (r.length : Int)) = true := by rw [bne_iff_ne]; omega
    go_enter Tryz.func38, Tryz.ntmps38
    go_wp2
    go_ret
    exact ⟨Below.refl _ _, rfl⟩

set_option maxRecDepth 100000 in
set_option maxHeartbeats 800000 in
theorem bread_any (A : Option Addr) (c n a wd : Nat) (l : List Nat) (w : World) (hn : l.length = n) (hm : n ≤ 4000000000000) (ha : a + wd ≤ 8 * n) (hw : wd ≤ 64) (hl : Bytes l) (h : Rd w w.heap.size A (ints .u8 l)) :
    Calls Tryz.prog 197 #[.slice A n c, .int .i64 a, .int .i64 wd] w fun e w' => w = w' ∧ e = .returned (.int .u64 ((rd l a wd : Nat) : Int)) := by
  subst hn
  go_enter Tryz.func197, Tryz.ntmps197
  go_wp2
  go_loop [7, 8] (fun x i => ∃ j : Nat, j ≤ wd ∧ i = .int .i64 ((a + j : Nat) : Int) ∧ x = .int .u64 ((rd l a j : Nat) : Int)) (fun _ i => a + wd - (intOf i).toNat)
  case atStart => exact ⟨0, Nat.zero_le _, rfl, rfl⟩
  case round =>
    obtain ⟨j, hj, rfl, rfl⟩ := hrel
    by_cases hlt : j < wd
    · have hR := rd_lt l a j
      have HN : Hid (rd l a (j + 1) = 2 * rd l a j + bt l (a + j)) := rfl
      obtain ⟨p, hp⟩ : ∃ p, p = a + j := ⟨_, rfl⟩
      rw [← hp] at HN ⊢
      obtain ⟨ad, rfl, hab, hcell⟩ := h.int (j := p / 8) (by omega)
      have hx := hl.at_ (p / 8)
      have HB : Hid (bt l p = l.getD (p / 8) 0 / 2 ^ (7 - p % 8) % 2) := rfl
      generalize l.getD (p / 8) 0 = x at *
      have y1 : IntKind.i64.wrap ((p : Int) / 8) = (p : Int) / 8 := IntWalk.i64_in _ (by omega)
      have y2 : ((p : Int) / 8).toNat = p / 8 := by omega
      have y3 : 0 ≤ (p : Int) / 8 := by omega
      have y4 : (p : Int) / 8 < l.length := by omega
      obtain ⟨t, ht⟩ : ∃ t, t = 7 - p % 8 := ⟨_, rfl⟩
      rw [← ht] at HB
      have y5 : (7 : Int) - (p : Int).tmod 8 = (t : Int) := by rw [Int.tmod_eq_emod_of_nonneg (by omega)]; omega
      have y6 : (t : Int) ≤ 8 := by omega
      have y7 : 0 ≤ (t : Int) := by omega
      have y8 : (p : Int) < a + wd := by omega
      have HP := Lib.hid hp
      have HT := Lib.hid ht
      clear hp ht
      go_wp2
      go_round
      case rel =>
        have e1 : p = a + j := HP.out
        refine ⟨j + 1, by omega, by go_num, ?_⟩
        have hR2 : rd l a j < 2 ^ 63 := Nat.lt_of_lt_of_le hR (Nat.pow_le_pow_right (by decide) (by omega))
        rw [HN.out, HB.out, HT.out, or_bit hR2 (bit_u8 hx)]
      case measure => simp [intOf]; omega
    · obtain rfl : j = wd := by omega
      go_wp2
      go_ret
      exact ⟨rfl, rfl⟩
end Go.Proofs.YtpkhgdnkkdhlcaaGreatDoor

namespace Go.Proofs.YtpkhgdnkkdhlcaaGreatDoor
open Go.RowKit By

/-- The row when j bits of the number x of w bits are in, from bit a on. -/
def wrt (L : List Nat) (x w a : Nat) : Nat → List Nat
  | 0 => L
  | j + 1 => put1 (wrt L x w a j) (a + j) (nb x w j)
theorem wrt_len (L : List Nat) (x w a : Nat) : ∀ j, (wrt L x w a j).length = L.length
  | 0 => rfl
  | j + 1 => by show (put1 _ _ _).length = _; rw [put1_len, wrt_len]
theorem wrt_bytes {L : List Nat} (h : Bytes L) (x w a : Nat) : ∀ j, Bytes (wrt L x w a j)
  | 0 => h
  | j + 1 => put1_bytes (wrt_bytes h x w a j) _ (nb_lt _ _ _)
theorem put1_zero (L : List Nat) (t : Nat) : put1 L t 0 = L := by
  unfold put1
  rw [Nat.zero_mul, Nat.or_zero]
  refine List.ext_getElem? fun i => ?_
  rw [List.getElem?_set]
  split
  · rename_i h; subst h
    split
    · rename_i h2; simp [h2]
    · rename_i h2; rw [List.getElem?_eq_none (by omega)]
  · rfl
/-- A number's bits behind those of the numbers ahead of it. -/
theorem fld_wrt (xs : Nat → Nat) (w size i : Nat) : ∀ {j : Nat}, j ≤ w → wrt (fld xs w size (i * w)) (xs i) w (i * w) j = fld xs w size (i * w + j)
  | 0, _ => rfl
  | j + 1, hj => by
    show put1 _ _ _ = put1 (fld xs w size (i * w + j)) _ _
    rw [fld_wrt xs w size i (by omega)]
    have hd : (i * w + j) / w = i := by rw [Nat.mul_comm, Nat.mul_add_div (by omega), Nat.div_eq_of_lt (by omega), Nat.add_zero]
    have hm : (i * w + j) % w = j := by rw [Nat.mul_comm, Nat.mul_add_mod, Nat.mod_eq_of_lt (by omega)]
    rw [show (i * w).add j = i * w + j from rfl, hd, hm]
theorem top_u8 {t : Nat} (h : t ≤ 7) : (128 : Int) / 2 ^ t = ((2 ^ (7 - t) : Nat) : Int) := by
  rcases (show t = 0 ∨ t = 1 ∨ t = 2 ∨ t = 3 ∨ t = 4 ∨ t = 5 ∨ t = 6 ∨ t = 7 by omega) with rfl | rfl | rfl | rfl | rfl | rfl | rfl | rfl <;> decide
theorem and1_u64 {y : Nat} (hy : y < 2 ^ 64) : bits .and .u64 (y : Int) 1 = ((y % 2 : Nat) : Int) := by
  show IntKind.u64.wrap ((BitVec.ofInt 64 (y : Int) &&& BitVec.ofInt 64 ((1 : Nat) : Int)).toNat : Int) = _
  rw [BitVec.ofInt_natCast, BitVec.ofInt_natCast, BitVec.toNat_and, BitVec.toNat_ofNat, BitVec.toNat_ofNat, Nat.mod_eq_of_lt hy, Nat.mod_eq_of_lt (show 1 < 2 ^ 64 by decide), Nat.and_one_is_mod]
  exact wrap_u64 (by omega)
theorem bit_u64 {x k : Nat} (hx : x < 2 ^ 64) : bits .and .u64 ((x : Int) / 2 ^ k) 1 = ((x / 2 ^ k % 2 : Nat) : Int) := by
  have e : ((x / 2 ^ k : Nat) : Int) = (x : Int) / 2 ^ k := by simp
  rw [← e]
  exact and1_u64 (Nat.lt_of_le_of_lt (Nat.div_le_self _ _) hx)

set_option maxRecDepth 100000 in
set_option maxHeartbeats 1600000 in
theorem bwrite_any (g n c a wd X : Nat) (L : List Nat) (w : World) (hn : L.length = n) (hm : n ≤ 4000000000000) (ha : a + wd ≤ 8 * n) (hw : wd ≤ 64) (hX : X < 2 ^ 64) (hL : Bytes L) (h : Row w g 5 .u8 L) :
    Calls Tryz.prog 169 #[.slice (some ⟨g, 0, none⟩) n c, .int .i64 a, .int .i64 wd, .int .u64 X] w fun e w' => (∃ v, e = .returned v) ∧ w.grownBy w' (some g) ∧ w'.heap.size = w.heap.size ∧ Row w' g 5 .u8 (wrt L X wd a wd) := by
  subst hn
  go_enter Tryz.func169, Tryz.ntmps169
  go_wp2
  go_loopw [10] (fun i wr => ∃ j : Nat, j ≤ wd ∧ i = .int .i64 j ∧ Hid (Row wr g 5 .u8 (wrt L X wd a j)) ∧ w.grownBy wr (some g) ∧ wr.heap.size = w.heap.size) (fun i _ => wd - (intOf i).toNat)
  case atStart => exact ⟨0, Nat.zero_le _, rfl, h, grown_refl _ _, rfl⟩
  case round =>
    obtain ⟨j, hj, rfl, HR, hg, hs⟩ := hrel
    clear h
    by_cases hlt : j < wd
    · obtain ⟨p, hp⟩ : ∃ p, p = a + j := ⟨_, rfl⟩
      have hq : p / 8 < (wrt L X wd a j).length := by rw [wrt_len]; omega
      have hc := HR.out.cell hq
      have hf := HR.out.frozen (p / 8)
      have hR' : Hid (∀ y : Nat, Row (wr.setCell ⟨g, p / 8, none⟩ (.int .u8 (y : Int))) g 5 .u8 ((wrt L X wd a j).set (p / 8) y)) := fun y => HR.out.put hq y
      have HO : Hid ((wrt L X wd a j).getD (p / 8) 0 < 256) := (wrt_bytes hL X wd a j).at_ _
      have HP1 : Hid (wrt L X wd a (j + 1) = (wrt L X wd a j).set (p / 8) ((wrt L X wd a j).getD (p / 8) 0 ||| nb X wd j * 2 ^ (7 - p % 8))) := by
        show put1 _ _ _ = _
        rw [← hp]; rfl
      have HP0 : Hid (nb X wd j = 0 → wrt L X wd a (j + 1) = wrt L X wd a j) := fun e => by
        show put1 _ _ _ = _
        rw [e, put1_zero]
      have HB : Hid (nb X wd j = X / 2 ^ (wd - 1 - j) % 2) := rfl
      generalize (wrt L X wd a j).getD (p / 8) 0 = old at *
      obtain ⟨d, hd⟩ : ∃ d, d = wd - 1 - j := ⟨_, rfl⟩
      rw [← hd] at HB
      have x1 := bit_u64 (k := d) hX
      have d1 : (wd : Int) - 1 - j = (d : Int) := by omega
      have d2 : (d : Int) ≤ 64 := by omega
      have d3 : 0 ≤ (d : Int) := by omega
      have y0 : (a : Int) + j = (p : Int) := by omega
      have y1 : IntKind.i64.wrap ((p : Int) / 8) = (p : Int) / 8 := IntWalk.i64_in _ (by omega)
      have y2 : ((p : Int) / 8).toNat = p / 8 := by omega
      have y3 : 0 ≤ (p : Int) / 8 := by omega
      have y4 : (p : Int) / 8 < L.length := by rw [wrt_len] at hq; omega
      obtain ⟨t, ht⟩ : ∃ t, t = p % 8 := ⟨_, rfl⟩
      have y5 : (p : Int).tmod 8 = (t : Int) := by rw [Int.tmod_eq_emod_of_nonneg (by omega)]; omega
      have y6 : (t : Int) ≤ 8 := by omega
      have y7 : 0 ≤ (t : Int) := by omega
      have x2 := top_u8 (t := t) (by omega)
      have HPP := Lib.hid hp
      have HD := Lib.hid hd
      have HT := Lib.hid ht
      clear hd ht hp
      have HX : Hid (X / 2 ^ d % 2 < 2) := Nat.mod_lt _ (by decide)
      generalize X / 2 ^ d % 2 = b at *
      by_cases hb : b = 1
      · have z1 : ((b : Int) == 1) = true := by rw [beq_iff_eq]; omega
        obtain ⟨P, hP⟩ : ∃ P, P = 2 ^ (7 - t) := ⟨_, rfl⟩
        obtain ⟨Q, hQ⟩ : ∃ Q, Q = old ||| P := ⟨_, rfl⟩
        have hPb : P < 256 := by rw [hP]; exact Nat.lt_of_le_of_lt (Nat.pow_le_pow_right (by decide) (by omega : 7 - t ≤ 7)) (by decide)
        rw [← hP] at x2
        have x10 : bits .or .u8 (old : Int) (P : Int) = (Q : Int) := by rw [hQ]; exact or_u8 HO.out hPb
        have HQ : Hid (wrt L X wd a (j + 1) = (wrt L X wd a j).set (p / 8) Q) := by
          have e := HP1.out
          rw [HB.out, hb, Nat.one_mul, ← HT.out, ← hP, ← hQ] at e
          exact e
        have w0 : IntKind.i64.wrap ((a : Int) + j) = (p : Int) := by rw [y0]; exact IntWalk.i64_in _ (by omega)
        clear hP hQ hPb HO HP1 HP0
        go_wp2
        clear y0
        go_still_tail 14, (by kernel_rfl)
        have hR2 := hR'.out Q
        clear x1 x2 x10 w0 y1 y2 y3 y4 y5 y6 y7 d1 d2 d3
        go_wp2
        go_roundw
        case rel =>
          refine ⟨j + 1, by omega, by go_num, ?_, ?_, by simpa [World.setCell] using hs⟩
          · show Row _ _ _ _ _
            rw [HQ.out]; exact hR2.drew
          · exact grown_trans (grown_trans hg (grown_setCell wr ⟨g, p / 8, none⟩ _)) (grown_drewN _ 1 _)
        case measure => simp [intOf]; omega
      · have z1 : ((b : Int) == 1) = false := by rw [beq_eq_false_iff_ne]; omega
        go_wp2
        go_roundw
        case rel =>
          refine ⟨j + 1, by omega, by go_num, ?_, hg, hs⟩
          have e : nb X wd j = 0 := by have h1 := HB.out; have h2 := HX.out; omega
          show Row _ _ _ _ _
          rw [HP0.out e]; exact HR.out
        case measure => simp [intOf]; omega
    · obtain rfl : j = wd := by omega
      go_wp2
      go_end0
      exact ⟨⟨_, rfl⟩, hg, hs, HR.out⟩
end Go.Proofs.YtpkhgdnkkdhlcaaGreatDoor

namespace Go.Proofs.YtpkhgdnkkdhlcaaGreatDoor
open Go.RowKit By

set_option maxRecDepth 100000 in
set_option maxHeartbeats 800000 in
theorem rbits_any (X : Nat) (w : World) (hX : X < 2 ^ 64) :
    Calls Tryz.prog 199 #[.int .u64 (X : Int)] w fun e w' => w = w' ∧ e = .returned (.int .i64 ((bl X : Nat) : Int)) := by
  have hb : bl X ≤ 64 := bl_le.2 hX
  go_enter Tryz.func199, Tryz.ntmps199
  go_wp2
  go_loop [0, 3] (fun x i => ∃ k Y : Nat, bl X = k + bl Y ∧ Y ≤ X ∧ i = .int .i64 (k : Int) ∧ x = .int .u64 (Y : Int)) (fun x _ => (intOf x).toNat)
  case atStart => exact ⟨0, X, by omega, Nat.le_refl _, rfl, rfl⟩
  case round =>
    obtain ⟨k, Y, hk, hY, rfl, rfl⟩ := hrel
    by_cases h0 : Y = 0
    · subst h0
      have HE : Hid (bl X = k) := by show _ = _; rw [hk, bl_zero]; rfl
      clear hk
      go_wp2
      go_ret
      exact ⟨rfl, by rw [HE.out]; rfl⟩
    · have h1 := bl_half h0
      have HK : Hid (bl X = k + 1 + bl (Y / 2)) := by show _ = _; omega
      have hk2 : k + 1 ≤ 64 := by omega
      clear hk h1
      go_wp2
      go_round
      case rel => exact ⟨k + 1, Y / 2, HK.out, by omega, by go_num, by go_num⟩
      case measure => simp [intOf]; omega

set_option maxRecDepth 100000 in
set_option maxHeartbeats 800000 in
theorem rleast_any (A : Option Addr) (c n : Nat) (l : List Nat) (w : World) (hn : l.length = n) (h0 : 0 < n) (hm : n ≤ 4000000000000) (h : Rd w w.heap.size A (ints .u64 l)) :
    Calls Tryz.prog 198 #[.slice A n c] w fun e w' => w = w' ∧ e = .returned (.int .u64 ((lo (el l) n : Nat) : Int)) := by
  subst hn
  obtain ⟨ad, rfl, hb, hcell⟩ := h.int (j := 0) h0
  rw [addr_zero, show l.getD 0 0 = el l 0 from rfl] at hcell
  go_enter Tryz.func198, Tryz.ntmps198
  go_wp2
  go_loop [3, 4] (fun m i => ∃ k : Nat, k ≤ l.length ∧ i = .int .i64 k ∧ m = .int .u64 ((lo (el l) k : Nat) : Int)) (fun _ i => l.length - (intOf i).toNat)
  case atStart => exact ⟨0, Nat.zero_le _, rfl, rfl⟩
  case round =>
    obtain ⟨k, hk, rfl, rfl⟩ := hrel
    by_cases hlt : k < l.length
    · obtain ⟨ad2, e2, hb2, hcell2⟩ := h.int (j := k) hlt
      cases e2
      have HN : Hid (lo (el l) (k + 1) = min (lo (el l) k) (l.getD k 0)) := rfl
      generalize l.getD k 0 = x at *
      generalize lo (el l) k = m at *
      go_wp2
      go_round
      case rel => exact ⟨k + 1, by omega, by go_num, by rw [HN.out]; congr 1; first | (split <;> omega) | omega⟩
      case measure => simp [intOf]; omega
    · obtain rfl : k = l.length := by omega
      go_wp2
      go_ret
      exact ⟨rfl, rfl⟩
end Go.Proofs.YtpkhgdnkkdhlcaaGreatDoor

namespace Go.Proofs.YtpkhgdnkkdhlcaaGreatDoor
open Go.RowKit By

theorem rnumber4 (X : Nat) (w : World) (hX : X < 2 ^ 64) :
    Calls Tryz.prog 72 #[.int .u64 (X : Int), .int .i64 4] w fun e w' => Below w.heap.size w w' ∧ ∃ v, e = .returned v ∧ w'.ownsRow w.heap.size 5 1 v 4 (ints .u8 (gb 4 X)) := rnumber_any 4 X w (by omega) hX

theorem rnumber4z (w : World) :
    Calls Tryz.prog 72 #[.int .u64 0, .int .i64 4] w fun e w' => Below w.heap.size w w' ∧ ∃ v, e = .returned v ∧ w'.ownsRow w.heap.size 5 1 v 4 (ints .u8 (gb 4 0)) := rnumber_any 4 0 w (by omega) (by omega)

theorem low_bit (X d : Nat) : bits .and .u8 ((X : Int) / 2 ^ d % 256) 1 = ((X / 2 ^ d % 2 : Nat) : Int) := by
  have e : ((X / 2 ^ d : Nat) : Int) = (X : Int) / 2 ^ d := by simp
  rw [← e]
  generalize X / 2 ^ d = y
  have e2 : (y : Int) % 256 = ((y % 256 : Nat) : Int) := by omega
  rw [e2, and1_u8 (by omega)]
  omega
theorem wd_le {g : Nat → Nat} {m : Nat} (h : ∀ i, g i < 2 ^ 64) : ∀ j, wd g m j ≤ 64
  | 0 => Nat.zero_le _
  | j + 1 => by
    show max (wd g m j) (bl (g j - m)) ≤ 64
    have h1 := wd_le (m := m) h j
    have h2 : bl (g j - m) ≤ 64 := bl_le.2 (Nat.lt_of_le_of_lt (Nat.sub_le _ _) (h j))
    omega
theorem own_rd {w : World} {base n c : Nat} {A : Option Addr} {l : List Nat} (h : w.ownsRow base 5 1 (.slice A n c) n (ints .u8 l)) (hl : l.length = n := by simp [gb_len]) : Rd w w.heap.size A (ints .u8 l) := by
  subst hl
  obtain ⟨A', c', e, _, h2⟩ := IsL.of_own h
  cases e; exact h2
theorem IsL.of_own' {w : World} {base k : Nat} {v : Value} {l : List Nat} (h : w.ownsRow base 5 1 v k (ints .u8 l)) (hk : l.length = k) : IsL w w.heap.size .u8 v l := by
  subst hk; exact IsL.of_own h

set_option maxRecDepth 100000 in
set_option maxHeartbeats 800000 in
theorem rpacked_any (A A2 : Option Addr) (c c2 n : Nat) (ds r : List Nat) (w : World) (h1 : 1 ≤ n) (h8 : n ≤ 8) (hd : ∀ j, el ds j < 2 ^ 64) (hm : ds.length ≤ 1048576) (hm2 : r.length ≤ 1048576)
    (h : Rd w w.heap.size A (ints .u64 ds)) (hr : Rd w w.heap.size A2 (ints .u8 r)) :
    Calls Tryz.prog 164 #[.slice A ds.length c, .int .i64 n, .slice A2 r.length c2] w fun e w' => Below w.heap.size w w' ∧ ∃ v, e = .returned v ∧ IsL w' w'.heap.size .u8 v (packB (el ds) ds.length n r) := by
  obtain ⟨i0, hi0, hz0, hz1, hz2⟩ := info_parts Tryz.u8c_info
  by_cases h0 : ds.length = 0
  · have HE : Hid (packB (el ds) ds.length n r = gb 4 0 ++ r) := by show _ = _; rw [h0, packB_zero]
    rw [HE.out]
    generalize ds.length = k at *
    subst h0
    go_enter Tryz.func164, Tryz.ntmps164
    go_wp2_with fail
    refine (rnumber4z _).mono ?_
    rintro e w1 ⟨hb1, u, rfl, hu⟩
    obtain ⟨A', c', rfl, hc'⟩ := own_slice hu
    go_wp2_with (at_builtin; refine wpL_append _ rfl (.tmp 23) (.tmp 24) _ rfl w.heap.size 5 i0 _ 1 1 Tryz.underlying25 hi0 hz0 hz1 hz2 rfl (by omega) _ 4 (ints .u8 (gb 4 0)) rfl hu A2 r.length c2 (ints .u8 r) rfl (by rw [ints_length, Nat.mul_one]) ((hr.below hb1).more hb1.size) (ints_one _ _) (by unfold maxLen; omega) (by omega) hb1.size ?_; intro v1 w2 hown1 hg1 hat1)
    have hB2 : Below w.heap.size w w2 := below_app hb1 hg1 hb1.size hu (Nat.le_refl _)
    rw [← ints_append] at hown1
    have HO : Hid (IsL w2 w2.heap.size .u8 v1 (gb 4 0 ++ r)) := IsL.of_own' hown1 (by simp [gb_len])
    clear hown1 hu hg1 hat1
    go_wp2
    go_ret
    exact ⟨hB2, _, rfl, HO.out⟩
  · have t1 : ((ds.length : Int) == 0) = false := by rw [beq_eq_false_iff_ne]; omega
    go_enter Tryz.func164, Tryz.ntmps164
    go_wp2_with fail
    refine (rnumber4 ds.length _ (by omega)).mono ?_
    rintro e w1 ⟨hb1, u, rfl, hu⟩
    obtain ⟨A', c', rfl, hc'⟩ := own_slice hu
    have hA1 := (h.below hb1).more hb1.size
    go_wp2_with fail
    refine (rleast_any A c ds.length ds _ rfl (by omega) (by omega) hA1).mono ?_
    rintro e w5 ⟨rfl, rfl⟩
    obtain ⟨m, hmm⟩ : ∃ m, m = lo (el ds) ds.length := ⟨_, rfl⟩
    have HM := Lib.hid hmm
    rw [← hmm]
    clear hmm
    go_wp2
    go_loopw [9, 10] (fun x i wr => ∃ j : Nat, j ≤ ds.length ∧ i = .int .i64 j ∧ x = .int .i64 ((wd (el ds) m j : Nat) : Int) ∧ Below w1.heap.size w1 wr) (fun _ i _ => ds.length - (intOf i).toNat)
    case atStart => exact ⟨0, Nat.zero_le _, rfl, rfl, Below.refl _ _⟩
    case round =>
      obtain ⟨j, hj, rfl, rfl, hB⟩ := hrel
      by_cases hlt : j < ds.length
      · obtain ⟨ad, rfl, hab, hcell⟩ := (hA1.below hB).int (j := j) hlt
        have HN : Hid (wd (el ds) m (j + 1) = max (wd (el ds) m j) (bl (ds.getD j 0 - m))) := rfl
        have hxm : m ≤ ds.getD j 0 := by have := HM.out; rw [this]; exact lo_le (el ds) hlt
        have hx := hd j
        rw [show el ds j = ds.getD j 0 from rfl] at hx
        have hwd : wd (el ds) m j ≤ 64 := wd_le hd j
        generalize ds.getD j 0 = x at *
        generalize wd (el ds) m j = W at *
        have s1 : IntKind.u64.wrap ((x : Int) - (m : Int)) = ((x - m : Nat) : Int) := by rw [show (x : Int) - m = ((x - m : Nat) : Int) by omega]; exact wrap_u64 (by omega)
        go_wp2_with fail
        refine (rbits_any (x - m) _ (by omega)).mono ?_
        rintro e w5 ⟨rfl, rfl⟩
        have hbl : bl (x - m) ≤ 64 := bl_le.2 (by omega)
        generalize bl (x - m) = bb at *
        go_wp2
        go_roundw
        case rel => exact ⟨j + 1, by omega, by go_num, by rw [HN.out]; congr 1; first | (split <;> omega) | omega, hB⟩
        case measure => simp [intOf]; omega
      · obtain rfl : j = ds.length := by omega
        obtain ⟨W, hW⟩ : ∃ W, W = wd (el ds) m ds.length := ⟨_, rfl⟩
        have hwd : W ≤ 64 := by rw [hW]; exact wd_le hd _
        have HW : Hid (W = packW (el ds) ds.length) := by show _ = _; rw [hW, wd_eq _ _ _ (by omega), HM.out]; rfl
        have hm64 : m < 2 ^ 64 := by rw [HM.out]; exact lo_lt (by omega) (fun i _ => hd i)
        rw [← hW]
        clear hW
        have hu1 := own_next hu hB
        have hBw : Below w.heap.size w wr := hb1.trans (hB.mono hb1.size)
        go_wp2_with fail
        refine (rnumber_any n m _ h8 hm64).mono ?_
        rintro e w2 ⟨hb2, v2, rfl, hv2⟩
        obtain ⟨A3, c3, rfl, hc3⟩ := own_slice hv2
        have hu2 := own_next hu1 hb2
        have hB2 := hBw.trans (hb2.mono hBw.size)
        have hl2 : Rd w2 w2.heap.size A3 (ints .u8 (gb n m)) := own_rd hv2
        obtain ⟨y, hy⟩ : ∃ y, y = ds.length * W := ⟨_, rfl⟩
        have hyb : y ≤ 67108864 := by rw [hy]; exact Nat.mul_le_mul hm hwd
        obtain ⟨S, hS⟩ : ∃ S, S = (y + 7) / 8 := ⟨_, rfl⟩
        have hSb : y ≤ 8 * S ∧ S ≤ 8388609 := by omega
        have m0 : IntKind.i64.wrap ((ds.length : Int) * (W : Int)) = (y : Int) := by rw [← Int.natCast_mul, ← hy]; exact IntWalk.i64_in _ (by omega)
        have m2 : ((y : Int) + 7) / 8 = (S : Int) := by omega
        have hmk := make_ints (P := Tryz.prog) 25 5 i0 .u8 Tryz.underlying25 hi0 hz0 hz1 (by omega) .i64 .i64 S (S : Int) rfl (by omega)
        have HY := Lib.hid hy
        have HS := Lib.hid hS
        clear hy hS
        have s3 : IntKind.u8.wrap (W : Int) = (W : Int) := wrap_u8 (by omega)
        go_wp2_with (at_builtin; first
          | (refine wpL_append _ rfl (.tmp 43) (.tmp 46) _ rfl w.heap.size 5 i0 _ 1 1 Tryz.underlying25 hi0 hz0 hz1 hz2 rfl (by omega) _ 4 (ints .u8 (gb 4 ds.length)) rfl hu2 A3 n c3 (ints .u8 (gb n m)) rfl (by rw [ints_length, gb_len, Nat.mul_one]) hl2 (ints_one _ _) (by unfold maxLen; omega) (by omega) hB2.size ?_; intro v3 w3 hown3 hg3 hat3; obtain ⟨A4, c4, rfl, hc4⟩ := own_slice hown3; have hB3 : Below w.heap.size w w3 := below_app hB2 hg3 hB2.size hu2 (Nat.le_refl _); rw [← ints_append] at hown3; clear hg3 hat3 hu2)
          | (refine wpL_append _ rfl (.tmp 48) (.tmp 51) _ rfl w.heap.size 5 i0 _ 1 1 Tryz.underlying25 hi0 hz0 hz1 hz2 rfl (by omega) _ (4 + n) (ints .u8 (gb 4 ds.length ++ gb n m)) rfl (hown3.alloc _) (some ⟨w3.heap.size, 0, none⟩) 1 1 [.int .u8 (W : Int)] rfl rfl (Rd.of_new w3 [.int .u8 (W : Int)] 5) (by intro u hu; simp at hu; subst hu; rfl) (by unfold maxLen; omega) (by omega) (by have := hB3.size; simp; omega) ?_; intro v4 w4 hown4 hg4 hat4; obtain ⟨A5, c5, rfl, hc5⟩ := own_slice hown4; have hB4 : Below w.heap.size w w4 := below_app (hB3.alloc hB3.size _) hg4 (by have := hB3.size; simp; omega) (hown3.alloc _) (Nat.le_refl _); have hO4 : w4.ownsRow w.heap.size 5 1 (.slice A5 (4 + n + 1) c5) (4 + n + 1) (ints .u8 (gb 4 ds.length ++ gb n m ++ [W])) := (by rw [ints_append]; exact hown4); clear hg4 hat4 hown4 hown3))
        have hrow0 : Row (w4.alloc (.cells (ints .u8 (List.replicate S 0)).toArray 5)) w4.heap.size 5 .u8 (fld (fun i => el ds i - m) W S (0 * W)) := by
          rw [Nat.zero_mul]; exact Row.of_bk (Bk.new w4 5 (ints .u8 (List.replicate S 0)).toArray)
        have hb0 : Below w4.heap.size w4 (w4.alloc (.cells (ints .u8 (List.replicate S 0)).toArray 5)) := (Below.refl _ _).alloc (Nat.le_refl _) _
        clear hmk m0 m2 s3
        go_loopw [12] (fun i wr => ∃ j : Nat, j ≤ ds.length ∧ i = .int .i64 j ∧ Hid (Row wr w4.heap.size 5 .u8 (fld (fun i => el ds i - m) W S (j * W))) ∧ Below w4.heap.size w4 wr) (fun i _ => ds.length - (intOf i).toNat)
        case atStart => exact ⟨0, Nat.zero_le _, rfl, hrow0, hb0⟩
        case round =>
          clear hrow0 hb0
          obtain ⟨j, hj, rfl, HR, hBf⟩ := hrel
          by_cases hlt : j < ds.length
          · have hBw2 := hB4.trans (hBf.mono hB4.size)
            obtain ⟨ad, rfl, hab, hcell⟩ := (h.below hBw2).int (j := j) hlt
            have hjW : j * W + W ≤ y := by rw [HY.out, ← Nat.succ_mul]; exact Nat.mul_le_mul_right _ hlt
            obtain ⟨q, hq⟩ : ∃ q, q = j * W := ⟨_, rfl⟩
            have hxm : m ≤ ds.getD j 0 := by have := HM.out; rw [this]; exact lo_le (el ds) hlt
            have hx := hd j
            have HX : Hid (el ds j - m = ds.getD j 0 - m) := rfl
            rw [show el ds j = ds.getD j 0 from rfl] at hx
            generalize hxe0 : ds.getD j 0 = x at *
            have hxe := Lib.hid hxe0
            clear hxe0
            have m3 : IntKind.i64.wrap ((j : Int) * (W : Int)) = (q : Int) := by rw [← Int.natCast_mul, ← hq]; exact IntWalk.i64_in _ (by omega)
            have HXX : Hid (∀ t, t < W → fld (fun i => el ds i - m) W S (q + (t + 1)) = put1 (fld (fun i => el ds i - m) W S (q + t)) (q + t) (nb (x - m) W t)) := by
              intro t ht
              show put1 _ _ _ = _
              have hd1 : (q + t) / W = j := by rw [hq, Nat.mul_comm, Nat.mul_add_div (by omega), Nat.div_eq_of_lt ht, Nat.add_zero]
              have hm1 : (q + t) % W = t := by rw [hq, Nat.mul_comm, Nat.mul_add_mod, Nat.mod_eq_of_lt ht]
              show put1 _ (q + t) (nb (el ds ((q + t) / W) - m) W ((q + t) % W)) = _
              rw [hd1, hm1, HX.out]; rfl
            have HNX : Hid ((j + 1) * W = q + W) := by show _ = _; rw [Nat.succ_mul, hq]
            rw [← hq] at HR hjW
            have HQ := Lib.hid hq
            clear hq hcell HX
            generalize hF : fld (fun i => el ds i - m) W S = Fl at *
            have hFl : ∀ t, (Fl t).length = S := fun t => by rw [← hF]; exact fld_len _ _ _ t
            have hFb : ∀ t, Bytes (Fl t) := fun t => by rw [← hF]; exact fld_bytes _ _ _ t
            clear hF
            have HFl := Lib.hid hFl
            have HFb := Lib.hid hFb
            clear hFl hFb
            have s1 : IntKind.u64.wrap ((x : Int) - (m : Int)) = ((x - m : Nat) : Int) := by rw [show (x : Int) - m = ((x - m : Nat) : Int) by omega]; exact wrap_u64 (by omega)
            have hX : x - m < 2 ^ 64 := by omega
            have hrd : Hid (Rd w w.heap.size (some ad) (ints .u64 ds)) := h
            go_wp2
            go_loopw [13] (fun i wr => ∃ t : Nat, t ≤ W ∧ i = .int .i64 t ∧ Hid (Row wr w4.heap.size 5 .u8 (Fl (q + t))) ∧ Below w4.heap.size w4 wr) (fun i _ => W - (intOf i).toNat)
            case atStart => exact ⟨0, Nat.zero_le _, rfl, HR, hBf⟩
            case round =>
              clear HR hBf hBw2
              obtain ⟨t, ht, rfl, HR, hBf⟩ := hrel
              by_cases hlt2 : t < W
              · obtain ⟨ad2, e2, hab2, hcell2⟩ := (hrd.out.below (hB4.trans (hBf.mono hB4.size))).int (j := j) hlt
                cases e2
                rw [hxe.out] at hcell2
                have HN := Lib.hid (HXX.out t hlt2)
                obtain ⟨p, hp⟩ : ∃ p, p = q + t := ⟨_, rfl⟩
                rw [← hp] at HN HR
                have hp8 : p / 8 < S := by omega
                have hq8 : p / 8 < (Fl p).length := by rw [HFl.out]; exact hp8
                have hc := HR.out.cell hq8
                have hf := HR.out.frozen (p / 8)
                have hR' : Hid (∀ z : Nat, Row (wr.setCell ⟨w4.heap.size, p / 8, none⟩ (.int .u8 (z : Int))) w4.heap.size 5 .u8 ((Fl p).set (p / 8) z)) := fun z => HR.out.put hq8 z
                have HO : Hid ((Fl p).getD (p / 8) 0 < 256) := (HFb.out p).at_ _
                have HP1 : Hid (Fl (q + (t + 1)) = (Fl p).set (p / 8) ((Fl p).getD (p / 8) 0 ||| nb (x - m) W t * 2 ^ (7 - p % 8))) := by show _ = _; rw [HN.out]; rfl
                generalize (Fl p).getD (p / 8) 0 = old at *
                have HB : Hid (nb (x - m) W t = (x - m) / 2 ^ (W - 1 - t) % 2) := rfl
                obtain ⟨d, hd'⟩ : ∃ d, d = W - 1 - t := ⟨_, rfl⟩
                rw [← hd'] at HB
                generalize nb (x - m) W t = b at *
                generalize x - m = X at *
                have d1 : (W : Int) - 1 - t = (d : Int) := by omega
                have d2 : (d : Int) ≤ 64 := by omega
                have d3 : 0 ≤ (d : Int) := by omega
                have x1 : bits .and .u8 ((X : Int) / 2 ^ d % 256) 1 = (b : Int) := by rw [HB.out]; exact low_bit X d
                have y0 : IntKind.i64.wrap ((q : Int) + t) = (p : Int) := by rw [show (q : Int) + t = (p : Int) by omega]; exact IntWalk.i64_in _ (by omega)
                have y1 : IntKind.i64.wrap ((p : Int) / 8) = (p : Int) / 8 := IntWalk.i64_in _ (by omega)
                have y2 : ((p : Int) / 8).toNat = p / 8 := by omega
                have y3 : 0 ≤ (p : Int) / 8 := by omega
                have y4 : (p : Int) / 8 < S := by omega
                have hbb : b < 2 := by rw [HB.out]; exact Nat.mod_lt _ (by decide)
                obtain ⟨t8, ht8⟩ : ∃ t8, t8 = p % 8 := ⟨_, rfl⟩
                obtain ⟨s8, hs8⟩ : ∃ s8, s8 = 7 - t8 := ⟨_, rfl⟩
                have y5 : (p : Int).tmod 8 = (t8 : Int) := by rw [Int.tmod_eq_emod_of_nonneg (by omega)]; omega
                have y6 : (7 : Int) - (t8 : Int) = (s8 : Int) := by omega
                have y7 : 0 ≤ (s8 : Int) := by omega
                have y8 : (s8 : Int) ≤ 8 := by omega
                have y9 : IntKind.i64.wrap ((7 : Int) - (t8 : Int)) = (s8 : Int) := by rw [y6]; exact IntWalk.i64_in _ (by omega)
                have y10 : IntKind.i64.wrap (s8 : Int) = (s8 : Int) := IntWalk.i64_in _ (by omega)
                obtain ⟨P, hP⟩ : ∃ P, P = b * 2 ^ s8 := ⟨_, rfl⟩
                obtain ⟨Q, hQ⟩ : ∃ Q, Q = old ||| P := ⟨_, rfl⟩
                have hPb : P < 256 := by
                  have e1 : 2 ^ s8 ≤ 2 ^ 7 := Nat.pow_le_pow_right (by decide) (by omega)
                  have e2 : b * 2 ^ s8 ≤ 1 * 2 ^ s8 := Nat.mul_le_mul_right _ (by omega)
                  omega
                have x9 : IntKind.u8.wrap ((b : Int) * 2 ^ s8) = (P : Int) := by
                  have e1 : ((b * 2 ^ s8 : Nat) : Int) = (b : Int) * 2 ^ s8 := by simp
                  rw [← e1, ← hP]; exact wrap_u8 hPb
                have x10 : bits .or .u8 (old : Int) (P : Int) = (Q : Int) := by rw [hQ]; exact or_u8 HO.out hPb
                have HQ2 : Hid (Fl (q + (t + 1)) = (Fl p).set (p / 8) Q) := by show _ = _; rw [HP1.out, ← ht8, ← hs8, ← hP, ← hQ]
                have HPP := Lib.hid hp
                clear hp ht8 hs8 hP hQ hPb HO HP1 hd' hbb
                go_wp2
                go_still_tail 15, (by kernel_rfl)
                have hR2 := hR'.out Q
                have hB5 : Below w4.heap.size w4 (wr.setCell ⟨w4.heap.size, p / 8, none⟩ (.int .u8 (Q : Int))) := hBf.setCell (Nat.le_refl _) _
                clear x1 x9 x10 y0 y1 y2 y3 y4 y5 y6 y7 y8 y9 y10 d1 d2 d3
                go_wp2
                go_roundw
                case rel =>
                  refine ⟨t + 1, by omega, by go_num, ?_, hB5.drew⟩
                  show Row _ _ _ _ _
                  rw [HQ2.out]; exact hR2.drew
                case measure => simp [intOf]; omega
              · obtain rfl : t = W := by omega
                go_wp2
                go_roundw
                case rel => exact ⟨j + 1, by omega, by go_num, by rw [HNX.out]; exact HR, hBf⟩
                case measure => simp [intOf]; omega
          · obtain rfl : j = ds.length := by omega
            have hF0 : fld (fun i => el ds i - m) W S (ds.length * W) = packF (el ds) ds.length := by
              unfold packF
              rw [← HW.out, ← HM.out, HS.out, HY.out]
            have hrow := HR.out
            rw [hF0] at hrow
            have hFlen : (packF (el ds) ds.length).length = S := by rw [packF_len, ← HW.out, HS.out, HY.out]
            have hrd1 := hrow.all
            have hB5 := hB4.trans (hBf.mono hB4.size)
            have hO5 := own_next hO4 hBf
            have HP : Hid (packB (el ds) ds.length n r = gb 4 ds.length ++ gb n m ++ [W] ++ packF (el ds) ds.length ++ r) := by show _ = _; rw [packB_pos h0, ← HM.out, ← HW.out]
            generalize packF (el ds) ds.length = F at *
            have HFL := Lib.hid hFlen
            clear HR hrow hF0 hO4 hFlen
            go_wp2_with (at_builtin; first
              | (refine wpL_append _ rfl (.tmp 104) (.tmp 105) _ rfl w.heap.size 5 i0 _ 1 1 Tryz.underlying25 hi0 hz0 hz1 hz2 rfl (by omega) _ (4 + n + 1) (ints .u8 (gb 4 ds.length ++ gb n m ++ [W])) rfl hO5 (some ⟨w4.heap.size, 0, none⟩) S S (ints .u8 F) rfl (by rw [ints_length, HFL.out, Nat.mul_one]) hrd1 (ints_one _ _) (by unfold maxLen; omega) (by omega) hB5.size ?_; intro v6 w6 hown6 hg6 hat6; obtain ⟨A6, c6, rfl, hc6⟩ := own_slice hown6; have hB6 : Below w.heap.size w w6 := below_app hB5 hg6 hB5.size hO5 (Nat.le_refl _); rw [← ints_append] at hown6; clear hg6 hat6)
              | (refine wpL_append _ rfl (.tmp 107) (.tmp 108) _ rfl w.heap.size 5 i0 _ 1 1 Tryz.underlying25 hi0 hz0 hz1 hz2 rfl (by omega) _ (4 + n + 1 + S) (ints .u8 (gb 4 ds.length ++ gb n m ++ [W] ++ F)) rfl hown6 A2 r.length c2 (ints .u8 r) rfl (by rw [ints_length, Nat.mul_one]) ((hr.below hB6).more hB6.size) (ints_one _ _) (by unfold maxLen; omega) (by omega) hB6.size ?_; intro v7 w7 hown7 hg7 hat7; have hB7 : Below w.heap.size w w7 := below_app hB6 hg7 hB6.size hown6 (Nat.le_refl _); rw [← ints_append] at hown7; clear hg7 hat7))
            go_ret
            exact ⟨hB7, _, rfl, by rw [HP.out]; exact IsL.of_own hown7⟩
end Go.Proofs.YtpkhgdnkkdhlcaaGreatDoor

namespace Go.Proofs.YtpkhgdnkkdhlcaaGreatDoor
open Go.RowKit By

theorem el_gl (l : List Nat) (n : Nat) {k i : Nat} (h : i < k) : el (gl l n k) i = G l n i := gl_at l n h
theorem el_bound {ds : List Nat} (h : ∀ x ∈ ds, x < 2 ^ 64) (j : Nat) : el ds j < 2 ^ 64 := by
  unfold el
  rw [List.getD_eq_getElem?_getD]
  rcases Nat.lt_or_ge j ds.length with h1 | h1
  · rw [List.getElem?_eq_getElem h1]; exact h _ (List.getElem_mem _)
  · rw [List.getElem?_eq_none h1]; decide
theorem gl_bound {l : List Nat} (hl : Bytes l) {n : Nat} (h8 : n ≤ 8) (j : Nat) : el (gl l n (l.length / n)) j < 2 ^ 64 := by
  refine el_bound (fun x hx => ?_) j
  simp only [gl, List.mem_map, List.mem_range] at hx
  obtain ⟨i, hi, rfl⟩ := hx
  exact Nat.lt_of_lt_of_le (G_lt hl hi) (by
    calc 256 ^ n ≤ 256 ^ 8 := Nat.pow_le_pow_right (by decide) h8
      _ = 2 ^ 64 := by decide)

set_option maxRecDepth 100000 in
set_option maxHeartbeats 800000 in
theorem rpack_any (A : Option Addr) (c n : Nat) (l : List Nat) (w : World) (h1 : 1 ≤ n) (h8 : n ≤ 8) (hl : Bytes l) (hc : l.length ≤ c) (hm : l.length ≤ 1048576) (h : Rd w w.heap.size A (ints .u8 l)) :
    Calls Tryz.prog 124 #[.slice A l.length c, .int .i64 n] w fun e w' => Below w.heap.size w w' ∧ ∃ v, e = .returned (.tuple #[v, .int .i64 0]) ∧ IsL w' w'.heap.size .u8 v (packL l n) := by
  have hg : grE n l.length = 0 := by unfold grE; rw [if_neg (by omega), if_neg (by omega)]
  have HP : Hid (packB (el (gl l n (l.length / n))) (l.length / n) n (rest l n) = packL l n) := packB_congr (fun i hi => el_gl l n hi)
  have hk : l.length / n ≤ 1048576 := Nat.le_trans (Nat.div_le_self _ _) hm
  have hb := gl_bound hl h8
  have hlen := gl_len l n (l.length / n)
  have hrl : (rest l n).length ≤ 1048576 := by unfold rest; rw [List.length_drop]; omega
  go_enter Tryz.func124, Tryz.ntmps124
  go_wp2_with fail
  refine (asked_any _ _ _ _ _ (by omega)).mono ?_
  rintro e w1 ⟨rfl, rfl⟩
  rw [hg]
  clear hg
  go_wp2_with fail
  refine (rgroups_any A c n l _ h1 h8 hl hc hm h).mono ?_
  rintro e w1 ⟨hb1, v, u, rfl, hown, hu⟩
  obtain ⟨A1, c1, rfl, hc1⟩ := own_slice hown
  obtain ⟨A2, c2, rfl, hc2, hr2⟩ := hu
  have hrd := Rd.of_own hown
  have hpk := rpacked_any A1 A2 c1 c2 n (gl l n (l.length / n)) (rest l n) w1 h1 h8 hb (by rw [hlen]; exact hk) hrl hrd hr2
  rw [hlen, HP.out] at hpk
  go_wp2_with fail
  refine hpk.mono ?_
  rintro e w2 ⟨hb2, v2, rfl, hv2⟩
  go_wp2
  go_ret2
  exact ⟨hb1.trans (hb2.mono hb1.size), _, rfl, hv2⟩
end Go.Proofs.YtpkhgdnkkdhlcaaGreatDoor

namespace Go.Proofs.YtpkhgdnkkdhlcaaGreatDoor
open Go.RowKit By

set_option maxRecDepth 100000 in
set_option maxHeartbeats 800000 in
theorem rpack_err (A : Option Addr) (m c : Nat) (n g : Int) (w : World) (hg : grE n m = g) (h0 : g = 2 ∨ g = 4) (hm : m ≤ 4000000000000) :
    Calls Tryz.prog 124 #[.slice A m c, .int .i64 n] w fun e w' => w = w' ∧ e = .returned (.tuple #[.slice none 0 0, .int .i64 g]) := by
  rcases h0 with rfl | rfl
  all_goals
    go_enter Tryz.func124, Tryz.ntmps124
    go_wp2_with fail
    refine (asked_any _ _ _ _ _ hm).mono ?_
    rintro e w1 ⟨rfl, rfl⟩
    rw [hg]
    clear hg
    go_wp2
    go_ret2
    exact ⟨rfl, rfl⟩
set_option maxRecDepth 100000 in
set_option maxHeartbeats 800000 in
theorem runpack_err (A : Option Addr) (m c : Nat) (n g : Int) (w : World) (hg : grE n m = g) (h0 : g = 2 ∨ g = 4) (hm : m ≤ 4000000000000) :
    Calls Tryz.prog 116 #[.slice A m c, .int .i64 n] w fun e w' => w = w' ∧ e = .returned (.tuple #[.slice none 0 0, .int .i64 g]) := by
  rcases h0 with rfl | rfl
  all_goals
    go_enter Tryz.func116, Tryz.ntmps116
    go_wp2_with fail
    refine (asked_any _ _ _ _ _ hm).mono ?_
    rintro e w1 ⟨rfl, rfl⟩
    rw [hg]
    clear hg
    go_wp2
    go_ret2
    exact ⟨rfl, rfl⟩
set_option maxRecDepth 100000 in
set_option maxHeartbeats 800000 in
theorem pack_err (A : Option Addr) (m c : Nat) (n g : Int) (w : World) (hg : grE n m = g) (h0 : g = 2 ∨ g = 4) (hm : m ≤ 4000000000000) :
    Calls Tryz.prog 120 #[.slice A m c, .int .i64 n] w fun e w' => w = w' ∧ e = .returned (.tuple #[.slice none 0 0, .int .i64 g]) := by
  rcases h0 with rfl | rfl
  all_goals
    go_enter Tryz.func120, Tryz.ntmps120
    go_wp2_with fail
    refine (grouped_any _ _ _ _ _ hm).mono ?_
    rintro e w1 ⟨rfl, rfl⟩
    rw [hg]
    clear hg
    go_wp2
    go_ret2
    exact ⟨rfl, rfl⟩
set_option maxRecDepth 100000 in
set_option maxHeartbeats 800000 in
theorem unpack_err (A : Option Addr) (m c : Nat) (n g : Int) (w : World) (hg : grE n m = g) (h0 : g = 2 ∨ g = 4) (hm : m ≤ 4000000000000) :
    Calls Tryz.prog 111 #[.slice A m c, .int .i64 n] w fun e w' => w = w' ∧ e = .returned (.tuple #[.slice none 0 0, .int .i64 g]) := by
  rcases h0 with rfl | rfl
  all_goals
    go_enter Tryz.func111, Tryz.ntmps111
    go_wp2_with fail
    refine (grouped_any _ _ _ _ _ hm).mono ?_
    rintro e w1 ⟨rfl, rfl⟩
    rw [hg]
    clear hg
    go_wp2
    go_ret2
    exact ⟨rfl, rfl⟩
end Go.Proofs.YtpkhgdnkkdhlcaaGreatDoor

namespace Go.Proofs.YtpkhgdnkkdhlcaaGreatDoor
open Go.RowKit By

/-- When the reference's unpacked takes the bytes. -/
def ukOkR (b : List Nat) (n : Nat) : Prop := 4 ≤ b.length ∧ (ukN b = 0 ∨ (ukN b ≤ 1048576 ∧ n + 1 ≤ (b.drop 4).length ∧ ukW b n ≤ 64 ∧ ukS b n ≤ (ukF b n).length))

set_option maxRecDepth 100000 in
set_option maxHeartbeats 800000 in
theorem runpacked_short (A : Option Addr) (c n : Nat) (b : List Nat) (w : World) (hs : b.length < 4) :
    Calls Tryz.prog 163 #[.slice A b.length c, .int .i64 n] w fun e w' => w = w' ∧ e = .returned (.tuple #[.slice none 0 0, .slice none 0 0, .bool false]) := by
  go_enter Tryz.func163, Tryz.ntmps163
  go_wp2
  go_ret3
  exact ⟨rfl, rfl⟩

set_option maxRecDepth 100000 in
set_option maxHeartbeats 800000 in
theorem runpacked_none (A : Option Addr) (c n : Nat) (b : List Nat) (w : World) (hl : Bytes b) (hs : 4 ≤ b.length) (hc : b.length ≤ c) (h0 : ukN b = 0) (h : Rd w w.heap.size A (ints .u8 b)) :
    Calls Tryz.prog 163 #[.slice A b.length c, .int .i64 n] w fun e w' => Below w.heap.size w w' ∧ ∃ u, e = .returned (.tuple #[.slice none 0 0, u, .bool true]) ∧ IsL w' w'.heap.size .u8 u (b.drop 4) := by
  obtain ⟨ad, rfl, hab, _⟩ := h.int (j := 0) (by omega)
  have hrd : Rd w w.heap.size (some ad) (ints .u8 (b.take 4)) := by
    have := h.sub 0 4
    rw [List.drop_zero] at this
    exact this
  have hd : Rd w w.heap.size (some (ad.add 4)) (ints .u8 (b.drop 4)) := by
    have := h.sub 4 (b.length - 4)
    rwa [List.take_of_length_le (by simp)] at this
  have HG : Hid (gv (b.take 4) = 0) := h0
  have HD : Hid (IsL w w.heap.size .u8 (.slice (some (ad.add 4)) (b.length - 4) (c - 4)) (b.drop 4)) := ⟨_, _, by rw [List.length_drop], by rw [List.length_drop]; omega, hd⟩
  go_enter Tryz.func163, Tryz.ntmps163
  go_wp2_with fail
  refine (rread_any (some ad) c 4 (b.take 4) _ (by simp; omega) (by omega) (hl.take _) hrd).mono ?_
  rintro e w5 ⟨rfl, rfl⟩
  rw [HG.out]
  have q1 : 4 ≤ c := by omega
  by_cases q2 : c = 4
  · have HZ : Hid (IsL w w.heap.size .u8 (.slice (some ad) 0 0) (b.drop 4)) := by
      have e : b.drop 4 = [] := List.drop_eq_nil_of_le (by omega)
      show IsL _ _ _ _ _
      rw [e]
      exact ⟨_, _, rfl, Nat.le_refl _, fun hn => absurd rfl hn⟩
    subst q2
    go_wp2
    go_still (by kernel_rfl)
    go_wp2
    go_ret3
    exact ⟨(Below.refl _ _).drew, _, rfl, HZ.out⟩
  · go_wp2
    go_still (by kernel_rfl)
    go_wp2
    go_ret3
    exact ⟨(Below.refl _ _).drew, _, rfl, HD.out⟩
end Go.Proofs.YtpkhgdnkkdhlcaaGreatDoor

namespace Go.Proofs.YtpkhgdnkkdhlcaaGreatDoor
open Go.RowKit By

/-- The first numbers of a row. -/
def gs (f : Nat → Nat) (k : Nat) : List Nat := (List.range k).map f
theorem gs_len (f : Nat → Nat) (k : Nat) : (gs f k).length = k := by simp [gs]
theorem gs_succ (f : Nat → Nat) (k : Nat) : gs f (k + 1) = gs f k ++ [f k] := by simp [gs, List.range_succ]
theorem el_gs (f : Nat → Nat) {k i : Nat} (h : i < k) : el (gs f k) i = f i := by
  unfold el gs
  rw [List.getD_eq_getElem?_getD, List.getElem?_map, List.getElem?_range h]; rfl
theorem ukN_lt {b : List Nat} (hl : Bytes b) : ukN b < 4294967296 := by
  have h1 := gv_lt (n := (b.take 4).length) rfl (hl.take 4)
  have h2 : 256 ^ (b.take 4).length ≤ 256 ^ 4 := Nat.pow_le_pow_right (by decide) (by rw [List.length_take]; omega)
  unfold ukN
  omega

set_option maxRecDepth 100000 in
set_option maxHeartbeats 800000 in
theorem runpacked_bad (A : Option Addr) (c n : Nat) (b : List Nat) (w : World) (h1 : 1 ≤ n) (h8 : n ≤ 8) (hl : Bytes b) (hs : 4 ≤ b.length) (hc : b.length ≤ c) (hm : b.length ≤ 1048576) (h0 : ukN b ≠ 0) (hbad : ¬ (ukN b ≤ 1048576 ∧ n + 1 ≤ (b.drop 4).length ∧ ukW b n ≤ 64)) (h : Rd w w.heap.size A (ints .u8 b)) :
    Calls Tryz.prog 163 #[.slice A b.length c, .int .i64 n] w fun e w' => Below w.heap.size w w' ∧ e = .returned (.tuple #[.slice none 0 0, .slice none 0 0, .bool false]) := by
  obtain ⟨ad, rfl, hab, _⟩ := h.int (j := 0) (by omega)
  have hrd : Rd w w.heap.size (some ad) (ints .u8 (b.take 4)) := by
    have := h.sub 0 4
    rw [List.drop_zero] at this
    exact this
  have hNlt := ukN_lt hl
  have HG : Hid (gv (b.take 4) = ukN b) := rfl
  have hd4 : (b.drop 4).length = b.length - 4 := List.length_drop ..
  rw [hd4] at hbad
  have HWD : Hid (ukW b n = b.getD (4 + n) 0) := by show _ = _; unfold ukW; simp [List.getD_eq_getElem?_getD]
  have t0 : ((ukN b : Int) == 0) = false := by rw [beq_eq_false_iff_ne]; omega
  generalize ukN b = k at *
  have z1 : IntKind.i64.wrap ((4 : Int) + (n : Int)) = ((4 + n : Nat) : Int) := IntWalk.i64_in _ (by omega)
  have z2 : IntKind.i64.wrap ((5 : Int) + (n : Int)) = ((5 + n : Nat) : Int) := IntWalk.i64_in _ (by omega)
  by_cases c1 : 1048576 < k
  · clear hbad hd4
    go_enter Tryz.func163, Tryz.ntmps163
    go_wp2_with fail
    refine (rread_any (some ad) c 4 (b.take 4) _ (by simp; omega) (by omega) (hl.take _) hrd).mono ?_
    rintro e w5 ⟨rfl, rfl⟩
    rw [HG.out]
    go_wp2
    go_ret3
    exact ⟨Below.refl _ _, rfl⟩
  · by_cases c2 : b.length < 5 + n
    · clear hbad hd4
      go_enter Tryz.func163, Tryz.ntmps163
      go_wp2_with fail
      refine (rread_any (some ad) c 4 (b.take 4) _ (by simp; omega) (by omega) (hl.take _) hrd).mono ?_
      rintro e w5 ⟨rfl, rfl⟩
      rw [HG.out]
      go_wp2
      go_ret3
      exact ⟨Below.refl _ _, rfl⟩
    · obtain ⟨ad2, e2, _, hcell⟩ := h.int (j := 4 + n) (by omega)
      cases e2
      rw [HWD.out] at hbad
      generalize b.getD (4 + n) 0 = x at *
      have hx : 64 < x := by omega
      clear hbad hd4
      go_enter Tryz.func163, Tryz.ntmps163
      go_wp2_with fail
      refine (rread_any (some ad) c 4 (b.take 4) _ (by simp; omega) (by omega) (hl.take _) hrd).mono ?_
      rintro e w5 ⟨rfl, rfl⟩
      rw [HG.out]
      go_wp2
      go_ret3
      exact ⟨Below.refl _ _, rfl⟩
end Go.Proofs.YtpkhgdnkkdhlcaaGreatDoor

namespace Go.Proofs.YtpkhgdnkkdhlcaaGreatDoor
open Go.RowKit Go.Shelf By
attribute [local go_sem] Oper.semAt_some

set_option maxRecDepth 100000 in
set_option maxHeartbeats 800000 in
/-- **slices.Chunk(s, n)**: both arguments are boxed; the function value captures the boxes. -/
theorem chunk_any (A : Option Addr) (len cap k : Nat) (w : World) (h1 : 1 ≤ k) (hk : k ≤ 8) :
    Calls Tryz.prog 165 #[.slice A len cap, .int .i64 k] w fun e w' => e = .returned (.func (.func 200) #[] #[.pointer (some ⟨w.heap.size, 0, none⟩), .pointer (some ⟨w.heap.size + 1, 0, none⟩)]) ∧
      w' = (w.alloc (.cells #[.slice A len cap] 25)).alloc (.cells #[.int .i64 k] 3) := by
  have hb := Boxed.new w 25 (.slice A len cap)
  have hb2 := Boxed.new (w.alloc (.cells #[.slice A len cap] 25)) 3 (.int .i64 (k : Int))
  rw [World.size_alloc] at hb2
  have hb3 := hb.alloc (.cells #[.int .i64 (k : Int)] 3)
  have hc := hb2.cell
  have hf := hb2.frozen
  have hc3 := hb3.cell
  have hf3 := hb3.frozen
  go_enter Tryz.func165, Tryz.ntmps165
  go_wp2
  go_ret
  exact ⟨rfl, rfl⟩

/-- Two variables' cells stay. -/
def Keep2 (a b : Nat) (W W' : World) : Prop := W'.cell? ⟨a, 0, none⟩ = W.cell? ⟨a, 0, none⟩ ∧ W'.cell? ⟨b, 0, none⟩ = W.cell? ⟨b, 0, none⟩
theorem Keep2.trans {a b : Nat} {A B C : World} (h : Keep2 a b A B) (h' : Keep2 a b B C) : Keep2 a b A C := ⟨h'.1.trans h.1, h'.2.trans h.2⟩

def encK (A : Option Addr) (g : Nat) (j : Nat) : Array Value := #[.slice (A.map (·.add (j * g))) g g]

set_option maxRecDepth 100000 in
set_option maxHeartbeats 2000000 in
/-- **slices.Chunk's closure**, at a slice that holds k groups of g. -/
theorem chunk1_in (n : Nat) (hn : 1 ≤ n) (l Bs Bn L cap k g : Nat) (A : Option Addr) (hA : 0 < k → ∃ ad, A = some ad) (hL : L = k * g) (hg : 1 ≤ g) (hg8 : g ≤ 8) (hcap : L ≤ cap) (hm : L ≤ 1048576)
    (W : World)     (J Jx : List { j : Nat // j < k } → World → Prop) (hAb : AbidesFrom W.heap.size J)
    (hY : ∀ pre (x : { j : Nat // j < k }) W, J pre W → pre.length < k → YieldAt Fence.wide (n - 1) Tryz.prog l (encK A g x.1) W fun e W' =>
      (e = .returned (.bool true) ∧ J (pre ++ [x]) W' ∧ Keep2 Bs Bn W W') ∨ (e = .returned (.bool false) ∧ Jx (pre ++ [x]) W'))
    (hBs : W.cell? ⟨Bs, 0, none⟩ = some (.slice A L cap)) (hBn : W.cell? ⟨Bn, 0, none⟩ = some (.int .i64 g)) (h0 : J [] W) :
    CallsIn Fence.wide n Tryz.prog 200 #[.func (.yield l) #[] #[], .pointer (some ⟨Bs, 0, none⟩), .pointer (some ⟨Bn, 0, none⟩)] W fun e W' => (∃ v, e = .returned v) ∧
      ((∃ ys : List { j : Nat // j < k }, ys.map (·.1) = List.range k ∧ J ys W') ∨ (∃ pre, True ∧ Jx pre W')) := by
  refine callsIn_of_wp Tryz.func200 rfl trivial ?_ rfl
  simp only [Tryz.ntmps200, List.size_toArray, List.length_cons, List.length_nil, Nat.reduceAdd, Nat.reduceSub, Array.replicate_succ, Array.replicate_zero, List.push_toArray, List.append_toArray, List.nil_append, List.cons_append]
  have HL := Lib.hid hL
  clear hL
  gi_wp2
  gi_loopw [4] (fun i wr => ∃ (ys : List { j : Nat // j < k }) (j p : Nat), j ≤ k ∧ Hid (p = j * g) ∧ p ≤ L ∧ i = .int .i64 p ∧ Hid (ys.map (·.1) = List.range j) ∧ J ys wr ∧ wr.cell? ⟨Bs, 0, none⟩ = some (.slice A L cap) ∧ wr.cell? ⟨Bn, 0, none⟩ = some (.int .i64 g))
    (fun i _ => L - (intOf i).toNat)
  case atStart => exact ⟨[], 0, 0, Nat.zero_le _, (show 0 = 0 * g by omega), Nat.zero_le _, rfl, (show _ = _ from rfl), h0, hBs, hBn⟩
  case round =>
    obtain ⟨ys, j, p, hj, HP, hp, rfl, HY, hJ, hBs, hBn⟩ := hrel
    by_cases hlt : p < L
    · have hjk : j < k := by
        have e1 := HP.out
        have e2 := HL.out
        rcases Nat.lt_or_ge j k with h | h
        · exact h
        · exfalso
          obtain rfl : j = k := by omega
          omega
      obtain ⟨ad, rfl⟩ := hA (by omega)
      have hpg : p + g ≤ L := by
        have e1 := HP.out
        have e2 := HL.out
        rw [e1, e2, ← Nat.succ_mul]
        exact Nat.mul_le_mul_right _ hjk
      have hylen : ys.length < k := by
        have := congrArg List.length HY.out
        simp at this; omega
      have hJd : J ys wr.drew := hAb ys wr wr.drew none hJ ⟨rfl, rfl, rfl, Nat.le_refl _, fun _ _ _ => rfl⟩ (fun r e => by cases e)
      obtain ⟨fn, tmps, assign, body, hy, hR⟩ := hY ys ⟨j, hjk⟩ wr.drew hJd hylen
      have HE : Hid (encK (some ad) g j = #[.slice (some (ad.add p)) g g]) := by
        have e1 := HP.out
        show _ = _
        rw [e1]; rfl
      dsimp only at hy
      rw [HE.out] at hy
      have q1 : ¬ cap = p := by omega
      have r1 : (p : Int) < L := by omega
      obtain ⟨s1, s2, s3⟩ := at_sum hpg (by omega)
      have hmn : min (g : Int) ((L - p : Nat) : Int) = (g : Int) := by omega
      gi_wp2
      refine wpIn_wide.2 ?_
      go_still (by kernel_rfl)
      gi_wp2
      refine hR.mono ?_
      rintro e W3 (⟨rfl, hJ3, hk3⟩ | ⟨rfl, hJx3⟩)
      · have hBs3 : W3.cell? ⟨Bs, 0, none⟩ = some (.slice (some ad) L cap) := hk3.1.trans hBs
        have hBn3 : W3.cell? ⟨Bn, 0, none⟩ = some (.int .i64 g) := hk3.2.trans hBn
        gi_wp2
        go_roundw
        case rel =>
          refine ⟨ys ++ [⟨j, hjk⟩], j + 1, p + g, by omega, ?_, by omega, by go_num, ?_, hJ3, hBs3, hBn3⟩
          · have e1 := HP.out
            show p + g = (j + 1) * g
            rw [Nat.succ_mul]; omega
          · show _ = _
            rw [List.map_append, HY.out, List.range_succ]; rfl
        case measure => simp [intOf]; omega
      · gi_wp2
        refine bodyPost_ret (results_none rfl _ _ _) rfl ?_
        exact ⟨⟨_, rfl⟩, .inr ⟨_, trivial, hJx3⟩⟩
    · have hjk : j = k := by
        have e1 := HP.out
        have e2 := HL.out
        rcases Nat.lt_or_ge j k with h | h
        · exfalso
          have : (j + 1) * g ≤ k * g := Nat.mul_le_mul_right _ h
          rw [Nat.succ_mul] at this; omega
        · omega
      subst hjk
      have r1 : ¬ (p : Int) < L := by omega
      gi_wp2
      go_end0
      exact ⟨⟨_, rfl⟩, .inl ⟨_, HY.out, hJ⟩⟩

theorem chunk_stops (n : Nat) (hn : 1 ≤ n) (Bs Bn L cap k g : Nat) (A : Option Addr) (hA : 0 < k → ∃ ad, A = some ad) (hL : L = k * g) (hg : 1 ≤ g) (hg8 : g ≤ 8) (hcap : L ≤ cap) (hm : L ≤ 1048576) (w : World) (hBs' : Bs < w.heap.size) (hBn' : Bn < w.heap.size)
    (hBs : w.cell? ⟨Bs, 0, none⟩ = some (.slice A L cap)) (hBn : w.cell? ⟨Bn, 0, none⟩ = some (.int .i64 g)) :
    SeqStopsK Fence.wide n Tryz.prog 200 #[.pointer (some ⟨Bs, 0, none⟩), .pointer (some ⟨Bn, 0, none⟩)] (fun x : { j : Nat // j < k } => encK A g x.1) (Keep2 Bs Bn) (fun ys => ys.map (·.1) = List.range k) (fun _ => True) k w := fun l J Jx W hW hAb _ hY h0 =>
  chunk1_in n hn l Bs Bn L cap k g A hA hL hg hg8 hcap hm W J Jx hAb hY ((hW.cell (p := ⟨Bs, 0, none⟩) hBs').trans hBs) ((hW.cell (p := ⟨Bn, 0, none⟩) hBn').trans hBn) h0
end Go.Proofs.YtpkhgdnkkdhlcaaGreatDoor

namespace Go.Proofs.YtpkhgdnkkdhlcaaGreatDoor
open Go.RowKit By

/-- Block g is just the numbers l. -/
def RowE (w : World) (g : Nat) (T : TypeId) (k : IntKind) (l : List Nat) : Prop := Bk w g T (ints k l).toArray
section
variable {w w' : World} {g : Nat} {T : TypeId} {k : IntKind} {l : List Nat}
theorem RowE.cell (h : RowE w g T k l) {i : Nat} (hi : i < l.length) : w.cell? ⟨g, i, none⟩ = some (.int k ((l.getD i 0 : Nat) : Int)) := by
  have h1 := Bk.cell h i
  rw [h1, ints_getD k l hi]
theorem RowE.frozen (h : RowE w g T k l) (i : Nat) : w.frozen? ⟨g, i, none⟩ = false := Bk.frozen h i
theorem RowE.put (h : RowE w g T k l) {i : Nat} (_ : i < l.length) (x : Nat) : RowE (w.setCell ⟨g, i, none⟩ (.int k (x : Int))) g T k (l.set i x) := by
  have := Bk.put h i (.int k (x : Int))
  rw [ints_set] at this
  exact this
theorem RowE.own (h : RowE w g T k l) {base : Nat} (hb : base ≤ g) (hm : l.length ≤ maxLen) : w.ownsRow base T 1 (.slice (some ⟨g, 0, none⟩) l.length l.length) l.length (ints k l) := by
  have := Bk.own h (base := base) (size := 1) (n := l.length) (cap := l.length) hb (Nat.le_refl _) hm (by simp [ints_length])
  rwa [Nat.mul_one, List.take_of_length_le (by rw [ints_length]; exact Nat.le_refl _)] at this
end

set_option maxHeartbeats 800000 in
/-- A number is written into a group of a row, of which the whole block is known. -/
theorem pute_any (g o n c X : Nat) (zs : List Nat) (w : World) (hz : o + n ≤ zs.length) (h8 : n ≤ 1000000) (hX : X < 2 ^ 64) (h : RowE w g 5 .u8 zs) :
    Calls Tryz.prog 105 #[.slice (some ⟨g, o, none⟩) n c, .int .u64 (X : Int)] w fun e w' => (∃ v, e = .returned v) ∧ w.grownBy w' (some g) ∧ w'.heap.size = w.heap.size ∧ RowE w' g 5 .u8 (zs.take o ++ gb n X ++ zs.drop (o + n)) := by
  have HX := Lib.hid hX
  clear hX
  go_enter Tryz.func105, Tryz.ntmps105
  go_wp2
  go_loopw [1, 4] (fun x i wr => ∃ t : Nat, t ≤ n ∧ ((t = 0 ∧ i = .int .i64 (-1)) ∨ (∃ s : Nat, t = s + 1 ∧ i = .int .i64 s)) ∧ x = .int .u64 ((X / 256 ^ (n - t) : Nat) : Int) ∧
      Hid (RowE wr g 5 .u8 (zs.take (o + t) ++ gb (n - t) X ++ zs.drop (o + n))) ∧ w.grownBy wr (some g) ∧ wr.heap.size = w.heap.size) (fun _ i _ => (intOf i + 1).toNat)
  case atStart =>
    refine ⟨n, Nat.le_refl _, ?_, by rw [Nat.sub_self, Nat.pow_zero, Nat.div_one], ?_, grown_refl _ _, rfl⟩
    · rcases n with _ | m
      · exact .inl ⟨rfl, rfl⟩
      · exact .inr ⟨m, rfl, by go_num⟩
    · show RowE _ _ _ _ _
      rw [Nat.sub_self]; simpa [gb] using h
  case round =>
    obtain ⟨t, ht, hi, rfl, HR, hg, hs⟩ := hrel
    rcases hi with ⟨rfl, rfl⟩ | ⟨s, rfl, rfl⟩
    · generalize X / 256 ^ (n - 0) = y at *
      clear h
      go_wp2
      go_end0
      exact ⟨⟨_, rfl⟩, hg, hs, HR.out⟩
    · have HS : Hid (X / 256 ^ (n - s) = X / 256 ^ (n - (s + 1)) / 256) := by
        show _ = _
        rw [Nat.div_div_eq_div_mul, show n - s = n - (s + 1) + 1 by omega, Nat.pow_succ]
      have HP := Lib.hid (put_step (zs := zs) (o := o) (X := X) ht hz)
      have hlen : o + s < (zs.take (o + (s + 1)) ++ gb (n - (s + 1)) X ++ zs.drop (o + n)).length := by simp [gb_len]; omega
      have hc := HR.out.cell hlen
      have hf := HR.out.frozen (o + s)
      have HR' : Hid (∀ y, RowE (wr.setCell ⟨g, o + s, none⟩ (.int .u8 ((y : Nat) : Int))) g 5 .u8 ((zs.take (o + (s + 1)) ++ gb (n - (s + 1)) X ++ zs.drop (o + n)).set (o + s) y)) := fun y => HR.out.put hlen y
      clear h hlen
      generalize (zs.take (o + (s + 1)) ++ gb (n - (s + 1)) X ++ zs.drop (o + n)).getD (o + s) 0 = old at *
      generalize X / 256 ^ (n - (s + 1)) = y at *
      go_wp2
      go_roundw
      case rel =>
        refine ⟨s, by omega, ?_, by rw [HS.out]; go_num, ?_, ?_, by simpa [World.setCell] using hs⟩
        · rcases s with _ | m
          · exact .inl ⟨rfl, rfl⟩
          · exact .inr ⟨m, rfl, by go_num⟩
        · show RowE _ _ _ _ _
          rw [← HP.out]
          have := HR'.out (y % 256)
          rwa [Int.natCast_emod] at this
        · exact grown_trans hg (grown_setCell wr ⟨g, o + s, none⟩ _)
      case measure => simp [intOf]
end Go.Proofs.YtpkhgdnkkdhlcaaGreatDoor

namespace Go.Proofs.YtpkhgdnkkdhlcaaGreatDoor
open Go.RowKit By

/-- The groups that are written, then zeros. -/
def par (f : Nat → Nat) (n k j : Nat) : List Nat := jn f n j ++ List.replicate ((k - j) * n) 0
theorem par_len (f : Nat → Nat) {n k j : Nat} (h : j ≤ k) : (par f n k j).length = k * n := by
  unfold par
  rw [List.length_append, jn_len, List.length_replicate, ← Nat.add_mul]
  congr 1; omega
theorem par_step (f : Nat → Nat) {n k j : Nat} (h : j < k) : (par f n k j).take (j * n) ++ gb n (f j) ++ (par f n k j).drop (j * n + n) = par f n k (j + 1) := by
  unfold par
  have e : jn f n (j + 1) = jn f n j ++ gb n (f j) := rfl
  rw [take_exact (jn_len _ _ _), ← List.drop_drop, drop_exact (jn_len _ _ _), e, List.drop_replicate]
  have : (k - j) * n - n = (k - (j + 1)) * n := by
    obtain ⟨d, hd⟩ : ∃ d, k - j = d + 1 := ⟨k - j - 1, by omega⟩
    rw [hd, Nat.succ_mul, Nat.add_sub_cancel, show k - (j + 1) = d by omega]
  rw [this]
theorem par_all (f : Nat → Nat) (n k : Nat) : par f n k k = jn f n k := by unfold par; simp
theorem ukG_lt (b : List Nat) (n i : Nat) : ukG b n i < 2 ^ 64 := Nat.mod_lt _ (by decide)

set_option maxRecDepth 100000 in
set_option maxHeartbeats 800000 in
theorem unpacked_short (A : Option Addr) (c n : Nat) (b : List Nat) (w : World) (hs : b.length < 4) :
    Calls Tryz.prog 159 #[.slice A b.length c, .int .i64 n] w fun e w' => w = w' ∧ e = .returned (.tuple #[.slice none 0 0, .bool false]) := by
  go_enter Tryz.func159, Tryz.ntmps159
  go_wp2
  go_ret2
  exact ⟨rfl, rfl⟩

theorem clone8_zero (A : Option Addr) (w : World) : Calls Tryz.prog 156 #[.slice A 0 0] w fun e w' => Below w.heap.size w w' ∧ ∃ v, e = .returned v ∧ w'.ownsRow w.heap.size 5 1 v 0 (ints .u8 []) :=
  clone8_any A 0 0 [] w rfl (by omega) Rd.nil

set_option maxRecDepth 100000 in
set_option maxHeartbeats 800000 in
theorem unpacked_none (A : Option Addr) (c n : Nat) (b : List Nat) (w : World) (hl : Bytes b) (hs : 4 ≤ b.length) (hc : b.length ≤ c) (hm : b.length ≤ 1048576) (h0 : ukN b = 0) (h : Rd w w.heap.size A (ints .u8 b)) :
    Calls Tryz.prog 159 #[.slice A b.length c, .int .i64 n] w fun e w' => Below w.heap.size w w' ∧ ∃ v, e = .returned (.tuple #[v, .bool true]) ∧ IsL w' w'.heap.size .u8 v (b.drop 4) := by
  obtain ⟨ad, rfl, hab, _⟩ := h.int (j := 0) (by omega)
  have hrd : Rd w w.heap.size (some ad) (ints .u8 (b.take 4)) := by
    have := h.sub 0 4
    rw [List.drop_zero] at this
    exact this
  have hd : Rd w w.heap.size (some ⟨ad.block, ad.off + 4, none⟩) (ints .u8 (b.drop 4)) := by
    have := h.sub 4 (b.length - 4)
    rw [List.take_of_length_le (by simp)] at this
    exact this
  have HG : Hid (gv (b.take 4) = 0) := h0
  have hdl : (b.drop 4).length = b.length - 4 := List.length_drop
  by_cases q2 : c = 4
  · have e : b.drop 4 = [] := List.drop_eq_nil_of_le (by omega)
    rw [e]
    subst q2
    go_enter Tryz.func159, Tryz.ntmps159
    go_wp2_with fail
    refine (number_any (some ad) 4 4 (b.take 4) _ (by simp; omega) (by omega) (hl.take _) hrd).mono ?_
    rintro e w5 ⟨rfl, rfl⟩
    rw [HG.out]
    go_wp2_with fail
    refine (clone8_zero (some ad) w).mono ?_
    rintro e w5 ⟨hb5, v, rfl, hv⟩
    go_wp2
    go_ret2
    exact ⟨hb5, _, rfl, IsL.of_own' hv rfl⟩
  · have HD := Lib.hid hd
    clear hd
    go_enter Tryz.func159, Tryz.ntmps159
    go_wp2_with fail
    refine (number_any (some ad) c 4 (b.take 4) _ (by simp; omega) (by omega) (hl.take _) hrd).mono ?_
    rintro e w5 ⟨rfl, rfl⟩
    rw [HG.out]
    go_wp2_with fail
    refine (clone8_any (some ⟨ad.block, ad.off + 4, none⟩) (b.length - 4) (c - 4) (b.drop 4) w hdl (by omega) HD.out).mono ?_
    rintro e w5 ⟨hb5, v, rfl, hv⟩
    go_wp2
    go_ret2
    exact ⟨hb5, _, rfl, IsL.of_own' hv hdl⟩

set_option maxRecDepth 100000 in
set_option maxHeartbeats 1600000 in
theorem unpacked_bad (A : Option Addr) (c n : Nat) (b : List Nat) (w : World) (h1 : 1 ≤ n) (h8 : n ≤ 8) (hl : Bytes b) (hs : 4 ≤ b.length) (hc : b.length ≤ c) (hm : b.length ≤ 1048576) (h0 : ukN b ≠ 0) (hbad : ¬ (n + 1 ≤ (b.drop 4).length ∧ ukN b ≤ 1048576 / n ∧ ukW b n ≤ 64)) (h : Rd w w.heap.size A (ints .u8 b)) :
    Calls Tryz.prog 159 #[.slice A b.length c, .int .i64 n] w fun e w' => Below w.heap.size w w' ∧ e = .returned (.tuple #[.slice none 0 0, .bool false]) := by
  obtain ⟨ad, rfl, hab, _⟩ := h.int (j := 0) (by omega)
  have hrd : Rd w w.heap.size (some ad) (ints .u8 (b.take 4)) := by
    have := h.sub 0 4
    rw [List.drop_zero] at this
    exact this
  have hd : Rd w w.heap.size (some ⟨ad.block, ad.off + 4, none⟩) (ints .u8 (b.drop 4)) := by
    have := h.sub 4 (b.length - 4)
    rw [List.take_of_length_le (by simp)] at this
    exact this
  have hNlt := ukN_lt hl
  have HG : Hid (gv (b.take 4) = ukN b) := rfl
  have hdl : (b.drop 4).length = b.length - 4 := List.length_drop
  have HWD : Hid (ukW b n = (b.drop 4).getD n 0) := rfl
  have t0 : ((ukN b : Int) == 0) = false := by rw [beq_eq_false_iff_ne]; omega
  generalize ukN b = k at *
  obtain ⟨M, hM⟩ : ∃ M, M = 1048576 / n := ⟨_, rfl⟩
  have hMb : M ≤ 1048576 := by rw [hM]; exact Nat.div_le_self _ _
  have z1 : IntKind.i64.wrap ((n : Int) + 1) = ((n + 1 : Nat) : Int) := IntWalk.i64_in _ (by omega)
  have z4 : (1048576 : Int) / (n : Int) = (M : Int) := by rw [hM, Int.natCast_ediv]; rfl
  have q1 : ¬ n = 0 := by omega
  rw [hdl, ← hM] at hbad
  clear hM
  by_cases c1 : b.length - 4 < n + 1
  · clear hbad
    by_cases q2 : c = 4
    · subst q2
      have hb4 : b.length = 4 := by omega
      rw [hb4]
      go_enter Tryz.func159, Tryz.ntmps159
      go_wp2_with fail
      refine (number_any (some ad) 4 4 (b.take 4) _ (by simp; omega) (by omega) (hl.take _) hrd).mono ?_
      rintro e w5 ⟨rfl, rfl⟩
      rw [HG.out]
      go_wp2
      go_ret2
      exact ⟨Below.refl _ _, rfl⟩
    · go_enter Tryz.func159, Tryz.ntmps159
      go_wp2_with fail
      refine (number_any (some ad) c 4 (b.take 4) _ (by simp; omega) (by omega) (hl.take _) hrd).mono ?_
      rintro e w5 ⟨rfl, rfl⟩
      rw [HG.out]
      go_wp2
      go_ret2
      exact ⟨Below.refl _ _, rfl⟩
  · have q2 : ¬ c = 4 := by omega
    by_cases c2 : M < k
    · clear hbad
      go_enter Tryz.func159, Tryz.ntmps159
      go_wp2_with fail
      refine (number_any (some ad) c 4 (b.take 4) _ (by simp; omega) (by omega) (hl.take _) hrd).mono ?_
      rintro e w5 ⟨rfl, rfl⟩
      rw [HG.out]
      go_wp2
      go_ret2
      exact ⟨Below.refl _ _, rfl⟩
    · obtain ⟨ad2, e2, _, hcell⟩ := hd.int (j := n) (by omega)
      cases e2
      rw [addr_mk] at hcell
      rw [HWD.out] at hbad
      generalize (b.drop 4).getD n 0 = x at *
      have hx : 64 < x := by omega
      clear hbad
      go_enter Tryz.func159, Tryz.ntmps159
      go_wp2_with fail
      refine (number_any (some ad) c 4 (b.take 4) _ (by simp; omega) (by omega) (hl.take _) hrd).mono ?_
      rintro e w5 ⟨rfl, rfl⟩
      rw [HG.out]
      go_wp2
      go_ret2
      exact ⟨Below.refl _ _, rfl⟩
end Go.Proofs.YtpkhgdnkkdhlcaaGreatDoor

namespace Go.Proofs.YtpkhgdnkkdhlcaaGreatDoor
open Go.RowKit By

set_option maxRecDepth 100000 in
set_option maxHeartbeats 4000000 in
theorem unpacked_far (A : Option Addr) (c n : Nat) (b : List Nat) (w : World) (h1 : 1 ≤ n) (h8 : n ≤ 8) (hl : Bytes b) (hc : b.length ≤ c) (hm : b.length ≤ 1048576) (h0 : ukN b ≠ 0) (hg1 : n + 1 ≤ (b.drop 4).length) (hg2 : ukN b ≤ 1048576 / n) (hg3 : ukW b n ≤ 64) (hg4 : (ukF b n).length < ukS b n) (h : Rd w w.heap.size A (ints .u8 b)) :
    Calls Tryz.prog 159 #[.slice A b.length c, .int .i64 n] w fun e w' => Below w.heap.size w w' ∧ e = .returned (.tuple #[.slice none 0 0, .bool false]) := by
  have hd4l : (b.drop 4).length = b.length - 4 := List.length_drop
  rw [hd4l] at hg1
  obtain ⟨ad, rfl, hab, _⟩ := h.int (j := 0) (by omega)
  obtain ⟨i0, hi0, hz0, hz1, hz2⟩ := info_parts Tryz.u8c_info
  have hrd : Rd w w.heap.size (some ad) (ints .u8 (b.take 4)) := by
    have := h.sub 0 4
    rw [List.drop_zero] at this
    exact this
  have hd : Rd w w.heap.size (some ⟨ad.block, ad.off + 4, none⟩) (ints .u8 (b.drop 4)) := by
    have := h.sub 4 (b.length - 4)
    rw [List.take_of_length_le (by simp)] at this
    exact this
  have hdn : Rd w w.heap.size (some ⟨ad.block, ad.off + 4, none⟩) (ints .u8 ((b.drop 4).take n)) := by
    have := hd.sub 0 n
    rw [List.drop_zero] at this
    exact this
  obtain ⟨ad2, e2, _, hcell⟩ := hd.int (j := n) (by omega)
  cases e2
  rw [addr_mk] at hcell
  have hcF := hd.cut (k := n + 1) (cap := c - 4) (by rw [ints_length]; omega)
  rw [← ints_drop] at hcF
  have hFb : Bytes (ukF b n) := (hl.drop _).drop _
  have hFl : (ukF b n).length = b.length - 4 - (n + 1) := by unfold ukF; rw [List.length_drop, hd4l]
  have hNlt := ukN_lt hl
  have HG : Hid (gv (b.take 4) = ukN b) := rfl
  have HGM : Hid (gv ((b.drop 4).take n) = ukM b n) := rfl
  have hM64 : ukM b n < 2 ^ 64 := gv_lt64 (by rw [List.length_take]; omega) ((hl.drop _).take _)
  have HGW : Hid (ukW b n = (b.drop 4).getD n 0) := rfl
  have HFd : Hid ((b.drop 4).drop (n + 1) = ukF b n) := rfl
  have HX : Hid (∀ j : Nat, IntKind.u64.wrap (((ukM b n : Nat) : Int) + ((rd (ukF b n) (j * ukW b n) (ukW b n) : Nat) : Int)) = ((ukG b n j : Nat) : Int)) := by
    intro j
    rw [add_u64]; rfl
  have HB : Hid (jn (ukG b n) n (ukN b) ++ (ukF b n).drop (ukS b n) = ukB b n) := by
    show _ = _
    unfold ukB ukR
    rw [if_neg h0]
  have HSd : Hid (ukS b n = (ukN b * ukW b n + 7) / 8) := rfl
  rw [← HGW.out] at hcell
  rw [HFd.out] at hcF
  have hGlt := Lib.hid (ukG_lt b n)
  have t0 : ((ukN b : Int) == 0) = false := by rw [beq_eq_false_iff_ne]; omega
  generalize ukS b n = S at *
  generalize ukG b n = G at *
  generalize ukF b n = Fl at *
  generalize ukN b = k at *
  generalize ukM b n = m at *
  generalize ukW b n = W at *
  obtain ⟨M, hM⟩ : ∃ M, M = 1048576 / n := ⟨_, rfl⟩
  have hMb : M ≤ 1048576 := by rw [hM]; exact Nat.div_le_self _ _
  have z4 : (1048576 : Int) / (n : Int) = (M : Int) := by rw [hM, Int.natCast_ediv]; rfl
  have q1 : ¬ n = 0 := by omega
  rw [← hM] at hg2
  have hkn : k * n ≤ 1048576 := by
    have := Nat.mul_le_mul_right n hg2
    have := Nat.div_mul_le_self 1048576 n
    rw [← hM] at this
    omega
  clear hM
  obtain ⟨y, hy⟩ : ∃ y, y = k * W := ⟨_, rfl⟩
  have hyb : y ≤ 67108864 := by rw [hy]; exact Nat.mul_le_mul (show k ≤ 1048576 from Nat.le_trans hg2 hMb) hg3
  have hS : S = (y + 7) / 8 := by rw [hy]; exact HSd.out
  have hSb : y ≤ 8 * S ∧ S ≤ 8388609 := by omega
  have m0 : IntKind.i64.wrap ((k : Int) * (W : Int)) = (y : Int) := by rw [← Int.natCast_mul, ← hy]; exact IntWalk.i64_in _ (by omega)
  have m2 : ((y : Int) + 7) / 8 = (S : Int) := by omega
  have HY := Lib.hid hy
  clear hy hS HSd
  have q2 : ¬ c = 4 := by omega
  have r1 : n ≤ c - 4 := by omega
  have w1 : IntKind.i64.wrap (W : Int) = (W : Int) := IntWalk.i64_in _ (by omega)
  have r2 : (n : Int) ≤ (n : Int) + 1 := by omega
  have HFL := Lib.hid hFl
  rw [hFl] at hg4
  by_cases hq : c - 4 = n + 1
  · rw [if_pos hq] at hcF
    have hb5 : b.length - 4 = n + 1 := by omega
    have hS0 : 0 < S := by omega
    go_enter Tryz.func159, Tryz.ntmps159
    go_wp2_with fail
    refine (number_any (some ad) c 4 (b.take 4) _ (by simp; omega) (by omega) (hl.take _) hrd).mono ?_
    rintro e w5 ⟨rfl, rfl⟩
    rw [HG.out]
    go_wp2
    refine wp_region_still_lit (by kernel_rfl) (by kernel_rfl) ?_
    repeat still_step
    still_call (still (number_any (some ⟨ad.block, ad.off + 4, none⟩) _ n ((b.drop 4).take n) _ (by rw [List.length_take, hd4l]; omega) h8 ((hl.drop _).take _) hdn))
    repeat still_step
    refine wpStill_nil ?_
    rw [HGM.out]
    go_wp2
    go_ret2
    exact ⟨(Below.refl _ _).drew, rfl⟩
  · rw [if_neg hq] at hcF
    go_enter Tryz.func159, Tryz.ntmps159
    go_wp2_with fail
    refine (number_any (some ad) c 4 (b.take 4) _ (by simp; omega) (by omega) (hl.take _) hrd).mono ?_
    rintro e w5 ⟨rfl, rfl⟩
    rw [HG.out]
    go_wp2
    refine wp_region_still_lit (by kernel_rfl) (by kernel_rfl) ?_
    repeat still_step
    still_call (still (number_any (some ⟨ad.block, ad.off + 4, none⟩) _ n ((b.drop 4).take n) _ (by rw [List.length_take, hd4l]; omega) h8 ((hl.drop _).take _) hdn))
    repeat still_step
    refine wpStill_nil ?_
    rw [HGM.out]
    go_wp2
    go_ret2
    exact ⟨(Below.refl _ _).drew, rfl⟩

set_option maxRecDepth 100000 in
set_option maxHeartbeats 4000000 in
theorem unpacked_good (A : Option Addr) (c n : Nat) (b : List Nat) (w : World) (h1 : 1 ≤ n) (h8 : n ≤ 8) (hl : Bytes b) (hc : b.length ≤ c) (hm : b.length ≤ 1048576) (h0 : ukN b ≠ 0) (hg1 : n + 1 ≤ (b.drop 4).length) (hg2 : ukN b ≤ 1048576 / n) (hg3 : ukW b n ≤ 64) (hg4 : ukS b n ≤ (ukF b n).length) (h : Rd w w.heap.size A (ints .u8 b)) :
    Calls Tryz.prog 159 #[.slice A b.length c, .int .i64 n] w fun e w' => Below w.heap.size w w' ∧ ∃ v, e = .returned (.tuple #[v, .bool true]) ∧ IsL w' w'.heap.size .u8 v (ukB b n) := by
  have hd4l : (b.drop 4).length = b.length - 4 := List.length_drop
  rw [hd4l] at hg1
  obtain ⟨ad, rfl, hab, _⟩ := h.int (j := 0) (by omega)
  obtain ⟨i0, hi0, hz0, hz1, hz2⟩ := info_parts Tryz.u8c_info
  have hrd : Rd w w.heap.size (some ad) (ints .u8 (b.take 4)) := by
    have := h.sub 0 4
    rw [List.drop_zero] at this
    exact this
  have hd : Rd w w.heap.size (some ⟨ad.block, ad.off + 4, none⟩) (ints .u8 (b.drop 4)) := by
    have := h.sub 4 (b.length - 4)
    rw [List.take_of_length_le (by simp)] at this
    exact this
  have hdn : Rd w w.heap.size (some ⟨ad.block, ad.off + 4, none⟩) (ints .u8 ((b.drop 4).take n)) := by
    have := hd.sub 0 n
    rw [List.drop_zero] at this
    exact this
  obtain ⟨ad2, e2, _, hcell⟩ := hd.int (j := n) (by omega)
  cases e2
  rw [addr_mk] at hcell
  have hcF := hd.cut (k := n + 1) (cap := c - 4) (by rw [ints_length]; omega)
  rw [← ints_drop] at hcF
  have hFb : Bytes (ukF b n) := (hl.drop _).drop _
  have hFl : (ukF b n).length = b.length - 4 - (n + 1) := by unfold ukF; rw [List.length_drop, hd4l]
  have hNlt := ukN_lt hl
  have HG : Hid (gv (b.take 4) = ukN b) := rfl
  have HGM : Hid (gv ((b.drop 4).take n) = ukM b n) := rfl
  have hM64 : ukM b n < 2 ^ 64 := gv_lt64 (by rw [List.length_take]; omega) ((hl.drop _).take _)
  have HGW : Hid (ukW b n = (b.drop 4).getD n 0) := rfl
  have HFd : Hid ((b.drop 4).drop (n + 1) = ukF b n) := rfl
  have HX : Hid (∀ j : Nat, IntKind.u64.wrap (((ukM b n : Nat) : Int) + ((rd (ukF b n) (j * ukW b n) (ukW b n) : Nat) : Int)) = ((ukG b n j : Nat) : Int)) := by
    intro j
    rw [add_u64]; rfl
  have HB : Hid (jn (ukG b n) n (ukN b) ++ (ukF b n).drop (ukS b n) = ukB b n) := by
    show _ = _
    unfold ukB ukR
    rw [if_neg h0]
  have HSd : Hid (ukS b n = (ukN b * ukW b n + 7) / 8) := rfl
  rw [← HGW.out] at hcell
  rw [HFd.out] at hcF
  have hGlt := Lib.hid (ukG_lt b n)
  have t0 : ((ukN b : Int) == 0) = false := by rw [beq_eq_false_iff_ne]; omega
  generalize ukS b n = S at *
  generalize ukG b n = G at *
  generalize ukF b n = Fl at *
  generalize ukN b = k at *
  generalize ukM b n = m at *
  generalize ukW b n = W at *
  obtain ⟨M, hM⟩ : ∃ M, M = 1048576 / n := ⟨_, rfl⟩
  have hMb : M ≤ 1048576 := by rw [hM]; exact Nat.div_le_self _ _
  have z4 : (1048576 : Int) / (n : Int) = (M : Int) := by rw [hM, Int.natCast_ediv]; rfl
  have q1 : ¬ n = 0 := by omega
  rw [← hM] at hg2
  have hkn : k * n ≤ 1048576 := by
    have := Nat.mul_le_mul_right n hg2
    have := Nat.div_mul_le_self 1048576 n
    rw [← hM] at this
    omega
  clear hM
  obtain ⟨y, hy⟩ : ∃ y, y = k * W := ⟨_, rfl⟩
  have hyb : y ≤ 67108864 := by rw [hy]; exact Nat.mul_le_mul (show k ≤ 1048576 from Nat.le_trans hg2 hMb) hg3
  have hS : S = (y + 7) / 8 := by rw [hy]; exact HSd.out
  have hSb : y ≤ 8 * S ∧ S ≤ 8388609 := by omega
  have m0 : IntKind.i64.wrap ((k : Int) * (W : Int)) = (y : Int) := by rw [← Int.natCast_mul, ← hy]; exact IntWalk.i64_in _ (by omega)
  have m2 : ((y : Int) + 7) / 8 = (S : Int) := by omega
  have HY := Lib.hid hy
  clear hy hS HSd
  have q2 : ¬ c = 4 := by omega
  have r1 : n ≤ c - 4 := by omega
  have w1 : IntKind.i64.wrap (W : Int) = (W : Int) := IntWalk.i64_in _ (by omega)
  have r2 : (n : Int) ≤ (n : Int) + 1 := by omega
  have HFL := Lib.hid hFl
  rw [hFl] at hg4
  obtain ⟨P, hP⟩ : ∃ P, P = k * n := ⟨_, rfl⟩
  rw [← hP] at hkn
  have mP : IntKind.i64.wrap ((k : Int) * (n : Int)) = (P : Int) := by rw [← Int.natCast_mul, ← hP]; exact IntWalk.i64_in _ (by omega)
  have hmk := make_ints (P := Tryz.prog) 25 5 i0 .u8 Tryz.underlying25 hi0 hz0 hz1 (by omega) .i64 .i64 P (P : Int) rfl (by omega)
  have hrow0 : RowE (w.drew.alloc (.cells (ints .u8 (List.replicate P 0)).toArray 5)) w.heap.size 5 .u8 (par G n k 0) := by
    have e : par G n k 0 = List.replicate P 0 := by unfold par; rw [Nat.sub_zero, ← hP]; rfl
    rw [e]; exact Bk.new w.drew 5 (ints .u8 (List.replicate P 0)).toArray
  have hb0 : Below w.heap.size w (w.drew.alloc (.cells (ints .u8 (List.replicate P 0)).toArray 5)) := ((Below.refl _ _).drew).alloc (Nat.le_refl _) _
  have HP := Lib.hid hP
  clear hP
  by_cases hq : c - 4 = n + 1
  · rw [if_pos hq] at hcF
    have hb5 : b.length - 4 = n + 1 := by omega
    obtain rfl : S = 0 := by omega
    have m3 : ((y : Int) + 7) / 8 = 0 := m2
    have hFlx : Fl.length = 0 := by omega
    have HN : Hid (Fl.drop 0 = []) := List.drop_eq_nil_of_le (by omega)
    have HM2 := Lib.hid m3
    clear m2 m3
    go_enter Tryz.func159, Tryz.ntmps159
    go_wp2_with fail
    refine (number_any (some ad) c 4 (b.take 4) _ (by simp; omega) (by omega) (hl.take _) hrd).mono ?_
    rintro e w5 ⟨rfl, rfl⟩
    rw [HG.out]
    go_wp2
    refine wp_region_still_lit (by kernel_rfl) (by kernel_rfl) ?_
    repeat still_step
    still_call (still (number_any (some ⟨ad.block, ad.off + 4, none⟩) _ n ((b.drop 4).take n) _ (by rw [List.length_take, hd4l]; omega) h8 ((hl.drop _).take _) hdn))
    repeat still_step
    refine wpStill_nil ?_
    rw [HGM.out]
    go_wp2
    clear hmk mP m0 hcell
    go_loopw [70] (fun i wr => ∃ j : Nat, j ≤ k ∧ i = .int .i64 j ∧ Hid (RowE wr w.heap.size 5 .u8 (par G n k j)) ∧ Below w.heap.size w wr) (fun i _ => k - (intOf i).toNat)
    case atStart => exact ⟨0, Nat.zero_le _, rfl, hrow0, hb0⟩
    case round =>
      clear hrow0 hb0
      obtain ⟨j, hj, rfl, HRw, hBf⟩ := hrel
      by_cases hlt : j < k
      · have hjW : j * W + W ≤ y := by rw [HY.out, ← Nat.succ_mul]; exact Nat.mul_le_mul_right _ hlt
        have hjn : j * n + n ≤ P := by rw [HP.out, ← Nat.succ_mul]; exact Nat.mul_le_mul_right _ hlt
        have hst := par_step G (n := n) hlt
        have hpl := par_len G (n := n) hj
        rw [← HP.out] at hpl
        have HXj := HX.out j
        obtain ⟨q, hq'⟩ : ∃ q, q = j * W := ⟨_, rfl⟩
        obtain ⟨o, ho⟩ : ∃ o, o = j * n := ⟨_, rfl⟩
        have mq : IntKind.i64.wrap ((j : Int) * (W : Int)) = (q : Int) := by rw [← Int.natCast_mul, ← hq']; exact IntWalk.i64_in _ (by omega)
        have mo : IntKind.i64.wrap ((j : Int) * (n : Int)) = (o : Int) := by rw [← Int.natCast_mul, ← ho]; exact IntWalk.i64_in _ (by omega)
        rw [← hq'] at hjW HXj
        rw [← ho] at hjn hst
        obtain ⟨s1, s2, s3⟩ := at_sum hjn (by omega)
        have qo : ¬ P = o := by omega
        have ro : (o : Int) + n ≤ P := by omega
        have ro2 : o + n ≤ P := by omega
        have ro3 : o + n - o = n := by omega
        have HXj' := Lib.hid HXj
        have Hst := Lib.hid hst
        have hFr := hcF.below hBf
        clear hq' ho hst HXj
        go_wp2
        refine wp_region_still_tail 18 (by kernel_rfl) (by kernel_rfl) ?_
        simp only [List.take_succ_cons, List.take_zero, List.drop_succ_cons, List.drop_zero]
        repeat still_step
        still_call (still (bread_any (some ⟨ad.block, ad.off + 4, none⟩) 0 0 q W Fl _ hFlx (by omega) (by omega) hg3 hFb (hFr.more hBf.size)))
        repeat still_step
        refine wpStill_nil ?_
        clear s1 s2 s3 qo ro ro2 ro3 mq mo
        go_wp2_with fail
        rw [HXj'.out]
        have hput := pute_any w.heap.size o n (P - o) (G j) (par G n k j) wr.drew (by omega) (by omega) (hGlt.out j) HRw.out
        refine hput.mono ?_
        rintro e w2 ⟨⟨u2, rfl⟩, hg2', hs2, hr2⟩
        rw [Hst.out] at hr2
        have HR2 := Lib.hid hr2
        have hB2 : Below w.heap.size w w2 := below_of_grown hBf.drew hg2' hBf.size (Nat.le_refl _)
        clear hr2 hg2' hs2 hput
        go_wp2
        go_roundw
        case rel => exact ⟨j + 1, by omega, by go_num, HR2, hB2⟩
        case measure => simp [intOf]; omega
      · have hjk : j = k := by omega
        subst j
        have hrow := HRw.out
        rw [par_all] at hrow
        have hjl : (jn G n k).length = P := by rw [jn_len, HP.out]
        have hown := hrow.own (base := w.heap.size) (Nat.le_refl _) (by rw [hjl]; unfold maxLen; omega)
        rw [hjl] at hown
        have HJL := Lib.hid hjl
        have m2 := HM2.out
        have hFr := hcF.below hBf
        clear hrow HRw hjl
        go_wp2_with (at_builtin; refine wpL_append _ rfl (.tmp 93) (.tmp 96) _ rfl w.heap.size 5 i0 _ 1 1 Tryz.underlying25 hi0 hz0 hz1 hz2 rfl (by omega) _ P (ints .u8 (jn G n k)) rfl hown (some ⟨ad.block, ad.off + 4, none⟩) 0 0 (ints .u8 []) rfl rfl (show Rd wr w.heap.size (some ⟨ad.block, ad.off + 4, none⟩) (ints .u8 []) from fun hn => absurd rfl hn) (ints_one _ _) (by unfold maxLen; omega) (by omega) hBf.size ?_; intro v1 w2 hown1 hg1' hat1)
        have hB2 : Below w.heap.size w w2 := below_app hBf hg1' hBf.size hown (Nat.le_refl _)
        have HO : Hid (IsL w2 w2.heap.size .u8 v1 (ukB b n)) := by
          rw [← ints_append] at hown1
          show IsL _ _ _ _ _
          rw [← HB.out, HN.out]
          exact IsL.of_own' hown1 (by rw [List.length_append, HJL.out]; rfl)
        clear hown hown1
        go_wp2
        go_ret2
        exact ⟨hB2, _, rfl, HO.out⟩
  · rw [if_neg hq, Option.map_some, addr_mk] at hcF
    have hFlx := hFl
    have HM2 := Lib.hid m2
    clear m2
    have q5 : ¬ c - 4 - (n + 1) = 0 := by omega
    go_enter Tryz.func159, Tryz.ntmps159
    go_wp2_with fail
    refine (number_any (some ad) c 4 (b.take 4) _ (by simp; omega) (by omega) (hl.take _) hrd).mono ?_
    rintro e w5 ⟨rfl, rfl⟩
    rw [HG.out]
    go_wp2
    refine wp_region_still_lit (by kernel_rfl) (by kernel_rfl) ?_
    repeat still_step
    still_call (still (number_any (some ⟨ad.block, ad.off + 4, none⟩) _ n ((b.drop 4).take n) _ (by rw [List.length_take, hd4l]; omega) h8 ((hl.drop _).take _) hdn))
    repeat still_step
    refine wpStill_nil ?_
    rw [HGM.out]
    go_wp2
    clear hmk mP m0 hcell
    go_loopw [70] (fun i wr => ∃ j : Nat, j ≤ k ∧ i = .int .i64 j ∧ Hid (RowE wr w.heap.size 5 .u8 (par G n k j)) ∧ Below w.heap.size w wr) (fun i _ => k - (intOf i).toNat)
    case atStart => exact ⟨0, Nat.zero_le _, rfl, hrow0, hb0⟩
    case round =>
      clear hrow0 hb0
      obtain ⟨j, hj, rfl, HRw, hBf⟩ := hrel
      by_cases hlt : j < k
      · have hjW : j * W + W ≤ y := by rw [HY.out, ← Nat.succ_mul]; exact Nat.mul_le_mul_right _ hlt
        have hjn : j * n + n ≤ P := by rw [HP.out, ← Nat.succ_mul]; exact Nat.mul_le_mul_right _ hlt
        have hst := par_step G (n := n) hlt
        have hpl := par_len G (n := n) hj
        rw [← HP.out] at hpl
        have HXj := HX.out j
        obtain ⟨q, hq'⟩ : ∃ q, q = j * W := ⟨_, rfl⟩
        obtain ⟨o, ho⟩ : ∃ o, o = j * n := ⟨_, rfl⟩
        have mq : IntKind.i64.wrap ((j : Int) * (W : Int)) = (q : Int) := by rw [← Int.natCast_mul, ← hq']; exact IntWalk.i64_in _ (by omega)
        have mo : IntKind.i64.wrap ((j : Int) * (n : Int)) = (o : Int) := by rw [← Int.natCast_mul, ← ho]; exact IntWalk.i64_in _ (by omega)
        rw [← hq'] at hjW HXj
        rw [← ho] at hjn hst
        obtain ⟨s1, s2, s3⟩ := at_sum hjn (by omega)
        have qo : ¬ P = o := by omega
        have ro : (o : Int) + n ≤ P := by omega
        have ro2 : o + n ≤ P := by omega
        have ro3 : o + n - o = n := by omega
        have HXj' := Lib.hid HXj
        have Hst := Lib.hid hst
        have hFr := hcF.below hBf
        clear hq' ho hst HXj
        go_wp2
        refine wp_region_still_tail 18 (by kernel_rfl) (by kernel_rfl) ?_
        simp only [List.take_succ_cons, List.take_zero, List.drop_succ_cons, List.drop_zero]
        repeat still_step
        still_call (still (bread_any (some ⟨ad.block, ad.off + 4 + (n + 1), none⟩) (c - 4 - (n + 1)) (b.length - 4 - (n + 1)) q W Fl _ hFlx (by omega) (by omega) hg3 hFb (hFr.more hBf.size)))
        repeat still_step
        refine wpStill_nil ?_
        clear s1 s2 s3 qo ro ro2 ro3 mq mo
        go_wp2_with fail
        rw [HXj'.out]
        have hput := pute_any w.heap.size o n (P - o) (G j) (par G n k j) wr.drew (by omega) (by omega) (hGlt.out j) HRw.out
        refine hput.mono ?_
        rintro e w2 ⟨⟨u2, rfl⟩, hg2', hs2, hr2⟩
        rw [Hst.out] at hr2
        have HR2 := Lib.hid hr2
        have hB2 : Below w.heap.size w w2 := below_of_grown hBf.drew hg2' hBf.size (Nat.le_refl _)
        clear hr2 hg2' hs2 hput
        go_wp2
        go_roundw
        case rel => exact ⟨j + 1, by omega, by go_num, HR2, hB2⟩
        case measure => simp [intOf]; omega
      · have hjk : j = k := by omega
        subst j
        have hrow := HRw.out
        rw [par_all] at hrow
        have hjl : (jn G n k).length = P := by rw [jn_len, HP.out]
        have hown := hrow.own (base := w.heap.size) (Nat.le_refl _) (by rw [hjl]; unfold maxLen; omega)
        rw [hjl] at hown
        have HJL := Lib.hid hjl
        have m2 := HM2.out
        have hFr := hcF.below hBf
        clear hrow HRw hjl
        have hcut := hFr.cut (k := S) (cap := c - 4 - (n + 1)) (by rw [ints_length]; omega)
        rw [← ints_drop] at hcut
        by_cases hcs : c - 4 - (n + 1) = S
        · have HN : Hid (Fl.drop S = []) := List.drop_eq_nil_of_le (by omega)
          have hbs : b.length - 4 - (n + 1) = S := by omega
          go_wp2_with (at_builtin; refine wpL_append _ rfl (.tmp 93) (.tmp 96) _ rfl w.heap.size 5 i0 _ 1 1 Tryz.underlying25 hi0 hz0 hz1 hz2 rfl (by omega) _ P (ints .u8 (jn G n k)) rfl hown (some ⟨ad.block, ad.off + 4 + (n + 1), none⟩) 0 0 (ints .u8 []) rfl rfl (show Rd wr w.heap.size (some ⟨ad.block, ad.off + 4 + (n + 1), none⟩) (ints .u8 []) from fun hn => absurd rfl hn) (ints_one _ _) (by unfold maxLen; omega) (by omega) hBf.size ?_; intro v1 w2 hown1 hg1' hat1)
          have hB2 : Below w.heap.size w w2 := below_app hBf hg1' hBf.size hown (Nat.le_refl _)
          have HO : Hid (IsL w2 w2.heap.size .u8 v1 (ukB b n)) := by
            rw [← ints_append] at hown1
            show IsL _ _ _ _ _
            rw [← HB.out, HN.out]
            exact IsL.of_own' hown1 (by rw [List.length_append, HJL.out]; rfl)
          clear hown hown1
          go_wp2
          go_ret2
          exact ⟨hB2, _, rfl, HO.out⟩
        · rw [if_neg hcs, Option.map_some, addr_mk] at hcut
          go_wp2_with (at_builtin; refine wpL_append _ rfl (.tmp 93) (.tmp 96) _ rfl w.heap.size 5 i0 _ 1 1 Tryz.underlying25 hi0 hz0 hz1 hz2 rfl (by omega) _ P (ints .u8 (jn G n k)) rfl hown (some ⟨ad.block, ad.off + 4 + (n + 1) + S, none⟩) (b.length - 4 - (n + 1) - S) (c - 4 - (n + 1) - S) (ints .u8 (Fl.drop S)) rfl (by rw [ints_length, List.length_drop, HFL.out, Nat.mul_one]) hcut (ints_one _ _) (by unfold maxLen; omega) (by omega) hBf.size ?_; intro v1 w2 hown1 hg1' hat1)
          have hB2 : Below w.heap.size w w2 := below_app hBf hg1' hBf.size hown (Nat.le_refl _)
          have HO : Hid (IsL w2 w2.heap.size .u8 v1 (ukB b n)) := by
            rw [← ints_append] at hown1
            show IsL _ _ _ _ _
            rw [← HB.out]
            exact IsL.of_own' hown1 (by rw [List.length_append, HJL.out, List.length_drop, HFL.out])
          clear hown hown1
          go_wp2
          go_ret2
          exact ⟨hB2, _, rfl, HO.out⟩
end Go.Proofs.YtpkhgdnkkdhlcaaGreatDoor

namespace Go.Proofs.YtpkhgdnkkdhlcaaGreatDoor
open Go.RowKit Go.Shelf By
attribute [local go_sem] Oper.semAt_some

theorem opIn_append_own {F : Fence} {n : Nat} {P : Program} (w : World) {o : Oper} {a : Act} {K : Act → World → Prop} {Q : Exit → Act → World → Prop}
    (s x : Operand) (t : TypeId) (hop : o.op = Op.call { callee := Callee.builtin Builtin.append, args := #[s, x], argTypes := #[t, t] }) (v u v' : Value) (w' : World) (hs : a.eval s = v) (hx : a.eval x = u)
    (hrun : (Builtin.append_ #[t, t] o.type #[v, u]).run P w = .ok v' w') (hK : K (a.put o.dst v') w') : Oper.wpIn F n P o a w K Q := by
  unfold Oper.wpIn
  refine ⟨?_, ?_⟩
  · simp [Oper.about, hop, resolve, Target.leads, Sem.run_pure]
  · rw [Oper.semAt_plain F _ _ (by rw [hop]; intro c hc'; cases hc')]
    simp [execOp, hop, resolve, invoke, builtin, hs, hx, hrun, Result.andThen]
    exact hK
theorem ys_gl {k : Nat} {ys : List { j : Nat // j < k }} (h : ys.map (·.1) = List.range k) (l : List Nat) (n : Nat) : ys.map (fun x => G l n x.1) = gl l n k := by
  show _ = (List.range k).map _
  rw [← h, List.map_map]; rfl

set_option maxRecDepth 100000 in
set_option maxHeartbeats 8000000 in
theorem pack_any (A : Option Addr) (c n : Nat) (l : List Nat) (w : World) (h1 : 1 ≤ n) (h8 : n ≤ 8) (hl : Bytes l) (hc : l.length ≤ c) (hm : l.length ≤ 1048576) (h : Rd w w.heap.size A (ints .u8 l)) :
    Calls Tryz.prog 120 #[.slice A l.length c, .int .i64 n] w fun e w' => Below w.heap.size w w' ∧ ∃ v, e = .returned (.tuple #[v, .int .i64 0]) ∧ IsL w' w'.heap.size .u8 v (packL l n) := by
  have hg : grE n l.length = 0 := by unfold grE; rw [if_neg (by omega), if_neg (by omega)]
  have hb := gl_bound hl h8
  have hlen := gl_len l n (l.length / n)
  have hkl := Nat.div_mul_le_self l.length n
  have hkn : l.length / n ≤ l.length := Nat.div_le_self _ _
  obtain ⟨i8, hi8, hz80, hz81, hz82⟩ := info_parts Tryz.u8c_info
  obtain ⟨i0, hi0, hz0, hz1, hz2⟩ := info_parts Tryz.u64_info
  have HP : Hid (packB (G l n) (l.length / n) n (rest l n) = packL l n) := rfl
  have HR : Hid (rest l n = l.drop (l.length / n * n)) := rfl
  have d1 : IntKind.i64.wrap ((l.length : Int) / (n : Int)) = ((l.length / n : Nat) : Int) := by rw [← Int.natCast_ediv]; exact IntWalk.i64_in _ (by omega)
  have d2 : IntKind.i64.wrap (((l.length / n : Nat) : Int) * (n : Int)) = ((l.length / n * n : Nat) : Int) := by rw [← Int.natCast_mul]; exact IntWalk.i64_in _ (by omega)
  generalize hk : l.length / n = k at *
  generalize hL : k * n = L at *
  have HL := Lib.hid hL
  have HK := Lib.hid hk
  clear hL hk
  refine (callsIn_wide (n := 3)).1 ?_
  refine callsIn_of_wp_marks Tryz.func120 rfl trivial ?_ rfl
  simp only [Tryz.ntmps120, List.size_toArray, List.length_cons, List.length_nil, Nat.reduceAdd, Nat.reduceSub, Array.replicate_succ, Array.replicate_zero, List.push_toArray, List.append_toArray, List.nil_append, List.cons_append]
  refine wpIn_wide.2 ?_
  go_wp2_with fail
  refine (grouped_any _ _ _ _ _ (by omega)).mono ?_
  rintro e w1 ⟨rfl, rfl⟩
  rw [hg]
  clear hg
  have q1 : ¬ n = 0 := by omega
  go_wp2_with fail
  refine (chunk_any A L c n _ h1 h8).mono ?_
  rintro e w1 ⟨rfl, hw1⟩
  have b0 : Boxed w1 w.heap.size 71 (.slice none 0 0) := by rw [hw1]; exact ((Boxed.new w _ _).alloc _).alloc _
  have b1 : Boxed w1 (w.heap.size + 1) 25 (.slice A L c) := by
    have := (Boxed.new (w.alloc (.cells #[.slice none 0 0] 71)) 25 (.slice A L c)).alloc (.cells #[.int .i64 n] 3)
    rw [World.size_alloc] at this
    rw [hw1]; exact this
  have b2 : Boxed w1 (w.heap.size + 2) 3 (.int .i64 n) := by
    have := Boxed.new ((w.alloc (.cells #[.slice none 0 0] 71)).alloc (.cells #[.slice A L c] 25)) 3 (.int .i64 n)
    rw [World.size_alloc, World.size_alloc] at this
    rw [hw1]; exact this
  have hB1 : Below w.heap.size w w1 := by rw [hw1]; exact (((Below.refl _ w).alloc (Nat.le_refl _) _).alloc (by simp) _).alloc (by simp; omega) _
  have hs1 : w1.heap.size = w.heap.size + 3 := by rw [hw1]; simp
  clear hw1
  have hA : 0 < k → ∃ ad, A = some ad := fun hk => by
    have e1 := HL.out
    have : 1 * 1 ≤ k * n := Nat.mul_le_mul hk h1
    obtain ⟨ad, e, _⟩ := h.int (j := 0) (by omega)
    exact ⟨ad, e⟩
  have hmx : Tryz.prog.follows .mixedOrders = true := by kernel_rfl
  go_wp2
  refine (wpIn_wide (n := 3)).1 ?_
  refine wpIn_rangeFunc_ownF (F := Fence.wide) (n := 3) rfl (by omega) (gf := 200) (lb := #[.pointer (some ⟨w.heap.size + 1, 0, none⟩), .pointer (some ⟨w.heap.size + 2, 0, none⟩)]) rfl trivial (enters_of Tryz.func200 (by kernel_rfl) rfl)
    (chunk_stops (3 - 1) (by omega) (w.heap.size + 1) (w.heap.size + 2) L c k n A hA HL.out.symm h1 h8 (by omega) (by omega) w1 (by omega) (by omega) b1.cell b2.cell) Keep2.trans
    (fun W b o o' hb ho _ _ => ⟨World.cell?_of_block ((grownBy_putObj' W b o').block (w.heap.size + 1) (by have := (Array.getElem?_eq_some_iff.1 ho).1; omega) (by intro e; cases e; omega)), World.cell?_of_block ((grownBy_putObj' W b o').block (w.heap.size + 2) (by have := (Array.getElem?_eq_some_iff.1 ho).1; omega) (by intro e; cases e; omega))⟩)
    (Below.refl _ _) (fun _ => rfl)
    (fun pre W => ((∃ v, Boxed W w.heap.size 71 v ∧ W.ownsRow w.heap.size 67 1 v pre.length (ints .u64 (pre.map fun x => G l n x.1)) ∧ True) ∧ Below w.heap.size w W) ∧ (Boxed W (w.heap.size + 1) 25 (.slice A L c) ∧ Boxed W (w.heap.size + 2) 3 (.int .i64 n)))
    (fun _ _ _ => False)
    (OwnFrom.and (OwnFrom.and (Own.from (holdsRow_own w.heap.size w.heap.size 71 67 1 (fun (pre : List { j : Nat // j < k }) => pre.length) (fun (pre : List { j : Nat // j < k }) => ints .u64 (pre.map fun x => G l n x.1)) (fun _ _ => True)) _) (ownFrom_below (Nat.le_refl _) (by omega))) (OwnFrom.and (Own.from (boxed_own _ _ fun _ => .slice A L c) _) (Own.from (boxed_own _ _ fun _ => .int .i64 n) _)))
    (fun _ _ _ _ _ hs _ _ => hs)
    ⟨⟨⟨_, b0, World.ownsRow_nil _ _ _ _, trivial⟩, hB1⟩, b1, b2⟩
    (fun x => { tmps := #[.slice A l.length c, .int .i64 n, undef, undef, .slice none 0 0, .int .i64 0, .int .i64 0, .pointer (some ⟨w.heap.size, 0, none⟩), .slice (A.map (·.add (x.1 * n))) n n, undef, undef, undef, undef, undef, undef, undef, .slice A l.length c, .int .i64 n, .int .i64 0, .int .i64 0, .bool false, undef, .slice A l.length c, .slice A l.length c, .int .i64 l.length, .int .i64 n, .int .i64 k, .int .i64 n, .int .i64 L, .slice A L c, .int .i64 n, .func (.func 200) #[] #[.pointer (some ⟨w.heap.size + 1, 0, none⟩), .pointer (some ⟨w.heap.size + 2, 0, none⟩)], .slice (A.map (·.add (x.1 * n))) n n, undef, undef, undef, undef, undef, undef, undef, undef, undef, undef, undef, undef, undef, undef, undef, undef, undef, undef, undef, undef, undef, undef, undef, undef, undef, undef, undef, undef, undef, undef, undef, undef, undef, undef, undef, undef, undef, undef, undef, undef, undef, undef, undef, undef, undef, undef, undef, undef, undef, undef, undef, undef, undef, undef, undef, undef, undef, undef, undef, undef, undef, undef, undef, undef, undef, undef, undef, undef, undef, undef], defers := [] }) ?assign ?body ?done ?stop
  case assign =>
    intro l' x W K hK
    unfold encK
    gi_wp2
    exact hK
  case body =>
    rintro l' pre x W ⟨⟨⟨v, hv, hrow, _⟩, hB⟩, hb1, hb2⟩ hlt
    obtain ⟨ad, rfl⟩ := hA (by have := x.2; omega)
    have hc0 := hv.cell
    have hRd : Rd W W.heap.size (some (ad.add (x.1 * n))) (ints .u8 ((l.drop (x.1 * n)).take n)) := ((h.below hB).sub (x.1 * n) n).more hB.size
    have hGl : ((l.drop (x.1 * n)).take n).length = n := by
      have e1 : (x.1 + 1) * n ≤ k * n := Nat.mul_le_mul_right _ x.2
      rw [Nat.succ_mul] at e1
      have e2 := HL.out
      rw [List.length_take, List.length_drop]; omega
    have hnum := number_any (some (ad.add (x.1 * n))) n n ((l.drop (x.1 * n)).take n) W.drew hGl h8 ((hl.drop _).take _) hRd.drew
    rw [show gv ((l.drop (x.1 * n)).take n) = G l n x.1 from rfl] at hnum
    have hvD : Boxed W.drew w.heap.size 71 v := hv
    have hrowD : W.drew.ownsRow w.heap.size 67 1 v pre.length (ints .u64 (pre.map fun x => G l n x.1)) := hrow
    have hBD : Below w.heap.size w W.drew := hB.drew
    have hd : 1 ≤ 3 - 1 - 1 := by omega
    have hG64 : G l n x.1 < 2 ^ 64 := G_lt64 hl h8 x.1
    obtain ⟨v', w9, hap, hown', hgrow, _⟩ := run_append_own (P := Tryz.prog) (W.drew.alloc (.cells #[.int .u64 ((G l n x.1 : Nat) : Int)] 67)) w.heap.size 71 71 67 i0 (.int .u64 0) 1 8 Tryz.underlying71 hi0 hz0 hz1 hz2 rfl (by decide) v pre.length (ints .u64 (pre.map fun x => G l n x.1)) (hrowD.alloc _) ⟨W.heap.size, 0, none⟩ 1 1 [.int .u64 ((G l n x.1 : Nat) : Int)] rfl (cell_one_new _ _ _) (by simp [Value.oneCell']) (by unfold maxLen; omega) (by omega) (by have := hB.size; rw [World.size_alloc]; show _ ≤ W.heap.size + 1; omega)
    obtain ⟨g', cap', rfl⟩ := ownsRow_succ hown'
    obtain ⟨hv1, hv2, hr2, hk2, hb9⟩ := hvD.appended (by decide) hrowD hBD.size (Nat.le_refl _) hown' hgrow
    have hc1 := hv1.cell
    have hf1 := hv1.frozen
    gi_wp2
    have hc0D := (hv.alloc (.cells #[.int .u64 ((G l n x.1 : Nat) : Int)] 67)).cell
    have HOK : Hid (KeepsOthers W (w9.setCell ⟨w.heap.size, 0, none⟩ (.slice (some ⟨g', 0, none⟩) (pre.length + 1) cap')) ∧ Keep2 (w.heap.size + 1) (w.heap.size + 2) W (w9.setCell ⟨w.heap.size, 0, none⟩ (.slice (some ⟨g', 0, none⟩) (pre.length + 1) cap')) ∧
      ((∃ v, Boxed (w9.setCell ⟨w.heap.size, 0, none⟩ (.slice (some ⟨g', 0, none⟩) (pre.length + 1) cap')) w.heap.size 71 v ∧ (w9.setCell ⟨w.heap.size, 0, none⟩ (.slice (some ⟨g', 0, none⟩) (pre.length + 1) cap')).ownsRow w.heap.size 67 1 v (pre ++ [x]).length (ints .u64 ((pre ++ [x]).map fun x => G l n x.1)) ∧ True) ∧ Below w.heap.size w (w9.setCell ⟨w.heap.size, 0, none⟩ (.slice (some ⟨g', 0, none⟩) (pre.length + 1) cap'))) ∧
      (Boxed (w9.setCell ⟨w.heap.size, 0, none⟩ (.slice (some ⟨g', 0, none⟩) (pre.length + 1) cap')) (w.heap.size + 1) 25 (.slice (some ad) L c) ∧ Boxed (w9.setCell ⟨w.heap.size, 0, none⟩ (.slice (some ⟨g', 0, none⟩) (pre.length + 1) cap')) (w.heap.size + 2) 3 (.int .i64 n))) := by
      have hb1D : Boxed W.drew (w.heap.size + 1) 25 (.slice (some ad) L c) := hb1
      have hb2D : Boxed W.drew (w.heap.size + 2) 3 (.int .i64 n) := hb2
      have k1 := (((hb1D.alloc (.cells #[.int .u64 ((G l n x.1 : Nat) : Int)] 67)).kept hgrow (hb1D.not_row (by decide) hrowD)).other (B' := w.heap.size) (by omega) (.slice (some ⟨g', 0, none⟩) (pre.length + 1) cap'))
      have k2 := (((hb2D.alloc (.cells #[.int .u64 ((G l n x.1 : Nat) : Int)] 67)).kept hgrow (hb2D.not_row (by decide) hrowD)).other (B' := w.heap.size) (by omega) (.slice (some ⟨g', 0, none⟩) (pre.length + 1) cap'))
      refine ⟨(KeepsOthers.drew W).trans hk2, ⟨k1.cell.trans hb1.cell.symm, k2.cell.trans hb2.cell.symm⟩, ⟨⟨_, hv2, ?_, trivial⟩, hBD.trans hb9⟩, k1, k2⟩
      rw [List.length_append, List.map_append, ints_append]
      exact hr2
    refine wpIn_region_any hmx ?_
    change wpAnyIn _ _ _ _ _ _ _ _ _ (World.drew _)
    refine wpAnyIn_ready (rs := [0, 1]) (by kernel_rfl) (by simp) ?_
    refine AllReadyIn.cons rfl (fun K hK => ?_) (AllReadyIn.cons rfl (fun K hK => ?_) AllReadyIn.nil)
    · go_simp
      refine hK _ _ ?_
      clear hK K
      refine wpAnyIn_ready (rs := [1]) (by kernel_rfl) (by simp) ?_
      refine AllReadyIn.cons rfl (fun K hK => ?_) AllReadyIn.nil
      go_simp
      refine hK _ _ ?_
      clear hK K
      refine wpAnyIn_ready (rs := [2]) (by kernel_rfl) (by simp) ?_
      refine AllReadyIn.cons rfl (fun K hK => ?_) AllReadyIn.nil
      go_simp
      gi_wp2_with (refine ⟨trivial, ?_⟩; gi_at_call 157; refine (CallsIn.inRound l' (callsIn_wide.2 hnum)).mono ?_; rintro e w8 ⟨rfl, rfl⟩)
      refine wpAnyIn_ready (rs := [3]) (by kernel_rfl) (by simp) ?_
      refine AllReadyIn.cons rfl (fun K hK => ?_) AllReadyIn.nil
      go_simp
      refine hK _ _ ?_
      clear hK K
      refine wpAnyIn_ready (rs := [4]) (by kernel_rfl) (by simp) ?_
      refine AllReadyIn.cons rfl (fun K hK => ?_) AllReadyIn.nil
      rw [if_pos (by rfl)]
      refine opIn_append_own _ _ _ 71 rfl _ _ _ _ rfl rfl hap ?_
      refine hK _ _ ?_
      clear hK K
      refine wpAnyIn_ready (rs := [5]) (by kernel_rfl) (by simp) ?_
      refine AllReadyIn.cons rfl (fun K hK => ?_) AllReadyIn.nil
      go_simp
      refine hK _ _ ?_
      clear hK K
      refine wpAnyIn_done (by kernel_rfl) ?_ _
      gi_wp2
      exact HOK
    · go_simp
      refine hK _ _ ?_
      clear hK K
      refine wpAnyIn_ready (rs := [0, 2]) (by kernel_rfl) (by simp) ?_
      refine AllReadyIn.cons rfl (fun K hK => ?_) (AllReadyIn.cons rfl (fun K hK => ?_) AllReadyIn.nil)
      · go_simp
        refine hK _ _ ?_
        clear hK K
        refine wpAnyIn_ready (rs := [2]) (by kernel_rfl) (by simp) ?_
        refine AllReadyIn.cons rfl (fun K hK => ?_) AllReadyIn.nil
        go_simp
        gi_wp2_with (refine ⟨trivial, ?_⟩; gi_at_call 157; refine (CallsIn.inRound l' (callsIn_wide.2 hnum)).mono ?_; rintro e w8 ⟨rfl, rfl⟩)
        refine wpAnyIn_ready (rs := [3]) (by kernel_rfl) (by simp) ?_
        refine AllReadyIn.cons rfl (fun K hK => ?_) AllReadyIn.nil
        go_simp
        refine hK _ _ ?_
        clear hK K
        refine wpAnyIn_ready (rs := [4]) (by kernel_rfl) (by simp) ?_
        refine AllReadyIn.cons rfl (fun K hK => ?_) AllReadyIn.nil
        rw [if_pos (by rfl)]
        refine opIn_append_own _ _ _ 71 rfl _ _ _ _ rfl rfl hap ?_
        refine hK _ _ ?_
        clear hK K
        refine wpAnyIn_ready (rs := [5]) (by kernel_rfl) (by simp) ?_
        refine AllReadyIn.cons rfl (fun K hK => ?_) AllReadyIn.nil
        go_simp
        refine hK _ _ ?_
        clear hK K
        refine wpAnyIn_done (by kernel_rfl) ?_ _
        gi_wp2
        exact HOK
      · go_simp
        gi_wp2_with (refine ⟨trivial, ?_⟩; gi_at_call 157; refine (CallsIn.inRound l' (callsIn_wide.2 hnum)).mono ?_; rintro e w8 ⟨rfl, rfl⟩)
        refine wpAnyIn_ready (rs := [0, 3]) (by kernel_rfl) (by simp) ?_
        refine AllReadyIn.cons rfl (fun K hK => ?_) (AllReadyIn.cons rfl (fun K hK => ?_) AllReadyIn.nil)
        · go_simp
          refine hK _ _ ?_
          clear hK K
          refine wpAnyIn_ready (rs := [3]) (by kernel_rfl) (by simp) ?_
          refine AllReadyIn.cons rfl (fun K hK => ?_) AllReadyIn.nil
          go_simp
          refine hK _ _ ?_
          clear hK K
          refine wpAnyIn_ready (rs := [4]) (by kernel_rfl) (by simp) ?_
          refine AllReadyIn.cons rfl (fun K hK => ?_) AllReadyIn.nil
          rw [if_pos (by rfl)]
          refine opIn_append_own _ _ _ 71 rfl _ _ _ _ rfl rfl hap ?_
          refine hK _ _ ?_
          clear hK K
          refine wpAnyIn_ready (rs := [5]) (by kernel_rfl) (by simp) ?_
          refine AllReadyIn.cons rfl (fun K hK => ?_) AllReadyIn.nil
          go_simp
          refine hK _ _ ?_
          clear hK K
          refine wpAnyIn_done (by kernel_rfl) ?_ _
          gi_wp2
          exact HOK
        · go_simp
          refine hK _ _ ?_
          clear hK K
          refine wpAnyIn_ready (rs := [0]) (by kernel_rfl) (by simp) ?_
          refine AllReadyIn.cons rfl (fun K hK => ?_) AllReadyIn.nil
          go_simp
          refine hK _ _ ?_
          clear hK K
          refine wpAnyIn_ready (rs := [4]) (by kernel_rfl) (by simp) ?_
          refine AllReadyIn.cons rfl (fun K hK => ?_) AllReadyIn.nil
          rw [if_pos (by rfl)]
          refine opIn_append_own _ _ _ 71 rfl _ _ _ _ rfl rfl hap ?_
          refine hK _ _ ?_
          clear hK K
          refine wpAnyIn_ready (rs := [5]) (by kernel_rfl) (by simp) ?_
          refine AllReadyIn.cons rfl (fun K hK => ?_) AllReadyIn.nil
          go_simp
          refine hK _ _ ?_
          clear hK K
          refine wpAnyIn_done (by kernel_rfl) ?_ _
          gi_wp2
          exact HOK
  case done =>
    rintro D ys W hD hys ⟨⟨⟨v, hv, hrow, _⟩, hB⟩, _, _⟩ hK
    rw [ys_gl hys] at hrow
    have hyl : ys.length = k := by have := congrArg List.length hys; simpa using this
    rw [hyl] at hrow
    clear hys hyl
    obtain ⟨A', c', rfl, hc'⟩ := own_slice hrow
    have hrd := Rd.of_own hrow
    clear hrow b0 b1 b2
    have hsW : w.heap.size < W.heap.size := hv.lt
    have hvA := hv.alloc (.cells (ints .u8 [0, 0, 0, 0]).toArray 5)
    have hcA := hvA.cell
    have hmk4 : ∀ w, (Instr.makeSlice 25 (.int .i64 4) (.int .i64 4)).run Tryz.prog w = .ok (.slice (some ⟨w.heap.size, 0, none⟩) 4 4) (w.alloc (.cells (ints .u8 [0, 0, 0, 0]).toArray 5)) := make_ints (P := Tryz.prog) 25 5 i8 .u8 Tryz.underlying25 hi8 hz80 hz81 (by omega) .i64 .i64 4 4 rfl (by omega)
    have rE0 : RowE (W.alloc (.cells (ints .u8 [0, 0, 0, 0]).toArray 5)) W.heap.size 5 .u8 [0, 0, 0, 0] := Bk.new _ _ _
    have hBA : Below W.heap.size W (W.alloc (.cells (ints .u8 [0, 0, 0, 0]).toArray 5)) := (Below.refl _ _).alloc (Nat.le_refl _) _
    have hRl := h.cut (k := L) (cap := c) (by rw [ints_length]; exact hc)
    rw [← ints_drop] at hRl
    have hkm : k ≤ 1048576 := by omega
    go_wp2_with fail
    refine (pute_any W.heap.size 0 4 4 k [0, 0, 0, 0] _ (by simp) (by omega) (by omega) rE0).mono ?_
    rintro e w2 ⟨⟨u2, rfl⟩, hg2, hs2, hr2⟩
    have hr2' : RowE w2 W.heap.size 5 .u8 (gb 4 k) := hr2
    have hv2 := hvA.kept hg2 (by intro e; injection e with e; omega)
    have hc2 := hv2.cell
    have hB2 : Below W.heap.size W w2 := below_of_grown hBA hg2 (by simp) (Nat.le_refl _)
    have ho2 : w2.ownsRow W.heap.size 5 1 (.slice (some ⟨W.heap.size, 0, none⟩) 4 4) 4 (ints .u8 (gb 4 k)) := by
      have := hr2'.own (base := W.heap.size) (Nat.le_refl _) (by rw [gb_len]; unfold maxLen; omega)
      rwa [gb_len] at this
    have HS2 := Lib.hid hs2
    clear hmk4 rE0 hBA hvA hcA hr2 hr2' hg2 hs2
    have hDW : D < W.heap.size := (Array.getElem?_eq_some_iff.1 hK).1
    by_cases h0 : k = 0
    · subst h0
      have hL0 : L = 0 := by have := HL.out; omega
      have hR2 := (h.below (hB.trans (hB2.mono hB.size))).more (Nat.le_trans hB.size hB2.size)
      have HQ : Hid (packL l n = gb 4 0 ++ l) := by
        show _ = _
        rw [← HP.out, packB_zero, HR.out, hL0, List.drop_zero]
      go_wp2_with (at_builtin; refine wpL_append _ rfl (.tmp 93) (.tmp 101) _ rfl W.heap.size 5 i8 _ 1 1 Tryz.underlying25 hi8 hz80 hz81 hz82 rfl (by omega) _ 4 (ints .u8 (gb 4 0)) rfl ho2 A l.length c (ints .u8 l) rfl (by rw [ints_length, Nat.mul_one]) hR2 (ints_one _ _) (by unfold maxLen; omega) (by omega) hB2.size ?_; intro v3 w3 hown3 hg3 hat3)
      have hB3 : Below W.heap.size W w3 := below_app hB2 hg3 hB2.size ho2 (Nat.le_refl _)
      have hKz : w3.heap[D]? = some (.deferred (some [])) := (hB3.block D hDW).trans hK
      have hBz : Below w.heap.size w w3 := hB.trans (hB3.mono hB.size)
      rw [← ints_append] at hown3
      have HZ : Hid (IsL (w3.putObj D (.deferred none)) (w3.putObj D (.deferred none)).heap.size .u8 v3 (packL l n)) := by
        show IsL _ _ _ _ _
        rw [HQ.out]
        exact IsL.of_own' (ownsRow_putObj hown3 _ hKz rfl) (by rw [List.length_append, gb_len])
      clear hown3 hg3 hat3
      go_wp2
      refine ⟨by simp, .inl ⟨_, _, rfl, run_takeDeferred hKz, ?_⟩⟩
      exact ⟨_, results_tmp2 rfl _ _ _, hBz.trans (belowK_b (w := w) (Nat.le_refl _) _ D _ _ (by omega) hKz rfl rfl), _, rfl, HZ.out⟩
    · have hrd2 : Rd w2 w2.heap.size A' (ints .u64 (gl l n k)) := (hrd.below hB2).more hB2.size
      have HPe : Hid (packB (el (gl l n k)) k n (rest l n) = packL l n) := by
        show _ = _
        rw [← HP.out]
        exact packB_congr fun i hi => el_gl l n hi
      generalize gl l n k = ds at *
      go_wp2_with fail
      refine (min_any A' c' k ds w2 hlen (by omega) (by omega) hrd2).mono ?_
      rintro e w5 ⟨rfl, rfl⟩
      obtain ⟨m, hmm⟩ : ∃ m, m = lo (el ds) k := ⟨_, rfl⟩
      have HM := Lib.hid hmm
      rw [← hmm]
      clear hmm
      go_wp2_with fail
      refine (max_any A' c' k ds _ hlen (by omega) (by omega) hrd2).mono ?_
      rintro e w5 ⟨rfl, rfl⟩
      obtain ⟨M, hMM⟩ : ∃ M, M = hi (el ds) k := ⟨_, rfl⟩
      have HMM := Lib.hid hMM
      rw [← hMM]
      clear hMM
      have hmM : m ≤ M := by rw [HM.out, HMM.out]; exact Nat.le_trans (lo_le (el ds) (i := 0) (by omega)) (le_hi (el ds) (by omega))
      have hM64 : M < 2 ^ 64 := by rw [HMM.out]; exact hi_lt (by omega) (fun i _ => hb i)
      have s1 : IntKind.u64.wrap ((M : Int) - (m : Int)) = ((M - m : Nat) : Int) := by rw [show (M : Int) - m = ((M - m : Nat) : Int) by omega]; exact wrap_u64 (by omega)
      go_wp2_with fail
      refine (Tryz.bits_Len64 ((M - m : Nat) : Int) _ (by omega) (by omega)).mono ?_
      rintro e w5 ⟨rfl, hw5⟩
      rw [hw5, Int.toNat_natCast, len64_bl (by omega)]
      clear hw5
      obtain ⟨d, hd⟩ : ∃ d, d = bl (M - m) := ⟨_, rfl⟩
      have hd64 : d ≤ 64 := by rw [hd]; exact bl_le.2 (by omega)
      have HW : Hid (d = packW (el ds) k) := by show _ = _; rw [hd, HM.out, HMM.out]; rfl
      rw [← hd]
      clear hd s1
      have hmkn := make_ints (P := Tryz.prog) 25 5 i8 .u8 Tryz.underlying25 hi8 hz80 hz81 (by omega) .i64 .i64 n (n : Int) rfl (by omega)
      go_wp2_with fail
      refine (put_any w2.heap.size 0 n n m (List.replicate n 0) _ (by simp) (by omega) (by omega) (Row.of_bk (Bk.new _ _ _))).mono ?_
      rintro e w3 ⟨⟨u3, rfl⟩, hg3, hs3, hr3⟩
      have hB3 : Below W.heap.size W w3 := below_of_grown (hB2.alloc hB2.size _) hg3 (by have := hB2.size; simp; omega) hB2.size
      have ho3 := (ho2.alloc (.cells (ints .u8 (List.replicate n 0)).toArray 5)).kept hg3 (.inr (by intro e; have e3 : some W.heap.size = some w2.heap.size := e; injection e3 with e3; have e2 := HS2.out; rw [World.size_alloc] at e2; omega))
      have hr3' : Rd w3 w3.heap.size (some ⟨w2.heap.size, 0, none⟩) (ints .u8 (gb n m)) := by
        have := hr3.all
        rw [List.take_zero, List.nil_append, Nat.zero_add, List.drop_eq_nil_of_le (by simp), List.append_nil] at this
        exact this
      have HL2 := Lib.hid (gb_len n m)
      clear hmkn hr3 hg3 hs3
      obtain ⟨y, hy⟩ : ∃ y, y = k * d := ⟨_, rfl⟩
      have hyb : y ≤ 67108864 := by rw [hy]; exact Nat.mul_le_mul hkm hd64
      obtain ⟨S, hS⟩ : ∃ S, S = (y + 7) / 8 := ⟨_, rfl⟩
      have hSb : y ≤ 8 * S ∧ S ≤ 8388609 := by omega
      have m0 : IntKind.i64.wrap ((k : Int) * (d : Int)) = (y : Int) := by rw [← Int.natCast_mul, ← hy]; exact IntWalk.i64_in _ (by omega)
      have m2 : ((y : Int) + 7) / 8 = (S : Int) := by omega
      have hmk := make_ints (P := Tryz.prog) 25 5 i8 .u8 Tryz.underlying25 hi8 hz80 hz81 (by omega) .i64 .i64 S (S : Int) rfl (by omega)
      have HY := Lib.hid hy
      have HS := Lib.hid hS
      clear hy hS
      have s3 : IntKind.u8.wrap (d : Int) = (d : Int) := wrap_u8 (by omega)
      go_wp2_with (at_builtin; first
        | (refine wpL_append _ rfl (.tmp 59) (.tmp 60) _ rfl W.heap.size 5 i8 _ 1 1 Tryz.underlying25 hi8 hz80 hz81 hz82 rfl (by omega) _ 4 (ints .u8 (gb 4 k)) rfl ho3 (some ⟨w2.heap.size, 0, none⟩) n n (ints .u8 (gb n m)) rfl (by rw [ints_length, HL2.out, Nat.mul_one]) hr3' (ints_one _ _) (by unfold maxLen; omega) (by omega) hB3.size ?_; intro v4 w4 hown4 hg4 hat4; obtain ⟨A4, c4, rfl, hc4⟩ := own_slice hown4; have hB4 : Below W.heap.size W w4 := below_app hB3 hg4 hB3.size ho3 (Nat.le_refl _); rw [← ints_append] at hown4; clear hg4 hat4 ho3)
        | (refine wpL_append _ rfl (.tmp 61) (.tmp 64) _ rfl W.heap.size 5 i8 _ 1 1 Tryz.underlying25 hi8 hz80 hz81 hz82 rfl (by omega) _ (4 + n) (ints .u8 (gb 4 k ++ gb n m)) rfl (hown4.alloc _) (some ⟨w4.heap.size, 0, none⟩) 1 1 [.int .u8 (d : Int)] rfl rfl (Rd.of_new w4 [.int .u8 (d : Int)] 5) (by intro u hu; simp at hu; subst hu; rfl) (by unfold maxLen; omega) (by omega) (by have := hB4.size; simp; omega) ?_; intro v5 w5 hown5 hg5 hat5; obtain ⟨A5, c5, rfl, hc5⟩ := own_slice hown5; have hB5 : Below W.heap.size W w5 := below_app (hB4.alloc hB4.size _) hg5 (by have := hB4.size; simp; omega) (hown4.alloc _) (Nat.le_refl _); have hO5 : w5.ownsRow W.heap.size 5 1 (.slice A5 (4 + n + 1) c5) (4 + n + 1) (ints .u8 (gb 4 k ++ gb n m ++ [d])) := (by rw [ints_append]; exact hown5); have hc5 := (hB5.cell (p := ⟨w.heap.size, 0, none⟩) hsW).trans hv.cell; have hc5a : ∀ o, (w5.alloc o).cell? ⟨w.heap.size, 0, none⟩ = some (.slice A' k c') := (fun o => (World.cell?_alloc_lt w5 o _ (Nat.lt_of_lt_of_le hsW hB5.size)).trans hc5); clear hg5 hat5 hown5 hown4))
      have hrow0 : Row (w5.alloc (.cells (ints .u8 (List.replicate S 0)).toArray 5)) w5.heap.size 5 .u8 (fld (fun i => el ds i - m) d S (0 * d)) := by
        rw [Nat.zero_mul]; exact Row.of_bk (Bk.new w5 5 (ints .u8 (List.replicate S 0)).toArray)
      have hb0 : Below w5.heap.size w5 (w5.alloc (.cells (ints .u8 (List.replicate S 0)).toArray 5)) := (Below.refl _ _).alloc (Nat.le_refl _) _
      have hL1 : 1 ≤ L := by
        have e1 := HL.out
        have : 1 * 1 ≤ k * n := Nat.mul_le_mul (by omega) h1
        omega
      clear hmk m0 m2 s3 hc5 hc5a hr3' hB3 hB4 hrd2
      go_loopw [75] (fun i wr => ∃ j : Nat, j ≤ k ∧ i = .int .i64 j ∧ Hid (Row wr w5.heap.size 5 .u8 (fld (fun i => el ds i - m) d S (j * d))) ∧ Below w5.heap.size w5 wr) (fun i _ => k - (intOf i).toNat)
      case atStart => exact ⟨0, Nat.zero_le _, rfl, hrow0, hb0⟩
      case round =>
        clear hrow0 hb0
        obtain ⟨j, hj, rfl, HRw, hBf⟩ := hrel
        by_cases hlt : j < k
        · have hBw2 := hB5.trans (hBf.mono hB5.size)
          obtain ⟨ad, rfl, hab, hcell⟩ := (hrd.below hBw2).int (j := j) (by rw [hlen]; exact hlt)
          have hjW : j * d + d ≤ y := by rw [HY.out, ← Nat.succ_mul]; exact Nat.mul_le_mul_right _ hlt
          have hxm : m ≤ ds.getD j 0 := by have := HM.out; rw [this]; exact lo_le (el ds) hlt
          have hx := hb j
          have HX : Hid (el ds j - m = ds.getD j 0 - m) := rfl
          rw [show el ds j = ds.getD j 0 from rfl] at hx
          have HNX : Hid (wrt (fld (fun i => el ds i - m) d S (j * d)) (el ds j - m) d (j * d) d = fld (fun i => el ds i - m) d S ((j + 1) * d)) := by
            show _ = _
            rw [Nat.succ_mul]
            exact fld_wrt (fun i => el ds i - m) d S j (Nat.le_refl _)
          obtain ⟨q, hq⟩ : ∃ q, q = j * d := ⟨_, rfl⟩
          have m3 : IntKind.i64.wrap ((j : Int) * (d : Int)) = (q : Int) := by rw [← Int.natCast_mul, ← hq]; exact IntWalk.i64_in _ (by omega)
          rw [← hq] at HRw hjW HNX
          rw [HX.out] at HNX
          generalize ds.getD j 0 = x at *
          have s1 : IntKind.u64.wrap ((x : Int) - (m : Int)) = ((x - m : Nat) : Int) := by rw [show (x : Int) - m = ((x - m : Nat) : Int) by omega]; exact wrap_u64 (by omega)
          have HQ := Lib.hid hq
          clear hq
          have hwr := bwrite_any w5.heap.size S S q d (x - m) (fld (fun i => el ds i - m) d S q) wr (fld_len _ _ _ _) (by omega) (by omega) hd64 (by omega) (fld_bytes _ _ _ _) HRw.out
          go_wp2_with fail
          refine hwr.mono ?_
          rintro e w7 ⟨⟨u7, rfl⟩, hg7, hs7, hr7⟩
          rw [HNX.out] at hr7
          have hB7 : Below w5.heap.size w5 w7 := below_of_grown hBf hg7 hBf.size (Nat.le_refl _)
          have HR7 := Lib.hid hr7
          clear hr7 hs7 hg7 hwr
          go_wp2
          go_roundw
          case rel => exact ⟨j + 1, by omega, by go_num, HR7, hB7⟩
          case measure => simp [intOf]; omega
        · obtain rfl : j = k := by omega
          have hF0 : fld (fun i => el ds i - m) d S (j * d) = packF (el ds) j := by
            unfold packF
            rw [← HW.out, ← HM.out, HS.out, HY.out]
          have hrow := HRw.out
          rw [hF0] at hrow
          have hFlen : (packF (el ds) j).length = S := by rw [packF_len, ← HW.out, HS.out, HY.out]
          have hrd1 := hrow.all
          have hB6 := hB5.trans (hBf.mono hB5.size)
          have hO6 := own_next hO5 hBf
          have HP2 : Hid (packB (el ds) j n (rest l n) = gb 4 j ++ gb n m ++ [d] ++ packF (el ds) j ++ rest l n) := by show _ = _; rw [packB_pos h0, ← HM.out, ← HW.out]
          generalize packF (el ds) j = F at *
          have HFL := Lib.hid hFlen
          obtain ⟨ad, rfl⟩ := hA (by omega)
          clear HRw hrow hF0 hO5 hFlen
          by_cases hcL : c = L
          · have HRn : Hid (l.drop L = []) := List.drop_eq_nil_of_le (by omega)
            have HlL : Hid (l.length = L) := by show _ = _; omega
            subst hcL
            go_wp2_with (at_builtin; first
              | (refine wpL_append _ rfl (.tmp 90) (.tmp 91) _ rfl W.heap.size 5 i8 _ 1 1 Tryz.underlying25 hi8 hz80 hz81 hz82 rfl (by omega) _ (4 + n + 1) (ints .u8 (gb 4 j ++ gb n m ++ [d])) rfl hO6 (some ⟨w5.heap.size, 0, none⟩) S S (ints .u8 F) rfl (by rw [ints_length, HFL.out, Nat.mul_one]) hrd1 (ints_one _ _) (by unfold maxLen; omega) (by omega) hB6.size ?_; intro v7 w7 hown7 hg7 hat7; obtain ⟨A7, c7, rfl, hc7⟩ := own_slice hown7; have hB7 : Below W.heap.size W w7 := below_app hB6 hg7 hB6.size hO6 (Nat.le_refl _); rw [← ints_append] at hown7; clear hg7 hat7)
              | (refine wpL_append _ rfl (.tmp 93) (.tmp 101) _ rfl W.heap.size 5 i8 _ 1 1 Tryz.underlying25 hi8 hz80 hz81 hz82 rfl (by omega) _ (4 + n + 1 + S) (ints .u8 (gb 4 j ++ gb n m ++ [d] ++ F)) rfl hown7 (some ad) 0 0 (ints .u8 []) rfl rfl (show Rd w7 w7.heap.size (some ad) (ints .u8 []) from fun hn => absurd rfl hn) (ints_one _ _) (by unfold maxLen; omega) (by omega) hB7.size ?_; intro v8 w8 hown8 hg8 hat8; have hB8 : Below W.heap.size W w8 := below_app hB7 hg8 hB7.size hown7 (Nat.le_refl _); rw [← ints_append] at hown8; clear hg8 hat8))
            have hKz : w8.heap[D]? = some (.deferred (some [])) := (hB8.block D hDW).trans hK
            have hBz : Below w.heap.size w w8 := hB.trans (hB8.mono hB.size)
            have HZ : Hid (IsL (w8.putObj D (.deferred none)) (w8.putObj D (.deferred none)).heap.size .u8 v8 (packL l n)) := by
              show IsL _ _ _ _ _
              rw [← HPe.out, HP2.out, HR.out, HRn.out]
              exact IsL.of_own' (ownsRow_putObj hown8 _ hKz rfl) (by simp only [List.length_append, gb_len, HFL.out, List.length_singleton, List.length_nil])
            clear hown8
            go_wp2
            refine ⟨by simp, .inl ⟨_, _, rfl, run_takeDeferred hKz, ?_⟩⟩
            exact ⟨_, results_tmp2 rfl _ _ _, hBz.trans (belowK_b (w := w) (Nat.le_refl _) _ D _ _ (by omega) hKz rfl rfl), _, rfl, HZ.out⟩
          · rw [if_neg hcL] at hRl
            go_wp2_with (at_builtin; first
              | (refine wpL_append _ rfl (.tmp 90) (.tmp 91) _ rfl W.heap.size 5 i8 _ 1 1 Tryz.underlying25 hi8 hz80 hz81 hz82 rfl (by omega) _ (4 + n + 1) (ints .u8 (gb 4 j ++ gb n m ++ [d])) rfl hO6 (some ⟨w5.heap.size, 0, none⟩) S S (ints .u8 F) rfl (by rw [ints_length, HFL.out, Nat.mul_one]) hrd1 (ints_one _ _) (by unfold maxLen; omega) (by omega) hB6.size ?_; intro v7 w7 hown7 hg7 hat7; obtain ⟨A7, c7, rfl, hc7⟩ := own_slice hown7; have hB7 : Below W.heap.size W w7 := below_app hB6 hg7 hB6.size hO6 (Nat.le_refl _); rw [← ints_append] at hown7; clear hg7 hat7)
              | (refine wpL_append _ rfl (.tmp 93) (.tmp 101) _ rfl W.heap.size 5 i8 _ 1 1 Tryz.underlying25 hi8 hz80 hz81 hz82 rfl (by omega) _ (4 + n + 1 + S) (ints .u8 (gb 4 j ++ gb n m ++ [d] ++ F)) rfl hown7 (some (ad.add L)) (l.length - L) (c - L) (ints .u8 (l.drop L)) rfl (by rw [ints_length, List.length_drop, Nat.mul_one]) ((hRl.below (hB.trans (hB7.mono hB.size))).more (Nat.le_trans hB.size hB7.size)) (ints_one _ _) (by unfold maxLen; omega) (by omega) hB7.size ?_; intro v8 w8 hown8 hg8 hat8; have hB8 : Below W.heap.size W w8 := below_app hB7 hg8 hB7.size hown7 (Nat.le_refl _); rw [← ints_append] at hown8; clear hg8 hat8))
            have hKz : w8.heap[D]? = some (.deferred (some [])) := (hB8.block D hDW).trans hK
            have hBz : Below w.heap.size w w8 := hB.trans (hB8.mono hB.size)
            have HZ : Hid (IsL (w8.putObj D (.deferred none)) (w8.putObj D (.deferred none)).heap.size .u8 v8 (packL l n)) := by
              show IsL _ _ _ _ _
              rw [← HPe.out, HP2.out, HR.out]
              exact IsL.of_own' (ownsRow_putObj hown8 _ hKz rfl) (by simp only [List.length_append, gb_len, HFL.out, List.length_singleton, List.length_drop])
            clear hown8
            go_wp2
            refine ⟨by simp, .inl ⟨_, _, rfl, run_takeDeferred hKz, ?_⟩⟩
            exact ⟨_, results_tmp2 rfl _ _ _, hBz.trans (belowK_b (w := w) (Nat.le_refl _) _ D _ _ (by omega) hKz rfl rfl), _, rfl, HZ.out⟩
  case stop =>
    rintro D c' pre W _ _ h _
    exact h.elim
end Go.Proofs.YtpkhgdnkkdhlcaaGreatDoor

namespace Go.Proofs.YtpkhgdnkkdhlcaaGreatDoor
open Go.RowKit By

/-- What codec.unpacked answers. -/
theorem unpacked_any (A : Option Addr) (c n : Nat) (b : List Nat) (w : World) (h1 : 1 ≤ n) (h8 : n ≤ 8) (hl : Bytes b) (hc : b.length ≤ c) (hm : b.length ≤ 1048576) (h : Rd w w.heap.size A (ints .u8 b)) :
    Calls Tryz.prog 159 #[.slice A b.length c, .int .i64 n] w fun e w' => Below w.heap.size w w' ∧
      ((ukOk b n ∧ ∃ v, e = .returned (.tuple #[v, .bool true]) ∧ IsL w' w'.heap.size .u8 v (ukB b n)) ∨ (¬ ukOk b n ∧ e = .returned (.tuple #[.slice none 0 0, .bool false]))) := by
  unfold ukOk
  by_cases hs : b.length < 4
  · exact (unpacked_short A c n b w hs).mono fun e w' h => ⟨h.1 ▸ Below.refl _ _, .inr ⟨fun x => by omega, h.2⟩⟩
  · by_cases h0 : ukN b = 0
    · refine (unpacked_none A c n b w hl (by omega) hc hm h0 h).mono ?_
      rintro e w' ⟨hb, v, rfl, hv⟩
      have e : ukB b n = b.drop 4 := by unfold ukB ukR; rw [h0, if_pos rfl]; rfl
      exact ⟨hb, .inl ⟨⟨by omega, .inl h0⟩, v, rfl, by rw [e]; exact hv⟩⟩
    · by_cases hbad : n + 1 ≤ (b.drop 4).length ∧ ukN b ≤ 1048576 / n ∧ ukW b n ≤ 64
      · by_cases hg : ukS b n ≤ (ukF b n).length
        · refine (unpacked_good A c n b w h1 h8 hl hc hm h0 hbad.1 hbad.2.1 hbad.2.2 hg h).mono ?_
          rintro e w' ⟨hb, v, rfl, hv⟩
          exact ⟨hb, .inl ⟨⟨by omega, .inr ⟨hbad.1, hbad.2.1, hbad.2.2, hg⟩⟩, v, rfl, hv⟩⟩
        · refine (unpacked_far A c n b w h1 h8 hl hc hm h0 hbad.1 hbad.2.1 hbad.2.2 (by omega) h).mono ?_
          rintro e w' ⟨hb, rfl⟩
          refine ⟨hb, .inr ⟨?_, rfl⟩⟩
          rintro ⟨_, h2 | h2⟩
          · exact h0 h2
          · exact hg h2.2.2.2
      · refine (unpacked_bad A c n b w h1 h8 hl (by omega) hc hm h0 hbad h).mono ?_
        rintro e w' ⟨hb, rfl⟩
        refine ⟨hb, .inr ⟨?_, rfl⟩⟩
        rintro ⟨_, h2 | h2⟩
        · exact h0 h2
        · exact hbad ⟨h2.1, h2.2.1, h2.2.2.1⟩

/-- When a row is what Pack makes. -/
def uOk (b : List Nat) (n : Nat) : Prop := ukOk b n ∧ (ukB b n).length ≤ 1048576 ∧ packL (ukB b n) n = b
theorem ukB_bytes {b : List Nat} (hl : Bytes b) (n : Nat) : Bytes (ukB b n) := by
  unfold ukB ukR
  refine Bytes.app (jn_bytes _ _ _) ?_
  split
  · exact hl.drop _
  · exact ((hl.drop _).drop _).drop _
theorem ukB_len {b : List Nat} {n : Nat} (hm : b.length ≤ 1048576) (h1 : 1 ≤ n) (h : ukOk b n) : (ukB b n).length ≤ 2097152 := by
  unfold ukB
  rw [List.length_append, jn_len]
  have h3 : (ukR b n).length ≤ b.length := by
    unfold ukR
    split
    · rw [List.length_drop]; omega
    · unfold ukF; rw [List.length_drop, List.length_drop, List.length_drop]; omega
  have h4 : ukN b * n ≤ 1048576 := by
    rcases h.2 with h0 | h2
    · rw [h0]; omega
    · exact Nat.le_trans (Nat.mul_le_mul_right n h2.2.1) (Nat.div_mul_le_self _ _)
  omega
theorem packL_len {b : List Nat} (hl : Bytes b) {n : Nat} (h8 : n ≤ 8) (hm : b.length ≤ 1048576) : (packL b n).length ≤ 4000000000000 := by
  have hk : b.length / n ≤ 1048576 := Nat.le_trans (Nat.div_le_self _ _) hm
  have hr : (rest b n).length ≤ 1048576 := by unfold rest; rw [List.length_drop]; omega
  unfold packL
  by_cases h0 : b.length / n = 0
  · rw [h0, packB_zero, List.length_append, gb_len]; omega
  · have hW := packW_le hl h8 h0
    have := Nat.mul_le_mul hk hW
    rw [packB_pos h0]
    simp only [List.length_append, gb_len, packF_len, List.length_singleton]
    omega

set_option maxRecDepth 100000 in
set_option maxHeartbeats 1600000 in
theorem unpack_any (A : Option Addr) (c n : Nat) (b : List Nat) (w : World) (h1 : 1 ≤ n) (h8 : n ≤ 8) (hl : Bytes b) (hc : b.length ≤ c) (hm : b.length ≤ 1048576) (h : Rd w w.heap.size A (ints .u8 b)) :
    Calls Tryz.prog 111 #[.slice A b.length c, .int .i64 n] w fun e w' => Below w.heap.size w w' ∧
      ((uOk b n ∧ ∃ v, e = .returned (.tuple #[v, .int .i64 0]) ∧ IsL w' w'.heap.size .u8 v (ukB b n)) ∨ (¬ uOk b n ∧ e = .returned (.tuple #[.slice none 0 0, .int .i64 5]))) := by
  have hg : grE n b.length = 0 := by unfold grE; rw [if_neg (by omega), if_neg (by omega)]
  go_enter Tryz.func111, Tryz.ntmps111
  go_wp2_with fail
  refine (grouped_any _ _ _ _ _ (by omega)).mono ?_
  rintro e w1 ⟨rfl, rfl⟩
  rw [hg]
  clear hg
  go_wp2_with fail
  refine (unpacked_any A c n b w h1 h8 hl hc hm h).mono ?_
  rintro e w1 ⟨hb1, ⟨hok, v, rfl, hv⟩ | ⟨hno, rfl⟩⟩
  · obtain ⟨A2, c2, rfl, hc2, hr2⟩ := hv
    have hB := ukB_bytes hl n
    have hBl := Lib.hid (ukB_len hm h1 hok)
    have HOK := Lib.hid hok
    have HU : Hid (uOk b n ↔ (ukB b n).length ≤ 1048576 ∧ packL (ukB b n) n = b) := ⟨fun x => x.2, fun x => ⟨HOK.out, x⟩⟩
    clear hok
    by_cases hlen : (ukB b n).length ≤ 1048576
    · go_wp2_with fail
      refine (pack_any A2 c2 n (ukB b n) w1 h1 h8 hB hc2 hlen hr2).mono ?_
      rintro e w2 ⟨hb2, v3, rfl, hv3⟩
      obtain ⟨A3, c3, rfl, hc3, hr3⟩ := hv3
      have hr2' := hr2.below hb2
      have hrb := (h.below (hb1.trans (hb2.mono hb1.size))).more (Nat.le_trans hb1.size hb2.size)
      have hL3 : (packL (ukB b n) n).length ≤ 4000000000000 := packL_len hB h8 hlen
      go_wp2_with fail
      refine (equal_any A3 A c3 c (packL (ukB b n) n).length b.length (packL (ukB b n) n) b w2 rfl rfl hL3 (by omega) hr3 hrb).mono ?_
      rintro e w3 ⟨hb3, rfl⟩
      have HB3 : Hid (Below w.heap.size w w3) := hb1.trans ((hb2.trans (hb3.mono hb2.size)).mono hb1.size)
      have HV : Hid (IsL w3 w3.heap.size .u8 (.slice A2 (ukB b n).length c2) (ukB b n)) := ⟨A2, c2, rfl, hc2, (hr2'.below (hb3.mono hb2.size)).more (Nat.le_trans hb2.size hb3.size)⟩
      by_cases heq : packL (ukB b n) n = b
      · have hd : decide (packL (ukB b n) n = b) = true := decide_eq_true heq
        rw [hd]
        have HE : Hid (uOk b n) := HU.out.2 ⟨hlen, heq⟩
        clear heq hd
        go_wp2
        go_ret2
        exact ⟨HB3.out, .inl ⟨HE.out, _, rfl, HV.out⟩⟩
      · have hd : decide (packL (ukB b n) n = b) = false := decide_eq_false heq
        rw [hd]
        have HE : Hid (¬ uOk b n) := fun x => heq (HU.out.1 x).2
        clear heq hd
        go_wp2
        go_ret2
        exact ⟨HB3.out, .inr ⟨HE.out, rfl⟩⟩
    · have HE : Hid (¬ uOk b n) := fun x => hlen (HU.out.1 x).1
      have hg2 : grE n (ukB b n).length = 4 := by unfold grE; rw [if_neg (by omega), if_pos (by omega)]
      go_wp2_with fail
      refine (pack_err A2 (ukB b n).length c2 n 4 w1 hg2 (.inr rfl) (by have := hBl.out; omega)).mono ?_
      rintro e w2 ⟨rfl, rfl⟩
      clear hg2
      go_wp2
      go_ret2
      exact ⟨hb1, .inr ⟨HE.out, rfl⟩⟩
  · have HE : Hid (¬ uOk b n) := fun x => hno x.1
    clear hno
    go_wp2
    go_ret2
    exact ⟨hb1, .inr ⟨HE.out, rfl⟩⟩
end Go.Proofs.YtpkhgdnkkdhlcaaGreatDoor

namespace Go.Proofs.YtpkhgdnkkdhlcaaGreatDoor
open Go.RowKit By

theorem or_bit0 {R b : Nat} {B : Int} (hR : R < 2 ^ 63) (hB : B = ((b % 2 : Nat) : Int)) : bits .or .u64 ((R : Int) * 2) B = ((2 * R + b % 2 : Nat) : Int) := by
  subst hB
  have h := or_bit (b := b) hR rfl
  have e : IntKind.u64.wrap ((R : Int) * 2) = (R : Int) * 2 := by
    rw [show (R : Int) * 2 = ((2 * R : Nat) : Int) by omega]; exact wrap_u64 (by omega)
  rwa [e, wrap_u64 (by omega)] at h
theorem IsL.of_own64 {w : World} {base k : Nat} {v : Value} {l : List Nat} (h : w.ownsRow base 67 1 v k (ints .u64 l)) (hk : l.length = k) : IsL w w.heap.size .u64 v l := by
  subst hk; exact IsL.of_own h

set_option maxRecDepth 100000 in
set_option maxHeartbeats 4000000 in
theorem runpacked_far (A : Option Addr) (c n : Nat) (b : List Nat) (w : World) (h1 : 1 ≤ n) (h8 : n ≤ 8) (hl : Bytes b) (hc : b.length ≤ c) (hm : b.length ≤ 1048576) (h0 : ukN b ≠ 0) (hg2 : ukN b ≤ 1048576) (hg1 : n + 1 ≤ (b.drop 4).length) (hg3 : ukW b n ≤ 64) (hg4 : (ukF b n).length < ukS b n) (h : Rd w w.heap.size A (ints .u8 b)) :
    Calls Tryz.prog 163 #[.slice A b.length c, .int .i64 n] w fun e w' => Below w.heap.size w w' ∧ e = .returned (.tuple #[.slice none 0 0, .slice none 0 0, .bool false]) := by
  have hd4l : (b.drop 4).length = b.length - 4 := List.length_drop
  rw [hd4l] at hg1
  obtain ⟨ad, rfl, hab, _⟩ := h.int (j := 0) (by omega)
  obtain ⟨i0, hi0, hz0, hz1, hz2⟩ := info_parts Tryz.u64_info
  have hrd : Rd w w.heap.size (some ad) (ints .u8 (b.take 4)) := by
    have := h.sub 0 4
    rw [List.drop_zero] at this
    exact this
  have hdn : Rd w w.heap.size (some ⟨ad.block, ad.off + 4, none⟩) (ints .u8 ((b.drop 4).take n)) := h.sub 4 n
  obtain ⟨ad2, e2, _, hcell⟩ := h.int (j := 4 + n) (by omega)
  cases e2
  have hcF := h.cut (k := 5 + n) (cap := c) (by rw [ints_length]; omega)
  rw [← ints_drop] at hcF
  have hFe : b.drop (5 + n) = ukF b n := by unfold ukF; rw [List.drop_drop]; congr 1; omega
  rw [hFe] at hcF
  have hFb : Bytes (ukF b n) := (hl.drop _).drop _
  have hFl : (ukF b n).length = b.length - (5 + n) := by rw [← hFe, List.length_drop]
  have hNlt := ukN_lt hl
  have HG : Hid (gv (b.take 4) = ukN b) := rfl
  have HGM : Hid (gv ((b.drop 4).take n) = ukM b n) := rfl
  have hM64 : ukM b n < 2 ^ 64 := gv_lt64 (by rw [List.length_take]; omega) ((hl.drop _).take _)
  have hGW : ukW b n = b.getD (4 + n) 0 := by unfold ukW; simp [List.getD_eq_getElem?_getD]
  have HX : Hid (∀ j : Nat, IntKind.u64.wrap (((ukM b n : Nat) : Int) + ((rd (ukF b n) (j * ukW b n) (ukW b n) : Nat) : Int)) = ((ukG b n j : Nat) : Int)) := by
    intro j
    rw [add_u64]; rfl
  have HB : Hid ((ukF b n).drop (ukS b n) = ukR b n) := by
    show _ = _
    unfold ukR
    rw [if_neg h0]
  have HSd : Hid (ukS b n = (ukN b * ukW b n + 7) / 8) := rfl
  rw [← hGW] at hcell
  clear hFe hGW
  have t0 : ((ukN b : Int) == 0) = false := by rw [beq_eq_false_iff_ne]; omega
  generalize ukS b n = S at *
  generalize ukG b n = G at *
  generalize ukF b n = Fl at *
  generalize ukN b = k at *
  generalize ukM b n = m at *
  generalize ukW b n = W at *
  generalize ukR b n = R at *
  obtain ⟨y, hy⟩ : ∃ y, y = k * W := ⟨_, rfl⟩
  have hyb : y ≤ 67108864 := by rw [hy]; exact Nat.mul_le_mul hg2 hg3
  have hS : S = (y + 7) / 8 := by rw [hy]; exact HSd.out
  have hSb : y ≤ 8 * S ∧ S ≤ 8388609 := by omega
  have m0 : IntKind.i64.wrap ((k : Int) * (W : Int)) = (y : Int) := by rw [← Int.natCast_mul, ← hy]; exact IntWalk.i64_in _ (by omega)
  have m2 : ((y : Int) + 7) / 8 = (S : Int) := by omega
  have HM2 := Lib.hid m2
  have HY := Lib.hid hy
  clear hy hS HSd m2
  have z1 : IntKind.i64.wrap ((4 : Int) + (n : Int)) = ((4 + n : Nat) : Int) := IntWalk.i64_in _ (by omega)
  have z2 : IntKind.i64.wrap ((5 : Int) + (n : Int)) = ((5 + n : Nat) : Int) := IntWalk.i64_in _ (by omega)
  have r1 : 4 + n ≤ c := by omega
  have r2 : 4 ≤ 4 + n := by omega
  have r3 : 4 + n - 4 = n := by omega
  have q2 : ¬ c = 4 := by omega
  have r4 : 4 + n < b.length := by omega
  have w1 : IntKind.i64.wrap (W : Int) = (W : Int) := IntWalk.i64_in _ (by omega)
  have HFL := Lib.hid hFl
  rw [hFl] at hg4
  have m2 := HM2.out
  by_cases hq : c = 5 + n
  · have hS0 : 0 < S := by omega
    have Hb5 : Hid (b.length = 5 + n) := by show _ = _; omega
    have HQ := Lib.hid hq
    clear hq
    go_enter Tryz.func163, Tryz.ntmps163
    go_wp2_with fail
    refine (rread_any (some ad) c 4 (b.take 4) _ (by simp; omega) (by omega) (hl.take _) hrd).mono ?_
    rintro e w5 ⟨rfl, rfl⟩
    rw [HG.out]
    go_wp2
    have x1 : (4 : Int) + (n : Int) ≤ (c : Int) := by omega
    have x2 : (4 : Int) ≤ max ((4 : Int) + (n : Int)) 0 := by omega
    have x3 : ((4 : Int) + (n : Int)).toNat = 4 + n := by omega
    have x4 : (4 : Int) ≤ (4 : Int) + (n : Int) := by omega
    have x5 : 0 ≤ (4 : Int) + (n : Int) := by omega
    have x6 : (4 : Int) + (n : Int) < (b.length : Int) := by omega
    refine wp_region_still_lit (by kernel_rfl) (by kernel_rfl) ?_
    repeat still_step
    still_call (still (rread_any (some ⟨ad.block, ad.off + 4, none⟩) _ n ((b.drop 4).take n) _ (by rw [List.length_take, hd4l]; omega) h8 ((hl.drop _).take _) hdn))
    repeat still_step
    refine wpStill_nil ?_
    rw [HGM.out]
    have hq := HQ.out
    clear x1 x2 x3 x4 x5 x6
    go_wp2
    go_ret3
    exact ⟨(Below.refl _ _).drew, rfl⟩
  · rw [if_neg hq] at hcF
    go_enter Tryz.func163, Tryz.ntmps163
    go_wp2_with fail
    refine (rread_any (some ad) c 4 (b.take 4) _ (by simp; omega) (by omega) (hl.take _) hrd).mono ?_
    rintro e w5 ⟨rfl, rfl⟩
    rw [HG.out]
    go_wp2
    have x1 : (4 : Int) + (n : Int) ≤ (c : Int) := by omega
    have x2 : (4 : Int) ≤ max ((4 : Int) + (n : Int)) 0 := by omega
    have x3 : ((4 : Int) + (n : Int)).toNat = 4 + n := by omega
    have x4 : (4 : Int) ≤ (4 : Int) + (n : Int) := by omega
    have x5 : 0 ≤ (4 : Int) + (n : Int) := by omega
    have x6 : (4 : Int) + (n : Int) < (b.length : Int) := by omega
    refine wp_region_still_lit (by kernel_rfl) (by kernel_rfl) ?_
    repeat still_step
    still_call (still (rread_any (some ⟨ad.block, ad.off + 4, none⟩) _ n ((b.drop 4).take n) _ (by rw [List.length_take, hd4l]; omega) h8 ((hl.drop _).take _) hdn))
    repeat still_step
    refine wpStill_nil ?_
    rw [HGM.out]
    clear x1 x2 x3 x4 x5 x6
    go_wp2
    go_ret3
    exact ⟨(Below.refl _ _).drew, rfl⟩

set_option maxRecDepth 100000 in
set_option maxHeartbeats 4000000 in
theorem runpacked_good (A : Option Addr) (c n : Nat) (b : List Nat) (w : World) (h1 : 1 ≤ n) (h8 : n ≤ 8) (hl : Bytes b) (hc : b.length ≤ c) (hm : b.length ≤ 1048576) (h0 : ukN b ≠ 0) (hg2 : ukN b ≤ 1048576) (hg1 : n + 1 ≤ (b.drop 4).length) (hg3 : ukW b n ≤ 64) (hg4 : ukS b n ≤ (ukF b n).length) (h : Rd w w.heap.size A (ints .u8 b)) :
    Calls Tryz.prog 163 #[.slice A b.length c, .int .i64 n] w fun e w' => Below w.heap.size w w' ∧ ∃ v u, e = .returned (.tuple #[v, u, .bool true]) ∧ IsL w' w'.heap.size .u64 v (gs (ukG b n) (ukN b)) ∧ IsL w' w'.heap.size .u8 u (ukR b n) := by
  have hd4l : (b.drop 4).length = b.length - 4 := List.length_drop
  rw [hd4l] at hg1
  obtain ⟨ad, rfl, hab, _⟩ := h.int (j := 0) (by omega)
  obtain ⟨i0, hi0, hz0, hz1, hz2⟩ := info_parts Tryz.u64_info
  have hrd : Rd w w.heap.size (some ad) (ints .u8 (b.take 4)) := by
    have := h.sub 0 4
    rw [List.drop_zero] at this
    exact this
  have hdn : Rd w w.heap.size (some ⟨ad.block, ad.off + 4, none⟩) (ints .u8 ((b.drop 4).take n)) := h.sub 4 n
  obtain ⟨ad2, e2, _, hcell⟩ := h.int (j := 4 + n) (by omega)
  cases e2
  have hcF := h.cut (k := 5 + n) (cap := c) (by rw [ints_length]; omega)
  rw [← ints_drop] at hcF
  have hFe : b.drop (5 + n) = ukF b n := by unfold ukF; rw [List.drop_drop]; congr 1; omega
  rw [hFe] at hcF
  have hFb : Bytes (ukF b n) := (hl.drop _).drop _
  have hFl : (ukF b n).length = b.length - (5 + n) := by rw [← hFe, List.length_drop]
  have hNlt := ukN_lt hl
  have HG : Hid (gv (b.take 4) = ukN b) := rfl
  have HGM : Hid (gv ((b.drop 4).take n) = ukM b n) := rfl
  have hM64 : ukM b n < 2 ^ 64 := gv_lt64 (by rw [List.length_take]; omega) ((hl.drop _).take _)
  have hGW : ukW b n = b.getD (4 + n) 0 := by unfold ukW; simp [List.getD_eq_getElem?_getD]
  have HX : Hid (∀ j : Nat, IntKind.u64.wrap (((ukM b n : Nat) : Int) + ((rd (ukF b n) (j * ukW b n) (ukW b n) : Nat) : Int)) = ((ukG b n j : Nat) : Int)) := by
    intro j
    rw [add_u64]; rfl
  have HB : Hid ((ukF b n).drop (ukS b n) = ukR b n) := by
    show _ = _
    unfold ukR
    rw [if_neg h0]
  have HSd : Hid (ukS b n = (ukN b * ukW b n + 7) / 8) := rfl
  rw [← hGW] at hcell
  clear hFe hGW
  have t0 : ((ukN b : Int) == 0) = false := by rw [beq_eq_false_iff_ne]; omega
  generalize ukS b n = S at *
  generalize ukG b n = G at *
  generalize ukF b n = Fl at *
  generalize ukN b = k at *
  generalize ukM b n = m at *
  generalize ukW b n = W at *
  generalize ukR b n = R at *
  obtain ⟨y, hy⟩ : ∃ y, y = k * W := ⟨_, rfl⟩
  have hyb : y ≤ 67108864 := by rw [hy]; exact Nat.mul_le_mul hg2 hg3
  have hS : S = (y + 7) / 8 := by rw [hy]; exact HSd.out
  have hSb : y ≤ 8 * S ∧ S ≤ 8388609 := by omega
  have m0 : IntKind.i64.wrap ((k : Int) * (W : Int)) = (y : Int) := by rw [← Int.natCast_mul, ← hy]; exact IntWalk.i64_in _ (by omega)
  have m2 : ((y : Int) + 7) / 8 = (S : Int) := by omega
  have HM2 := Lib.hid m2
  have HY := Lib.hid hy
  clear hy hS HSd m2
  have z1 : IntKind.i64.wrap ((4 : Int) + (n : Int)) = ((4 + n : Nat) : Int) := IntWalk.i64_in _ (by omega)
  have z2 : IntKind.i64.wrap ((5 : Int) + (n : Int)) = ((5 + n : Nat) : Int) := IntWalk.i64_in _ (by omega)
  have r1 : 4 + n ≤ c := by omega
  have r2 : 4 ≤ 4 + n := by omega
  have r3 : 4 + n - 4 = n := by omega
  have q2 : ¬ c = 4 := by omega
  have r4 : 4 + n < b.length := by omega
  have w1 : IntKind.i64.wrap (W : Int) = (W : Int) := IntWalk.i64_in _ (by omega)
  have HFL := Lib.hid hFl
  rw [hFl] at hg4
  by_cases hq : c = 5 + n
  · rw [if_pos hq] at hcF
    have Hb5 : Hid (b.length = 5 + n) := by show _ = _; omega
    have HQ := Lib.hid hq
    clear hq
    obtain rfl : S = 0 := by have := Hb5.out; omega
    have m3 : ((y : Int) + 7) / 8 = 0 := HM2.out
    have HM2 := Lib.hid m3
    clear m3
    have HN : Hid (Fl.drop 0 = []) := List.drop_eq_nil_of_le (by have := Hb5.out; omega)
    go_enter Tryz.func163, Tryz.ntmps163
    go_wp2_with fail
    refine (rread_any (some ad) c 4 (b.take 4) _ (by simp; omega) (by omega) (hl.take _) hrd).mono ?_
    rintro e w5 ⟨rfl, rfl⟩
    rw [HG.out]
    go_wp2
    have x1 : (4 : Int) + (n : Int) ≤ (c : Int) := by omega
    have x2 : (4 : Int) ≤ max ((4 : Int) + (n : Int)) 0 := by omega
    have x3 : ((4 : Int) + (n : Int)).toNat = 4 + n := by omega
    have x4 : (4 : Int) ≤ (4 : Int) + (n : Int) := by omega
    have x5 : 0 ≤ (4 : Int) + (n : Int) := by omega
    have x6 : (4 : Int) + (n : Int) < (b.length : Int) := by omega
    refine wp_region_still_lit (by kernel_rfl) (by kernel_rfl) ?_
    repeat still_step
    still_call (still (rread_any (some ⟨ad.block, ad.off + 4, none⟩) _ n ((b.drop 4).take n) _ (by rw [List.length_take, hd4l]; omega) h8 ((hl.drop _).take _) hdn))
    repeat still_step
    refine wpStill_nil ?_
    rw [HGM.out]
    have hq := HQ.out
    clear x1 x2 x3 x4 x5 x6
    go_wp2
    clear m0 hcell z1 z2
    go_loopw [12, 13] (fun v i wr => ∃ j : Nat, j ≤ k ∧ i = .int .i64 j ∧ wr.ownsRow w.heap.size 67 1 v j (ints .u64 (gs G j)) ∧ Below w.heap.size w wr) (fun _ i _ => k - (intOf i).toNat)
    case atStart => exact ⟨0, Nat.zero_le _, rfl, World.ownsRow_nil _ _ _ _, (Below.refl _ _).drew⟩
    case round =>
      obtain ⟨j, hj, rfl, hown, hBf⟩ := hrel
      by_cases hlt : j < k
      · have hjW : j * W + W ≤ y := by rw [HY.out, ← Nat.succ_mul]; exact Nat.mul_le_mul_right _ hlt
        have HXj := HX.out j
        obtain ⟨q, hq'⟩ : ∃ q, q = j * W := ⟨_, rfl⟩
        have mq : IntKind.i64.wrap ((j : Int) * (W : Int)) = (q : Int) := by rw [← Int.natCast_mul, ← hq']; exact IntWalk.i64_in _ (by omega)
        rw [← hq'] at hjW HXj
        have HXj' := Lib.hid HXj
        have hFr := hcF.below hBf
        have Hown := Lib.hid hown
        clear hq' HXj
        go_wp2
        go_loop [14, 15] (fun x i => ∃ t : Nat, t ≤ W ∧ i = .int .i64 t ∧ x = .int .u64 ((rd Fl q t : Nat) : Int)) (fun _ i => W - (intOf i).toNat)
        case atStart => exact ⟨0, Nat.zero_le _, rfl, rfl⟩
        case round =>
          obtain ⟨t, ht, rfl, rfl⟩ := hrel
          by_cases hlt2 : t < W
          · have hR := rd_lt Fl q t
            have HN : Hid (rd Fl q (t + 1) = 2 * rd Fl q t + bt Fl (q + t)) := rfl
            obtain ⟨p, hp⟩ : ∃ p, p = q + t := ⟨_, rfl⟩
            rw [← hp] at HN
            obtain ⟨ad3, e3, hab3, hcell⟩ := hFr.int (j := p / 8) (by rw [hFl]; omega)
            cases e3
            have hx := hFb.at_ (p / 8)
            have HBt : Hid (bt Fl p = Fl.getD (p / 8) 0 / 2 ^ (7 - p % 8) % 2) := rfl
            generalize Fl.getD (p / 8) 0 = x at *
            have y0 : IntKind.i64.wrap ((q : Int) + (t : Int)) = (p : Int) := by rw [show (q : Int) + t = (p : Int) by omega]; exact IntWalk.i64_in _ (by omega)
            have y1 : IntKind.i64.wrap ((p : Int) / 8) = (p : Int) / 8 := IntWalk.i64_in _ (by omega)
            have y2 : ((p : Int) / 8).toNat = p / 8 := by omega
            have y3 : 0 ≤ (p : Int) / 8 := by omega
            have y4 : (p : Int) / 8 < (b.length - (5 + n)) := by omega
            obtain ⟨s, hs⟩ : ∃ s, s = 7 - p % 8 := ⟨_, rfl⟩
            rw [← hs] at HBt
            have y5 : (7 : Int) - (p : Int).tmod 8 = (s : Int) := by rw [Int.tmod_eq_emod_of_nonneg (by omega)]; omega
            have y6 : (s : Int) ≤ 8 := by omega
            have y7 : 0 ≤ (s : Int) := by omega
            have HPp := Lib.hid hp
            have HSs := Lib.hid hs
            clear hp hs
            go_wp2
            go_round
            case rel =>
              refine ⟨t + 1, by omega, by go_num, ?_⟩
              have hR2 : rd Fl q t < 2 ^ 63 := Nat.lt_of_lt_of_le hR (Nat.pow_le_pow_right (by decide) (by omega))
              rw [HN.out, HBt.out, HSs.out]
              first
                | rw [or_bit hR2 (bit_u8 hx)]
                | rw [or_bit0 hR2 (bit_u8 hx)]
            case measure => simp [intOf]; omega
          · have htW : t = W := by omega
            subst t
            have hR64 : rd Fl q W < 2 ^ 64 := Nat.lt_of_lt_of_le (rd_lt Fl q W) (Nat.pow_le_pow_right (by decide) hg3)
            go_wp2_with (at_builtin; refine wpL_append _ rfl (.tmp 98) (.tmp 102) _ rfl w.heap.size 67 i0 _ 1 8 Tryz.underlying71 hi0 hz0 hz1 hz2 rfl (by omega) _ j (ints .u64 (gs G j)) rfl (Hown.out.alloc _) (some ⟨wr.heap.size, 0, none⟩) 1 1 [.int .u64 (IntKind.u64.wrap ((m : Int) + ((rd Fl q W : Nat) : Int)))] rfl rfl (Rd.of_new wr [.int .u64 (IntKind.u64.wrap ((m : Int) + ((rd Fl q W : Nat) : Int)))] 67) (by intro u hu; simp at hu; subst hu; rfl) (by unfold maxLen; omega) (by omega) (by have := hBf.size; simp; omega) ?_; intro v1 w1 hown1 hg1' hat1)
            have HO : Hid (w1.ownsRow w.heap.size 67 1 v1 (j + 1) (ints .u64 (gs G (j + 1)))) := by
              show World.ownsRow _ _ _ _ _ _ _
              rw [gs_succ, ints_append]
              rw [HXj'.out] at hown1
              exact hown1
            have hB1 : Below w.heap.size w w1 := below_app (hBf.alloc hBf.size _) hg1' (by have := hBf.size; simp; omega) (Hown.out.alloc _) (Nat.le_refl _)
            clear hown1 hown hR64
            go_wp2
            go_roundw
            case rel => exact ⟨j + 1, by omega, by go_num, HO.out, hB1⟩
            case measure => simp [intOf]; omega
      · have hjk : j = k := by omega
        subst j
        have hFr := hcF.below hBf
        have HV := Lib.hid (IsL.of_own64 hown (gs_len _ _))
        have m2 := HM2.out
        clear hown
        have HU : Hid (IsL wr wr.heap.size .u8 (.slice (some ad) (b.length - (5 + n)) 0) R) := by
          show IsL _ _ _ _ _
          rw [← HB.out, HN.out, show b.length - (5 + n) = 0 by have := Hb5.out; omega]
          exact ⟨_, _, rfl, Nat.le_refl _, fun hn => absurd rfl hn⟩
        go_wp2
        refine wp_region_still_lit (by kernel_rfl) (by kernel_rfl) ?_
        repeat still_step
        refine wpStill_nil ?_
        go_wp2
        go_ret3
        exact ⟨hBf.drew, _, _, rfl, HV.out, HU.out⟩
  · rw [if_neg hq, Option.map_some] at hcF
    have q5 : ¬ c - (5 + n) = 0 := by omega
    go_enter Tryz.func163, Tryz.ntmps163
    go_wp2_with fail
    refine (rread_any (some ad) c 4 (b.take 4) _ (by simp; omega) (by omega) (hl.take _) hrd).mono ?_
    rintro e w5 ⟨rfl, rfl⟩
    rw [HG.out]
    go_wp2
    have x1 : (4 : Int) + (n : Int) ≤ (c : Int) := by omega
    have x2 : (4 : Int) ≤ max ((4 : Int) + (n : Int)) 0 := by omega
    have x3 : ((4 : Int) + (n : Int)).toNat = 4 + n := by omega
    have x4 : (4 : Int) ≤ (4 : Int) + (n : Int) := by omega
    have x5 : 0 ≤ (4 : Int) + (n : Int) := by omega
    have x6 : (4 : Int) + (n : Int) < (b.length : Int) := by omega
    refine wp_region_still_lit (by kernel_rfl) (by kernel_rfl) ?_
    repeat still_step
    still_call (still (rread_any (some ⟨ad.block, ad.off + 4, none⟩) _ n ((b.drop 4).take n) _ (by rw [List.length_take, hd4l]; omega) h8 ((hl.drop _).take _) hdn))
    repeat still_step
    refine wpStill_nil ?_
    rw [HGM.out]
    clear x1 x2 x3 x4 x5 x6
    go_wp2
    clear m0 hcell z1 z2
    go_loopw [12, 13] (fun v i wr => ∃ j : Nat, j ≤ k ∧ i = .int .i64 j ∧ wr.ownsRow w.heap.size 67 1 v j (ints .u64 (gs G j)) ∧ Below w.heap.size w wr) (fun _ i _ => k - (intOf i).toNat)
    case atStart => exact ⟨0, Nat.zero_le _, rfl, World.ownsRow_nil _ _ _ _, (Below.refl _ _).drew⟩
    case round =>
      obtain ⟨j, hj, rfl, hown, hBf⟩ := hrel
      by_cases hlt : j < k
      · have hjW : j * W + W ≤ y := by rw [HY.out, ← Nat.succ_mul]; exact Nat.mul_le_mul_right _ hlt
        have HXj := HX.out j
        obtain ⟨q, hq'⟩ : ∃ q, q = j * W := ⟨_, rfl⟩
        have mq : IntKind.i64.wrap ((j : Int) * (W : Int)) = (q : Int) := by rw [← Int.natCast_mul, ← hq']; exact IntWalk.i64_in _ (by omega)
        rw [← hq'] at hjW HXj
        have HXj' := Lib.hid HXj
        have hFr := hcF.below hBf
        have Hown := Lib.hid hown
        clear hq' HXj
        go_wp2
        go_loop [14, 15] (fun x i => ∃ t : Nat, t ≤ W ∧ i = .int .i64 t ∧ x = .int .u64 ((rd Fl q t : Nat) : Int)) (fun _ i => W - (intOf i).toNat)
        case atStart => exact ⟨0, Nat.zero_le _, rfl, rfl⟩
        case round =>
          obtain ⟨t, ht, rfl, rfl⟩ := hrel
          by_cases hlt2 : t < W
          · have hR := rd_lt Fl q t
            have HN : Hid (rd Fl q (t + 1) = 2 * rd Fl q t + bt Fl (q + t)) := rfl
            obtain ⟨p, hp⟩ : ∃ p, p = q + t := ⟨_, rfl⟩
            rw [← hp] at HN
            obtain ⟨ad3, e3, hab3, hcell⟩ := hFr.int (j := p / 8) (by rw [hFl]; omega)
            cases e3
            have hx := hFb.at_ (p / 8)
            have HBt : Hid (bt Fl p = Fl.getD (p / 8) 0 / 2 ^ (7 - p % 8) % 2) := rfl
            generalize Fl.getD (p / 8) 0 = x at *
            have y0 : IntKind.i64.wrap ((q : Int) + (t : Int)) = (p : Int) := by rw [show (q : Int) + t = (p : Int) by omega]; exact IntWalk.i64_in _ (by omega)
            have y1 : IntKind.i64.wrap ((p : Int) / 8) = (p : Int) / 8 := IntWalk.i64_in _ (by omega)
            have y2 : ((p : Int) / 8).toNat = p / 8 := by omega
            have y3 : 0 ≤ (p : Int) / 8 := by omega
            have y4 : (p : Int) / 8 < (b.length - (5 + n)) := by omega
            obtain ⟨s, hs⟩ : ∃ s, s = 7 - p % 8 := ⟨_, rfl⟩
            rw [← hs] at HBt
            have y5 : (7 : Int) - (p : Int).tmod 8 = (s : Int) := by rw [Int.tmod_eq_emod_of_nonneg (by omega)]; omega
            have y6 : (s : Int) ≤ 8 := by omega
            have y7 : 0 ≤ (s : Int) := by omega
            have HPp := Lib.hid hp
            have HSs := Lib.hid hs
            clear hp hs
            go_wp2
            go_round
            case rel =>
              refine ⟨t + 1, by omega, by go_num, ?_⟩
              have hR2 : rd Fl q t < 2 ^ 63 := Nat.lt_of_lt_of_le hR (Nat.pow_le_pow_right (by decide) (by omega))
              rw [HN.out, HBt.out, HSs.out]
              first
                | rw [or_bit hR2 (bit_u8 hx)]
                | rw [or_bit0 hR2 (bit_u8 hx)]
            case measure => simp [intOf]; omega
          · have htW : t = W := by omega
            subst t
            have hR64 : rd Fl q W < 2 ^ 64 := Nat.lt_of_lt_of_le (rd_lt Fl q W) (Nat.pow_le_pow_right (by decide) hg3)
            go_wp2_with (at_builtin; refine wpL_append _ rfl (.tmp 98) (.tmp 102) _ rfl w.heap.size 67 i0 _ 1 8 Tryz.underlying71 hi0 hz0 hz1 hz2 rfl (by omega) _ j (ints .u64 (gs G j)) rfl (Hown.out.alloc _) (some ⟨wr.heap.size, 0, none⟩) 1 1 [.int .u64 (IntKind.u64.wrap ((m : Int) + ((rd Fl q W : Nat) : Int)))] rfl rfl (Rd.of_new wr [.int .u64 (IntKind.u64.wrap ((m : Int) + ((rd Fl q W : Nat) : Int)))] 67) (by intro u hu; simp at hu; subst hu; rfl) (by unfold maxLen; omega) (by omega) (by have := hBf.size; simp; omega) ?_; intro v1 w1 hown1 hg1' hat1)
            have HO : Hid (w1.ownsRow w.heap.size 67 1 v1 (j + 1) (ints .u64 (gs G (j + 1)))) := by
              show World.ownsRow _ _ _ _ _ _ _
              rw [gs_succ, ints_append]
              rw [HXj'.out] at hown1
              exact hown1
            have hB1 : Below w.heap.size w w1 := below_app (hBf.alloc hBf.size _) hg1' (by have := hBf.size; simp; omega) (Hown.out.alloc _) (Nat.le_refl _)
            clear hown1 hown hR64
            go_wp2
            go_roundw
            case rel => exact ⟨j + 1, by omega, by go_num, HO.out, hB1⟩
            case measure => simp [intOf]; omega
      · have hjk : j = k := by omega
        subst j
        have hFr := hcF.below hBf
        have HV := Lib.hid (IsL.of_own64 hown (gs_len _ _))
        have m2 := HM2.out
        clear hown
        have hcut := hFr.cut (k := S) (cap := c - (5 + n)) (by rw [ints_length]; omega)
        rw [← ints_drop] at hcut
        by_cases hcs : c - (5 + n) = S
        · have hbs : b.length - (5 + n) = S := by omega
          have HU : Hid (IsL wr wr.heap.size .u8 (.slice (some (ad.add (5 + n))) 0 0) R) := by
            show IsL _ _ _ _ _
            rw [← HB.out, List.drop_eq_nil_of_le (by rw [HFL.out]; omega)]
            exact ⟨_, _, rfl, Nat.le_refl _, fun hn => absurd rfl hn⟩
          go_wp2
          refine wp_region_still_lit (by kernel_rfl) (by kernel_rfl) ?_
          repeat still_step
          refine wpStill_nil ?_
          go_wp2
          go_ret3
          exact ⟨hBf.drew, _, _, rfl, HV.out, HU.out⟩
        · rw [if_neg hcs, Option.map_some] at hcut
          have HU : Hid (IsL wr wr.heap.size .u8 (.slice (some ((ad.add (5 + n)).add S)) (b.length - (5 + n) - S) (c - (5 + n) - S)) R) := by
            show IsL _ _ _ _ _
            rw [← HB.out]
            exact ⟨_, _, by rw [List.length_drop, HFL.out], by rw [List.length_drop, HFL.out]; omega, hcut.more hBf.size⟩
          go_wp2
          refine wp_region_still_lit (by kernel_rfl) (by kernel_rfl) ?_
          repeat still_step
          refine wpStill_nil ?_
          go_wp2
          go_ret3
          exact ⟨hBf.drew, _, _, rfl, HV.out, HU.out⟩
end Go.Proofs.YtpkhgdnkkdhlcaaGreatDoor

namespace Go.Proofs.YtpkhgdnkkdhlcaaGreatDoor
open Go.RowKit By

/-- What the reference's unpacked answers. -/
theorem runpacked_any (A : Option Addr) (c n : Nat) (b : List Nat) (w : World) (h1 : 1 ≤ n) (h8 : n ≤ 8) (hl : Bytes b) (hc : b.length ≤ c) (hm : b.length ≤ 1048576) (h : Rd w w.heap.size A (ints .u8 b)) :
    Calls Tryz.prog 163 #[.slice A b.length c, .int .i64 n] w fun e w' => Below w.heap.size w w' ∧
      ((ukOkR b n ∧ ∃ v u, e = .returned (.tuple #[v, u, .bool true]) ∧ IsL w' w'.heap.size .u64 v (gs (ukG b n) (ukN b)) ∧ IsL w' w'.heap.size .u8 u (ukR b n)) ∨
        (¬ ukOkR b n ∧ e = .returned (.tuple #[.slice none 0 0, .slice none 0 0, .bool false]))) := by
  unfold ukOkR
  by_cases hs : b.length < 4
  · exact (runpacked_short A c n b w hs).mono fun e w' h => ⟨h.1 ▸ Below.refl _ _, .inr ⟨fun x => by omega, h.2⟩⟩
  · by_cases h0 : ukN b = 0
    · refine (runpacked_none A c n b w hl (by omega) hc h0 h).mono ?_
      rintro e w' ⟨hb, u, rfl, hu⟩
      have e : ukR b n = b.drop 4 := by unfold ukR; rw [h0, if_pos rfl]
      exact ⟨hb, .inl ⟨⟨by omega, .inl h0⟩, _, u, rfl, by rw [h0]; exact IsL.nil _ _ _, by rw [e]; exact hu⟩⟩
    · by_cases hbad : ukN b ≤ 1048576 ∧ n + 1 ≤ (b.drop 4).length ∧ ukW b n ≤ 64
      · by_cases hg : ukS b n ≤ (ukF b n).length
        · refine (runpacked_good A c n b w h1 h8 hl hc hm h0 hbad.1 hbad.2.1 hbad.2.2 hg h).mono ?_
          rintro e w' ⟨hb, v, u, rfl, hv, hu⟩
          exact ⟨hb, .inl ⟨⟨by omega, .inr ⟨hbad.1, hbad.2.1, hbad.2.2, hg⟩⟩, v, u, rfl, hv, hu⟩⟩
        · refine (runpacked_far A c n b w h1 h8 hl hc hm h0 hbad.1 hbad.2.1 hbad.2.2 (by omega) h).mono ?_
          rintro e w' ⟨hb, rfl⟩
          refine ⟨hb, .inr ⟨?_, rfl⟩⟩
          rintro ⟨_, h2 | h2⟩
          · exact h0 h2
          · exact hg h2.2.2.2
      · refine (runpacked_bad A c n b w h1 h8 hl (by omega) hc hm h0 hbad h).mono ?_
        rintro e w' ⟨hb, rfl⟩
        refine ⟨hb, .inr ⟨?_, rfl⟩⟩
        rintro ⟨_, h2 | h2⟩
        · exact h0 h2
        · exact hbad ⟨h2.1, h2.2.1, h2.2.2.1⟩

/-- The reference asks more, and comes to the same. -/
theorem uOk_ref {b : List Nat} (hl : Bytes b) {n : Nat} (h1 : 1 ≤ n) (h8 : n ≤ 8) :
    uOk b n ↔ ukOkR b n ∧ ukN b * n + (ukR b n).length ≤ 1048576 ∧ packB (ukG b n) (ukN b) n (ukR b n) = b ∧ packL (ukB b n) n = b := by
  have hlen : (ukB b n).length = ukN b * n + (ukR b n).length := by unfold ukB; rw [List.length_append, jn_len]
  constructor
  · rintro ⟨⟨h4, h⟩, h2, h3⟩
    refine ⟨⟨h4, ?_⟩, by rw [← hlen]; exact h2, pack_again h8 hl h2 h3, h3⟩
    rcases h with h0 | ⟨a1, a2, a3, a4⟩
    · exact .inl h0
    · exact .inr ⟨Nat.le_trans a2 (Nat.div_le_self _ _), a1, a3, a4⟩
  · rintro ⟨⟨h4, h⟩, h2, _, h3⟩
    refine ⟨⟨h4, ?_⟩, by rw [hlen]; exact h2, h3⟩
    rcases h with h0 | ⟨a1, a2, a3, a4⟩
    · exact .inl h0
    · exact .inr ⟨a2, (Nat.le_div_iff_mul_le h1).2 (by omega), a3, a4⟩
theorem bstr_inj {l r : List Nat} (hl : Bytes l) (hr : Bytes r) (h : bstr l = bstr r) : l = r := by
  unfold bstr at h
  injection h with h
  have h2 : l.map UInt8.ofNat = r.map UInt8.ofNat := by simpa using h
  have e : ∀ x : List Nat, Bytes x → (x.map UInt8.ofNat).map UInt8.toNat = x := fun x hx => by
    rw [List.map_map]
    refine (List.map_congr_left (g := id) fun y hy => ?_).trans (List.map_id x)
    have := hx y hy
    simp only [Function.comp_apply, id]
    rw [UInt8.toNat_ofNat']; omega
  rw [← e l hl, h2, e r hr]
theorem gs_bound {f : Nat → Nat} {k : Nat} (h : ∀ i, f i < 2 ^ 64) (j : Nat) : el (gs f k) j < 2 ^ 64 := by
  refine el_bound (fun x hx => ?_) j
  simp only [gs, List.mem_map, List.mem_range] at hx
  obtain ⟨i, _, rfl⟩ := hx
  exact h i

theorem drest0 {w w' : World} {A : Option Addr} {l : List Nat} (h : Rd w w.heap.size A (ints .u8 l)) (hb : Below w.heap.size w w') : Rd w'.drew w'.drew.heap.size A (ints .u8 l) := (h.below hb).more hb.size

end Go.Proofs.YtpkhgdnkkdhlcaaGreatDoor

namespace Go.Proofs.YtpkhgdnkkdhlcaaGreatDoor
open Go.RowKit By

theorem to_string_rd {w : World} {A : Option Addr} {l : List Nat} (h : Rd w w.heap.size A (ints .u8 l)) (c : Nat) : (convert 25 9 (.slice A l.length c)).run Tryz.prog w = .ok (.string (bstr l)) w :=
  run_to_string (P := Tryz.prog) h 25 5 9 Tryz.underlying25 Tryz.underlying5 Tryz.underlying9 l.length c rfl
theorem rd_fwd {w w' : World} {A : Option Addr} {l : List Nat} (h : Rd w w.heap.size A (ints .u8 l)) (hb : Below w.heap.size w w') : Rd w' w'.heap.size A (ints .u8 l) := (h.below hb).more hb.size

/-- A step of a region whose operations are written out: the operation is met as it is written. -/
theorem takeH {P : Program} {md : Region.Mode} {Q : Exit → Act → World → Prop} {S : World → Prop} {l : List Oper} {i : Nat} {oi : Oper} {v : Value} {fuel : Nat} {listed : Array Bool} {a : Act} {w : World} (hi : l[i]? = some oi)
    (hs : Region.noSelect l.toArray = true) (hf : Region.free md l.toArray listed i = true) (hr : (Region.ready md l.toArray listed).contains i = true)
    (hQ : ∀ c a w, Q (.panic c) (a.put oi.dst v) w → Q (.panic c) a w) (hw : Region.wanted oi (yielded l.toArray a.tmps) = true) (hS : S w) (hy : ∀ w, S w → (execOp a.eval oi).run P w = .ok (.value v) w)
    (h : wpAnyH P md l.toArray Q S fuel (listed.setIfInBounds i true) (a.put oi.dst v) w) : wpAnyH P md l.toArray Q S (fuel + 1) listed a w :=
  wpAnyH_take (by simpa using hi) hs hf hr hQ (.inl ⟨hw, hy⟩) hS h
/-- The same, where one operation alone may come up. -/
theorem stepH {P : Program} {md : Region.Mode} {Q : Exit → Act → World → Prop} {S : World → Prop} {l : List Oper} {i : Nat} {oi : Oper} {fuel : Nat} {listed : Array Bool} {a : Act} {w : World} (hi : l[i]? = some oi)
    (hr : Region.ready md l.toArray listed = [i])
    (h : ∀ K' : Act → World → Prop, Shut (∀ a w, S w → (S w → wpAnyH P md l.toArray Q S fuel (listed.setIfInBounds i true) a w) → K' a w) → if Region.wanted oi (yielded l.toArray a.tmps) = true then Oper.wp P oi a w K' Q else K' (a.put oi.dst undef) w) :
    wpAnyH P md l.toArray Q S (fuel + 1) listed a w :=
  wpAnyH_ready hr (by simp) (AllReadyH.cons (by simpa using hi) h AllReadyH.nil)

theorem packB_bytes {g : Nat → Nat} {k n : Nat} {r : List Nat} (hG : ∀ i, g i < 2 ^ 64) (hr : Bytes r) : Bytes (packB g k n r) := by
  unfold packB
  refine Bytes.app ?_ hr
  split
  · exact gb_bytes _ _
  · rename_i h0
    refine ((Bytes.app (gb_bytes _ _) (gb_bytes _ _)).app (bytes_one ?_)).app (packF_bytes _ _)
    have h2 : packW g k ≤ 64 := bl_le.2 (Nat.lt_of_le_of_lt (Nat.sub_le _ _) (hi_lt (Nat.pos_of_ne_zero h0) fun i _ => hG i))
    omega
theorem bstr_dec {l r : List Nat} (hl : Bytes l) (hr : Bytes r) : ∃ q : Bool, ((bstr l).toList == (bstr r).toList) = q ∧ (q = true ↔ l = r) := by
  refine ⟨_, rfl, fun h => bstr_inj hl hr ?_, fun h => by rw [h]; exact bstr_self r⟩
  have h2 : (bstr l).toList = (bstr r).toList := by simpa using h
  simpa [bstr] using h2

set_option maxRecDepth 100000 in
set_option maxHeartbeats 3200000 in
theorem runpack_any (A : Option Addr) (c n : Nat) (b : List Nat) (w : World) (h1 : 1 ≤ n) (h8 : n ≤ 8) (hl : Bytes b) (hc : b.length ≤ c) (hm : b.length ≤ 1048576) (h : Rd w w.heap.size A (ints .u8 b)) :
    Calls Tryz.prog 116 #[.slice A b.length c, .int .i64 n] w fun e w' => Below w.heap.size w w' ∧
      ((uOk b n ∧ ∃ v, e = .returned (.tuple #[v, .int .i64 0]) ∧ IsL w' w'.heap.size .u8 v (ukB b n)) ∨ (¬ uOk b n ∧ e = .returned (.tuple #[.slice none 0 0, .int .i64 5]))) := by
  have hg : grE n b.length = 0 := by unfold grE; rw [if_neg (by omega), if_neg (by omega)]
  have HU := Lib.hid (uOk_ref hl h1 h8)
  go_enter Tryz.func116, Tryz.ntmps116
  go_wp2_with fail
  refine (asked_any _ _ _ _ _ (by omega)).mono ?_
  rintro e w1 ⟨rfl, rfl⟩
  rw [hg]
  clear hg
  go_wp2_with fail
  refine (runpacked_any A c n b w h1 h8 hl hc hm h).mono ?_
  rintro e w1 ⟨hb1, ⟨hok, v, u, rfl, hv, hu⟩ | ⟨hno, rfl⟩⟩
  · obtain ⟨A2, c2, rfl, hc2, hr2⟩ := hv
    obtain ⟨A3, c3, rfl, hc3, hr3⟩ := hu
    rw [gs_len] at hc2 ⊢
    have hkb : ukN b ≤ 1048576 := by
      rcases hok.2 with h0 | h0
      · omega
      · exact h0.1
    have hRb : Bytes (ukR b n) := by
      unfold ukR
      split
      · exact hl.drop _
      · exact ((hl.drop _).drop _).drop _
    have hRl : (ukR b n).length ≤ 1048576 := by
      refine Nat.le_trans ?_ hm
      unfold ukR
      split
      · rw [List.length_drop]; omega
      · unfold ukF; rw [List.length_drop, List.length_drop, List.length_drop]; omega
    have hGb := gs_bound (k := ukN b) (ukG_lt b n)
    have HOK := Lib.hid hok
    have HBe : Hid (jl (gs (ukG b n) (ukN b)) n ++ ukR b n = ukB b n) := by
      show _ = _
      unfold ukB jl
      rw [gs_len]
      congr 1
      exact jn_congr fun j hj => congrArg (gb n) (el_gs _ hj)
    have HPe : Hid (packB (el (gs (ukG b n) (ukN b))) (ukN b) n (ukR b n) = packB (ukG b n) (ukN b) n (ukR b n)) := packB_congr fun i hi => el_gs _ hi
    have hgl := gs_len (ukG b n) (ukN b)
    generalize gs (ukG b n) (ukN b) = ds at *
    clear hok
    obtain ⟨P, hP⟩ : ∃ P, P = ukN b * n := ⟨_, rfl⟩
    have hPb : P ≤ 8388608 := by rw [hP]; exact Nat.le_trans (Nat.mul_le_mul hkb h8) (by omega)
    have mP : IntKind.i64.wrap ((ukN b : Int) * (n : Int)) = (P : Int) := by rw [← Int.natCast_mul, ← hP]; exact IntWalk.i64_in _ (by omega)
    have mT : IntKind.i64.wrap ((P : Int) + ((ukR b n).length : Int)) = (P : Int) + ((ukR b n).length : Int) := IntWalk.i64_in _ (by omega)
    have HP := Lib.hid hP
    rw [← hP] at HU
    clear hP
    by_cases htot : P + (ukR b n).length ≤ 1048576
    · have tt : ((P : Int) + ((ukR b n).length : Int) ≤ 1048576) := by omega
      have hrbD : Rd w1.drew w1.drew.heap.size A (ints .u8 b) := drest0 h hb1
      have hpk := rpacked_any A2 A3 c2 c3 n ds (ukR b n) w1.drew h1 h8 hGb (by rw [hgl]; exact hkb) hRl hr2 hr3
      rw [hgl, HPe.out] at hpk
      have sB1 := run_to_string (P := Tryz.prog) hrbD 25 5 9 Tryz.underlying25 Tryz.underlying5 Tryz.underlying9 b.length c rfl
      obtain ⟨pk, hpkd⟩ : ∃ pk, pk = packB (ukG b n) (ukN b) n (ukR b n) := ⟨_, rfl⟩
      have hpkB : Bytes pk := by rw [hpkd]; exact packB_bytes (ukG_lt b n) hRb
      obtain ⟨q, s3, hq⟩ := bstr_dec hpkB hl
      rw [← hpkd] at hpk HU
      clear hpkd
      have HQ := Lib.hid hq
      clear hq
      · have td : decide ((1048576 : Int) < (P : Int) + ((ukR b n).length : Int)) = false := decide_eq_false (by omega)
        go_wp2
        refine wp_region_held_drew (S := fun W => (convert 25 9 (.slice A b.length c)).run Tryz.prog W = .ok (.string (bstr b)) W) (by kernel_rfl) sB1 (fun hS => ?_)
        refine takeH (i := 0) (v := ?_) rfl (by kernel_rfl) (by kernel_rfl) (by kernel_rfl) (fun _ _ _ h => h) (by rfl) (by assumption) ?_ ?_
        rotate_left
        · intro w hSw; (try dsimp only at hSw); go_simp <;> with_reducible rfl
        try simp only [Act.put, List.setIfInBounds_toArray, List.set_cons_zero, List.set_cons_succ]
        refine takeH (i := 1) (v := ?_) rfl (by kernel_rfl) (by kernel_rfl) (by kernel_rfl) (fun _ _ _ h => h) (by rfl) (by assumption) ?_ ?_
        rotate_left
        · intro w hSw; (try dsimp only at hSw); go_simp <;> with_reducible rfl
        try simp only [Act.put, List.setIfInBounds_toArray, List.set_cons_zero, List.set_cons_succ]
        refine takeH (i := 2) (v := ?_) rfl (by kernel_rfl) (by kernel_rfl) (by kernel_rfl) (fun _ _ _ h => h) (by rfl) (by assumption) ?_ ?_
        rotate_left
        · intro w hSw; (try dsimp only at hSw); go_simp <;> with_reducible rfl
        try simp only [Act.put, List.setIfInBounds_toArray, List.set_cons_zero, List.set_cons_succ]
        refine takeH (i := 3) (v := ?_) rfl (by kernel_rfl) (by kernel_rfl) (by kernel_rfl) (fun _ _ _ h => h) (by rfl) (by assumption) ?_ ?_
        rotate_left
        · intro w hSw; (try dsimp only at hSw); go_simp <;> with_reducible rfl
        try simp only [Act.put, List.setIfInBounds_toArray, List.set_cons_zero, List.set_cons_succ]
        refine takeH (i := 4) (v := ?_) rfl (by kernel_rfl) (by kernel_rfl) (by kernel_rfl) (fun _ _ _ h => h) (by rfl) (by assumption) ?_ ?_
        rotate_left
        · intro w hSw; (try dsimp only at hSw); go_simp <;> with_reducible rfl
        try simp only [Act.put, List.setIfInBounds_toArray, List.set_cons_zero, List.set_cons_succ]
        refine takeH (i := 5) (v := ?_) rfl (by kernel_rfl) (by kernel_rfl) (by kernel_rfl) (fun _ _ _ h => h) (by rfl) (by assumption) ?_ ?_
        rotate_left
        · intro w hSw; (try dsimp only at hSw); go_simp <;> with_reducible rfl
        try simp only [Act.put, List.setIfInBounds_toArray, List.set_cons_zero, List.set_cons_succ]
        refine takeH (i := 6) (v := ?_) rfl (by kernel_rfl) (by kernel_rfl) (by kernel_rfl) (fun _ _ _ h => h) (by rfl) (by assumption) ?_ ?_
        rotate_left
        · intro w hSw; (try dsimp only at hSw); go_simp <;> with_reducible rfl
        try simp only [Act.put, List.setIfInBounds_toArray, List.set_cons_zero, List.set_cons_succ]
        refine takeH (i := 7) (v := ?_) rfl (by kernel_rfl) (by kernel_rfl) (by kernel_rfl) (fun _ _ _ h => h) (by rfl) (by assumption) ?_ ?_
        rotate_left
        · intro w hSw; (try dsimp only at hSw); go_simp <;> with_reducible rfl
        try simp only [Act.put, List.setIfInBounds_toArray, List.set_cons_zero, List.set_cons_succ]
        refine takeH (i := 8) (v := ?_) rfl (by kernel_rfl) (by kernel_rfl) (by kernel_rfl) (fun _ _ _ h => h) (by rfl) (by assumption) ?_ ?_
        rotate_left
        · intro w hSw; (try dsimp only at hSw); go_simp <;> with_reducible rfl
        try simp only [Act.put, List.setIfInBounds_toArray, List.set_cons_zero, List.set_cons_succ]
        refine takeH (i := 9) (v := ?_) rfl (by kernel_rfl) (by kernel_rfl) (by kernel_rfl) (fun _ _ _ h => h) (by rfl) (by assumption) ?_ ?_
        rotate_left
        · intro w hSw; (try dsimp only at hSw); go_simp <;> with_reducible rfl
        try simp only [Act.put, List.setIfInBounds_toArray, List.set_cons_zero, List.set_cons_succ]
        refine takeH (i := 10) (v := ?_) rfl (by kernel_rfl) (by kernel_rfl) (by kernel_rfl) (fun _ _ _ h => h) (by rfl) (by assumption) ?_ ?_
        rotate_left
        · intro w hSw; (try dsimp only at hSw); go_simp <;> with_reducible rfl
        try simp only [Act.put, List.setIfInBounds_toArray, List.set_cons_zero, List.set_cons_succ]
        refine takeH (i := 11) (v := ?_) rfl (by kernel_rfl) (by kernel_rfl) (by kernel_rfl) (fun _ _ _ h => h) (by rfl) (by assumption) ?_ ?_
        rotate_left
        · intro w hSw; (try dsimp only at hSw); go_simp <;> with_reducible rfl
        try simp only [Act.put, List.setIfInBounds_toArray, List.set_cons_zero, List.set_cons_succ]
        refine takeH (i := 12) (v := ?_) rfl (by kernel_rfl) (by kernel_rfl) (by kernel_rfl) (fun _ _ _ h => h) (by rfl) (by assumption) ?_ ?_
        rotate_left
        · intro w hSw; (try dsimp only at hSw); go_simp <;> with_reducible rfl
        try simp only [Act.put, List.setIfInBounds_toArray, List.set_cons_zero, List.set_cons_succ]
        refine takeH (i := 13) (v := ?_) rfl (by kernel_rfl) (by kernel_rfl) (by kernel_rfl) (fun _ _ _ h => h) (by rfl) (by assumption) ?_ ?_
        rotate_left
        · intro w hSw; (try dsimp only at hSw); go_simp <;> with_reducible rfl
        try simp only [Act.put, List.setIfInBounds_toArray, List.set_cons_zero, List.set_cons_succ]
        refine takeH (i := 14) (v := ?_) rfl (by kernel_rfl) (by kernel_rfl) (by kernel_rfl) (fun _ _ _ h => h) (by rfl) (by assumption) ?_ ?_
        rotate_left
        · intro w hSw; (try dsimp only at hSw); go_simp <;> with_reducible rfl
        try simp only [Act.put, List.setIfInBounds_toArray, List.set_cons_zero, List.set_cons_succ]
        refine takeH (i := 15) (v := ?_) rfl (by kernel_rfl) (by kernel_rfl) (by kernel_rfl) (fun _ _ _ h => h) (by rfl) (by assumption) ?_ ?_
        rotate_left
        · intro w hSw; (try dsimp only at hSw); go_simp <;> with_reducible rfl
        try simp only [Act.put, List.setIfInBounds_toArray, List.set_cons_zero, List.set_cons_succ]
        refine takeH (i := 18) (v := ?_) rfl (by kernel_rfl) (by kernel_rfl) (by kernel_rfl) (fun _ _ _ h => h) (by rfl) (by assumption) ?_ ?_
        rotate_left
        · intro w hSw; (try dsimp only at hSw); go_simp <;> with_reducible rfl
        try simp only [Act.put, List.setIfInBounds_toArray, List.set_cons_zero, List.set_cons_succ]
        refine takeH (i := 19) (v := ?_) rfl (by kernel_rfl) (by kernel_rfl) (by kernel_rfl) (fun _ _ _ h => h) (by rfl) (by assumption) ?_ ?_
        rotate_left
        · intro w hSw; (try dsimp only at hSw); go_simp <;> with_reducible rfl
        try simp only [Act.put, List.setIfInBounds_toArray, List.set_cons_zero, List.set_cons_succ]
        refine stepH (i := 16) rfl (by kernel_rfl) (fun K hK => ?_)
        go_simp
        refine hpk.mono ?_
        rintro e w2 ⟨hb2, v5, rfl, A5, c5, rfl, hc5, hr5⟩
        have sA5 := to_string_rd hr5 c5
        go_wp2_with fail
        refine hK.out _ _ (to_string_rd (rd_fwd hrbD hb2) c) (fun hH => ?_)
        clear hK K hS
        try simp only [Act.put, List.setIfInBounds_toArray, List.set_cons_zero, List.set_cons_succ]
        refine stepH (i := 17) rfl (by kernel_rfl) (fun K hK => ?_)
        go_simp
        refine hK.out _ _ hH (fun _ => ?_)
        clear hK K
        try simp only [Act.put, List.setIfInBounds_toArray, List.set_cons_zero, List.set_cons_succ]
        refine takeH (i := 20) (v := ?_) rfl (by kernel_rfl) (by kernel_rfl) (by kernel_rfl) (fun _ _ _ h => h) (by rfl) (by assumption) ?_ ?_
        rotate_left
        · intro w hSw; (try dsimp only at hSw); go_simp <;> with_reducible rfl
        try simp only [Act.put, List.setIfInBounds_toArray, List.set_cons_zero, List.set_cons_succ]
        refine takeH (i := 21) (v := ?_) rfl (by kernel_rfl) (by kernel_rfl) (by kernel_rfl) (fun _ _ _ h => h) (by rfl) (by assumption) ?_ ?_
        rotate_left
        · intro w hSw; (try dsimp only at hSw); go_simp <;> with_reducible rfl
        try simp only [Act.put, List.setIfInBounds_toArray, List.set_cons_zero, List.set_cons_succ]
        refine wpAnyH_done (by kernel_rfl) ?_ _
        have HB2 : Hid (Below w.heap.size w w2) := by
          have h0 : Below w.heap.size w w1.drew := below_drewN hb1 1
          exact h0.trans (hb2.mono h0.size)
        have hrb2 := rd_fwd hrbD hb2
        have hb12 : Below w1.heap.size w1 w2 := (below_drewN (Below.refl _ _) 1).trans hb2
        have hr2' := (hr2.below hb12).more hb12.size
        have hr3' := (hr3.below hb12).more hb12.size
        clear hb12
        clear sA5 hr5 hH hpk sB1 hrbD hb2
        cases q
        · have HE : Hid (¬ uOk b n) := fun x => absurd (HQ.out.2 (HU.out.1 x).2.2.1) (by decide)
          go_wp2
          go_ret2
          exact ⟨HB2.out, .inr ⟨HE.out, rfl⟩⟩
        · have HE := Lib.hid (HQ.out.1 rfl)
          have hj := rjoined_any A2 A3 c2 c3 n ds (ukR b n) w2 h1 h8 hGb (by rw [hgl]; exact hkb) hRl hr2' hr3'
          rw [hgl, HBe.out] at hj
          go_wp2_with fail
          refine hj.mono ?_
          rintro e w3 ⟨hb3, v6, rfl, hv6⟩
          obtain ⟨A6, c6, rfl, hc6, hr6⟩ := hv6
          have HB3 : Hid (Below w.heap.size w w3) := HB2.out.trans (hb3.mono HB2.out.size)
          have hrb3 := rd_fwd hrb2 hb3
          have HUL : Hid (uOk b n ↔ packL (ukB b n) n = b) := ⟨fun x => (HU.out.1 x).2.2.2, fun x => HU.out.2 ⟨HOK.out, htot, HE.out, x⟩⟩
          have hBB := ukB_bytes hl n
          have hBl : (ukB b n).length ≤ 1048576 := by rw [show (ukB b n).length = P + (ukR b n).length by unfold ukB; rw [List.length_append, jn_len, HP.out]]; exact htot
          go_wp2_with fail
          refine (rpack_any A6 c6 n (ukB b n) w3 h1 h8 hBB hc6 hBl hr6).mono ?_
          rintro e w4 ⟨hb4, v7, rfl, A7, c7, rfl, hc7, hr7⟩
          have HB4 : Hid (Below w.heap.size w w4) := HB3.out.trans (hb4.mono HB3.out.size)
          have HV : Hid (IsL w4 w4.heap.size .u8 (.slice A6 (ukB b n).length c6) (ukB b n)) := ⟨A6, c6, rfl, hc6, rd_fwd hr6 hb4⟩
          have sA := to_string_rd hr7 c7
          have sB := to_string_rd (rd_fwd hrb3 hb4) c
          obtain ⟨q, s4, hq⟩ := bstr_dec (packL_bytes hBB h8) hl
          clear hr6 hr7 hrb3 hb3 hb4 hrb2 hr2' hr3' hj
          cases q
          · have HN : Hid (¬ uOk b n) := fun x => absurd (hq.2 (HUL.out.1 x)) (by decide)
            clear hq
            go_wp2
            go_ret2
            exact ⟨HB4.out, .inr ⟨HN.out, rfl⟩⟩
          · have HY : Hid (uOk b n) := HUL.out.2 (hq.1 rfl)
            clear hq
            go_wp2
            go_ret2
            exact ⟨HB4.out, .inl ⟨HY.out, _, rfl, HV.out⟩⟩
    · have tt : ¬ ((P : Int) + ((ukR b n).length : Int) ≤ 1048576) := by omega
      have HE : Hid (¬ uOk b n) := fun x => htot (HU.out.1 x).2.1
      go_wp2
      go_quiet (fail)
      go_wp2
      go_ret2
      exact ⟨below_drewN hb1 _, .inr ⟨HE.out, rfl⟩⟩
  · have HE : Hid (¬ uOk b n) := fun x => hno (HU.out.1 x).1
    clear hno
    go_wp2
    go_quiet (fail)
    go_wp2
    go_ret2
    exact ⟨below_drewN hb1 _, .inr ⟨HE.out, rfl⟩⟩
end Go.Proofs.YtpkhgdnkkdhlcaaGreatDoor
