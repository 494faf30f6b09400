/-
  Bytes, groups of bytes, their differences, orders and tokens: plain mathematics, of no program.
  Bits of integers as the walk spells them.
  Walks: package codec: numbers of groups.
  Walks: package codec: copies, the first error of groups, differences and sums.
  Walks: package codec: differences and sums.
  Walks: the reference of package codec: numbers of groups, groups, and groups joined.
  The bytes of integers: plain mathematics.
  Walks: bytes as strings.
-/
import Derived.Below
import Derived.WalkKit
import Derived.Test.YtpkhgdnkkdhlcaaGreatDoorProg
import Derived.Test.YtpkhgdnkkdhlcaaGreatDoorWordsC
import Derived.WalkSpells
import Derived.WalkLawsBesides
import Derived.Deep.QuietTactic
import Derived.BigQuiet
import Derived.Outline
import Derived.StillTailTactics
import Derived.IntWalk
import Derived.Laws.BytesArg
namespace Go.Proofs.YtpkhgdnkkdhlcaaGreatDoor.By

def gv (l : List Nat) : Nat := l.foldl (fun a x => a * 256 + x) 0
def gb : Nat → Nat → List Nat
  | 0, _ => []
  | n + 1, x => gb n (x / 256) ++ [x % 256]
def Bytes (l : List Nat) : Prop := ∀ x ∈ l, x < 256

theorem gv_snoc (l : List Nat) (x : Nat) : gv (l ++ [x]) = gv l * 256 + x := by simp [gv]
theorem Bytes.take {l : List Nat} (h : Bytes l) (n : Nat) : Bytes (l.take n) := fun x hx => h x (List.mem_of_mem_take hx)
theorem Bytes.drop {l : List Nat} (h : Bytes l) (n : Nat) : Bytes (l.drop n) := fun x hx => h x (List.mem_of_mem_drop hx)
theorem Bytes.app {l m : List Nat} (h : Bytes l) (h' : Bytes m) : Bytes (l ++ m) := fun x hx => (List.mem_append.1 hx).elim (h x) (h' x)
theorem Bytes.left {l m : List Nat} (h : Bytes (l ++ m)) : Bytes l := fun x hx => h x (List.mem_append_left _ hx)
theorem Bytes.right {l m : List Nat} (h : Bytes (l ++ m)) : Bytes m := fun x hx => h x (List.mem_append_right _ hx)
theorem Bytes.at_ {l : List Nat} (h : Bytes l) (i : Nat) : l.getD i 0 < 256 := by
  rw [List.getD_eq_getElem?_getD]
  rcases Nat.lt_or_ge i l.length with hi | hi
  · rw [List.getElem?_eq_getElem hi]; exact h _ (List.getElem_mem _)
  · rw [List.getElem?_eq_none hi]; show (0 : Nat) < 256; omega
theorem bytes_nil : Bytes [] := fun _ h => by cases h
theorem bytes_one {x : Nat} (h : x < 256) : Bytes [x] := fun y hy => by simp at hy; omega

theorem snoc_of_len {l : List Nat} {n : Nat} (h : l.length = n + 1) : ∃ m x, l = m ++ [x] ∧ m.length = n :=
  ⟨l.dropLast, l.getLast (by intro e; rw [e] at h; simp at h), (List.dropLast_concat_getLast _).symm, by rw [List.length_dropLast]; omega⟩
theorem gv_lt : ∀ {n : Nat} {l : List Nat}, l.length = n → Bytes l → gv l < 256 ^ n
  | 0, l, hl, _ => by obtain rfl := List.eq_nil_of_length_eq_zero hl; simp [gv]
  | n + 1, l, hl, hb => by
    obtain ⟨m, x, rfl, hm⟩ := snoc_of_len hl
    have h1 := gv_lt hm hb.left
    have h2 : x < 256 := hb x (by simp)
    rw [gv_snoc, Nat.pow_succ]; omega
theorem gb_len : ∀ (n x : Nat), (gb n x).length = n
  | 0, _ => rfl
  | n + 1, x => by simp [gb, gb_len n]
theorem gb_bytes : ∀ (n x : Nat), Bytes (gb n x)
  | 0, _ => bytes_nil
  | n + 1, x => (gb_bytes n _).app (bytes_one (by omega))
theorem gv_gb : ∀ (n x : Nat), gv (gb n x) = x % 256 ^ n
  | 0, x => by simp [gb, gv]; omega
  | n + 1, x => by
    rw [gb, gv_snoc, gv_gb n, Nat.pow_succ, Nat.mul_comm (256 ^ n) 256, Nat.mod_mul (a := 256)]; omega
theorem gb_gv : ∀ {n : Nat} {l : List Nat}, l.length = n → Bytes l → gb n (gv l) = l
  | 0, l, hl, _ => by obtain rfl := List.eq_nil_of_length_eq_zero hl; rfl
  | n + 1, l, hl, hb => by
    obtain ⟨m, x, rfl, hm⟩ := snoc_of_len hl
    have h2 : x < 256 := hb x (by simp)
    rw [gb, gv_snoc, show (gv m * 256 + x) / 256 = gv m by omega, show (gv m * 256 + x) % 256 = x by omega, gb_gv hm hb.left]
theorem gb_mod : ∀ (n x : Nat), gb n (x % 256 ^ n) = gb n x
  | 0, _ => rfl
  | n + 1, x => by
    have h1 : x % 256 ^ (n + 1) / 256 = x / 256 % 256 ^ n := by rw [Nat.pow_succ, Nat.mul_comm, Nat.mod_mul_right_div_self]
    have h2 : x % 256 ^ (n + 1) % 256 = x % 256 := by rw [Nat.pow_succ]; exact Nat.mod_mul_left_mod ..
    rw [gb, gb, h1, gb_mod n, h2]
theorem gb_congr {n x y : Nat} (h : x % 256 ^ n = y % 256 ^ n) : gb n x = gb n y := by rw [← gb_mod, h, gb_mod]
theorem pow_le {n : Nat} (h : n ≤ 8) : 256 ^ n ∣ 2 ^ 64 := by
  rw [show (256 : Nat) = 2 ^ 8 from rfl, ← Nat.pow_mul]; exact Nat.pow_dvd_pow 2 (by omega)
theorem gb_mod64 {n x : Nat} (h : n ≤ 8) : gb n (x % 2 ^ 64) = gb n x := gb_congr (Nat.mod_mod_of_dvd x (pow_le h))
theorem gv_lt64 {l : List Nat} (h : l.length ≤ 8) (hb : Bytes l) : gv l < 2 ^ 64 :=
  Nat.lt_of_lt_of_le (gv_lt rfl hb) (Nat.le_of_dvd (by decide) (pow_le h))

/-- The number of group j. -/
def G (b : List Nat) (n j : Nat) : Nat := gv ((b.drop (j * n)).take n)
/-- So many numbers as groups. -/
def jn (f : Nat → Nat) (n : Nat) : Nat → List Nat
  | 0 => []
  | k + 1 => jn f n k ++ gb n (f k)
theorem jn_len (f : Nat → Nat) (n : Nat) : ∀ k, (jn f n k).length = k * n
  | 0 => by simp [jn]
  | k + 1 => by rw [jn, List.length_append, jn_len f n k, gb_len, Nat.succ_mul]
theorem jn_bytes (f : Nat → Nat) (n : Nat) : ∀ k, Bytes (jn f n k)
  | 0 => bytes_nil
  | k + 1 => (jn_bytes f n k).app (gb_bytes _ _)
theorem jn_congr {f g : Nat → Nat} {n : Nat} : ∀ {k : Nat}, (∀ j, j < k → gb n (f j) = gb n (g j)) → jn f n k = jn g n k
  | 0, _ => rfl
  | k + 1, h => by rw [jn, jn, jn_congr fun j hj => h j (by omega), h k (by omega)]
theorem jn_at (f : Nat → Nat) (n : Nat) (r : List Nat) : ∀ {k j : Nat}, j < k → ((jn f n k ++ r).drop (j * n)).take n = gb n (f j)
  | 0, j, h => by omega
  | k + 1, j, h => by
    rcases Nat.lt_or_ge j k with h1 | h1
    · rw [jn, List.append_assoc]; exact jn_at f n _ h1
    · obtain rfl : j = k := by omega
      rw [jn, List.append_assoc, List.drop_append_of_le_length (by rw [jn_len]; exact Nat.le_refl _), List.drop_of_length_le (by rw [jn_len]; exact Nat.le_refl _), List.nil_append,
        List.take_append_of_le_length (by rw [gb_len]; exact Nat.le_refl _), List.take_of_length_le (by rw [gb_len]; exact Nat.le_refl _)]
theorem G_jn (f : Nat → Nat) (n : Nat) (r : List Nat) {k j : Nat} (h : j < k) : G (jn f n k ++ r) n j = f j % 256 ^ n := by
  unfold G; rw [jn_at f n r h, gv_gb]
theorem mul_le_of {b : List Nat} {n j : Nat} (h : j < b.length / n) : j * n + n ≤ b.length := by
  have h1 : (j + 1) * n ≤ b.length / n * n := Nat.mul_le_mul_right _ h
  have h2 := Nat.div_mul_le_self b.length n
  rw [Nat.succ_mul] at h1; omega
theorem G_lt {b : List Nat} (hb : Bytes b) {n j : Nat} (h : j < b.length / n) : G b n j < 256 ^ n :=
  gv_lt (by rw [List.length_take, List.length_drop]; have := mul_le_of h; omega) ((hb.drop _).take _)
theorem gb_G {b : List Nat} (hb : Bytes b) {n j : Nat} (h : j < b.length / n) : gb n (G b n j) = (b.drop (j * n)).take n :=
  gb_gv (by rw [List.length_take, List.length_drop]; have := mul_le_of h; omega) ((hb.drop _).take _)
theorem jn_G {b : List Nat} (hb : Bytes b) {n : Nat} : ∀ {k : Nat}, k ≤ b.length / n → jn (G b n) n k = b.take (k * n)
  | 0, _ => by simp [jn]
  | k + 1, h => by
    rw [jn, jn_G hb (by omega), gb_G hb (by omega), Nat.succ_mul, List.take_add]
/-- The bytes behind the last group. -/
def rest (b : List Nat) (n : Nat) : List Nat := b.drop (b.length / n * n)
theorem rest_len (b : List Nat) {n : Nat} (hn : 0 < n) : (rest b n).length < n := by
  unfold rest; rw [List.length_drop]
  have := Nat.mod_lt b.length hn
  have h := Nat.div_add_mod b.length n
  rw [Nat.mul_comm] at h; omega
theorem whole {b : List Nat} (hb : Bytes b) (n : Nat) : jn (G b n) n (b.length / n) ++ rest b n = b := by
  rw [jn_G hb (Nat.le_refl _)]; exact List.take_append_drop _ _
theorem groups_of {r : List Nat} {n k : Nat} (f : Nat → Nat) (hn : 0 < n) (hr : r.length < n) : (jn f n k ++ r).length / n = k := by
  rw [List.length_append, jn_len, Nat.mul_comm, Nat.mul_add_div hn, Nat.div_eq_of_lt hr]; omega
theorem rest_of {r : List Nat} {n k : Nat} (f : Nat → Nat) (hn : 0 < n) (hr : r.length < n) : rest (jn f n k ++ r) n = r := by
  unfold rest
  rw [groups_of f hn hr, List.drop_append_of_le_length (by rw [jn_len]; exact Nat.le_refl _), List.drop_of_length_le (by rw [jn_len]; exact Nat.le_refl _), List.nil_append]

/-- Differences and sums of numbers modulo 2^64. -/
def dl (l : Nat → Nat) : Nat → Nat
  | 0 => l 0
  | j + 1 => (l (j + 1) + (2 ^ 64 - l j % 2 ^ 64)) % 2 ^ 64
def sm (d : Nat → Nat) : Nat → Nat
  | 0 => d 0 % 2 ^ 64
  | j + 1 => (sm d j + d (j + 1)) % 2 ^ 64
theorem sm_lt (d : Nat → Nat) : ∀ j, sm d j < 2 ^ 64
  | 0 => Nat.mod_lt _ (by decide)
  | _ + 1 => Nat.mod_lt _ (by decide)
def deltaB (b : List Nat) (n : Nat) : List Nat := jn (dl (G b n)) n (b.length / n) ++ rest b n
def undeltaB (b : List Nat) (n : Nat) : List Nat := jn (sm (G b n)) n (b.length / n) ++ rest b n
theorem deltaB_len (b : List Nat) (n : Nat) : (deltaB b n).length = b.length := by
  unfold deltaB rest; rw [List.length_append, jn_len, List.length_drop]; have := Nat.div_mul_le_self b.length n; omega
theorem undeltaB_len (b : List Nat) (n : Nat) : (undeltaB b n).length = b.length := by
  unfold undeltaB rest; rw [List.length_append, jn_len, List.length_drop]; have := Nat.div_mul_le_self b.length n; omega
theorem deltaB_bytes {b : List Nat} (hb : Bytes b) (n : Nat) : Bytes (deltaB b n) := (jn_bytes _ _ _).app (hb.drop _)
theorem undeltaB_bytes {b : List Nat} (hb : Bytes b) (n : Nat) : Bytes (undeltaB b n) := (jn_bytes _ _ _).app (hb.drop _)
theorem mod_add_congr {M a b c d : Nat} (h1 : a % M = b % M) (h2 : c % M = d % M) : (a + c) % M = (b + d) % M := by rw [Nat.add_mod, h1, h2, ← Nat.add_mod]
theorem dl_congr {M : Nat} (hM : M ∣ 2 ^ 64) {l l' : Nat → Nat} : ∀ {j : Nat}, (∀ i, i ≤ j → l i % M = l' i % M) → dl l j % M = dl l' j % M
  | 0, h => h 0 (Nat.le_refl _)
  | j + 1, h => by
    have hlt := Nat.mod_lt (l j) (by decide : 0 < 2 ^ 64)
    have hlt' := Nat.mod_lt (l' j) (by decide : 0 < 2 ^ 64)
    have h0 : l j % 2 ^ 64 % M = l' j % 2 ^ 64 % M := by rw [Nat.mod_mod_of_dvd _ hM, Nat.mod_mod_of_dvd _ hM]; exact h j (by omega)
    show _ % 2 ^ 64 % M = _ % 2 ^ 64 % M
    rw [Nat.mod_mod_of_dvd _ hM, Nat.mod_mod_of_dvd _ hM]
    refine mod_add_congr (h _ (Nat.le_refl _)) ?_
    generalize l j % 2 ^ 64 = x at *
    generalize l' j % 2 ^ 64 = y at *
    generalize 2 ^ 64 = N at *
    obtain ⟨q, rfl⟩ := hM
    have e1 := Nat.div_add_mod x M
    have e2 := Nat.div_add_mod y M
    rcases Nat.lt_or_ge x y with hxy | hxy
    · obtain ⟨k, hk⟩ : ∃ k, y = x + M * k := ⟨y / M - x / M, by rw [Nat.mul_sub]; have : M * (x / M) ≤ M * (y / M) := Nat.mul_le_mul_left _ (Nat.div_le_div_right (Nat.le_of_lt hxy)); omega⟩
      rw [show M * q - x = M * q - y + M * k by omega, Nat.add_mul_mod_self_left]
    · obtain ⟨k, hk⟩ : ∃ k, x = y + M * k := ⟨x / M - y / M, by rw [Nat.mul_sub]; have : M * (y / M) ≤ M * (x / M) := Nat.mul_le_mul_left _ (Nat.div_le_div_right hxy); omega⟩
      rw [show M * q - y = M * q - x + M * k by omega, Nat.add_mul_mod_self_left]
theorem sm_congr {M : Nat} (hM : M ∣ 2 ^ 64) {l l' : Nat → Nat} : ∀ {j : Nat}, (∀ i, i ≤ j → l i % M = l' i % M) → sm l j % M = sm l' j % M
  | 0, h => by show _ % 2 ^ 64 % M = _ % 2 ^ 64 % M; rw [Nat.mod_mod_of_dvd _ hM, Nat.mod_mod_of_dvd _ hM]; exact h 0 (Nat.le_refl _)
  | j + 1, h => by
    show _ % 2 ^ 64 % M = _ % 2 ^ 64 % M
    rw [Nat.mod_mod_of_dvd _ hM, Nat.mod_mod_of_dvd _ hM]
    exact mod_add_congr (sm_congr hM fun i hi => h i (by omega)) (h _ (Nat.le_refl _))
theorem sm_dl (l : Nat → Nat) : ∀ j, sm (dl l) j = l j % 2 ^ 64
  | 0 => rfl
  | j + 1 => by
    show (sm (dl l) j + dl l (j + 1)) % 2 ^ 64 = _
    rw [sm_dl l j]
    show (l j % 2 ^ 64 + (l (j + 1) + (2 ^ 64 - l j % 2 ^ 64)) % 2 ^ 64) % 2 ^ 64 = _
    omega
theorem dl_sm (l : Nat → Nat) : ∀ j, dl (sm l) j % 2 ^ 64 = l j % 2 ^ 64
  | 0 => by show l 0 % 2 ^ 64 % 2 ^ 64 = _; omega
  | j + 1 => by
    show ((sm l j + l (j + 1)) % 2 ^ 64 + (2 ^ 64 - sm l j % 2 ^ 64)) % 2 ^ 64 % 2 ^ 64 = _
    have := sm_lt l j
    omega
theorem undelta_delta {b : List Nat} (hb : Bytes b) {n : Nat} (h1 : 0 < n) (h8 : n ≤ 8) : undeltaB (deltaB b n) n = b := by
  have hr := rest_len b h1
  unfold undeltaB
  rw [show deltaB b n = jn (dl (G b n)) n (b.length / n) ++ rest b n from rfl, groups_of _ h1 hr, rest_of _ h1 hr]
  refine Eq.trans (congrArg (· ++ rest b n) (jn_congr fun j hj => gb_congr ?_)) (whole hb n)
  have e := sm_congr (pow_le h8) (l := G (jn (dl (G b n)) n (b.length / n) ++ rest b n) n) (l' := dl (G b n)) (j := j) fun i hi => by
    rw [G_jn _ _ _ (by omega), Nat.mod_mod]
  rw [e, sm_dl, Nat.mod_mod_of_dvd _ (pow_le h8)]
theorem delta_undelta {b : List Nat} (hb : Bytes b) {n : Nat} (h1 : 0 < n) (h8 : n ≤ 8) : deltaB (undeltaB b n) n = b := by
  have hr := rest_len b h1
  unfold deltaB
  rw [show undeltaB b n = jn (sm (G b n)) n (b.length / n) ++ rest b n from rfl, groups_of _ h1 hr, rest_of _ h1 hr]
  refine Eq.trans (congrArg (· ++ rest b n) (jn_congr fun j hj => gb_congr ?_)) (whole hb n)
  have e := dl_congr (pow_le h8) (l := G (jn (sm (G b n)) n (b.length / n) ++ rest b n) n) (l' := sm (G b n)) (j := j) fun i hi => by
    rw [G_jn _ _ _ (by omega), Nat.mod_mod]
  rw [e, ← Nat.mod_mod_of_dvd _ (pow_le h8), dl_sm, Nat.mod_mod_of_dvd _ (pow_le h8)]

/-- Differences so far: what stands in memory when so many groups have been written. -/
def dst (f : Nat → Nat) (b : List Nat) (n j : Nat) : List Nat := jn f n j ++ b.drop (j * n)
theorem dst_len (f : Nat → Nat) {b : List Nat} {n j : Nat} (h : j * n ≤ b.length) : (dst f b n j).length = b.length := by
  unfold dst; rw [List.length_append, jn_len, List.length_drop]; omega
theorem dst_one (f : Nat → Nat) {b : List Nat} (hb : Bytes b) {n : Nat} (h : n ≤ b.length) (hn : 0 < n) (h0 : f 0 % 256 ^ n = G b n 0 % 256 ^ n) : dst f b n 1 = b := by
  unfold dst
  show ([] ++ gb n (f 0)) ++ b.drop (1 * n) = b
  rw [List.nil_append, gb_congr h0, gb_G hb (Nat.div_pos h hn), Nat.zero_mul, Nat.one_mul, List.drop_zero, List.take_append_drop]
theorem dst_all (f : Nat → Nat) (b : List Nat) (n : Nat) : dst f b n (b.length / n) = jn f n (b.length / n) ++ rest b n := rfl
theorem dst_step (f : Nat → Nat) (b : List Nat) (n j : Nat) : (dst f b n j).take (j * n) ++ gb n (f j) ++ (dst f b n j).drop (j * n + n) = dst f b n (j + 1) := by
  have hl : (jn f n j).length = j * n := jn_len _ _ _
  unfold dst
  rw [List.take_append_of_le_length (by omega), List.take_of_length_le (by omega), List.drop_append, List.drop_of_length_le (by omega), List.nil_append, List.drop_drop, hl,
    show j * n + (j * n + n - j * n) = (j + 1) * n by rw [Nat.succ_mul]; omega]
  rfl
/-- The last group that has been written. -/
theorem dst_last (f : Nat → Nat) {b : List Nat} {n j : Nat} (hj : 1 ≤ j) : gv (((dst f b n j).drop (j * n - n)).take n) = f (j - 1) % 256 ^ n := by
  have := G_jn f n (b.drop (j * n)) (show j - 1 < j by omega)
  unfold G at this
  rw [← this, Nat.sub_mul, Nat.one_mul]; rfl
theorem G_at (b : List Nat) (n j : Nat) : gv ((b.drop (j * n - n)).take n) = G b n (j - 1) := by
  unfold G; rw [Nat.sub_mul, Nat.one_mul]
theorem short_all {f : Nat → Nat} {b : List Nat} (hb : Bytes b) {n : Nat} (h1 : 1 ≤ n) (h : b.length < n + n) (h0 : f 0 % 256 ^ n = G b n 0 % 256 ^ n) : jn f n (b.length / n) ++ rest b n = b := by
  rw [← dst_all]
  rcases Nat.lt_or_ge b.length n with h2 | h2
  · rw [Nat.div_eq_of_lt h2]; simp [dst, jn]
  · have : b.length / n = 1 := Nat.div_eq_of_lt_le (by omega) (by omega)
    rw [this]; exact dst_one f hb h2 h1 h0
/-- Where the byte at place t of shuffled bytes comes from. -/
def pl (len n t : Nat) : Nat := if t < len / n * n then t % (len / n) * n + t / (len / n) else t
/-- Where the byte at place x goes. -/
def ql (len n x : Nat) : Nat := if x < len / n * n then x % n * (len / n) + x / n else x
theorem pair_lt {a b m n : Nat} (ha : a < m) (hb : b < n) : a * n + b < m * n := by
  have : (a + 1) * n ≤ m * n := Nat.mul_le_mul_right _ ha
  rw [Nat.succ_mul] at this; omega
theorem pair_div {a b n : Nat} (hb : b < n) : (a * n + b) / n = a := by
  rw [Nat.mul_comm, Nat.mul_add_div (by omega), Nat.div_eq_of_lt hb]; omega
theorem pair_mod {a b n : Nat} (hb : b < n) : (a * n + b) % n = b := by rw [Nat.mul_comm, Nat.mul_add_mod, Nat.mod_eq_of_lt hb]
theorem split_lt {x m n : Nat} (h : x < m * n) : x / n < m ∧ x % n < n := by
  have hn : 0 < n := Nat.pos_of_ne_zero fun e => by subst e; omega
  exact ⟨Nat.div_lt_of_lt_mul (by rw [Nat.mul_comm]; exact h), Nat.mod_lt _ hn⟩
theorem split_eq (x n : Nat) : x / n * n + x % n = x := by rw [Nat.mul_comm]; exact Nat.div_add_mod x n
theorem pl_ql {len n x : Nat} (h : x < len) : pl len n (ql len n x) = x ∧ ql len n x < len := by
  have hl := Nat.div_mul_le_self len n
  unfold pl ql
  by_cases hx : x < len / n * n
  · obtain ⟨h1, h2⟩ := split_lt hx
    rw [if_pos hx]
    have h3 := pair_lt h2 h1
    have h4 : n * (len / n) = len / n * n := Nat.mul_comm _ _
    rw [if_pos (by omega), pair_mod h1, pair_div h1, split_eq]
    exact ⟨rfl, by omega⟩
  · rw [if_neg hx, if_neg hx]; exact ⟨rfl, h⟩
theorem ql_pl {len n t : Nat} (h : t < len) : ql len n (pl len n t) = t ∧ pl len n t < len := by
  have hl := Nat.div_mul_le_self len n
  unfold pl ql
  by_cases hx : t < len / n * n
  · rw [if_pos hx]
    obtain ⟨h1, h2⟩ := split_lt (by rw [Nat.mul_comm] at hx; exact hx : t < n * (len / n))
    have h3 := pair_lt h2 h1
    rw [if_pos h3, pair_mod h1, pair_div h1, split_eq]
    exact ⟨rfl, by omega⟩
  · rw [if_neg hx, if_neg hx]; exact ⟨rfl, h⟩
def shufB (b : List Nat) (n : Nat) : List Nat := (List.range b.length).map fun t => b.getD (pl b.length n t) 0
def unshB (b : List Nat) (n : Nat) : List Nat := (List.range b.length).map fun x => b.getD (ql b.length n x) 0
theorem shufB_len (b : List Nat) (n : Nat) : (shufB b n).length = b.length := by simp [shufB]
theorem unshB_len (b : List Nat) (n : Nat) : (unshB b n).length = b.length := by simp [unshB]
theorem shufB_at (b : List Nat) (n : Nat) {t : Nat} (h : t < b.length) : (shufB b n).getD t 0 = b.getD (pl b.length n t) 0 := by
  simp [shufB, List.getD_eq_getElem?_getD, List.getElem?_range h]
theorem unshB_at (b : List Nat) (n : Nat) {t : Nat} (h : t < b.length) : (unshB b n).getD t 0 = b.getD (ql b.length n t) 0 := by
  simp [unshB, List.getD_eq_getElem?_getD, List.getElem?_range h]
theorem ext_getD {a b : List Nat} (hl : a.length = b.length) (h : ∀ i, i < a.length → a.getD i 0 = b.getD i 0) : a = b := by
  apply List.ext_getElem hl
  intro i h1 h2
  have := h i h1
  simpa [List.getD_eq_getElem?_getD, List.getElem?_eq_getElem h1, List.getElem?_eq_getElem h2] using this
theorem unsh_shuf (b : List Nat) (n : Nat) : unshB (shufB b n) n = b := by
  apply ext_getD (by rw [unshB_len, shufB_len])
  intro i hi
  rw [unshB_len, shufB_len] at hi
  obtain ⟨h1, h2⟩ := pl_ql (n := n) hi
  rw [unshB_at _ _ (by rw [shufB_len]; exact hi), shufB_len, shufB_at _ _ h2, h1]
theorem shuf_unsh (b : List Nat) (n : Nat) : shufB (unshB b n) n = b := by
  apply ext_getD (by rw [shufB_len, unshB_len])
  intro i hi
  rw [shufB_len, unshB_len] at hi
  obtain ⟨h1, h2⟩ := ql_pl (n := n) hi
  rw [shufB_at _ _ (by rw [unshB_len]; exact hi), unshB_len, unshB_at _ _ h2, h1]
theorem getD_bytes {b : List Nat} (hb : Bytes b) (f : Nat → Nat) (l : List Nat) : Bytes (l.map fun t => b.getD (f t) 0) := by
  intro x hx
  obtain ⟨t, _, rfl⟩ := List.mem_map.1 hx
  exact hb.at_ _
theorem shufB_bytes {b : List Nat} (hb : Bytes b) (n : Nat) : Bytes (shufB b n) := getD_bytes hb _ _
theorem unshB_bytes {b : List Nat} (hb : Bytes b) (n : Nat) : Bytes (unshB b n) := getD_bytes hb _ _
/-- The places, as they are written one behind the other. -/
theorem pl_group {len n k g : Nat} (hg : g < len / n) (hk : k < n) : pl len n (k * (len / n) + g) = g * n + k := by
  unfold pl
  have h1 := pair_lt hk hg
  rw [Nat.mul_comm n] at h1
  rw [if_pos h1, pair_mod hg, pair_div hg]
theorem ql_group {len n i j : Nat} (hi : i < len / n) (hj : j < n) : ql len n (i * n + j) = j * (len / n) + i := by
  unfold ql
  rw [if_pos (pair_lt hi hj), pair_mod hj, pair_div hj]
theorem pl_rest {len n t : Nat} (h : len / n * n ≤ t) : pl len n t = t := by unfold pl; rw [if_neg (by omega)]
theorem ql_rest {len n t : Nat} (h : len / n * n ≤ t) : ql len n t = t := by unfold ql; rw [if_neg (by omega)]
/-- A list of length m whose entries are known is a map over a range. -/
theorem map_range_snoc {α : Type} (f : Nat → α) (m : Nat) : (List.range (m + 1)).map f = (List.range m).map f ++ [f m] := by
  rw [List.range_succ, List.map_append]; rfl
theorem map_rest (b : List Nat) (f : Nat → Nat) {m : Nat} (hm : m ≤ b.length) (hf : ∀ t, m ≤ t → f t = t) :
    (List.range m).map (fun t => b.getD (f t) 0) ++ b.drop m = (List.range b.length).map fun t => b.getD (f t) 0 := by
  apply ext_getD (by simp; omega)
  intro i hi
  simp only [List.length_append, List.length_map, List.length_range, List.length_drop] at hi
  rcases Nat.lt_or_ge i m with h | h
  · simp [List.getD_eq_getElem?_getD, List.getElem?_append, h, List.getElem?_range (show i < b.length by omega)]
  · simp [List.getD_eq_getElem?_getD, List.getElem?_append, Nat.not_lt.2 h, List.getElem?_range (show i < b.length by omega), hf i h, show m + (i - m) = i by omega]

/-- So many bytes, each as it stands d bytes in front of the end. -/
def rep (d : Nat) (out : List Nat) : Nat → List Nat
  | 0 => out
  | k + 1 => rep d out k ++ [(rep d out k).getD ((rep d out k).length - d) 0]
theorem rep_len (d : Nat) (out : List Nat) : ∀ k, (rep d out k).length = out.length + k
  | 0 => rfl
  | k + 1 => by rw [rep, List.length_append, rep_len d out k]; rfl
theorem rep_bytes {d : Nat} {out : List Nat} (h : Bytes out) : ∀ k, Bytes (rep d out k)
  | 0 => h
  | k + 1 => (rep_bytes h k).app (bytes_one ((rep_bytes h k).at_ _))
/-- The tokens from a place on, behind bytes that have been decoded: an error, or all bytes. -/
def und (b out : List Nat) : Nat × List Nat :=
  match b with
  | [] => (0, out)
  | c :: r =>
    if c < 128 then
      if r.length < c + 1 then (5, [])
      else if out.length + (c + 1) > 1048576 then (4, [])
      else und (r.drop (c + 1)) (out ++ r.take (c + 1))
    else
      if r.length < 2 then (5, [])
      else if r.getD 0 0 * 256 + r.getD 1 0 = 0 ∨ r.getD 0 0 * 256 + r.getD 1 0 > out.length then (5, [])
      else if out.length + (c - 124) > 1048576 then (4, [])
      else und (r.drop 2) (rep (r.getD 0 0 * 256 + r.getD 1 0) out (c - 124))
termination_by b.length
decreasing_by all_goals (simp; omega)
theorem und_nil (out : List Nat) : und [] out = (0, out) := by rw [und]
section
variable {c : Nat} {r out : List Nat}
theorem und_lit_short (h : c < 128) (h1 : r.length < c + 1) : und (c :: r) out = (5, []) := by rw [und, if_pos h, if_pos h1]
theorem und_lit_long (h : c < 128) (h1 : ¬ r.length < c + 1) (h2 : out.length + (c + 1) > 1048576) : und (c :: r) out = (4, []) := by rw [und, if_pos h, if_neg h1, if_pos h2]
theorem und_lit (h : c < 128) (h1 : ¬ r.length < c + 1) (h2 : ¬ out.length + (c + 1) > 1048576) : und (c :: r) out = und (r.drop (c + 1)) (out ++ r.take (c + 1)) := by rw [und, if_pos h, if_neg h1, if_neg h2]
theorem und_rep_short (h : ¬ c < 128) (h1 : r.length < 2) : und (c :: r) out = (5, []) := by rw [und, if_neg h, if_pos h1]
theorem und_rep_far (h : ¬ c < 128) (h1 : ¬ r.length < 2) (h2 : r.getD 0 0 * 256 + r.getD 1 0 = 0 ∨ r.getD 0 0 * 256 + r.getD 1 0 > out.length) : und (c :: r) out = (5, []) := by rw [und, if_neg h, if_neg h1, if_pos h2]
theorem und_rep_long (h : ¬ c < 128) (h1 : ¬ r.length < 2) (h2 : ¬ (r.getD 0 0 * 256 + r.getD 1 0 = 0 ∨ r.getD 0 0 * 256 + r.getD 1 0 > out.length)) (h3 : out.length + (c - 124) > 1048576) : und (c :: r) out = (4, []) := by
  rw [und, if_neg h, if_neg h1, if_neg h2, if_pos h3]
theorem und_rep (h : ¬ c < 128) (h1 : ¬ r.length < 2) (h2 : ¬ (r.getD 0 0 * 256 + r.getD 1 0 = 0 ∨ r.getD 0 0 * 256 + r.getD 1 0 > out.length)) (h3 : ¬ out.length + (c - 124) > 1048576) :
    und (c :: r) out = und (r.drop 2) (rep (r.getD 0 0 * 256 + r.getD 1 0) out (c - 124)) := by
  rw [und, if_neg h, if_neg h1, if_neg h2, if_neg h3]
end
end Go.Proofs.YtpkhgdnkkdhlcaaGreatDoor.By

namespace Go.Proofs.YtpkhgdnkkdhlcaaGreatDoor
open Go.RowKit

theorem wrap_u64 {a : Nat} (h : a < 2 ^ 64) : IntKind.u64.wrap (a : Int) = (a : Int) := by
  unfold IntKind.wrap; simp [IntKind.signed, IntKind.bits]; omega
theorem wrap_u32 {a : Nat} (h : a < 2 ^ 32) : IntKind.u32.wrap (a : Int) = (a : Int) := by
  unfold IntKind.wrap; simp [IntKind.signed, IntKind.bits]; omega
theorem wrap_u8 {a : Nat} (h : a < 2 ^ 8) : IntKind.u8.wrap (a : Int) = (a : Int) := by
  unfold IntKind.wrap; simp [IntKind.signed, IntKind.bits]; omega
theorem or_u64 {a b : Nat} (ha : a < 2 ^ 64) (hb : b < 2 ^ 64) : bits .or .u64 (a : Int) (b : Int) = ((a ||| b : Nat) : Int) := by
  show IntKind.u64.wrap ((BitVec.ofInt 64 (a : Int) ||| BitVec.ofInt 64 (b : Int)).toNat : Int) = _
  rw [BitVec.ofInt_natCast, BitVec.ofInt_natCast, BitVec.toNat_or, BitVec.toNat_ofNat, BitVec.toNat_ofNat, Nat.mod_eq_of_lt ha, Nat.mod_eq_of_lt hb]
  exact wrap_u64 (Nat.or_lt_two_pow ha hb)
theorem or_byte {g x : Nat} (hg : g < 2 ^ 56) (hx : x < 256) : bits .or .u64 (IntKind.u64.wrap ((g : Int) * 256)) (x : Int) = ((g * 256 + x : Nat) : Int) := by
  rw [show (g : Int) * 256 = ((g * 256 : Nat) : Int) by omega, wrap_u64 (by omega), or_u64 (by omega) (by omega)]
  have := Nat.shiftLeft_add_eq_or_of_lt (i := 8) (show x < 2 ^ 8 from hx) g
  rw [Nat.shiftLeft_eq] at this
  rw [← this]
theorem sub_u64 {a b : Nat} : IntKind.u64.wrap ((a : Int) - (b : Int)) = (((a + (2 ^ 64 - b % 2 ^ 64)) % 2 ^ 64 : Nat) : Int) := by
  unfold IntKind.wrap; simp [IntKind.signed, IntKind.bits]; omega
theorem add_u64 {a b : Nat} : IntKind.u64.wrap ((a : Int) + (b : Int)) = (((a + b) % 2 ^ 64 : Nat) : Int) := by
  unfold IntKind.wrap; simp [IntKind.signed, IntKind.bits]
theorem or_u8 {a b : Nat} (ha : a < 256) (hb : b < 256) : bits .or .u8 (a : Int) (b : Int) = ((a ||| b : Nat) : Int) := by
  show IntKind.u8.wrap ((BitVec.ofInt 8 (a : Int) ||| BitVec.ofInt 8 (b : Int)).toNat : Int) = _
  rw [BitVec.ofInt_natCast, BitVec.ofInt_natCast, BitVec.toNat_or, BitVec.toNat_ofNat, BitVec.toNat_ofNat, Nat.mod_eq_of_lt (show a < 2 ^ 8 from ha), Nat.mod_eq_of_lt (show b < 2 ^ 8 from hb)]
  exact wrap_u8 (Nat.or_lt_two_pow (n := 8) ha hb)
theorem or_i64 {a b : Nat} (ha : a < 2 ^ 40) (hb : b < 256) : bits .or .i64 ((a : Int) * 256) (b : Int) = ((a * 256 + b : Nat) : Int) := by
  show IntKind.i64.wrap ((BitVec.ofInt 64 ((a : Int) * 256) ||| BitVec.ofInt 64 (b : Int)).toNat : Int) = _
  rw [show (a : Int) * 256 = ((a * 256 : Nat) : Int) by omega, BitVec.ofInt_natCast, BitVec.ofInt_natCast, BitVec.toNat_or, BitVec.toNat_ofNat, BitVec.toNat_ofNat, Nat.mod_eq_of_lt (show a * 256 < 2 ^ 64 by omega), Nat.mod_eq_of_lt (show b < 2 ^ 64 by omega)]
  have := Nat.shiftLeft_add_eq_or_of_lt (i := 8) (show b < 2 ^ 8 from hb) a
  rw [Nat.shiftLeft_eq] at this
  rw [← this]
  unfold IntKind.wrap
  simp [IntKind.signed, IntKind.bits]
  omega
end Go.Proofs.YtpkhgdnkkdhlcaaGreatDoor

namespace Go.Proofs.YtpkhgdnkkdhlcaaGreatDoor
open Go.RowKit By

theorem Tryz.u8c_info : (Tryz.prog.info? 5).map (fun i => (i.zero, i.size, i.bytes)) = some (some (.int .u8 0), 1, 1) := by kernel_rfl

set_option maxHeartbeats 400000 in
theorem number_any (A : Option Addr) (c n : Nat) (l : List Nat) (w : World) (hn : l.length = n) (h8 : n ≤ 8) (hl : Bytes l) (h : Rd w w.heap.size A (ints .u8 l)) :
    Calls Tryz.prog 157 #[.slice A n c] w fun e w' => w = w' ∧ e = .returned (.int .u64 ((gv l : Nat) : Int)) := by
  subst hn
  go_enter Tryz.func157, Tryz.ntmps157
  go_wp2
  go_loop [3, 8] (fun o i => ∃ k : Nat, k ≤ l.length ∧ i = .int .i64 k ∧ o = .int .u64 ((gv (l.take k) : Nat) : Int)) (fun _ i => l.length - (intOf i).toNat)
  case atStart => exact ⟨0, Nat.zero_le _, rfl, rfl⟩
  case round =>
    obtain ⟨k, hk, rfl, rfl⟩ := hrel
    by_cases hlt : k < l.length
    · obtain ⟨ad, rfl, hb, hcell⟩ := h.int (j := k) hlt
      have hx : l.getD k 0 < 256 := hl.at_ k
      have hg : gv (l.take k) < 2 ^ 56 := Nat.lt_of_lt_of_le (gv_lt (n := k) (l := l.take k) (by simp; omega) (hl.take _)) (by
        rw [show (2 : Nat) ^ 56 = 256 ^ 7 from rfl]; exact Nat.pow_le_pow_right (by decide) (by omega))
      have HS : Hid (gv (l.take (k + 1)) = gv (l.take k) * 256 + l.getD k 0) := by
        show _ = _
        rw [List.take_succ_eq_append_getElem hlt, gv_snoc, List.getD_eq_getElem?_getD, List.getElem?_eq_getElem hlt]; rfl
      have HO := Lib.hid (or_byte hg hx)
      clear hg
      generalize l.getD k 0 = x at *
      generalize gv (l.take k) = g at *
      go_wp2
      go_round
      case rel => exact ⟨k + 1, by omega, by go_num, by rw [HO.out, HS.out]⟩
      case measure => simp [intOf]; omega
    · have HE : Hid (l.take k = l) := List.take_of_length_le (by omega)
      go_wp2
      go_ret
      exact ⟨rfl, by rw [HE.out]; rfl⟩

theorem gb_cons : ∀ (n x : Nat), gb (n + 1) x = (x / 256 ^ n % 256) :: gb n x
  | 0, x => by simp [gb]
  | n + 1, x => by
    have e : gb (n + 1) x = gb n (x / 256) ++ [x % 256] := rfl
    rw [gb, gb_cons n (x / 256), e, Nat.div_div_eq_div_mul, Nat.pow_succ, Nat.mul_comm 256]; rfl
theorem put_step {zs : List Nat} {o n t X : Nat} (ht : t < n) (hz : o + n ≤ zs.length) :
    (zs.take (o + (t + 1)) ++ gb (n - (t + 1)) X ++ zs.drop (o + n)).set (o + t) (X / 256 ^ (n - (t + 1)) % 256) = zs.take (o + t) ++ gb (n - t) X ++ zs.drop (o + n) := by
  obtain ⟨m, rfl⟩ : ∃ m, n = t + 1 + m := ⟨n - (t + 1), by omega⟩
  rw [show t + 1 + m - (t + 1) = m by omega, show t + 1 + m - t = m + 1 by omega, gb_cons]
  rw [show o + (t + 1) = o + t + 1 by omega, List.take_succ_eq_append_getElem (by omega)]
  simp only [List.append_assoc, List.cons_append, List.nil_append]
  rw [List.set_append_right _ _ (by simp; omega)]
  simp [Nat.min_eq_left (show o + t ≤ zs.length by omega)]

set_option maxHeartbeats 800000 in
/-- A number is written into a group of a row. -/
theorem put_any (g o n c X : Nat) (zs : List Nat) (w : World) (hz : o + n ≤ zs.length) (h8 : n ≤ 1000000) (hX : X < 2 ^ 64) (h : Row w g 5 .u8 zs) :
    Calls Tryz.prog 105 #[.slice (some ⟨g, o, none⟩) n c, .int .u64 (X : Int)] w fun e w' => (∃ v, e = .returned v) ∧ w.grownBy w' (some g) ∧ w'.heap.size = w.heap.size ∧ Row w' g 5 .u8 (zs.take o ++ gb n X ++ zs.drop (o + n)) := by
  have HX := Lib.hid hX
  clear hX
  go_enter Tryz.func105, Tryz.ntmps105
  go_wp2
  go_loopw [1, 4] (fun x i wr => ∃ t : Nat, t ≤ n ∧ ((t = 0 ∧ i = .int .i64 (-1)) ∨ (∃ s : Nat, t = s + 1 ∧ i = .int .i64 s)) ∧ x = .int .u64 ((X / 256 ^ (n - t) : Nat) : Int) ∧
      Hid (Row wr g 5 .u8 (zs.take (o + t) ++ gb (n - t) X ++ zs.drop (o + n))) ∧ w.grownBy wr (some g) ∧ wr.heap.size = w.heap.size) (fun _ i _ => (intOf i + 1).toNat)
  case atStart =>
    refine ⟨n, Nat.le_refl _, ?_, by rw [Nat.sub_self, Nat.pow_zero, Nat.div_one], ?_, grown_refl _ _, rfl⟩
    · rcases n with _ | m
      · exact .inl ⟨rfl, rfl⟩
      · exact .inr ⟨m, rfl, by go_num⟩
    · show Row _ _ _ _ _
      rw [Nat.sub_self]; simpa [gb] using h
  case round =>
    obtain ⟨t, ht, hi, rfl, HR, hg, hs⟩ := hrel
    rcases hi with ⟨rfl, rfl⟩ | ⟨s, rfl, rfl⟩
    · generalize X / 256 ^ (n - 0) = y at *
      clear h
      go_wp2
      go_end0
      exact ⟨⟨_, rfl⟩, hg, hs, HR.out⟩
    · have HS : Hid (X / 256 ^ (n - s) = X / 256 ^ (n - (s + 1)) / 256) := by
        show _ = _
        rw [Nat.div_div_eq_div_mul, show n - s = n - (s + 1) + 1 by omega, Nat.pow_succ]
      have HP := Lib.hid (put_step (zs := zs) (o := o) (X := X) ht hz)
      have hlen : o + s < (zs.take (o + (s + 1)) ++ gb (n - (s + 1)) X ++ zs.drop (o + n)).length := by simp [gb_len]; omega
      have hc := HR.out.cell hlen
      have hf := HR.out.frozen (o + s)
      have HR' : Hid (∀ y, Row (wr.setCell ⟨g, o + s, none⟩ (.int .u8 ((y : Nat) : Int))) g 5 .u8 ((zs.take (o + (s + 1)) ++ gb (n - (s + 1)) X ++ zs.drop (o + n)).set (o + s) y)) := fun y => HR.out.put hlen y
      clear h hlen
      generalize (zs.take (o + (s + 1)) ++ gb (n - (s + 1)) X ++ zs.drop (o + n)).getD (o + s) 0 = old at *
      generalize X / 256 ^ (n - (s + 1)) = y at *
      go_wp2
      go_roundw
      case rel =>
        refine ⟨s, by omega, ?_, by rw [HS.out]; go_num, ?_, ?_, by simpa [World.setCell] using hs⟩
        · rcases s with _ | m
          · exact .inl ⟨rfl, rfl⟩
          · exact .inr ⟨m, rfl, by go_num⟩
        · show Row _ _ _ _ _
          rw [← HP.out]
          have := HR'.out (y % 256)
          rwa [Int.natCast_emod] at this
        · exact grown_trans hg (grown_setCell wr ⟨g, o + s, none⟩ _)
      case measure => simp [intOf]
end Go.Proofs.YtpkhgdnkkdhlcaaGreatDoor

namespace Go.Proofs.YtpkhgdnkkdhlcaaGreatDoor
open Go.RowKit By

/-- Numbers as a slice, nil too. -/
def IsL (w : World) (B : Nat) (k : IntKind) (v : Value) (l : List Nat) : Prop := ∃ A c, v = .slice A l.length c ∧ l.length ≤ c ∧ Rd w B A (ints k l)
section
variable {w w' : World} {B B' : Nat} {k : IntKind} {v : Value} {l : List Nat}
theorem IsL.more (h : IsL w B k v l) (hB : B ≤ B') : IsL w B' k v l := by obtain ⟨A, c, e, h1, h3⟩ := h; exact ⟨A, c, e, h1, h3.more hB⟩
theorem IsL.below (h : IsL w B k v l) (hb : Below B w w') : IsL w' B k v l := by obtain ⟨A, c, e, h1, h3⟩ := h; exact ⟨A, c, e, h1, h3.below hb⟩
theorem IsL.next (h : IsL w w.heap.size k v l) (hb : Below w.heap.size w w') : IsL w' w'.heap.size k v l := (h.below hb).more hb.size
theorem IsL.nil (w : World) (B : Nat) (k : IntKind) : IsL w B k (.slice none 0 0) [] := ⟨none, 0, rfl, Nat.le_refl _, Rd.nil⟩
theorem IsL.of_own {base : Nat} {T : TypeId} {n : Nat} (h : w.ownsRow base T 1 v n (ints k l)) : IsL w w.heap.size k v l := by
  have hl : l.length = n := by have := h.1; rwa [ints_length, Nat.mul_one] at this
  rcases h.2 with ⟨rfl, rfl⟩ | ⟨g, cap, cur, rfl, _, _, hc, _⟩
  · obtain rfl : l = [] := List.eq_nil_of_length_eq_zero hl
    exact IsL.nil _ _ _
  · exact ⟨_, cap, by rw [hl], by omega, Rd.of_own h⟩
theorem IsL.drewN (h : IsL w B k v l) (n : Nat) : IsL (w.drewN n) B k v l := h
theorem IsL.alloc (h : IsL w w.heap.size k v l) (o : Obj) : IsL (w.alloc o) (w.alloc o).heap.size k v l := h.next ((Below.refl _ _).alloc (Nat.le_refl _) _)
theorem IsL.row {g : Nat} {T : TypeId} {c : Nat} (h : Row w g T k l) (hc : l.length ≤ c) : IsL w w.heap.size k (.slice (some ⟨g, 0, none⟩) l.length c) l := ⟨_, c, rfl, hc, h.all⟩
end

set_option maxHeartbeats 400000 in
theorem clone8_any (A : Option Addr) (n c : Nat) (l : List Nat) (w : World) (hn : l.length = n) (hm : n ≤ 4000000000000) (h : Rd w w.heap.size A (ints .u8 l)) :
    Calls Tryz.prog 156 #[.slice A n c] w fun e w' => Below w.heap.size w w' ∧ ∃ v, e = .returned v ∧ w'.ownsRow w.heap.size 5 1 v n (ints .u8 l) := by
  obtain ⟨i0, hi0, hz0, hz1, hz2⟩ := info_parts Tryz.u8c_info
  have hnil := fun W => Lib.run_eql_slice_nil (P := Tryz.prog) W 25 5 A n c 0 0 Tryz.underlying25
  rcases A with _ | ad
  · have hl : l = [] := by
      rcases Classical.em (l = []) with h0 | h0
      · exact h0
      · obtain ⟨_, h2, _⟩ := h (by simpa [ints] using h0)
        cases h2
    subst hl
    obtain rfl : n = 0 := by simpa using hn.symm
    go_enter Tryz.func156, Tryz.ntmps156
    go_wp2
    go_ret
    exact ⟨Below.refl _ _, _, rfl, World.ownsRow_nil _ _ _ _⟩
  · have hle : l.length = n := hn
    have HN := Lib.hid hn
    clear hn
    go_enter Tryz.func156, Tryz.ntmps156
    go_wp2_with (at_builtin; refine wpL_append _ rfl (.tmp 5) (.tmp 6) _ rfl w.heap.size 5 i0 _ 1 1 Tryz.underlying25 hi0 hz0 hz1 hz2 rfl (by omega) _ 0 [] rfl (World.ownsRow_made _ _ 0 (Nat.le_refl _) (by unfold maxLen; omega) rfl) (some ad) n c (ints .u8 l) rfl (by rw [ints_length, Nat.mul_one]; exact HN.out) (h.alloc (Nat.le_refl _) _) (ints_one _ _) (by unfold maxLen; omega) (by omega) (by simp) ?_; intro v1 w1 hown1 hg1 hat1)
    go_ret
    refine ⟨below_app ((Below.refl _ _).alloc (Nat.le_refl _) _) hg1 (by simp) (World.ownsRow_made (base := w.heap.size) (e := 5) (size := 1) w #[] 0 (Nat.le_refl _) (by unfold maxLen; omega) rfl) (Nat.le_refl _), v1, rfl, ?_⟩
    simpa using hown1

/-- The first error of bytes in groups. -/
def grE (n : Int) (m : Nat) : Int := if n < 1 ∨ 8 < n then 2 else if 1048576 < m then 4 else 0
set_option maxHeartbeats 400000 in
theorem grouped_any (A : Option Addr) (m c : Nat) (n : Int) (w : World) (hm : m ≤ 4000000000000) :
    Calls Tryz.prog 155 #[.slice A m c, .int .i64 n] w fun e w' => w = w' ∧ e = .returned (.int .i64 (grE n m)) := by
  rcases Classical.em (n < 1) with h1 | h1
  · have e : grE n m = 2 := if_pos (.inl h1)
    rw [e]; clear e
    go_enter Tryz.func155, Tryz.ntmps155
    go_wp2
    go_ret
    exact ⟨rfl, rfl⟩
  · rcases Classical.em (8 < n) with h2 | h2
    · have e : grE n m = 2 := if_pos (.inr h2)
      rw [e]; clear e
      go_enter Tryz.func155, Tryz.ntmps155
      go_wp2
      go_ret
      exact ⟨rfl, rfl⟩
    · rcases Classical.em (1048576 < m) with h3 | h3
      · have e : grE n m = 4 := by unfold grE; rw [if_neg (by omega), if_pos h3]
        rw [e]; clear e
        go_enter Tryz.func155, Tryz.ntmps155
        go_wp2
        go_ret
        exact ⟨rfl, rfl⟩
      · have e : grE n m = 0 := by unfold grE; rw [if_neg (by omega), if_neg h3]
        rw [e]; clear e
        go_enter Tryz.func155, Tryz.ntmps155
        go_wp2
        go_ret
        exact ⟨rfl, rfl⟩
theorem still {P : Program} {f : FuncId} {args : Array Value} {w : World} {v : Value} (h : Calls P f args w fun e w' => w = w' ∧ e = .returned v) : Calls P f args w fun e w'' => e = .returned v ∧ w'' = w :=
  h.mono fun _ _ ⟨h1, h2⟩ => ⟨h2, h1.symm⟩
/-- Sums of places, as the walk spells them. -/
theorem at_sum {p n m : Nat} (h : p + n ≤ m) (hm : m ≤ 4000000000000) : IntKind.i64.wrap ((p : Int) + (n : Int)) = (p : Int) + (n : Int) ∧ ((p : Int) + (n : Int)).toNat = p + n ∧ 0 ≤ (p : Int) + (n : Int) :=
  ⟨IntWalk.i64_in _ (by omega), by omega, by omega⟩
theorem at_diff {p n m : Nat} (h : n ≤ p) (hp : p ≤ m) (hm : m ≤ 4000000000000) : IntKind.i64.wrap ((p : Int) - (n : Int)) = (p : Int) - (n : Int) ∧ ((p : Int) - (n : Int)).toNat = p - n ∧ 0 ≤ (p : Int) - (n : Int) :=
  ⟨IntWalk.i64_in _ (by omega), by omega, by omega⟩
end Go.Proofs.YtpkhgdnkkdhlcaaGreatDoor

namespace Go.Proofs.YtpkhgdnkkdhlcaaGreatDoor
open Go.RowKit By

set_option maxRecDepth 100000 in
set_option maxHeartbeats 800000 in
theorem delta_any (A : Option Addr) (c n : Nat) (l : List Nat) (w : World) (h1 : 1 ≤ n) (h8 : n ≤ 8) (hl : Bytes l) (hc : l.length ≤ c) (hm : l.length ≤ 1048576) (h : Rd w w.heap.size A (ints .u8 l)) :
    Calls Tryz.prog 118 #[.slice A l.length c, .int .i64 n] w fun e w' => Below w.heap.size w w' ∧ ∃ v, e = .returned (.tuple #[v, .int .i64 0]) ∧ IsL w' w'.heap.size .u8 v (deltaB l n) := by
  have hg : grE n l.length = 0 := by unfold grE; rw [if_neg (by omega), if_neg (by omega)]
  rcases Nat.lt_or_ge l.length (n + n) with hs | hs
  · have HE : Hid (deltaB l n = l) := by
      show _ = _
      exact short_all hl h1 hs rfl
    go_enter Tryz.func118, Tryz.ntmps118
    go_wp2_with fail
    refine (grouped_any _ _ _ _ _ (by omega)).mono ?_
    rintro e w1 ⟨rfl, rfl⟩
    rw [hg]
    clear hg
    go_wp2_with fail
    refine (clone8_any A l.length c l w rfl (by omega) h).mono ?_
    rintro e w1 ⟨hb1, o, rfl, hown⟩
    have hO := IsL.of_own hown
    clear hown
    obtain ⟨A', c', rfl, hO2, hO3⟩ := hO
    go_wp2
    refine wp_loop_rounds 1 ?_
    rw [rounds_succ]
    go_wp2
    go_ret2
    exact ⟨hb1, _, rfl, by rw [HE.out]; exact ⟨_, _, rfl, hO2, hO3⟩⟩
  · have hk2 : 2 ≤ l.length / n := (Nat.le_div_iff_mul_le h1).2 (by omega)
    have hkl := Nat.div_mul_le_self l.length n
    have hd1 := dst_one (dl (G l n)) hl (by omega) h1 rfl
    go_enter Tryz.func118, Tryz.ntmps118
    go_wp2_with fail
    refine (grouped_any _ _ _ _ _ (by omega)).mono ?_
    rintro e w1 ⟨rfl, rfl⟩
    rw [hg]
    clear hg
    go_wp2_with fail
    refine (clone8_any A l.length c l w rfl (by omega) h).mono ?_
    rintro e w1 ⟨hb1, o, rfl, hown⟩
    obtain ⟨g, c', rfl, hg, hc', _, hrow⟩ := Row.of_own hown (by omega)
    clear hown
    go_wp2
    go_loopw [8] (fun i wr => ∃ j p : Nat, 1 ≤ j ∧ j ≤ l.length / n ∧ Hid (p = j * n) ∧ i = .int .i64 p ∧ p ≤ l.length ∧ n ≤ p ∧ Hid (Row wr g 5 .u8 (dst (dl (G l n)) l n j)) ∧ Below w.heap.size w wr) (fun i _ => l.length - (intOf i).toNat)
    case atStart => exact ⟨1, n, Nat.le_refl _, by omega, (show n = 1 * n by omega), rfl, by omega, Nat.le_refl _, (show Row _ _ _ _ _ by rw [hd1]; exact hrow), hb1⟩
    case round =>
      obtain ⟨j, p, hj1, hj2, HP, rfl, hp, hnp, HR, hB⟩ := hrel
      clear hd1 hrow hb1
      by_cases hlt : p + n ≤ l.length
      · obtain ⟨ad, rfl, hab, _⟩ := (h.below hB).int (j := p) (by omega)
        go_wp2
        refine wp_region_still_tail 21 (by kernel_rfl) (by kernel_rfl) ?_
        simp only [List.take_succ_cons, List.take_zero, List.drop_succ_cons, List.drop_zero]
        obtain ⟨s1, s2, s3⟩ := at_sum hlt (by omega)
        obtain ⟨d1, d2, d3⟩ := at_diff hnp hp (by omega)
        have q1 : ¬ c = p := by omega
        have q2 : ¬ c' = p := by omega
        have q3 : ¬ c = p - n := by omega
        have r1 : (p : Int) + n ≤ c' := by omega
        have r2 : (p : Int) + n ≤ c := by omega
        have r3 : p ≤ c := by omega
        have r4 : (p : Int) - n ≤ p := by omega
        have r5 : p - (p - n) = n := by omega
        repeat still_step
        still_call (still (number_any _ _ _ ((l.drop p).take n) _ (by simp; omega) h8 ((hl.drop _).take _) (((h.below hB).sub p n).more hB.size)))
        repeat still_step
        still_call (still (number_any _ _ _ ((l.drop (p - n)).take n) _ (by simp; omega) h8 ((hl.drop _).take _) (((h.below hB).sub (p - n) n).more hB.size)))
        repeat still_step
        refine wpStill_nil ?_
        clear s1 s2 s3 d1 d2 d3 q1 q2 q3 r1 r2 r3 r4 r5
        go_wp2_with fail
        have HX : IntKind.u64.wrap (((gv ((l.drop p).take n) : Nat) : Int) - ((gv ((l.drop (p - n)).take n) : Nat) : Int)) = ((dl (G l n) j : Nat) : Int) := by
          obtain ⟨t, rfl⟩ : ∃ t, j = t + 1 := ⟨j - 1, by omega⟩
          have e1 : p = (t + 1) * n := HP.out
          rw [sub_u64, e1, G_at]; rfl
        have HL : dl (G l n) j < 2 ^ 64 := by
          obtain ⟨t, rfl⟩ : ∃ t, j = t + 1 := ⟨j - 1, by omega⟩
          exact Nat.mod_lt _ (by decide)
        have HD : (dst (dl (G l n)) l n j).length = l.length := dst_len _ (by have e1 : p = j * n := HP.out; omega)
        rw [HX]
        clear HX
        refine (put_any g p n (c' - p) (dl (G l n) j) _ wr.drew (by omega) (by omega) HL HR.out.drew).mono ?_
        rintro e w2 ⟨⟨v, rfl⟩, hg2, hs2, hr2⟩
        have HR2 := Lib.hid hr2
        have hB2 : Below w.heap.size w w2 := below_of_grown hB.drew hg2 hB.size hg
        clear HL HD hr2 hg2 hs2
        go_wp2
        go_roundw
        case rel =>
          refine ⟨j + 1, p + n, by omega, ?_, ?_, by go_num, by omega, by omega, ?_, hB2⟩
          · have e1 : p = j * n := HP.out
            have : (j + 1) * n ≤ l.length := by rw [Nat.succ_mul]; omega
            exact (Nat.le_div_iff_mul_le h1).2 this
          · have e1 : p = j * n := HP.out
            show p + n = (j + 1) * n
            rw [Nat.succ_mul]; omega
          · have e1 : p = j * n := HP.out
            show Row _ _ _ _ _
            rw [← dst_step, ← e1]
            exact HR2.out
        case measure => simp [intOf]; omega
      · have hjk : j = l.length / n := by
          have e1 : p = j * n := HP.out
          rcases Nat.lt_or_ge j (l.length / n) with h2 | h2
          · have := mul_le_of h2
            omega
          · omega
        have HE : Hid (dst (dl (G l n)) l n j = deltaB l n) := by show _ = _; rw [hjk]; rfl
        have HD : Hid ((deltaB l n).length = l.length) := deltaB_len l n
        clear hjk
        go_wp2
        go_ret2
        refine ⟨hB, _, rfl, ?_⟩
        have hr := HR.out
        rw [HE.out] at hr
        rw [← HD.out]
        exact IsL.row hr (by rw [HD.out]; exact hc')

set_option maxRecDepth 100000 in
set_option maxHeartbeats 800000 in
theorem undelta_any (A : Option Addr) (c n : Nat) (l : List Nat) (w : World) (h1 : 1 ≤ n) (h8 : n ≤ 8) (hl : Bytes l) (hc : l.length ≤ c) (hm : l.length ≤ 1048576) (h : Rd w w.heap.size A (ints .u8 l)) :
    Calls Tryz.prog 109 #[.slice A l.length c, .int .i64 n] w fun e w' => Below w.heap.size w w' ∧ ∃ v, e = .returned (.tuple #[v, .int .i64 0]) ∧ IsL w' w'.heap.size .u8 v (undeltaB l n) := by
  have hg : grE n l.length = 0 := by unfold grE; rw [if_neg (by omega), if_neg (by omega)]
  rcases Nat.lt_or_ge l.length (n + n) with hs | hs
  · have HE : Hid (undeltaB l n = l) := by
      show _ = _
      exact short_all hl h1 hs (by show _ % 2 ^ 64 % _ = _; rw [Nat.mod_mod_of_dvd _ (pow_le h8)])
    go_enter Tryz.func109, Tryz.ntmps109
    go_wp2_with fail
    refine (grouped_any _ _ _ _ _ (by omega)).mono ?_
    rintro e w1 ⟨rfl, rfl⟩
    rw [hg]
    clear hg
    go_wp2_with fail
    refine (clone8_any A l.length c l w rfl (by omega) h).mono ?_
    rintro e w1 ⟨hb1, o, rfl, hown⟩
    have hO := IsL.of_own hown
    clear hown
    obtain ⟨A', c', rfl, hO2, hO3⟩ := hO
    go_wp2
    refine wp_loop_rounds 1 ?_
    rw [rounds_succ]
    go_wp2
    go_ret2
    exact ⟨hb1, _, rfl, by rw [HE.out]; exact ⟨_, _, rfl, hO2, hO3⟩⟩
  · have hk2 : 2 ≤ l.length / n := (Nat.le_div_iff_mul_le h1).2 (by omega)
    have hkl := Nat.div_mul_le_self l.length n
    have hd1 := dst_one (sm (G l n)) hl (by omega) h1 (by show _ % 2 ^ 64 % _ = _; rw [Nat.mod_mod_of_dvd _ (pow_le h8)])
    go_enter Tryz.func109, Tryz.ntmps109
    go_wp2_with fail
    refine (grouped_any _ _ _ _ _ (by omega)).mono ?_
    rintro e w1 ⟨rfl, rfl⟩
    rw [hg]
    clear hg
    go_wp2_with fail
    refine (clone8_any A l.length c l w rfl (by omega) h).mono ?_
    rintro e w1 ⟨hb1, o, rfl, hown⟩
    obtain ⟨g, c', rfl, hg, hc', _, hrow⟩ := Row.of_own hown (by omega)
    clear hown
    go_wp2
    go_loopw [8] (fun i wr => ∃ j p : Nat, 1 ≤ j ∧ j ≤ l.length / n ∧ Hid (p = j * n) ∧ i = .int .i64 p ∧ p ≤ l.length ∧ n ≤ p ∧ Hid (Row wr g 5 .u8 (dst (sm (G l n)) l n j)) ∧ Below w.heap.size w wr) (fun i _ => l.length - (intOf i).toNat)
    case atStart => exact ⟨1, n, Nat.le_refl _, by omega, (show n = 1 * n by omega), rfl, by omega, Nat.le_refl _, (show Row _ _ _ _ _ by rw [hd1]; exact hrow), hb1⟩
    case round =>
      obtain ⟨j, p, hj1, hj2, HP, rfl, hp, hnp, HR, hB⟩ := hrel
      clear hd1 hrow hb1
      by_cases hlt : p + n ≤ l.length
      · obtain ⟨ad, rfl, hab, _⟩ := (h.below hB).int (j := p) (by omega)
        go_wp2
        refine wp_region_still_tail 21 (by kernel_rfl) (by kernel_rfl) ?_
        simp only [List.take_succ_cons, List.take_zero, List.drop_succ_cons, List.drop_zero]
        have HD : (dst (sm (G l n)) l n j).length = l.length := dst_len _ (by have e1 : p = j * n := HP.out; omega)
        have hR2 : Rd wr wr.heap.size (some ⟨g, p - n, none⟩) (ints .u8 (((dst (sm (G l n)) l n j).drop (p - n)).take n)) := HR.out.rd (by rw [HD]; omega)
        have hy : Bytes (dst (sm (G l n)) l n j) := (jn_bytes _ _ _).app (hl.drop _)
        have hlen : (((dst (sm (G l n)) l n j).drop (p - n)).take n).length = n := by rw [List.length_take, List.length_drop, HD]; omega
        have HDD := Lib.hid HD
        have HLL := Lib.hid hlen
        clear HD hlen
        obtain ⟨s1, s2, s3⟩ := at_sum hlt (by omega)
        obtain ⟨d1, d2, d3⟩ := at_diff hnp hp (by omega)
        have q1 : ¬ c = p := by omega
        have q2 : ¬ c' = p := by omega
        have q3 : ¬ c' = p - n := by omega
        have r6 : p ≤ c' := by omega
        have r1 : (p : Int) + n ≤ c' := by omega
        have r2 : (p : Int) + n ≤ c := by omega
        have r3 : p ≤ c := by omega
        have r4 : (p : Int) - n ≤ p := by omega
        have r5 : p - (p - n) = n := by omega
        repeat still_step
        still_call (still (number_any _ _ _ ((l.drop p).take n) _ (by simp; omega) h8 ((hl.drop _).take _) (((h.below hB).sub p n).more hB.size)))
        repeat still_step
        still_call (still (number_any _ _ _ (((dst (sm (G l n)) l n j).drop (p - n)).take n) _ HLL.out h8 ((hy.drop _).take _) hR2))
        repeat still_step
        refine wpStill_nil ?_
        clear s1 s2 s3 d1 d2 d3 q1 q2 q3 r1 r2 r3 r4 r5 r6 hR2 hy HLL
        go_wp2_with fail
        have HX : IntKind.u64.wrap (((gv ((l.drop p).take n) : Nat) : Int) + ((gv (((dst (sm (G l n)) l n j).drop (p - n)).take n) : Nat) : Int)) = (((G l n j + sm (G l n) (j - 1) % 256 ^ n) % 2 ^ 64 : Nat) : Int) := by
          have e1 : p = j * n := HP.out
          rw [add_u64, e1, dst_last _ hj1]; rfl
        have HG : gb n ((G l n j + sm (G l n) (j - 1) % 256 ^ n) % 2 ^ 64) = gb n (sm (G l n) j) := by
          obtain ⟨t, rfl⟩ : ∃ t, j = t + 1 := ⟨j - 1, by omega⟩
          rw [gb_mod64 h8]
          show _ = gb n ((sm (G l n) t + G l n (t + 1)) % 2 ^ 64)
          rw [gb_mod64 h8, Nat.add_comm]
          exact gb_congr (mod_add_congr (Nat.mod_mod _ _) rfl)
        rw [HX]
        clear HX
        refine (put_any g p n (c' - p) _ _ wr.drew (by rw [HDD.out]; omega) (by omega) (Nat.mod_lt _ (by decide)) HR.out.drew).mono ?_
        rintro e w2 ⟨⟨v, rfl⟩, hg2, hs2, hr2⟩
        rw [HG] at hr2
        have HR2 := Lib.hid hr2
        have hB2 : Below w.heap.size w w2 := below_of_grown hB.drew hg2 hB.size hg
        clear hr2 hg2 hs2 HG
        go_wp2
        go_roundw
        case rel =>
          refine ⟨j + 1, p + n, by omega, ?_, ?_, by go_num, by omega, by omega, ?_, hB2⟩
          · have e1 : p = j * n := HP.out
            have : (j + 1) * n ≤ l.length := by rw [Nat.succ_mul]; omega
            exact (Nat.le_div_iff_mul_le h1).2 this
          · have e1 : p = j * n := HP.out
            show p + n = (j + 1) * n
            rw [Nat.succ_mul]; omega
          · have e1 : p = j * n := HP.out
            show Row _ _ _ _ _
            rw [← dst_step, ← e1]
            exact HR2.out
        case measure => simp [intOf]; omega
      · have hjk : j = l.length / n := by
          have e1 : p = j * n := HP.out
          rcases Nat.lt_or_ge j (l.length / n) with h2 | h2
          · have := mul_le_of h2
            omega
          · omega
        have HE : Hid (dst (sm (G l n)) l n j = undeltaB l n) := by show _ = _; rw [hjk]; rfl
        have HD : Hid ((undeltaB l n).length = l.length) := undeltaB_len l n
        clear hjk
        go_wp2
        go_ret2
        refine ⟨hB, _, rfl, ?_⟩
        have hr := HR.out
        rw [HE.out] at hr
        rw [← HD.out]
        exact IsL.row hr (by rw [HD.out]; exact hc')
end Go.Proofs.YtpkhgdnkkdhlcaaGreatDoor

namespace Go.Proofs.YtpkhgdnkkdhlcaaGreatDoor
open Go.RowKit By

theorem Tryz.u64_info : (Tryz.prog.info? 67).map (fun i => (i.zero, i.size, i.bytes)) = some (some (.int .u64 0), 1, 8) := by kernel_rfl

set_option maxHeartbeats 400000 in
theorem rread_any (A : Option Addr) (c n : Nat) (l : List Nat) (w : World) (hn : l.length = n) (h8 : n ≤ 8) (hl : Bytes l) (h : Rd w w.heap.size A (ints .u8 l)) :
    Calls Tryz.prog 42 #[.slice A n c] w fun e w' => w = w' ∧ e = .returned (.int .u64 ((gv l : Nat) : Int)) := by
  subst hn
  go_enter Tryz.func42, Tryz.ntmps42
  go_wp2
  go_loop [3, 4] (fun o i => ∃ k : Nat, k ≤ l.length ∧ i = .int .i64 k ∧ o = .int .u64 ((gv (l.take k) : Nat) : Int)) (fun _ i => l.length - (intOf i).toNat)
  case atStart => exact ⟨0, Nat.zero_le _, rfl, rfl⟩
  case round =>
    obtain ⟨k, hk, rfl, rfl⟩ := hrel
    by_cases hlt : k < l.length
    · obtain ⟨ad, rfl, hb, hcell⟩ := h.int (j := k) hlt
      have hx : l.getD k 0 < 256 := hl.at_ k
      have hg : gv (l.take k) < 2 ^ 56 := Nat.lt_of_lt_of_le (gv_lt (n := k) (l := l.take k) (by simp; omega) (hl.take _)) (by
        rw [show (2 : Nat) ^ 56 = 256 ^ 7 from rfl]; exact Nat.pow_le_pow_right (by decide) (by omega))
      have HS : Hid (gv (l.take (k + 1)) = gv (l.take k) * 256 + l.getD k 0) := by
        show _ = _
        rw [List.take_succ_eq_append_getElem hlt, gv_snoc, List.getD_eq_getElem?_getD, List.getElem?_eq_getElem hlt]; rfl
      have HO := Lib.hid (or_byte hg hx)
      clear hg
      generalize l.getD k 0 = x at *
      generalize gv (l.take k) = g at *
      go_wp2
      go_round
      case rel => exact ⟨k + 1, by omega, by go_num, by rw [HO.out, HS.out]⟩
      case measure => simp [intOf]; omega
    · have HE : Hid (l.take k = l) := List.take_of_length_le (by omega)
      go_wp2
      go_ret
      exact ⟨rfl, by rw [HE.out]; rfl⟩

theorem gb_head {n X s : Nat} (h : s < n) : (gb n X).take (n - s) = (gb n X).take (n - (s + 1)) ++ [X / 256 ^ s % 256] := by
  have e : ∀ (m k : Nat), gb (m + k) X = gb m (X / 256 ^ k) ++ gb k X := by
    intro m k
    induction k generalizing X with
    | zero => simp [gb]
    | succ k ih =>
      show gb (m + k) (X / 256) ++ [X % 256] = _
      rw [ih, Nat.div_div_eq_div_mul, List.append_assoc, Nat.pow_succ, Nat.mul_comm 256]; rfl
  obtain ⟨m, rfl⟩ : ∃ m, n = m + 1 + s := ⟨n - (s + 1), by omega⟩
  rw [show m + 1 + s - s = m + 1 by omega, show m + 1 + s - (s + 1) = m by omega, e, List.take_append_of_le_length (by rw [gb_len]; omega), List.take_append_of_le_length (by rw [gb_len]; omega),
    List.take_of_length_le (by rw [gb_len]; omega)]
  show gb m (X / 256 ^ s / 256) ++ [X / 256 ^ s % 256] = (gb m (X / 256 ^ s / 256) ++ [X / 256 ^ s % 256]).take m ++ _
  rw [List.take_append_of_le_length (by rw [gb_len]; omega), List.take_of_length_le (by rw [gb_len]; omega)]

set_option maxRecDepth 100000 in
set_option maxHeartbeats 800000 in
theorem rnumber_any (n X : Nat) (w : World) (h8 : n ≤ 8) (hX : X < 2 ^ 64) :
    Calls Tryz.prog 72 #[.int .u64 (X : Int), .int .i64 n] w fun e w' => Below w.heap.size w w' ∧ ∃ v, e = .returned v ∧ w'.ownsRow w.heap.size 5 1 v n (ints .u8 (gb n X)) := by
  obtain ⟨i0, hi0, hz0, hz1, hz2⟩ := info_parts Tryz.u8c_info
  have HX := Lib.hid hX
  clear hX
  go_enter Tryz.func72, Tryz.ntmps72
  go_wp2
  go_loopw [5, 6] (fun v i wr => ∃ t : Nat, t ≤ n ∧ ((t = 0 ∧ i = .int .i64 (-1)) ∨ (∃ s : Nat, t = s + 1 ∧ i = .int .i64 s)) ∧ wr.ownsRow w.heap.size 5 1 v (n - t) (ints .u8 ((gb n X).take (n - t))) ∧ Below w.heap.size w wr) (fun _ i _ => (intOf i + 1).toNat)
  case atStart =>
    refine ⟨n, Nat.le_refl _, ?_, ?_, Below.refl _ _⟩
    · rcases n with _ | m
      · exact .inl ⟨rfl, rfl⟩
      · exact .inr ⟨m, rfl, by go_num⟩
    · rw [Nat.sub_self]; exact World.ownsRow_nil _ _ _ _
  case round =>
    obtain ⟨t, ht, hi, hown, hB⟩ := hrel
    rcases hi with ⟨rfl, rfl⟩ | ⟨s, rfl, rfl⟩
    · have HE : Hid ((gb n X).take (n - 0) = gb n X) := List.take_of_length_le (by rw [gb_len]; omega)
      go_wp2
      go_ret
      refine ⟨hB, _, rfl, ?_⟩
      rw [HE.out] at hown
      exact hown
    · have HG := Lib.hid (gb_head (X := X) ht)
      have HE : Hid (Value.int .u8 ((X : Int) / 2 ^ (8 * s) % 256) = .int .u8 ((X / 256 ^ s % 256 : Nat) : Int)) := by
        show _ = _
        rw [show (256 : Nat) ^ s = 2 ^ (8 * s) by rw [show (256 : Nat) = 2 ^ 8 from rfl, Nat.pow_mul]]; simp
      go_wp2_with (at_builtin; refine wpL_append _ rfl (.tmp 13) (.tmp 19) _ rfl w.heap.size 5 i0 _ 1 1 Tryz.underlying25 hi0 hz0 hz1 hz2 rfl (by omega) _ (n - (s + 1)) (ints .u8 ((gb n X).take (n - (s + 1)))) rfl (hown.alloc _) (some ⟨wr.heap.size, 0, none⟩) 1 1 [.int .u8 ((X : Int) / 2 ^ (8 * s) % 256)] rfl rfl (Rd.of_new wr [.int .u8 ((X : Int) / 2 ^ (8 * s) % 256)] 5) (by intro u hu; simp at hu; subst hu; rfl) (by unfold maxLen; omega) (by omega) (by have := hB.size; simp; omega) ?_; intro v1 w1 hown1 hg1 hat1)
      have HO : Hid (w1.ownsRow w.heap.size 5 1 v1 (n - s) (ints .u8 ((gb n X).take (n - s)))) := by
        show World.ownsRow _ _ _ _ _ _ _
        rw [HG.out, ints_append]
        rw [HE.out] at hown1
        have e : n - (s + 1) + 1 = n - s := by omega
        rw [e] at hown1
        exact hown1
      have hB1 : Below w.heap.size w w1 := below_app (hB.alloc hB.size _) hg1 (by have := hB.size; simp; omega) (hown.alloc _) (Nat.le_refl _)
      clear hown hown1 HG HE
      go_wp2
      go_roundw
      case rel =>
        refine ⟨s, by omega, ?_, HO.out, hB1⟩
        rcases s with _ | m
        · exact .inl ⟨rfl, rfl⟩
        · exact .inr ⟨m, rfl, by go_num⟩
      case measure => simp [intOf]

/-- The numbers of the first k groups. -/
def gl (l : List Nat) (n k : Nat) : List Nat := (List.range k).map (G l n)
theorem gl_len (l : List Nat) (n k : Nat) : (gl l n k).length = k := by simp [gl]
theorem gl_succ (l : List Nat) (n k : Nat) : gl l n (k + 1) = gl l n k ++ [G l n k] := by simp [gl, List.range_succ]
theorem gl_at (l : List Nat) (n : Nat) {k j : Nat} (h : j < k) : (gl l n k).getD j 0 = G l n j := by
  simp [gl, List.getD_eq_getElem?_getD, List.getElem?_range h]

set_option maxRecDepth 100000 in
set_option maxHeartbeats 800000 in
theorem rgroups_any (A : Option Addr) (c n : Nat) (l : List Nat) (w : World) (h1 : 1 ≤ n) (h8 : n ≤ 8) (hl : Bytes l) (hc : l.length ≤ c) (hm : l.length ≤ 1048576) (h : Rd w w.heap.size A (ints .u8 l)) :
    Calls Tryz.prog 161 #[.slice A l.length c, .int .i64 n] w fun e w' => Below w.heap.size w w' ∧ ∃ v u, e = .returned (.tuple #[v, u]) ∧
      w'.ownsRow w.heap.size 67 1 v (l.length / n) (ints .u64 (gl l n (l.length / n))) ∧ IsL w' w'.heap.size .u8 u (rest l n) := by
  obtain ⟨i0, hi0, hz0, hz1, hz2⟩ := info_parts Tryz.u64_info
  have hkl := Nat.div_mul_le_self l.length n
  have hkn : l.length / n ≤ l.length := Nat.div_le_self _ _
  go_enter Tryz.func161, Tryz.ntmps161
  go_wp2
  go_loopw [6, 7] (fun v i wr => ∃ j p : Nat, j ≤ l.length / n ∧ Hid (p = j * n) ∧ i = .int .i64 p ∧ p ≤ l.length ∧ wr.ownsRow w.heap.size 67 1 v j (ints .u64 (gl l n j)) ∧ Below w.heap.size w wr) (fun _ i _ => l.length - (intOf i).toNat)
  case atStart => exact ⟨0, 0, Nat.zero_le _, (show 0 = 0 * n by omega), rfl, Nat.zero_le _, World.ownsRow_nil _ _ _ _, Below.refl _ _⟩
  case round =>
    obtain ⟨j, p, hj, HP, rfl, hp, hown, hB⟩ := hrel
    by_cases hlt : p + n ≤ l.length
    · obtain ⟨ad, rfl, hab, _⟩ := (h.below hB).int (j := p) (by omega)
      obtain ⟨s1, s2, s3⟩ := at_sum hlt (by omega)
      have q1 : ¬ c = p := by omega
      have r2 : (p : Int) + n ≤ c := by omega
      have hRd : Rd wr wr.heap.size (some (ad.add p)) (ints .u8 ((l.drop p).take n)) := ((h.below hB).sub p n).more hB.size
      go_wp2_with fail
      refine (rread_any _ _ n ((l.drop p).take n) _ (by simp; omega) h8 ((hl.drop _).take _) hRd).mono ?_
      rintro e w1 ⟨rfl, rfl⟩
      have HG : Hid (gv ((l.drop p).take n) = G l n j) := by
        have e1 : p = j * n := HP.out
        show _ = _
        rw [e1]; rfl
      rw [HG.out]
      go_wp2_with (at_builtin; refine wpL_append _ rfl (.tmp 17) (.tmp 25) _ rfl w.heap.size 67 i0 _ 1 8 Tryz.underlying71 hi0 hz0 hz1 hz2 rfl (by omega) _ j (ints .u64 (gl l n j)) rfl (hown.alloc _) (some ⟨wr.heap.size, 0, none⟩) 1 1 [.int .u64 ((G l n j : Nat) : Int)] rfl rfl (Rd.of_new wr [.int .u64 ((G l n j : Nat) : Int)] 67) (by intro u hu; simp at hu; subst hu; rfl) (by unfold maxLen; omega) (by omega) (by have := hB.size; simp; omega) ?_; intro v1 w1 hown1 hg1 hat1)
      have HO : Hid (w1.ownsRow w.heap.size 67 1 v1 (j + 1) (ints .u64 (gl l n (j + 1)))) := by
        show World.ownsRow _ _ _ _ _ _ _
        rw [gl_succ, ints_append]
        exact hown1
      have hB1 : Below w.heap.size w w1 := below_app (hB.alloc hB.size _) hg1 (by have := hB.size; simp; omega) (hown.alloc _) (Nat.le_refl _)
      clear hown hown1 HG hRd
      go_wp2
      go_roundw
      case rel =>
        refine ⟨j + 1, p + n, ?_, ?_, by go_num, by omega, HO.out, hB1⟩
        · have e1 : p = j * n := HP.out
          exact (Nat.le_div_iff_mul_le h1).2 (by rw [Nat.succ_mul]; omega)
        · have e1 : p = j * n := HP.out
          show p + n = (j + 1) * n
          rw [Nat.succ_mul]; omega
      case measure => simp [intOf]; omega
    · have hjk : j = l.length / n := by
        have e1 : p = j * n := HP.out
        rcases Nat.lt_or_ge j (l.length / n) with h2 | h2
        · have := mul_le_of h2
          omega
        · omega
      subst hjk
      obtain ⟨A', c', rfl, hc', hrd⟩ := IsL.of_own hown
      have HO := Lib.hid hown
      rw [gl_len] at hc' ⊢
      clear hown hrd HP
      generalize hk : l.length / n = k at *
      have HK := Lib.hid hk
      clear hk
      obtain ⟨q, hq⟩ : ∃ q, q = k * n := ⟨_, rfl⟩
      have m1 : IntKind.i64.wrap ((k : Int) * (n : Int)) = (k : Int) * (n : Int) := IntWalk.i64_in _ (by rw [← Int.natCast_mul, ← hq]; omega)
      have m2 : ((k : Int) * (n : Int)).toNat = q := by rw [← Int.natCast_mul, ← hq]; omega
      have m3 : 0 ≤ (k : Int) * (n : Int) := by rw [← Int.natCast_mul]; omega
      have m4 : (k : Int) * (n : Int) ≤ l.length := by rw [← Int.natCast_mul, ← hq]; omega
      have hr := (h.below hB).cut (k := q) (cap := c) (by rw [ints_length]; exact hc)
      rw [← ints_drop] at hr
      have HR1 : Hid (c = q → Rd wr w.heap.size A (ints .u8 (l.drop q))) := fun e => by rw [if_pos e] at hr; exact hr
      have HR2 : Hid (¬ c = q → Rd wr w.heap.size (A.map (·.add q)) (ints .u8 (l.drop q))) := fun e => by rw [if_neg e] at hr; exact hr
      have HF : Hid (rest l n = l.drop q) := by show _ = _; rw [hq, ← HK.out]; rfl
      have hql : q ≤ l.length := by rw [hq]; exact hkl
      clear hq hkl hr
      go_wp2
      go_quiet (fail)
      go_wp2
      all_goals
        go_ret2
        refine ⟨below_drewN hB _, _, _, rfl, ?_, ?_⟩
        · rw [HK.out]
          have := HO.out
          rw [gl_len] at this
          exact this
        · rw [HF.out]
          first
          | exact ⟨_, _, by rw [List.length_drop]; rfl, by rw [List.length_drop]; omega, ((HR2.out (by assumption)).drewN _).more hB.size⟩
          | exact ⟨_, _, by rw [List.length_drop]; rfl, by rw [List.length_drop]; omega, ((HR1.out (by assumption)).drewN _).more hB.size⟩
end Go.Proofs.YtpkhgdnkkdhlcaaGreatDoor

namespace Go.Proofs.YtpkhgdnkkdhlcaaGreatDoor.By
open Go.RowKit

/-- One bit is set. -/
def putbit (l : List Nat) (i : Nat) : List Nat := l.set (i / 8) (l.getD (i / 8) 0 ||| 2 ^ (i % 8))
/-- The bits of the first i values. -/
def bm (fl : List Bool) : Nat → List Nat
  | 0 => List.replicate ((fl.length + 7) / 8) 0
  | i + 1 => if fl.getD i false then putbit (bm fl i) i else bm fl i
theorem putbit_len (l : List Nat) (i : Nat) : (putbit l i).length = l.length := by simp [putbit]
theorem bm_len (fl : List Bool) : ∀ i, (bm fl i).length = (fl.length + 7) / 8
  | 0 => by simp [bm]
  | i + 1 => by
    rw [bm]; split
    · rw [putbit_len, bm_len fl i]
    · exact bm_len fl i
theorem pow_bit (i : Nat) : 2 ^ (i % 8) < 256 := by
  have h : 2 ^ (i % 8) ≤ 2 ^ 7 := Nat.pow_le_pow_right (by decide) (by omega)
  omega
theorem or_lt {a b : Nat} (ha : a < 256) (hb : b < 256) : a ||| b < 256 := Nat.or_lt_two_pow (n := 8) ha hb
theorem putbit_bytes {l : List Nat} (h : Bytes l) (i : Nat) : Bytes (putbit l i) := fun x hx => by
  rcases List.mem_or_eq_of_mem_set hx with h1 | h1
  · exact h x h1
  · rw [h1]; exact or_lt (h.at_ _) (pow_bit i)
theorem bm_bytes (fl : List Bool) : ∀ i, Bytes (bm fl i)
  | 0 => fun x hx => by rw [List.eq_of_mem_replicate hx]; decide
  | i + 1 => by
    rw [bm]; split
    · exact putbit_bytes (bm_bytes fl i) i
    · exact bm_bytes fl i
/-- The bytes of the first i numbers. -/
def pv (W : Nat) (ns : List Int) : Nat → List Nat
  | 0 => []
  | i + 1 => pv W ns i ++ gb W ((ns.getD i 0) % 18446744073709551616).toNat
theorem pv_len (W : Nat) (ns : List Int) : ∀ i, (pv W ns i).length = i * W
  | 0 => by simp [pv]
  | i + 1 => by rw [pv, List.length_append, pv_len W ns i, gb_len, Nat.succ_mul]
theorem pv_bytes (W : Nat) (ns : List Int) : ∀ i, Bytes (pv W ns i)
  | 0 => bytes_nil
  | i + 1 => (pv_bytes W ns i).app (gb_bytes _ _)
/-- What stands in memory in front of value i. -/
def putI (W : Nat) (fl : List Bool) (ns : List Int) (i : Nat) : List Nat := bm fl i ++ pv W ns i
theorem putI_len (W : Nat) (fl : List Bool) (ns : List Int) (i : Nat) : (putI W fl ns i).length = (fl.length + 7) / 8 + i * W := by
  unfold putI; rw [List.length_append, bm_len, pv_len]
theorem putI_bytes (W : Nat) (fl : List Bool) (ns : List Int) (i : Nat) : Bytes (putI W fl ns i) := (bm_bytes _ _).app (pv_bytes _ _ _)
theorem putbit_left {l m : List Nat} {i : Nat} (h : i / 8 < l.length) : putbit (l ++ m) i = putbit l i ++ m := by
  unfold putbit
  rw [List.set_append_left _ _ h]
  congr 2
  simp [List.getD_eq_getElem?_getD, List.getElem?_append_left h]
theorem putI_flag {W : Nat} {fl : List Bool} {ns : List Int} {i : Nat} (h : i < fl.length) : (if fl.getD i false = true then putbit (putI W fl ns i) i else putI W fl ns i) ++ gb W ((ns.getD i 0) % 18446744073709551616).toNat = putI W fl ns (i + 1) := by
  unfold putI
  rw [bm, pv]
  by_cases hf : fl.getD i false = true
  · rw [if_pos hf, if_pos hf, putbit_left (by rw [bm_len]; omega), List.append_assoc]
  · rw [if_neg hf, if_neg hf, List.append_assoc]
/-- A byte of a number in two's complement. -/
theorem byte_of (n : Int) {s : Nat} (h : s ≤ 7) : n / 2 ^ (8 * s) % 256 = (((n % 18446744073709551616).toNat / 256 ^ s % 256 : Nat) : Int) := by
  have e : (256 : Nat) ^ s = 2 ^ (8 * s) := by rw [show (256 : Nat) = 2 ^ 8 from rfl, Nat.pow_mul]
  rw [e]
  have h0 : 0 ≤ n % 18446744073709551616 := Int.emod_nonneg _ (by decide)
  generalize hX : (n % 18446744073709551616).toNat = X
  have hx : n % 18446744073709551616 = (X : Int) := by rw [← hX]; omega
  have hn : n = (X : Int) + 18446744073709551616 * (n / 18446744073709551616) := by omega
  generalize n / 18446744073709551616 = q at hn
  have hp : (0 : Int) < 2 ^ (8 * s) := Int.pow_pos (by decide)
  have hd : (18446744073709551616 : Int) = 2 ^ (8 * s) * (256 * 2 ^ (56 - 8 * s)) := by
    have : (18446744073709551616 : Int) = 2 ^ (8 * s + (8 + (56 - 8 * s))) := by
      rw [show 8 * s + (8 + (56 - 8 * s)) = 64 by omega]; rfl
    rw [this, Int.pow_add, Int.pow_add]; rfl
  rw [hn, hd, Int.mul_assoc, Int.add_mul_ediv_left _ _ (Int.ne_of_gt hp), Int.mul_assoc 256, Int.add_mul_emod_self_left]
  have e3 : ((2 : Int) ^ (8 * s)) = ((2 ^ (8 * s) : Nat) : Int) := by simp
  rw [e3, ← Int.natCast_ediv]
  exact (Int.natCast_emod _ _).symm
end Go.Proofs.YtpkhgdnkkdhlcaaGreatDoor.By

namespace Go.Proofs.YtpkhgdnkkdhlcaaGreatDoor
open Go.RowKit By

/-- Bytes as a string. -/
def bstr (l : List Nat) : ByteArray := ⟨(l.map UInt8.ofNat).toArray⟩
theorem run_to_string {P : Program} {w : World} {B : Nat} {A : Option Addr} {l : List Nat} (h : Rd w B A (ints .u8 l)) (src e dst : TypeId) (hs : P.underlying src = some (.slice e)) (he : P.underlying e = some (.int .u8)) (hd : P.underlying dst = some .string) (n c : Nat) (hn : l.length = n) :
    (convert src dst (.slice A n c)).run P w = .ok (.string (bstr l)) w := by
  subst hn
  rcases A with _ | ad
  · have hl : l = [] := by
      rcases Classical.em (l = []) with h0 | h0
      · exact h0
      · obtain ⟨_, h2, _⟩ := h (by simpa [ints] using h0)
        cases h2
    subst hl
    exact run_convert_bytes_nil w src e hs he _ c dst hd
  · have hl : (loadCells ad l.length).run P w = .ok ((l.map fun (x : Nat) => (x : Int)).map (Value.int .u8)).toArray w := by
      have := run_loadCells_list (P := P) w ad (ints .u8 l) (fun j v hj => by
        obtain ⟨ad', h2, _, hc⟩ := h (by rintro e; rw [e] at hj; simp at hj)
        injection h2 with h2
        subst h2
        exact hc j v hj)
      rw [ints_length] at this
      rw [this]
      simp [ints]
    rw [run_convert_bytes_string w src dst e _ l.length c hs he hd, run_bytesToString w _ l.length c _ hl, foldl_push_bytes]
    simp [bstr, ByteArray.empty, ByteArray.emptyWithCapacity]
    rfl
theorem bstr_self (l : List Nat) : ((bstr l).toList == (bstr l).toList) = true := by simp

end Go.Proofs.YtpkhgdnkkdhlcaaGreatDoor
