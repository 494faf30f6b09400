/-
  Bytes, groups of bytes, their differences, orders and tokens: plain mathematics, of no program.
-/
import Derived.Below
namespace Go.Proofs.YtmoenbdooilceaaDoor.By

def gv (l : List Nat) : Nat := l.foldl (fun a x => a * 256 + x) 0
def gb : Nat → Nat → List Nat
  | 0, _ => []
  | n + 1, x => gb n (x / 256) ++ [x % 256]
def Bytes (l : List Nat) : Prop := ∀ x ∈ l, x < 256

theorem gv_snoc (l : List Nat) (x : Nat) : gv (l ++ [x]) = gv l * 256 + x := by simp [gv]
theorem Bytes.take {l : List Nat} (h : Bytes l) (n : Nat) : Bytes (l.take n) := fun x hx => h x (List.mem_of_mem_take hx)
theorem Bytes.drop {l : List Nat} (h : Bytes l) (n : Nat) : Bytes (l.drop n) := fun x hx => h x (List.mem_of_mem_drop hx)
theorem Bytes.app {l m : List Nat} (h : Bytes l) (h' : Bytes m) : Bytes (l ++ m) := fun x hx => (List.mem_append.1 hx).elim (h x) (h' x)
theorem Bytes.left {l m : List Nat} (h : Bytes (l ++ m)) : Bytes l := fun x hx => h x (List.mem_append_left _ hx)
theorem Bytes.right {l m : List Nat} (h : Bytes (l ++ m)) : Bytes m := fun x hx => h x (List.mem_append_right _ hx)
theorem Bytes.at_ {l : List Nat} (h : Bytes l) (i : Nat) : l.getD i 0 < 256 := by
  rw [List.getD_eq_getElem?_getD]
  rcases Nat.lt_or_ge i l.length with hi | hi
  · rw [List.getElem?_eq_getElem hi]; exact h _ (List.getElem_mem _)
  · rw [List.getElem?_eq_none hi]; show (0 : Nat) < 256; omega
theorem bytes_nil : Bytes [] := fun _ h => by cases h
theorem bytes_one {x : Nat} (h : x < 256) : Bytes [x] := fun y hy => by simp at hy; omega

theorem snoc_of_len {l : List Nat} {n : Nat} (h : l.length = n + 1) : ∃ m x, l = m ++ [x] ∧ m.length = n :=
  ⟨l.dropLast, l.getLast (by intro e; rw [e] at h; simp at h), (List.dropLast_concat_getLast _).symm, by rw [List.length_dropLast]; omega⟩
theorem gv_lt : ∀ {n : Nat} {l : List Nat}, l.length = n → Bytes l → gv l < 256 ^ n
  | 0, l, hl, _ => by obtain rfl := List.eq_nil_of_length_eq_zero hl; simp [gv]
  | n + 1, l, hl, hb => by
    obtain ⟨m, x, rfl, hm⟩ := snoc_of_len hl
    have h1 := gv_lt hm hb.left
    have h2 : x < 256 := hb x (by simp)
    rw [gv_snoc, Nat.pow_succ]; omega
theorem gb_len : ∀ (n x : Nat), (gb n x).length = n
  | 0, _ => rfl
  | n + 1, x => by simp [gb, gb_len n]
theorem gb_bytes : ∀ (n x : Nat), Bytes (gb n x)
  | 0, _ => bytes_nil
  | n + 1, x => (gb_bytes n _).app (bytes_one (by omega))
theorem gv_gb : ∀ (n x : Nat), gv (gb n x) = x % 256 ^ n
  | 0, x => by simp [gb, gv]; omega
  | n + 1, x => by
    rw [gb, gv_snoc, gv_gb n, Nat.pow_succ, Nat.mul_comm (256 ^ n) 256, Nat.mod_mul (a := 256)]; omega
theorem gb_gv : ∀ {n : Nat} {l : List Nat}, l.length = n → Bytes l → gb n (gv l) = l
  | 0, l, hl, _ => by obtain rfl := List.eq_nil_of_length_eq_zero hl; rfl
  | n + 1, l, hl, hb => by
    obtain ⟨m, x, rfl, hm⟩ := snoc_of_len hl
    have h2 : x < 256 := hb x (by simp)
    rw [gb, gv_snoc, show (gv m * 256 + x) / 256 = gv m by omega, show (gv m * 256 + x) % 256 = x by omega, gb_gv hm hb.left]
theorem gb_mod : ∀ (n x : Nat), gb n (x % 256 ^ n) = gb n x
  | 0, _ => rfl
  | n + 1, x => by
    have h1 : x % 256 ^ (n + 1) / 256 = x / 256 % 256 ^ n := by rw [Nat.pow_succ, Nat.mul_comm, Nat.mod_mul_right_div_self]
    have h2 : x % 256 ^ (n + 1) % 256 = x % 256 := by rw [Nat.pow_succ]; exact Nat.mod_mul_left_mod ..
    rw [gb, gb, h1, gb_mod n, h2]
theorem gb_congr {n x y : Nat} (h : x % 256 ^ n = y % 256 ^ n) : gb n x = gb n y := by rw [← gb_mod, h, gb_mod]
theorem pow_le {n : Nat} (h : n ≤ 8) : 256 ^ n ∣ 2 ^ 64 := by
  rw [show (256 : Nat) = 2 ^ 8 from rfl, ← Nat.pow_mul]; exact Nat.pow_dvd_pow 2 (by omega)
theorem gb_mod64 {n x : Nat} (h : n ≤ 8) : gb n (x % 2 ^ 64) = gb n x := gb_congr (Nat.mod_mod_of_dvd x (pow_le h))
theorem gv_lt64 {l : List Nat} (h : l.length ≤ 8) (hb : Bytes l) : gv l < 2 ^ 64 :=
  Nat.lt_of_lt_of_le (gv_lt rfl hb) (Nat.le_of_dvd (by decide) (pow_le h))

/-- The number of group j. -/
def G (b : List Nat) (n j : Nat) : Nat := gv ((b.drop (j * n)).take n)
/-- So many numbers as groups. -/
def jn (f : Nat → Nat) (n : Nat) : Nat → List Nat
  | 0 => []
  | k + 1 => jn f n k ++ gb n (f k)
theorem jn_len (f : Nat → Nat) (n : Nat) : ∀ k, (jn f n k).length = k * n
  | 0 => by simp [jn]
  | k + 1 => by rw [jn, List.length_append, jn_len f n k, gb_len, Nat.succ_mul]
theorem jn_bytes (f : Nat → Nat) (n : Nat) : ∀ k, Bytes (jn f n k)
  | 0 => bytes_nil
  | k + 1 => (jn_bytes f n k).app (gb_bytes _ _)
theorem jn_congr {f g : Nat → Nat} {n : Nat} : ∀ {k : Nat}, (∀ j, j < k → gb n (f j) = gb n (g j)) → jn f n k = jn g n k
  | 0, _ => rfl
  | k + 1, h => by rw [jn, jn, jn_congr fun j hj => h j (by omega), h k (by omega)]
theorem jn_at (f : Nat → Nat) (n : Nat) (r : List Nat) : ∀ {k j : Nat}, j < k → ((jn f n k ++ r).drop (j * n)).take n = gb n (f j)
  | 0, j, h => by omega
  | k + 1, j, h => by
    rcases Nat.lt_or_ge j k with h1 | h1
    · rw [jn, List.append_assoc]; exact jn_at f n _ h1
    · obtain rfl : j = k := by omega
      rw [jn, List.append_assoc, List.drop_append_of_le_length (by rw [jn_len]; exact Nat.le_refl _), List.drop_of_length_le (by rw [jn_len]; exact Nat.le_refl _), List.nil_append,
        List.take_append_of_le_length (by rw [gb_len]; exact Nat.le_refl _), List.take_of_length_le (by rw [gb_len]; exact Nat.le_refl _)]
theorem G_jn (f : Nat → Nat) (n : Nat) (r : List Nat) {k j : Nat} (h : j < k) : G (jn f n k ++ r) n j = f j % 256 ^ n := by
  unfold G; rw [jn_at f n r h, gv_gb]
theorem mul_le_of {b : List Nat} {n j : Nat} (h : j < b.length / n) : j * n + n ≤ b.length := by
  have h1 : (j + 1) * n ≤ b.length / n * n := Nat.mul_le_mul_right _ h
  have h2 := Nat.div_mul_le_self b.length n
  rw [Nat.succ_mul] at h1; omega
theorem G_lt {b : List Nat} (hb : Bytes b) {n j : Nat} (h : j < b.length / n) : G b n j < 256 ^ n :=
  gv_lt (by rw [List.length_take, List.length_drop]; have := mul_le_of h; omega) ((hb.drop _).take _)
theorem gb_G {b : List Nat} (hb : Bytes b) {n j : Nat} (h : j < b.length / n) : gb n (G b n j) = (b.drop (j * n)).take n :=
  gb_gv (by rw [List.length_take, List.length_drop]; have := mul_le_of h; omega) ((hb.drop _).take _)
theorem jn_G {b : List Nat} (hb : Bytes b) {n : Nat} : ∀ {k : Nat}, k ≤ b.length / n → jn (G b n) n k = b.take (k * n)
  | 0, _ => by simp [jn]
  | k + 1, h => by
    rw [jn, jn_G hb (by omega), gb_G hb (by omega), Nat.succ_mul, List.take_add]
/-- The bytes behind the last group. -/
def rest (b : List Nat) (n : Nat) : List Nat := b.drop (b.length / n * n)
theorem rest_len (b : List Nat) {n : Nat} (hn : 0 < n) : (rest b n).length < n := by
  unfold rest; rw [List.length_drop]
  have := Nat.mod_lt b.length hn
  have h := Nat.div_add_mod b.length n
  rw [Nat.mul_comm] at h; omega
theorem whole {b : List Nat} (hb : Bytes b) (n : Nat) : jn (G b n) n (b.length / n) ++ rest b n = b := by
  rw [jn_G hb (Nat.le_refl _)]; exact List.take_append_drop _ _
theorem groups_of {r : List Nat} {n k : Nat} (f : Nat → Nat) (hn : 0 < n) (hr : r.length < n) : (jn f n k ++ r).length / n = k := by
  rw [List.length_append, jn_len, Nat.mul_comm, Nat.mul_add_div hn, Nat.div_eq_of_lt hr]; omega
theorem rest_of {r : List Nat} {n k : Nat} (f : Nat → Nat) (hn : 0 < n) (hr : r.length < n) : rest (jn f n k ++ r) n = r := by
  unfold rest
  rw [groups_of f hn hr, List.drop_append_of_le_length (by rw [jn_len]; exact Nat.le_refl _), List.drop_of_length_le (by rw [jn_len]; exact Nat.le_refl _), List.nil_append]

/-- Differences and sums of numbers modulo 2^64. -/
def dl (l : Nat → Nat) : Nat → Nat
  | 0 => l 0
  | j + 1 => (l (j + 1) + (2 ^ 64 - l j % 2 ^ 64)) % 2 ^ 64
def sm (d : Nat → Nat) : Nat → Nat
  | 0 => d 0 % 2 ^ 64
  | j + 1 => (sm d j + d (j + 1)) % 2 ^ 64
theorem sm_lt (d : Nat → Nat) : ∀ j, sm d j < 2 ^ 64
  | 0 => Nat.mod_lt _ (by decide)
  | _ + 1 => Nat.mod_lt _ (by decide)
def deltaB (b : List Nat) (n : Nat) : List Nat := jn (dl (G b n)) n (b.length / n) ++ rest b n
def undeltaB (b : List Nat) (n : Nat) : List Nat := jn (sm (G b n)) n (b.length / n) ++ rest b n
theorem deltaB_len (b : List Nat) (n : Nat) : (deltaB b n).length = b.length := by
  unfold deltaB rest; rw [List.length_append, jn_len, List.length_drop]; have := Nat.div_mul_le_self b.length n; omega
theorem undeltaB_len (b : List Nat) (n : Nat) : (undeltaB b n).length = b.length := by
  unfold undeltaB rest; rw [List.length_append, jn_len, List.length_drop]; have := Nat.div_mul_le_self b.length n; omega
theorem deltaB_bytes {b : List Nat} (hb : Bytes b) (n : Nat) : Bytes (deltaB b n) := (jn_bytes _ _ _).app (hb.drop _)
theorem undeltaB_bytes {b : List Nat} (hb : Bytes b) (n : Nat) : Bytes (undeltaB b n) := (jn_bytes _ _ _).app (hb.drop _)
theorem mod_add_congr {M a b c d : Nat} (h1 : a % M = b % M) (h2 : c % M = d % M) : (a + c) % M = (b + d) % M := by rw [Nat.add_mod, h1, h2, ← Nat.add_mod]
theorem dl_congr {M : Nat} (hM : M ∣ 2 ^ 64) {l l' : Nat → Nat} : ∀ {j : Nat}, (∀ i, i ≤ j → l i % M = l' i % M) → dl l j % M = dl l' j % M
  | 0, h => h 0 (Nat.le_refl _)
  | j + 1, h => by
    have hlt := Nat.mod_lt (l j) (by decide : 0 < 2 ^ 64)
    have hlt' := Nat.mod_lt (l' j) (by decide : 0 < 2 ^ 64)
    have h0 : l j % 2 ^ 64 % M = l' j % 2 ^ 64 % M := by rw [Nat.mod_mod_of_dvd _ hM, Nat.mod_mod_of_dvd _ hM]; exact h j (by omega)
    show _ % 2 ^ 64 % M = _ % 2 ^ 64 % M
    rw [Nat.mod_mod_of_dvd _ hM, Nat.mod_mod_of_dvd _ hM]
    refine mod_add_congr (h _ (Nat.le_refl _)) ?_
    generalize l j % 2 ^ 64 = x at *
    generalize l' j % 2 ^ 64 = y at *
    generalize 2 ^ 64 = N at *
    obtain ⟨q, rfl⟩ := hM
    have e1 := Nat.div_add_mod x M
    have e2 := Nat.div_add_mod y M
    rcases Nat.lt_or_ge x y with hxy | hxy
    · obtain ⟨k, hk⟩ : ∃ k, y = x + M * k := ⟨y / M - x / M, by rw [Nat.mul_sub]; have : M * (x / M) ≤ M * (y / M) := Nat.mul_le_mul_left _ (Nat.div_le_div_right (Nat.le_of_lt hxy)); omega⟩
      rw [show M * q - x = M * q - y + M * k by omega, Nat.add_mul_mod_self_left]
    · obtain ⟨k, hk⟩ : ∃ k, x = y + M * k := ⟨x / M - y / M, by rw [Nat.mul_sub]; have : M * (y / M) ≤ M * (x / M) := Nat.mul_le_mul_left _ (Nat.div_le_div_right hxy); omega⟩
      rw [show M * q - y = M * q - x + M * k by omega, Nat.add_mul_mod_self_left]
theorem sm_congr {M : Nat} (hM : M ∣ 2 ^ 64) {l l' : Nat → Nat} : ∀ {j : Nat}, (∀ i, i ≤ j → l i % M = l' i % M) → sm l j % M = sm l' j % M
  | 0, h => by show _ % 2 ^ 64 % M = _ % 2 ^ 64 % M; rw [Nat.mod_mod_of_dvd _ hM, Nat.mod_mod_of_dvd _ hM]; exact h 0 (Nat.le_refl _)
  | j + 1, h => by
    show _ % 2 ^ 64 % M = _ % 2 ^ 64 % M
    rw [Nat.mod_mod_of_dvd _ hM, Nat.mod_mod_of_dvd _ hM]
    exact mod_add_congr (sm_congr hM fun i hi => h i (by omega)) (h _ (Nat.le_refl _))
theorem sm_dl (l : Nat → Nat) : ∀ j, sm (dl l) j = l j % 2 ^ 64
  | 0 => rfl
  | j + 1 => by
    show (sm (dl l) j + dl l (j + 1)) % 2 ^ 64 = _
    rw [sm_dl l j]
    show (l j % 2 ^ 64 + (l (j + 1) + (2 ^ 64 - l j % 2 ^ 64)) % 2 ^ 64) % 2 ^ 64 = _
    omega
theorem dl_sm (l : Nat → Nat) : ∀ j, dl (sm l) j % 2 ^ 64 = l j % 2 ^ 64
  | 0 => by show l 0 % 2 ^ 64 % 2 ^ 64 = _; omega
  | j + 1 => by
    show ((sm l j + l (j + 1)) % 2 ^ 64 + (2 ^ 64 - sm l j % 2 ^ 64)) % 2 ^ 64 % 2 ^ 64 = _
    have := sm_lt l j
    omega
theorem undelta_delta {b : List Nat} (hb : Bytes b) {n : Nat} (h1 : 0 < n) (h8 : n ≤ 8) : undeltaB (deltaB b n) n = b := by
  have hr := rest_len b h1
  unfold undeltaB
  rw [show deltaB b n = jn (dl (G b n)) n (b.length / n) ++ rest b n from rfl, groups_of _ h1 hr, rest_of _ h1 hr]
  refine Eq.trans (congrArg (· ++ rest b n) (jn_congr fun j hj => gb_congr ?_)) (whole hb n)
  have e := sm_congr (pow_le h8) (l := G (jn (dl (G b n)) n (b.length / n) ++ rest b n) n) (l' := dl (G b n)) (j := j) fun i hi => by
    rw [G_jn _ _ _ (by omega), Nat.mod_mod]
  rw [e, sm_dl, Nat.mod_mod_of_dvd _ (pow_le h8)]
theorem delta_undelta {b : List Nat} (hb : Bytes b) {n : Nat} (h1 : 0 < n) (h8 : n ≤ 8) : deltaB (undeltaB b n) n = b := by
  have hr := rest_len b h1
  unfold deltaB
  rw [show undeltaB b n = jn (sm (G b n)) n (b.length / n) ++ rest b n from rfl, groups_of _ h1 hr, rest_of _ h1 hr]
  refine Eq.trans (congrArg (· ++ rest b n) (jn_congr fun j hj => gb_congr ?_)) (whole hb n)
  have e := dl_congr (pow_le h8) (l := G (jn (sm (G b n)) n (b.length / n) ++ rest b n) n) (l' := sm (G b n)) (j := j) fun i hi => by
    rw [G_jn _ _ _ (by omega), Nat.mod_mod]
  rw [e, ← Nat.mod_mod_of_dvd _ (pow_le h8), dl_sm, Nat.mod_mod_of_dvd _ (pow_le h8)]

/-- Differences so far: what stands in memory when so many groups have been written. -/
def dst (f : Nat → Nat) (b : List Nat) (n j : Nat) : List Nat := jn f n j ++ b.drop (j * n)
theorem dst_len (f : Nat → Nat) {b : List Nat} {n j : Nat} (h : j * n ≤ b.length) : (dst f b n j).length = b.length := by
  unfold dst; rw [List.length_append, jn_len, List.length_drop]; omega
theorem dst_one (f : Nat → Nat) {b : List Nat} (hb : Bytes b) {n : Nat} (h : n ≤ b.length) (hn : 0 < n) (h0 : f 0 % 256 ^ n = G b n 0 % 256 ^ n) : dst f b n 1 = b := by
  unfold dst
  show ([] ++ gb n (f 0)) ++ b.drop (1 * n) = b
  rw [List.nil_append, gb_congr h0, gb_G hb (Nat.div_pos h hn), Nat.zero_mul, Nat.one_mul, List.drop_zero, List.take_append_drop]
theorem dst_all (f : Nat → Nat) (b : List Nat) (n : Nat) : dst f b n (b.length / n) = jn f n (b.length / n) ++ rest b n := rfl
theorem dst_step (f : Nat → Nat) (b : List Nat) (n j : Nat) : (dst f b n j).take (j * n) ++ gb n (f j) ++ (dst f b n j).drop (j * n + n) = dst f b n (j + 1) := by
  have hl : (jn f n j).length = j * n := jn_len _ _ _
  unfold dst
  rw [List.take_append_of_le_length (by omega), List.take_of_length_le (by omega), List.drop_append, List.drop_of_length_le (by omega), List.nil_append, List.drop_drop, hl,
    show j * n + (j * n + n - j * n) = (j + 1) * n by rw [Nat.succ_mul]; omega]
  rfl
/-- The last group that has been written. -/
theorem dst_last (f : Nat → Nat) {b : List Nat} {n j : Nat} (hj : 1 ≤ j) : gv (((dst f b n j).drop (j * n - n)).take n) = f (j - 1) % 256 ^ n := by
  have := G_jn f n (b.drop (j * n)) (show j - 1 < j by omega)
  unfold G at this
  rw [← this, Nat.sub_mul, Nat.one_mul]; rfl
theorem G_at (b : List Nat) (n j : Nat) : gv ((b.drop (j * n - n)).take n) = G b n (j - 1) := by
  unfold G; rw [Nat.sub_mul, Nat.one_mul]
theorem short_all {f : Nat → Nat} {b : List Nat} (hb : Bytes b) {n : Nat} (h1 : 1 ≤ n) (h : b.length < n + n) (h0 : f 0 % 256 ^ n = G b n 0 % 256 ^ n) : jn f n (b.length / n) ++ rest b n = b := by
  rw [← dst_all]
  rcases Nat.lt_or_ge b.length n with h2 | h2
  · rw [Nat.div_eq_of_lt h2]; simp [dst, jn]
  · have : b.length / n = 1 := Nat.div_eq_of_lt_le (by omega) (by omega)
    rw [this]; exact dst_one f hb h2 h1 h0
/-- Where the byte at place t of shuffled bytes comes from. -/
def pl (len n t : Nat) : Nat := if t < len / n * n then t % (len / n) * n + t / (len / n) else t
/-- Where the byte at place x goes. -/
def ql (len n x : Nat) : Nat := if x < len / n * n then x % n * (len / n) + x / n else x
theorem pair_lt {a b m n : Nat} (ha : a < m) (hb : b < n) : a * n + b < m * n := by
  have : (a + 1) * n ≤ m * n := Nat.mul_le_mul_right _ ha
  rw [Nat.succ_mul] at this; omega
theorem pair_div {a b n : Nat} (hb : b < n) : (a * n + b) / n = a := by
  rw [Nat.mul_comm, Nat.mul_add_div (by omega), Nat.div_eq_of_lt hb]; omega
theorem pair_mod {a b n : Nat} (hb : b < n) : (a * n + b) % n = b := by rw [Nat.mul_comm, Nat.mul_add_mod, Nat.mod_eq_of_lt hb]
theorem split_lt {x m n : Nat} (h : x < m * n) : x / n < m ∧ x % n < n := by
  have hn : 0 < n := Nat.pos_of_ne_zero fun e => by subst e; omega
  exact ⟨Nat.div_lt_of_lt_mul (by rw [Nat.mul_comm]; exact h), Nat.mod_lt _ hn⟩
theorem split_eq (x n : Nat) : x / n * n + x % n = x := by rw [Nat.mul_comm]; exact Nat.div_add_mod x n
theorem pl_ql {len n x : Nat} (h : x < len) : pl len n (ql len n x) = x ∧ ql len n x < len := by
  have hl := Nat.div_mul_le_self len n
  unfold pl ql
  by_cases hx : x < len / n * n
  · obtain ⟨h1, h2⟩ := split_lt hx
    rw [if_pos hx]
    have h3 := pair_lt h2 h1
    have h4 : n * (len / n) = len / n * n := Nat.mul_comm _ _
    rw [if_pos (by omega), pair_mod h1, pair_div h1, split_eq]
    exact ⟨rfl, by omega⟩
  · rw [if_neg hx, if_neg hx]; exact ⟨rfl, h⟩
theorem ql_pl {len n t : Nat} (h : t < len) : ql len n (pl len n t) = t ∧ pl len n t < len := by
  have hl := Nat.div_mul_le_self len n
  unfold pl ql
  by_cases hx : t < len / n * n
  · rw [if_pos hx]
    obtain ⟨h1, h2⟩ := split_lt (by rw [Nat.mul_comm] at hx; exact hx : t < n * (len / n))
    have h3 := pair_lt h2 h1
    rw [if_pos h3, pair_mod h1, pair_div h1, split_eq]
    exact ⟨rfl, by omega⟩
  · rw [if_neg hx, if_neg hx]; exact ⟨rfl, h⟩
def shufB (b : List Nat) (n : Nat) : List Nat := (List.range b.length).map fun t => b.getD (pl b.length n t) 0
def unshB (b : List Nat) (n : Nat) : List Nat := (List.range b.length).map fun x => b.getD (ql b.length n x) 0
theorem shufB_len (b : List Nat) (n : Nat) : (shufB b n).length = b.length := by simp [shufB]
theorem unshB_len (b : List Nat) (n : Nat) : (unshB b n).length = b.length := by simp [unshB]
theorem shufB_at (b : List Nat) (n : Nat) {t : Nat} (h : t < b.length) : (shufB b n).getD t 0 = b.getD (pl b.length n t) 0 := by
  simp [shufB, List.getD_eq_getElem?_getD, List.getElem?_range h]
theorem unshB_at (b : List Nat) (n : Nat) {t : Nat} (h : t < b.length) : (unshB b n).getD t 0 = b.getD (ql b.length n t) 0 := by
  simp [unshB, List.getD_eq_getElem?_getD, List.getElem?_range h]
theorem ext_getD {a b : List Nat} (hl : a.length = b.length) (h : ∀ i, i < a.length → a.getD i 0 = b.getD i 0) : a = b := by
  apply List.ext_getElem hl
  intro i h1 h2
  have := h i h1
  simpa [List.getD_eq_getElem?_getD, List.getElem?_eq_getElem h1, List.getElem?_eq_getElem h2] using this
theorem unsh_shuf (b : List Nat) (n : Nat) : unshB (shufB b n) n = b := by
  apply ext_getD (by rw [unshB_len, shufB_len])
  intro i hi
  rw [unshB_len, shufB_len] at hi
  obtain ⟨h1, h2⟩ := pl_ql (n := n) hi
  rw [unshB_at _ _ (by rw [shufB_len]; exact hi), shufB_len, shufB_at _ _ h2, h1]
theorem shuf_unsh (b : List Nat) (n : Nat) : shufB (unshB b n) n = b := by
  apply ext_getD (by rw [shufB_len, unshB_len])
  intro i hi
  rw [shufB_len, unshB_len] at hi
  obtain ⟨h1, h2⟩ := ql_pl (n := n) hi
  rw [shufB_at _ _ (by rw [unshB_len]; exact hi), unshB_len, unshB_at _ _ h2, h1]
theorem getD_bytes {b : List Nat} (hb : Bytes b) (f : Nat → Nat) (l : List Nat) : Bytes (l.map fun t => b.getD (f t) 0) := by
  intro x hx
  obtain ⟨t, _, rfl⟩ := List.mem_map.1 hx
  exact hb.at_ _
theorem shufB_bytes {b : List Nat} (hb : Bytes b) (n : Nat) : Bytes (shufB b n) := getD_bytes hb _ _
theorem unshB_bytes {b : List Nat} (hb : Bytes b) (n : Nat) : Bytes (unshB b n) := getD_bytes hb _ _
/-- The places, as they are written one behind the other. -/
theorem pl_group {len n k g : Nat} (hg : g < len / n) (hk : k < n) : pl len n (k * (len / n) + g) = g * n + k := by
  unfold pl
  have h1 := pair_lt hk hg
  rw [Nat.mul_comm n] at h1
  rw [if_pos h1, pair_mod hg, pair_div hg]
theorem ql_group {len n i j : Nat} (hi : i < len / n) (hj : j < n) : ql len n (i * n + j) = j * (len / n) + i := by
  unfold ql
  rw [if_pos (pair_lt hi hj), pair_mod hj, pair_div hj]
theorem pl_rest {len n t : Nat} (h : len / n * n ≤ t) : pl len n t = t := by unfold pl; rw [if_neg (by omega)]
theorem ql_rest {len n t : Nat} (h : len / n * n ≤ t) : ql len n t = t := by unfold ql; rw [if_neg (by omega)]
/-- A list of length m whose entries are known is a map over a range. -/
theorem map_range_snoc {α : Type} (f : Nat → α) (m : Nat) : (List.range (m + 1)).map f = (List.range m).map f ++ [f m] := by
  rw [List.range_succ, List.map_append]; rfl
theorem map_rest (b : List Nat) (f : Nat → Nat) {m : Nat} (hm : m ≤ b.length) (hf : ∀ t, m ≤ t → f t = t) :
    (List.range m).map (fun t => b.getD (f t) 0) ++ b.drop m = (List.range b.length).map fun t => b.getD (f t) 0 := by
  apply ext_getD (by simp; omega)
  intro i hi
  simp only [List.length_append, List.length_map, List.length_range, List.length_drop] at hi
  rcases Nat.lt_or_ge i m with h | h
  · simp [List.getD_eq_getElem?_getD, List.getElem?_append, h, List.getElem?_range (show i < b.length by omega)]
  · simp [List.getD_eq_getElem?_getD, List.getElem?_append, Nat.not_lt.2 h, List.getElem?_range (show i < b.length by omega), hf i h, show m + (i - m) = i by omega]

/-- So many bytes, each as it stands d bytes in front of the end. -/
def rep (d : Nat) (out : List Nat) : Nat → List Nat
  | 0 => out
  | k + 1 => rep d out k ++ [(rep d out k).getD ((rep d out k).length - d) 0]
theorem rep_len (d : Nat) (out : List Nat) : ∀ k, (rep d out k).length = out.length + k
  | 0 => rfl
  | k + 1 => by rw [rep, List.length_append, rep_len d out k]; rfl
theorem rep_bytes {d : Nat} {out : List Nat} (h : Bytes out) : ∀ k, Bytes (rep d out k)
  | 0 => h
  | k + 1 => (rep_bytes h k).app (bytes_one ((rep_bytes h k).at_ _))
/-- The tokens from a place on, behind bytes that have been decoded: an error, or all bytes. -/
def und (b out : List Nat) : Nat × List Nat :=
  match b with
  | [] => (0, out)
  | c :: r =>
    if c < 128 then
      if r.length < c + 1 then (5, [])
      else if out.length + (c + 1) > 1048576 then (4, [])
      else und (r.drop (c + 1)) (out ++ r.take (c + 1))
    else
      if r.length < 2 then (5, [])
      else if r.getD 0 0 * 256 + r.getD 1 0 = 0 ∨ r.getD 0 0 * 256 + r.getD 1 0 > out.length then (5, [])
      else if out.length + (c - 124) > 1048576 then (4, [])
      else und (r.drop 2) (rep (r.getD 0 0 * 256 + r.getD 1 0) out (c - 124))
termination_by b.length
decreasing_by all_goals (simp; omega)
theorem und_nil (out : List Nat) : und [] out = (0, out) := by rw [und]
section
variable {c : Nat} {r out : List Nat}
theorem und_lit_short (h : c < 128) (h1 : r.length < c + 1) : und (c :: r) out = (5, []) := by rw [und, if_pos h, if_pos h1]
theorem und_lit_long (h : c < 128) (h1 : ¬ r.length < c + 1) (h2 : out.length + (c + 1) > 1048576) : und (c :: r) out = (4, []) := by rw [und, if_pos h, if_neg h1, if_pos h2]
theorem und_lit (h : c < 128) (h1 : ¬ r.length < c + 1) (h2 : ¬ out.length + (c + 1) > 1048576) : und (c :: r) out = und (r.drop (c + 1)) (out ++ r.take (c + 1)) := by rw [und, if_pos h, if_neg h1, if_neg h2]
theorem und_rep_short (h : ¬ c < 128) (h1 : r.length < 2) : und (c :: r) out = (5, []) := by rw [und, if_neg h, if_pos h1]
theorem und_rep_far (h : ¬ c < 128) (h1 : ¬ r.length < 2) (h2 : r.getD 0 0 * 256 + r.getD 1 0 = 0 ∨ r.getD 0 0 * 256 + r.getD 1 0 > out.length) : und (c :: r) out = (5, []) := by rw [und, if_neg h, if_neg h1, if_pos h2]
theorem und_rep_long (h : ¬ c < 128) (h1 : ¬ r.length < 2) (h2 : ¬ (r.getD 0 0 * 256 + r.getD 1 0 = 0 ∨ r.getD 0 0 * 256 + r.getD 1 0 > out.length)) (h3 : out.length + (c - 124) > 1048576) : und (c :: r) out = (4, []) := by
  rw [und, if_neg h, if_neg h1, if_neg h2, if_pos h3]
theorem und_rep (h : ¬ c < 128) (h1 : ¬ r.length < 2) (h2 : ¬ (r.getD 0 0 * 256 + r.getD 1 0 = 0 ∨ r.getD 0 0 * 256 + r.getD 1 0 > out.length)) (h3 : ¬ out.length + (c - 124) > 1048576) :
    und (c :: r) out = und (r.drop 2) (rep (r.getD 0 0 * 256 + r.getD 1 0) out (c - 124)) := by
  rw [und, if_neg h, if_neg h1, if_neg h2, if_neg h3]
end
end Go.Proofs.YtmoenbdooilceaaDoor.By
