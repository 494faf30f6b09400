/-
  Bytes, groups of bytes, their differences, orders and tokens: plain mathematics, of no program.
  Bits of integers as the walk spells them.
  Walks: package codec: numbers of groups.
  Walks: package codec: copies, the first error of groups, differences and sums.
  Walks: the reference of package codec: numbers of groups, groups, and groups joined.
  The bytes of integers: plain mathematics.
-/
import Derived.Below
import Derived.WalkKit
import Derived.Test.YtpkhgdnkkdhlcaaGreatDoorProg
import Derived.Test.YtpkhgdnkkdhlcaaGreatDoorWordsC
import Derived.WalkSpells
import Derived.WalkLawsBesides
import Derived.Deep.QuietTactic
import Derived.BigQuiet
import Derived.Outline
import Derived.StillTailTactics
import Derived.IntWalk
namespace Go.Proofs.YtpkhgdnkkdhlcaaGreatDoor.By

def gv (l : List Nat) : Nat := l.foldl (fun a x => a * 256 + x) 0
def gb : Nat → Nat → List Nat
  | 0, _ => []
  | n + 1, x => gb n (x / 256) ++ [x % 256]
def Bytes (l : List Nat) : Prop := ∀ x ∈ l, x < 256

theorem gv_snoc (l : List Nat) (x : Nat) : gv (l ++ [x]) = gv l * 256 + x := by simp [gv]
theorem Bytes.take {l : List Nat} (h : Bytes l) (n : Nat) : Bytes (l.take n) := fun x hx => h x (List.mem_of_mem_take hx)
theorem Bytes.drop {l : List Nat} (h : Bytes l) (n : Nat) : Bytes (l.drop n) := fun x hx => h x (List.mem_of_mem_drop hx)
theorem Bytes.app {l m : List Nat} (h : Bytes l) (h' : Bytes m) : Bytes (l ++ m) := fun x hx => (List.mem_append.1 hx).elim (h x) (h' x)
theorem Bytes.left {l m : List Nat} (h : Bytes (l ++ m)) : Bytes l := fun x hx => h x (List.mem_append_left _ hx)
theorem Bytes.right {l m : List Nat} (h : Bytes (l ++ m)) : Bytes m := fun x hx => h x (List.mem_append_right _ hx)
theorem Bytes.at_ {l : List Nat} (h : Bytes l) (i : Nat) : l.getD i 0 < 256 := by
  rw [List.getD_eq_getElem?_getD]
  rcases Nat.lt_or_ge i l.length with hi | hi
  · rw [List.getElem?_eq_getElem hi]; exact h _ (List.getElem_mem _)
  · rw [List.getElem?_eq_none hi]; show (0 : Nat) < 256; omega
theorem bytes_nil : Bytes [] := fun _ h => by cases h
theorem bytes_one {x : Nat} (h : x < 256) : Bytes [x] := fun y hy => by simp at hy; omega

theorem snoc_of_len {l : List Nat} {n : Nat} (h : l.length = n + 1) : ∃ m x, l = m ++ [x] ∧ m.length = n :=
  ⟨l.dropLast, l.getLast (by intro e; rw [e] at h; simp at h), (List.dropLast_concat_getLast _).symm, by rw [List.length_dropLast]; omega⟩
theorem gb_len : ∀ (n x : Nat), (gb n x).length = n
  | 0, _ => rfl
  | n + 1, x => by simp [gb, gb_len n]
theorem gb_bytes : ∀ (n x : Nat), Bytes (gb n x)
  | 0, _ => bytes_nil
  | n + 1, x => (gb_bytes n _).app (bytes_one (by omega))
theorem gb_gv : ∀ {n : Nat} {l : List Nat}, l.length = n → Bytes l → gb n (gv l) = l
  | 0, l, hl, _ => by obtain rfl := List.eq_nil_of_length_eq_zero hl; rfl
  | n + 1, l, hl, hb => by
    obtain ⟨m, x, rfl, hm⟩ := snoc_of_len hl
    have h2 : x < 256 := hb x (by simp)
    rw [gb, gv_snoc, show (gv m * 256 + x) / 256 = gv m by omega, show (gv m * 256 + x) % 256 = x by omega, gb_gv hm hb.left]
/-- The number of group j. -/
def G (b : List Nat) (n j : Nat) : Nat := gv ((b.drop (j * n)).take n)
/-- So many numbers as groups. -/
def jn (f : Nat → Nat) (n : Nat) : Nat → List Nat
  | 0 => []
  | k + 1 => jn f n k ++ gb n (f k)
theorem mul_le_of {b : List Nat} {n j : Nat} (h : j < b.length / n) : j * n + n ≤ b.length := by
  have h1 : (j + 1) * n ≤ b.length / n * n := Nat.mul_le_mul_right _ h
  have h2 := Nat.div_mul_le_self b.length n
  rw [Nat.succ_mul] at h1; omega
theorem gb_G {b : List Nat} (hb : Bytes b) {n j : Nat} (h : j < b.length / n) : gb n (G b n j) = (b.drop (j * n)).take n :=
  gb_gv (by rw [List.length_take, List.length_drop]; have := mul_le_of h; omega) ((hb.drop _).take _)
theorem jn_G {b : List Nat} (hb : Bytes b) {n : Nat} : ∀ {k : Nat}, k ≤ b.length / n → jn (G b n) n k = b.take (k * n)
  | 0, _ => by simp [jn]
  | k + 1, h => by
    rw [jn, jn_G hb (by omega), gb_G hb (by omega), Nat.succ_mul, List.take_add]
/-- The bytes behind the last group. -/
def rest (b : List Nat) (n : Nat) : List Nat := b.drop (b.length / n * n)
theorem whole {b : List Nat} (hb : Bytes b) (n : Nat) : jn (G b n) n (b.length / n) ++ rest b n = b := by
  rw [jn_G hb (Nat.le_refl _)]; exact List.take_append_drop _ _
/-- Differences so far: what stands in memory when so many groups have been written. -/
def dst (f : Nat → Nat) (b : List Nat) (n j : Nat) : List Nat := jn f n j ++ b.drop (j * n)
/-- Where the byte at place x goes. -/
def ql (len n x : Nat) : Nat := if x < len / n * n then x % n * (len / n) + x / n else x
section
variable {c : Nat} {r out : List Nat}
end
end Go.Proofs.YtpkhgdnkkdhlcaaGreatDoor.By

namespace Go.Proofs.YtpkhgdnkkdhlcaaGreatDoor
open Go.RowKit

theorem wrap_u8 {a : Nat} (h : a < 2 ^ 8) : IntKind.u8.wrap (a : Int) = (a : Int) := by
  unfold IntKind.wrap; simp [IntKind.signed, IntKind.bits]; omega
theorem or_u8 {a b : Nat} (ha : a < 256) (hb : b < 256) : bits .or .u8 (a : Int) (b : Int) = ((a ||| b : Nat) : Int) := by
  show IntKind.u8.wrap ((BitVec.ofInt 8 (a : Int) ||| BitVec.ofInt 8 (b : Int)).toNat : Int) = _
  rw [BitVec.ofInt_natCast, BitVec.ofInt_natCast, BitVec.toNat_or, BitVec.toNat_ofNat, BitVec.toNat_ofNat, Nat.mod_eq_of_lt (show a < 2 ^ 8 from ha), Nat.mod_eq_of_lt (show b < 2 ^ 8 from hb)]
  exact wrap_u8 (Nat.or_lt_two_pow (n := 8) ha hb)
end Go.Proofs.YtpkhgdnkkdhlcaaGreatDoor

namespace Go.Proofs.YtpkhgdnkkdhlcaaGreatDoor
open Go.RowKit By

theorem Tryz.u8c_info : (Tryz.prog.info? 5).map (fun i => (i.zero, i.size, i.bytes)) = some (some (.int .u8 0), 1, 1) := by kernel_rfl

end Go.Proofs.YtpkhgdnkkdhlcaaGreatDoor

namespace Go.Proofs.YtpkhgdnkkdhlcaaGreatDoor
open Go.RowKit By

/-- Numbers as a slice, nil too. -/
def IsL (w : World) (B : Nat) (k : IntKind) (v : Value) (l : List Nat) : Prop := ∃ A c, v = .slice A l.length c ∧ l.length ≤ c ∧ Rd w B A (ints k l)
section
variable {w w' : World} {B B' : Nat} {k : IntKind} {v : Value} {l : List Nat}
theorem IsL.more (h : IsL w B k v l) (hB : B ≤ B') : IsL w B' k v l := by obtain ⟨A, c, e, h1, h3⟩ := h; exact ⟨A, c, e, h1, h3.more hB⟩
theorem IsL.below (h : IsL w B k v l) (hb : Below B w w') : IsL w' B k v l := by obtain ⟨A, c, e, h1, h3⟩ := h; exact ⟨A, c, e, h1, h3.below hb⟩
theorem IsL.next (h : IsL w w.heap.size k v l) (hb : Below w.heap.size w w') : IsL w' w'.heap.size k v l := (h.below hb).more hb.size
theorem IsL.nil (w : World) (B : Nat) (k : IntKind) : IsL w B k (.slice none 0 0) [] := ⟨none, 0, rfl, Nat.le_refl _, Rd.nil⟩
theorem IsL.of_own {base : Nat} {T : TypeId} {n : Nat} (h : w.ownsRow base T 1 v n (ints k l)) : IsL w w.heap.size k v l := by
  have hl : l.length = n := by have := h.1; rwa [ints_length, Nat.mul_one] at this
  rcases h.2 with ⟨rfl, rfl⟩ | ⟨g, cap, cur, rfl, _, _, hc, _⟩
  · obtain rfl : l = [] := List.eq_nil_of_length_eq_zero hl
    exact IsL.nil _ _ _
  · exact ⟨_, cap, by rw [hl], by omega, Rd.of_own h⟩
theorem IsL.drewN (h : IsL w B k v l) (n : Nat) : IsL (w.drewN n) B k v l := h
theorem IsL.alloc (h : IsL w w.heap.size k v l) (o : Obj) : IsL (w.alloc o) (w.alloc o).heap.size k v l := h.next ((Below.refl _ _).alloc (Nat.le_refl _) _)
theorem IsL.row {g : Nat} {T : TypeId} {c : Nat} (h : Row w g T k l) (hc : l.length ≤ c) : IsL w w.heap.size k (.slice (some ⟨g, 0, none⟩) l.length c) l := ⟨_, c, rfl, hc, h.all⟩
end

end Go.Proofs.YtpkhgdnkkdhlcaaGreatDoor

namespace Go.Proofs.YtpkhgdnkkdhlcaaGreatDoor
open Go.RowKit By

theorem Tryz.u64_info : (Tryz.prog.info? 67).map (fun i => (i.zero, i.size, i.bytes)) = some (some (.int .u64 0), 1, 8) := by kernel_rfl

theorem gb_head {n X s : Nat} (h : s < n) : (gb n X).take (n - s) = (gb n X).take (n - (s + 1)) ++ [X / 256 ^ s % 256] := by
  have e : ∀ (m k : Nat), gb (m + k) X = gb m (X / 256 ^ k) ++ gb k X := by
    intro m k
    induction k generalizing X with
    | zero => simp [gb]
    | succ k ih =>
      show gb (m + k) (X / 256) ++ [X % 256] = _
      rw [ih, Nat.div_div_eq_div_mul, List.append_assoc, Nat.pow_succ, Nat.mul_comm 256]; rfl
  obtain ⟨m, rfl⟩ : ∃ m, n = m + 1 + s := ⟨n - (s + 1), by omega⟩
  rw [show m + 1 + s - s = m + 1 by omega, show m + 1 + s - (s + 1) = m by omega, e, List.take_append_of_le_length (by rw [gb_len]; omega), List.take_append_of_le_length (by rw [gb_len]; omega),
    List.take_of_length_le (by rw [gb_len]; omega)]
  show gb m (X / 256 ^ s / 256) ++ [X / 256 ^ s % 256] = (gb m (X / 256 ^ s / 256) ++ [X / 256 ^ s % 256]).take m ++ _
  rw [List.take_append_of_le_length (by rw [gb_len]; omega), List.take_of_length_le (by rw [gb_len]; omega)]

end Go.Proofs.YtpkhgdnkkdhlcaaGreatDoor

namespace Go.Proofs.YtpkhgdnkkdhlcaaGreatDoor.By
open Go.RowKit

/-- One bit is set. -/
def putbit (l : List Nat) (i : Nat) : List Nat := l.set (i / 8) (l.getD (i / 8) 0 ||| 2 ^ (i % 8))
/-- The bits of the first i values. -/
def bm (fl : List Bool) : Nat → List Nat
  | 0 => List.replicate ((fl.length + 7) / 8) 0
  | i + 1 => if fl.getD i false then putbit (bm fl i) i else bm fl i
theorem putbit_len (l : List Nat) (i : Nat) : (putbit l i).length = l.length := by simp [putbit]
theorem bm_len (fl : List Bool) : ∀ i, (bm fl i).length = (fl.length + 7) / 8
  | 0 => by simp [bm]
  | i + 1 => by
    rw [bm]; split
    · rw [putbit_len, bm_len fl i]
    · exact bm_len fl i
theorem pow_bit (i : Nat) : 2 ^ (i % 8) < 256 := by
  have h : 2 ^ (i % 8) ≤ 2 ^ 7 := Nat.pow_le_pow_right (by decide) (by omega)
  omega
theorem or_lt {a b : Nat} (ha : a < 256) (hb : b < 256) : a ||| b < 256 := Nat.or_lt_two_pow (n := 8) ha hb
theorem putbit_bytes {l : List Nat} (h : Bytes l) (i : Nat) : Bytes (putbit l i) := fun x hx => by
  rcases List.mem_or_eq_of_mem_set hx with h1 | h1
  · exact h x h1
  · rw [h1]; exact or_lt (h.at_ _) (pow_bit i)
theorem bm_bytes (fl : List Bool) : ∀ i, Bytes (bm fl i)
  | 0 => fun x hx => by rw [List.eq_of_mem_replicate hx]; decide
  | i + 1 => by
    rw [bm]; split
    · exact putbit_bytes (bm_bytes fl i) i
    · exact bm_bytes fl i
/-- The bytes of the first i numbers. -/
def pv (W : Nat) (ns : List Int) : Nat → List Nat
  | 0 => []
  | i + 1 => pv W ns i ++ gb W ((ns.getD i 0) % 18446744073709551616).toNat
theorem pv_len (W : Nat) (ns : List Int) : ∀ i, (pv W ns i).length = i * W
  | 0 => by simp [pv]
  | i + 1 => by rw [pv, List.length_append, pv_len W ns i, gb_len, Nat.succ_mul]
theorem pv_bytes (W : Nat) (ns : List Int) : ∀ i, Bytes (pv W ns i)
  | 0 => bytes_nil
  | i + 1 => (pv_bytes W ns i).app (gb_bytes _ _)
/-- What stands in memory in front of value i. -/
def putI (W : Nat) (fl : List Bool) (ns : List Int) (i : Nat) : List Nat := bm fl i ++ pv W ns i
theorem putI_len (W : Nat) (fl : List Bool) (ns : List Int) (i : Nat) : (putI W fl ns i).length = (fl.length + 7) / 8 + i * W := by
  unfold putI; rw [List.length_append, bm_len, pv_len]
theorem putI_bytes (W : Nat) (fl : List Bool) (ns : List Int) (i : Nat) : Bytes (putI W fl ns i) := (bm_bytes _ _).app (pv_bytes _ _ _)
theorem putbit_left {l m : List Nat} {i : Nat} (h : i / 8 < l.length) : putbit (l ++ m) i = putbit l i ++ m := by
  unfold putbit
  rw [List.set_append_left _ _ h]
  congr 2
  simp [List.getD_eq_getElem?_getD, List.getElem?_append_left h]
theorem putI_flag {W : Nat} {fl : List Bool} {ns : List Int} {i : Nat} (h : i < fl.length) : (if fl.getD i false = true then putbit (putI W fl ns i) i else putI W fl ns i) ++ gb W ((ns.getD i 0) % 18446744073709551616).toNat = putI W fl ns (i + 1) := by
  unfold putI
  rw [bm, pv]
  by_cases hf : fl.getD i false = true
  · rw [if_pos hf, if_pos hf, putbit_left (by rw [bm_len]; omega), List.append_assoc]
  · rw [if_neg hf, if_neg hf, List.append_assoc]
/-- A byte of a number in two's complement. -/
theorem byte_of (n : Int) {s : Nat} (h : s ≤ 7) : n / 2 ^ (8 * s) % 256 = (((n % 18446744073709551616).toNat / 256 ^ s % 256 : Nat) : Int) := by
  have e : (256 : Nat) ^ s = 2 ^ (8 * s) := by rw [show (256 : Nat) = 2 ^ 8 from rfl, Nat.pow_mul]
  rw [e]
  have h0 : 0 ≤ n % 18446744073709551616 := Int.emod_nonneg _ (by decide)
  generalize hX : (n % 18446744073709551616).toNat = X
  have hx : n % 18446744073709551616 = (X : Int) := by rw [← hX]; omega
  have hn : n = (X : Int) + 18446744073709551616 * (n / 18446744073709551616) := by omega
  generalize n / 18446744073709551616 = q at hn
  have hp : (0 : Int) < 2 ^ (8 * s) := Int.pow_pos (by decide)
  have hd : (18446744073709551616 : Int) = 2 ^ (8 * s) * (256 * 2 ^ (56 - 8 * s)) := by
    have : (18446744073709551616 : Int) = 2 ^ (8 * s + (8 + (56 - 8 * s))) := by
      rw [show 8 * s + (8 + (56 - 8 * s)) = 64 by omega]; rfl
    rw [this, Int.pow_add, Int.pow_add]; rfl
  rw [hn, hd, Int.mul_assoc, Int.add_mul_ediv_left _ _ (Int.ne_of_gt hp), Int.mul_assoc 256, Int.add_mul_emod_self_left]
  have e3 : ((2 : Int) ^ (8 * s)) = ((2 ^ (8 * s) : Nat) : Int) := by simp
  rw [e3, ← Int.natCast_ediv]
  exact (Int.natCast_emod _ _).symm
end Go.Proofs.YtpkhgdnkkdhlcaaGreatDoor.By
