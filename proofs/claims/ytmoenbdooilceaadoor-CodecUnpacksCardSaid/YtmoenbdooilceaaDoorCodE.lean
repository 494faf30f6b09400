/-
  Walks: the reference of package codec: groups joined, differences and sums.
-/
import Derived.Test.YtmoenbdooilceaaDoorCodD
import Derived.RegionTactic
namespace Go.Proofs.YtmoenbdooilceaaDoor
open Go.RowKit By

/-- Numbers as groups. -/
def jl (ds : List Nat) (n : Nat) : List Nat := jn (fun j => ds.getD j 0) n ds.length

/-- 'make' of no bytes with room for some. -/
theorem make_room {P : Program} (t e : TypeId) (i : TypeInfo) (k : IntKind) (ht : P.underlying t = some (.slice e)) (hi : P.info? e = some i) (hz : i.zero = some (.int k 0)) (hs : i.size = 1) (hb : i.bytes ≤ 8)
    (x : Int) (n : Nat) (hx : x = (n : Int)) (hn : n ≤ 4000000000000) (w : World) :
    (Instr.makeSlice t (.int .i64 0) (.int .i64 x)).run P w = .ok (.slice (some ⟨w.heap.size, 0, none⟩) 0 n) (w.alloc (.cells (ints k (List.replicate n 0)).toArray e)) := by
  subst hx
  have h1 : (i.bytes : Int) * (n : Int) ≤ 281474976710656 := by
    have : i.bytes * n ≤ 8 * n := Nat.mul_le_mul_right _ hb
    have : ((i.bytes * n : Nat) : Int) ≤ ((8 * n : Nat) : Int) := by omega
    rw [Int.natCast_mul] at this
    omega
  have hr := run_make (P := P) w t e i (.int k 0) ht hi hz .i64 .i64 0 n (by omega) (by omega) h1 (by omega)
  rw [hr, hs]
  have e1 : madeCells (Value.cells (.int k 0)) ((n : Int).toNat * 1) = (ints k (List.replicate n 0)).toArray := by
    apply Array.ext'
    have : Value.cells (.int k 0) = #[.int k 0] := rfl
    rw [this, toList_madeCells_one]
    simp [ints]
  rw [e1]
  simp

set_option maxRecDepth 100000 in
set_option maxHeartbeats 800000 in
theorem rjoined_any (A A2 : Option Addr) (c c2 n : Nat) (ds r : List Nat) (w : World) (h1 : 1 ≤ n) (h8 : n ≤ 8) (hd : ∀ j, ds.getD j 0 < 2 ^ 64) (hm : ds.length ≤ 1048576) (hm2 : r.length ≤ 1048576)
    (h : Rd w w.heap.size A (ints .u64 ds)) (hr : Rd w w.heap.size A2 (ints .u8 r)) :
    Calls Tryd.prog 39 #[.slice A ds.length c, .int .i64 n, .slice A2 r.length c2] w fun e w' => Below w.heap.size w w' ∧ ∃ v, e = .returned v ∧ IsL w' w'.heap.size .u8 v (jl ds n ++ r) := by
  obtain ⟨i0, hi0, hz0, hz1, hz2⟩ := info_parts Tryd.u8_info
  have hkn : ds.length * n ≤ ds.length * 8 := Nat.mul_le_mul_left _ h8
  have m0 : IntKind.i64.wrap ((ds.length : Int) * (n : Int)) = (ds.length : Int) * (n : Int) := IntWalk.i64_in _ (by rw [← Int.natCast_mul]; omega)
  have m1 : IntKind.i64.wrap ((ds.length : Int) * (n : Int) + (r.length : Int)) = (ds.length : Int) * (n : Int) + (r.length : Int) := IntWalk.i64_in _ (by rw [← Int.natCast_mul]; omega)
  have hmk := make_room 22 5 i0 .u8 Tryd.underlying22 hi0 hz0 hz1 (by omega) ((ds.length : Int) * (n : Int) + (r.length : Int)) (ds.length * n + r.length) (by simp) (by omega)
  have HL : Hid ((jl ds n).length = ds.length * n) := jn_len _ _ _
  go_enter Tryd.func39, Tryd.ntmps39
  go_wp2
  have hown0 : (w.alloc (.cells (ints .u8 (List.replicate (ds.length * n + r.length) 0)).toArray 5)).ownsRow w.heap.size 5 1 (.slice (some ⟨w.heap.size, 0, none⟩) 0 (ds.length * n + r.length)) 0 (ints .u8 []) := by
    have := (Bk.new w 5 (ints .u8 (List.replicate (ds.length * n + r.length) 0)).toArray).own (base := w.heap.size) (size := 1) (n := 0) (cap := ds.length * n + r.length) (Nat.le_refl _) (Nat.zero_le _) (by unfold maxLen; omega) (by simp [ints_length])
    rw [Nat.zero_mul, List.take_zero] at this
    exact this
  clear hmk m0 m1
  go_loopw [7, 8] (fun v i wr => ∃ j : Nat, j ≤ ds.length ∧ i = .int .i64 j ∧ wr.ownsRow w.heap.size 5 1 v (j * n) (ints .u8 (jn (fun j => ds.getD j 0) n j)) ∧ Below w.heap.size w wr) (fun _ i _ => ds.length - (intOf i).toNat)
  case atStart => exact ⟨0, Nat.zero_le _, rfl, by rw [Nat.zero_mul]; exact hown0, (Below.refl _ _).alloc (Nat.le_refl _) _⟩
  case round =>
    clear hown0
    obtain ⟨j, hj, rfl, hown, hB⟩ := hrel
    by_cases hlt : j < ds.length
    · obtain ⟨ad, rfl, hab, hcell⟩ := (h.below hB).int (j := j) hlt
      have hX := Lib.hid (hd j)
      have hjn : j * n ≤ ds.length * n := Nat.mul_le_mul_right _ (by omega)
      have HG : Hid (jn (fun j => ds.getD j 0) n (j + 1) = jn (fun j => ds.getD j 0) n j ++ gb n (ds.getD j 0)) := rfl
      generalize ds.getD j 0 = X at *
      go_wp2_with fail
      refine (rnumber_any n X _ h8 hX.out).mono ?_
      rintro e w1 ⟨hb1, u, rfl, hu⟩
      obtain ⟨A', c', rfl, hc', hu'⟩ := IsL.of_own hu
      clear hu
      have hown' : w1.ownsRow w.heap.size 5 1 _ (j * n) (ints .u8 (jn (fun j => ds.getD j 0) n j)) := own_next hown hb1
      have hB1 : Below w.heap.size w w1 := hB.trans (hb1.mono hB.size)
      have HL2 := Lib.hid (gb_len n X)
      rw [HL2.out]
      go_wp2_with (at_builtin; refine wpL_append _ rfl (.tmp 23) (.tmp 29) _ rfl w.heap.size 5 i0 _ 1 1 Tryd.underlying22 hi0 hz0 hz1 hz2 rfl (by omega) _ (j * n) (ints .u8 (jn (fun j => ds.getD j 0) n j)) rfl hown' A' n c' (ints .u8 (gb n X)) rfl (by rw [ints_length, HL2.out, Nat.mul_one]) hu' (ints_one _ _) (by unfold maxLen; omega) (by omega) hB1.size ?_; intro v1 w2 hown1 hg1 hat1)
      have HO : Hid (w2.ownsRow w.heap.size 5 1 v1 ((j + 1) * n) (ints .u8 (jn (fun j => ds.getD j 0) n (j + 1)))) := by
        show World.ownsRow _ _ _ _ _ _ _
        rw [HG.out, ints_append, Nat.succ_mul]
        exact hown1
      have hB2 : Below w.heap.size w w2 := below_app hB1 hg1 hB1.size hown' (Nat.le_refl _)
      clear hown hown1 hown' hu' HG
      go_wp2
      go_roundw
      case rel => exact ⟨j + 1, by omega, by go_num, HO.out, hB2⟩
      case measure => simp [intOf]; omega
    · obtain rfl : j = ds.length := by omega
      have HJ : Hid (jn (fun j => ds.getD j 0) n ds.length = jl ds n) := rfl
      rw [HJ.out] at hown
      have hown' := hown
      go_wp2_with (at_builtin; refine wpL_append _ rfl (.tmp 31) (.tmp 32) _ rfl w.heap.size 5 i0 _ 1 1 Tryd.underlying22 hi0 hz0 hz1 hz2 rfl (by omega) _ (ds.length * n) (ints .u8 (jl ds n)) rfl hown' A2 r.length c2 (ints .u8 r) rfl (by rw [ints_length, Nat.mul_one]) ((hr.below hB).more hB.size) (ints_one _ _) (by unfold maxLen; omega) (by omega) hB.size ?_; intro v1 w2 hown1 hg1 hat1)
      have hB2 : Below w.heap.size w w2 := below_app hB hg1 hB.size hown' (Nat.le_refl _)
      have HO : Hid (IsL w2 w2.heap.size .u8 v1 (jl ds n ++ r)) := by
        rw [← ints_append] at hown1
        exact IsL.of_own hown1
      clear hown hown1 hown'
      go_wp2
      go_ret
      exact ⟨hB2, _, rfl, HO.out⟩
end Go.Proofs.YtmoenbdooilceaaDoor
