/-
  Walks: the reference of package codec: groups joined, differences and sums.
  Walks: the reference of package codec: differences and sums.
  Walks: bytes as strings; the laws' words 'is' and 'back'.
  Walks: package codec's differences and sums, and the reference's: errors.
  Walks: package codec: the places of shuffled bytes; Shuffle, Unshuffle.
  Walks: the reference of package codec: Shuffle, Unshuffle.
  Walks: package codec: Undict.
  Walks: the reference of package codec: Undict.
-/
import Derived.Test.YtpkhgdnkkdhlcaaGreatDoorCodX
import Derived.RegionTactic
import Derived.Test.YtpkhgdnkkdhlcaaGreatDoorSanX
namespace Go.Proofs.YtpkhgdnkkdhlcaaGreatDoor
open Go.RowKit By

/-- Numbers as groups. -/
def jl (ds : List Nat) (n : Nat) : List Nat := jn (fun j => ds.getD j 0) n ds.length

/-- 'make' of no bytes with room for some. -/
theorem make_room {P : Program} (t e : TypeId) (i : TypeInfo) (k : IntKind) (ht : P.underlying t = some (.slice e)) (hi : P.info? e = some i) (hz : i.zero = some (.int k 0)) (hs : i.size = 1) (hb : i.bytes ≤ 8)
    (x : Int) (n : Nat) (hx : x = (n : Int)) (hn : n ≤ 4000000000000) (w : World) :
    (Instr.makeSlice t (.int .i64 0) (.int .i64 x)).run P w = .ok (.slice (some ⟨w.heap.size, 0, none⟩) 0 n) (w.alloc (.cells (ints k (List.replicate n 0)).toArray e)) := by
  subst hx
  have h1 : (i.bytes : Int) * (n : Int) ≤ 281474976710656 := by
    have : i.bytes * n ≤ 8 * n := Nat.mul_le_mul_right _ hb
    have : ((i.bytes * n : Nat) : Int) ≤ ((8 * n : Nat) : Int) := by omega
    rw [Int.natCast_mul] at this
    omega
  have hr := run_make (P := P) w t e i (.int k 0) ht hi hz .i64 .i64 0 n (by omega) (by omega) h1 (by omega)
  rw [hr, hs]
  have e1 : madeCells (Value.cells (.int k 0)) ((n : Int).toNat * 1) = (ints k (List.replicate n 0)).toArray := by
    apply Array.ext'
    have : Value.cells (.int k 0) = #[.int k 0] := rfl
    rw [this, toList_madeCells_one]
    simp [ints]
  rw [e1]
  simp

set_option maxRecDepth 100000 in
set_option maxHeartbeats 800000 in
theorem rjoined_any (A A2 : Option Addr) (c c2 n : Nat) (ds r : List Nat) (w : World) (h1 : 1 ≤ n) (h8 : n ≤ 8) (hd : ∀ j, ds.getD j 0 < 2 ^ 64) (hm : ds.length ≤ 1048576) (hm2 : r.length ≤ 1048576)
    (h : Rd w w.heap.size A (ints .u64 ds)) (hr : Rd w w.heap.size A2 (ints .u8 r)) :
    Calls Tryz.prog 162 #[.slice A ds.length c, .int .i64 n, .slice A2 r.length c2] w fun e w' => Below w.heap.size w w' ∧ ∃ v, e = .returned v ∧ IsL w' w'.heap.size .u8 v (jl ds n ++ r) := by
  obtain ⟨i0, hi0, hz0, hz1, hz2⟩ := info_parts Tryz.u8c_info
  have hkn : ds.length * n ≤ ds.length * 8 := Nat.mul_le_mul_left _ h8
  have m0 : IntKind.i64.wrap ((ds.length : Int) * (n : Int)) = (ds.length : Int) * (n : Int) := IntWalk.i64_in _ (by rw [← Int.natCast_mul]; omega)
  have m1 : IntKind.i64.wrap ((ds.length : Int) * (n : Int) + (r.length : Int)) = (ds.length : Int) * (n : Int) + (r.length : Int) := IntWalk.i64_in _ (by rw [← Int.natCast_mul]; omega)
  have hmk := make_room 25 5 i0 .u8 Tryz.underlying25 hi0 hz0 hz1 (by omega) ((ds.length : Int) * (n : Int) + (r.length : Int)) (ds.length * n + r.length) (by simp) (by omega)
  have HL : Hid ((jl ds n).length = ds.length * n) := jn_len _ _ _
  go_enter Tryz.func162, Tryz.ntmps162
  go_wp2
  have hown0 : (w.alloc (.cells (ints .u8 (List.replicate (ds.length * n + r.length) 0)).toArray 5)).ownsRow w.heap.size 5 1 (.slice (some ⟨w.heap.size, 0, none⟩) 0 (ds.length * n + r.length)) 0 (ints .u8 []) := by
    have := (Bk.new w 5 (ints .u8 (List.replicate (ds.length * n + r.length) 0)).toArray).own (base := w.heap.size) (size := 1) (n := 0) (cap := ds.length * n + r.length) (Nat.le_refl _) (Nat.zero_le _) (by unfold maxLen; omega) (by simp [ints_length])
    rw [Nat.zero_mul, List.take_zero] at this
    exact this
  clear hmk m0 m1
  go_loopw [7, 8] (fun v i wr => ∃ j : Nat, j ≤ ds.length ∧ i = .int .i64 j ∧ wr.ownsRow w.heap.size 5 1 v (j * n) (ints .u8 (jn (fun j => ds.getD j 0) n j)) ∧ Below w.heap.size w wr) (fun _ i _ => ds.length - (intOf i).toNat)
  case atStart => exact ⟨0, Nat.zero_le _, rfl, by rw [Nat.zero_mul]; exact hown0, (Below.refl _ _).alloc (Nat.le_refl _) _⟩
  case round =>
    clear hown0
    obtain ⟨j, hj, rfl, hown, hB⟩ := hrel
    by_cases hlt : j < ds.length
    · obtain ⟨ad, rfl, hab, hcell⟩ := (h.below hB).int (j := j) hlt
      have hX := Lib.hid (hd j)
      have hjn : j * n ≤ ds.length * n := Nat.mul_le_mul_right _ (by omega)
      have HG : Hid (jn (fun j => ds.getD j 0) n (j + 1) = jn (fun j => ds.getD j 0) n j ++ gb n (ds.getD j 0)) := rfl
      generalize ds.getD j 0 = X at *
      go_wp2_with fail
      refine (rnumber_any n X _ h8 hX.out).mono ?_
      rintro e w1 ⟨hb1, u, rfl, hu⟩
      obtain ⟨A', c', rfl, hc', hu'⟩ := IsL.of_own hu
      clear hu
      have hown' : w1.ownsRow w.heap.size 5 1 _ (j * n) (ints .u8 (jn (fun j => ds.getD j 0) n j)) := own_next hown hb1
      have hB1 : Below w.heap.size w w1 := hB.trans (hb1.mono hB.size)
      have HL2 := Lib.hid (gb_len n X)
      rw [HL2.out]
      go_wp2_with (at_builtin; refine wpL_append _ rfl (.tmp 23) (.tmp 29) _ rfl w.heap.size 5 i0 _ 1 1 Tryz.underlying25 hi0 hz0 hz1 hz2 rfl (by omega) _ (j * n) (ints .u8 (jn (fun j => ds.getD j 0) n j)) rfl hown' A' n c' (ints .u8 (gb n X)) rfl (by rw [ints_length, HL2.out, Nat.mul_one]) hu' (ints_one _ _) (by unfold maxLen; omega) (by omega) hB1.size ?_; intro v1 w2 hown1 hg1 hat1)
      have HO : Hid (w2.ownsRow w.heap.size 5 1 v1 ((j + 1) * n) (ints .u8 (jn (fun j => ds.getD j 0) n (j + 1)))) := by
        show World.ownsRow _ _ _ _ _ _ _
        rw [HG.out, ints_append, Nat.succ_mul]
        exact hown1
      have hB2 : Below w.heap.size w w2 := below_app hB1 hg1 hB1.size hown' (Nat.le_refl _)
      clear hown hown1 hown' hu' HG
      go_wp2
      go_roundw
      case rel => exact ⟨j + 1, by omega, by go_num, HO.out, hB2⟩
      case measure => simp [intOf]; omega
    · obtain rfl : j = ds.length := by omega
      have HJ : Hid (jn (fun j => ds.getD j 0) n ds.length = jl ds n) := rfl
      rw [HJ.out] at hown
      have hown' := hown
      go_wp2_with (at_builtin; refine wpL_append _ rfl (.tmp 31) (.tmp 32) _ rfl w.heap.size 5 i0 _ 1 1 Tryz.underlying25 hi0 hz0 hz1 hz2 rfl (by omega) _ (ds.length * n) (ints .u8 (jl ds n)) rfl hown' A2 r.length c2 (ints .u8 r) rfl (by rw [ints_length, Nat.mul_one]) ((hr.below hB).more hB.size) (ints_one _ _) (by unfold maxLen; omega) (by omega) hB.size ?_; intro v1 w2 hown1 hg1 hat1)
      have hB2 : Below w.heap.size w w2 := below_app hB hg1 hB.size hown' (Nat.le_refl _)
      have HO : Hid (IsL w2 w2.heap.size .u8 v1 (jl ds n ++ r)) := by
        rw [← ints_append] at hown1
        exact IsL.of_own hown1
      clear hown hown1 hown'
      go_wp2
      go_ret
      exact ⟨hB2, _, rfl, HO.out⟩
end Go.Proofs.YtpkhgdnkkdhlcaaGreatDoor

namespace Go.Proofs.YtpkhgdnkkdhlcaaGreatDoor
open Go.RowKit By

set_option maxHeartbeats 400000 in
theorem asked_any (A : Option Addr) (m c : Nat) (n : Int) (w : World) (hm : m ≤ 4000000000000) :
    Calls Tryz.prog 160 #[.slice A m c, .int .i64 n] w fun e w' => w = w' ∧ e = .returned (.int .i64 (grE n m)) := by
  rcases Classical.em (n < 1) with h1 | h1
  · have e : grE n m = 2 := if_pos (.inl h1)
    rw [e]; clear e
    go_enter Tryz.func160, Tryz.ntmps160
    go_wp2
    go_ret
    exact ⟨rfl, rfl⟩
  · rcases Classical.em (8 < n) with h2 | h2
    · have e : grE n m = 2 := if_pos (.inr h2)
      rw [e]; clear e
      go_enter Tryz.func160, Tryz.ntmps160
      go_wp2
      go_ret
      exact ⟨rfl, rfl⟩
    · rcases Classical.em (1048576 < m) with h3 | h3
      · have e : grE n m = 4 := by unfold grE; rw [if_neg (by omega), if_pos h3]
        rw [e]; clear e
        go_enter Tryz.func160, Tryz.ntmps160
        go_wp2
        go_ret
        exact ⟨rfl, rfl⟩
      · have e : grE n m = 0 := by unfold grE; rw [if_neg (by omega), if_neg h3]
        rw [e]; clear e
        go_enter Tryz.func160, Tryz.ntmps160
        go_wp2
        go_ret
        exact ⟨rfl, rfl⟩

/-- The world under one name. -/
theorem wp_named {P : Program} {c : Code} {Q : Exit → Act → World → Prop} {a : Act} {w : World} (F : World → Prop) (hF : F w) (h : ∀ W, F W → c.wp P Q a W) : c.wp P Q a w := h w hF

/-- Some numbers are known. -/
def Upto (zs : List Nat) (j : Nat) (f : Nat → Nat) : Prop := ∀ t, t < j → zs.getD t 0 = f t
theorem Upto.zero (zs : List Nat) (f : Nat → Nat) : Upto zs 0 f := fun t h => by omega
theorem Upto.succ {zs : List Nat} {j : Nat} {f : Nat → Nat} (h : Upto zs j f) (hj : j < zs.length) : Upto (zs.set j (f j)) (j + 1) f := fun t ht => by
  rcases Nat.lt_or_ge t j with h1 | h1
  · rw [List.getD_eq_getElem?_getD, List.getElem?_set_ne (by omega), ← List.getD_eq_getElem?_getD, h t h1]
  · obtain rfl : t = j := by omega
    rw [List.getD_eq_getElem?_getD, List.getElem?_set_self hj]; rfl
theorem Upto.keep {zs : List Nat} {j x : Nat} {f : Nat → Nat} (h : Upto zs j f) : Upto (zs.set j x) j f := fun t ht => by
  rw [List.getD_eq_getElem?_getD, List.getElem?_set_ne (by omega), ← List.getD_eq_getElem?_getD, h t ht]
theorem G_lt64 {l : List Nat} (hl : Bytes l) {n : Nat} (h8 : n ≤ 8) (j : Nat) : G l n j < 2 ^ 64 := gv_lt64 (by rw [List.length_take]; omega) ((hl.drop _).take _)
theorem dl_lt {f : Nat → Nat} (h : f 0 < 2 ^ 64) : ∀ j, dl f j < 2 ^ 64
  | 0 => h
  | _ + 1 => Nat.mod_lt _ (by decide)
theorem jl_upto {zs : List Nat} {f : Nat → Nat} (n : Nat) (h : Upto zs zs.length f) : jl zs n = jn f n zs.length := jn_congr fun j hj => by rw [h j hj]

set_option maxRecDepth 100000 in
set_option maxHeartbeats 1600000 in
theorem rdelta_any (A : Option Addr) (c n : Nat) (l : List Nat) (w : World) (h1 : 1 ≤ n) (h8 : n ≤ 8) (hl : Bytes l) (hc : l.length ≤ c) (hm : l.length ≤ 1048576) (h : Rd w w.heap.size A (ints .u8 l)) :
    Calls Tryz.prog 122 #[.slice A l.length c, .int .i64 n] w fun e w' => Below w.heap.size w w' ∧ ∃ v, e = .returned (.tuple #[v, .int .i64 0]) ∧ IsL w' w'.heap.size .u8 v (deltaB l n) := by
  have hg : grE n l.length = 0 := by unfold grE; rw [if_neg (by omega), if_neg (by omega)]
  obtain ⟨i0, hi0, hz0, hz1, hz2⟩ := info_parts Tryz.u64_info
  have hkn : l.length / n ≤ l.length := Nat.div_le_self _ _
  go_enter Tryz.func122, Tryz.ntmps122
  go_wp2_with fail
  refine (asked_any _ _ _ _ _ (by omega)).mono ?_
  rintro e w1 ⟨rfl, rfl⟩
  rw [hg]
  clear hg
  go_wp2_with fail
  refine (rgroups_any A c n l w h1 h8 hl hc hm h).mono ?_
  rintro e w1 ⟨hb1, v, u, rfl, hv, hu⟩
  obtain ⟨A', c', rfl, hc', hv'⟩ := IsL.of_own hv
  obtain ⟨A2, c2, rfl, hc2, hu'⟩ := hu
  clear hv
  have HR : Hid ((rest l n).length ≤ l.length) := by show _ ≤ _; unfold rest; simp
  rw [gl_len] at hc' ⊢
  have HK : Hid (jn (dl (G l n)) n (l.length / n) ++ rest l n = deltaB l n) := rfl
  generalize rest l n = r at *
  generalize l.length / n = k at *
  have hmk := make_ints (P := Tryz.prog) 71 67 i0 .u64 Tryz.underlying71 hi0 hz0 hz1 (by omega) .i64 .i64 k (k : Int) rfl (by omega)
  go_wp2
  go_loopw [10] (fun i wr => ∃ (j : Nat) (zs : List Nat), j ≤ k ∧ zs.length = k ∧ Hid (Upto zs j (dl (G l n))) ∧ i = .int .i64 j ∧ Row wr w1.heap.size 67 .u64 zs ∧ Below w1.heap.size w1 wr) (fun i _ => k - (intOf i).toNat)
  case atStart => exact ⟨0, List.replicate k 0, Nat.zero_le _, by simp, Upto.zero _ _, rfl, Row.of_bk (Bk.new _ _ _), (Below.refl _ _).alloc (Nat.le_refl _) _⟩
  case round =>
    clear hmk
    obtain ⟨j, zs, hj, hz, HU, rfl, hrow, hB⟩ := hrel
    by_cases hlt : j < k
    · obtain ⟨ad, rfl, hab, hcell⟩ := (hv'.below hB).int (j := j) (by rw [gl_len]; exact hlt)
      have e1 := gl_at l n hlt
      rw [e1] at hcell
      have hc0 := hrow.cell (i := j) (by omega)
      have hf0 := hrow.frozen j
      clear e1
      by_cases hj0 : 0 < j
      · have hj1 : j - 1 < k := by omega
        have HR0 : Hid (Row (wr.setCell ⟨w1.heap.size, j, none⟩ (.int .u64 ((G l n j : Nat) : Int))) w1.heap.size 67 .u64 (zs.set j (G l n j)) ∧ Below w1.heap.size w1 (wr.setCell ⟨w1.heap.size, j, none⟩ (.int .u64 ((G l n j : Nat) : Int)))) :=
          ⟨hrow.put (by omega) _, hB.setCell (by exact Nat.le_refl _) _⟩
        go_wp2
        refine wp_named (fun W => Row W w1.heap.size 67 .u64 (zs.set j (G l n j)) ∧ Below w1.heap.size w1 W) HR0.out ?_
        rintro W ⟨hrow2, hB2⟩
        clear hrow hB hcell hc0 hf0 HR0
        have hz2 : (zs.set j (G l n j)).length = k := by rw [List.length_set]; exact hz
        have HU2 : Hid (Upto (zs.set j (G l n j)) j (dl (G l n))) := HU.out.keep
        generalize zs.set j (G l n j) = ys at *
        obtain ⟨ad1, ha1, _, hcell1⟩ := (hv'.below hB2).int (j := j) (by rw [gl_len]; exact hlt)
        obtain ⟨ad2, ha2, _, hcell2⟩ := (hv'.below hB2).int (j := j - 1) (by rw [gl_len]; exact hj1)
        rw [gl_at l n hlt] at hcell1
        rw [gl_at l n hj1] at hcell2
        injection ha1 with ha1
        injection ha2 with ha2
        subst ha1 ha2
        have hc0 := hrow2.cell (i := j) (by omega)
        have hf0 := hrow2.frozen j
        have x1 : IntKind.i64.wrap ((j : Int) - 1) = (j : Int) - 1 := IntWalk.i64_in _ (by omega)
        have x2 : ((j : Int) - 1).toNat = j - 1 := by omega
        have x3 : 0 ≤ (j : Int) - 1 := by omega
        have x4 : (j : Int) - 1 < k := by omega
        have x5 : (1 : Int) ≤ j := by omega
        go_still_tail 13, (by kernel_rfl)
        clear x1 x2 x3 x4 x5 hcell1 hcell2
        have HX : Hid (Value.int .u64 (IntKind.u64.wrap (((G l n j : Nat) : Int) - ((G l n (j - 1) : Nat) : Int))) = .int .u64 ((dl (G l n) j : Nat) : Int)) := by
          show _ = _
          obtain ⟨t, rfl⟩ : ∃ t, j = t + 1 := ⟨j - 1, by omega⟩
          rw [sub_u64]; rfl
        have HR2 : Hid (∀ x : Nat, Row (W.drew.setCell ⟨w1.heap.size, j, none⟩ (.int .u64 (x : Int))) w1.heap.size 67 .u64 (ys.set j x)) := fun x => hrow2.drew.put (by omega) x
        have HU3 := Lib.hid (HU2.out.succ (show j < ys.length by omega))
        go_wp2
        go_roundw
        case rel =>
          refine ⟨j + 1, ys.set j (dl (G l n) j), by omega, by rw [List.length_set]; exact hz2, HU3.out, by go_num, ?_, ?_⟩
          · rw [HX.out]; exact HR2.out _
          · exact hB2.drew.setCell (by exact Nat.le_refl _) _
        case measure => simp [intOf]; omega
      · have HR2 : Hid (∀ x : Nat, Row (wr.setCell ⟨w1.heap.size, j, none⟩ (.int .u64 (x : Int))) w1.heap.size 67 .u64 (zs.set j x)) := fun x => hrow.put (by omega) x
        have HU3 := Lib.hid (HU.out.succ (show j < zs.length by omega))
        have HX : Hid (G l n j = dl (G l n) j) := by
          obtain rfl : j = 0 := by omega
          rfl
        go_wp2
        go_roundw
        case rel =>
          refine ⟨j + 1, zs.set j (dl (G l n) j), by omega, by rw [List.length_set]; exact hz, HU3.out, by go_num, ?_, ?_⟩
          · rw [HX.out]; exact HR2.out _
          · exact hB.setCell (by exact Nat.le_refl _) _
        case measure => simp [intOf]; omega
    · obtain rfl : j = k := by omega
      have HJ : Hid (jl zs n ++ r = deltaB l n) := by
        show _ = _
        rw [← HK.out, jl_upto n (f := dl (G l n)) (by rw [hz]; exact HU.out), hz]
      have HB0 := Lib.hid (hb1.trans (hB.mono hb1.size))
      have HL : Hid (∀ t, zs.getD t 0 < 2 ^ 64) := fun t => by
        rcases Nat.lt_or_ge t j with ht | ht
        · rw [HU.out t ht]; exact dl_lt (G_lt64 hl h8 0) t
        · rw [List.getD_eq_getElem?_getD, List.getElem?_eq_none (by omega)]; decide
      have hrl : r.length ≤ 1048576 := Nat.le_trans HR.out hm
      subst hz
      go_wp2_with fail
      refine (rjoined_any _ A2 _ c2 n zs r _ h1 h8 HL.out (by omega) hrl hrow.all ((hu'.below hB).more hB.size)).mono ?_
      rintro e w2 ⟨hb2, v, rfl, hv2⟩
      rw [HJ.out] at hv2
      have HV := Lib.hid hv2
      have hB2 := HB0.out.trans (hb2.mono HB0.out.size)
      clear hv2
      go_wp2
      go_ret2
      exact ⟨hB2, _, rfl, HV.out⟩

/-- The sum in front of a number. -/
def sm0 (f : Nat → Nat) : Nat → Nat
  | 0 => 0
  | j + 1 => sm f j
theorem sm0_next (f : Nat → Nat) : ∀ j, (sm0 f j + f j) % 2 ^ 64 = sm f j
  | 0 => by show (0 + f 0) % 2 ^ 64 = f 0 % 2 ^ 64; rw [Nat.zero_add]
  | _ + 1 => rfl

set_option maxRecDepth 100000 in
set_option maxHeartbeats 1600000 in
theorem rundelta_any (A : Option Addr) (c n : Nat) (l : List Nat) (w : World) (h1 : 1 ≤ n) (h8 : n ≤ 8) (hl : Bytes l) (hc : l.length ≤ c) (hm : l.length ≤ 1048576) (h : Rd w w.heap.size A (ints .u8 l)) :
    Calls Tryz.prog 114 #[.slice A l.length c, .int .i64 n] w fun e w' => Below w.heap.size w w' ∧ ∃ v, e = .returned (.tuple #[v, .int .i64 0]) ∧ IsL w' w'.heap.size .u8 v (undeltaB l n) := by
  have hg : grE n l.length = 0 := by unfold grE; rw [if_neg (by omega), if_neg (by omega)]
  obtain ⟨i0, hi0, hz0, hz1, hz2⟩ := info_parts Tryz.u64_info
  have hkn : l.length / n ≤ l.length := Nat.div_le_self _ _
  go_enter Tryz.func114, Tryz.ntmps114
  go_wp2_with fail
  refine (asked_any _ _ _ _ _ (by omega)).mono ?_
  rintro e w1 ⟨rfl, rfl⟩
  rw [hg]
  clear hg
  go_wp2_with fail
  refine (rgroups_any A c n l w h1 h8 hl hc hm h).mono ?_
  rintro e w1 ⟨hb1, v, u, rfl, hv, hu⟩
  obtain ⟨A', c', rfl, hc', hv'⟩ := IsL.of_own hv
  obtain ⟨A2, c2, rfl, hc2, hu'⟩ := hu
  clear hv
  have HR : Hid ((rest l n).length ≤ l.length) := by show _ ≤ _; unfold rest; simp
  rw [gl_len] at hc' ⊢
  have HK : Hid (jn (sm (G l n)) n (l.length / n) ++ rest l n = undeltaB l n) := rfl
  generalize rest l n = r at *
  generalize l.length / n = k at *
  have hmk := make_ints (P := Tryz.prog) 71 67 i0 .u64 Tryz.underlying71 hi0 hz0 hz1 (by omega) .i64 .i64 k (k : Int) rfl (by omega)
  go_wp2
  go_loopw [10, 11] (fun x i wr => ∃ (j : Nat) (zs : List Nat), j ≤ k ∧ zs.length = k ∧ Hid (Upto zs j (sm (G l n))) ∧ i = .int .i64 j ∧ x = .int .u64 ((sm0 (G l n) j : Nat) : Int) ∧ Row wr w1.heap.size 67 .u64 zs ∧ Below w1.heap.size w1 wr) (fun _ i _ => k - (intOf i).toNat)
  case atStart => exact ⟨0, List.replicate k 0, Nat.zero_le _, by simp, Upto.zero _ _, rfl, rfl, Row.of_bk (Bk.new _ _ _), (Below.refl _ _).alloc (Nat.le_refl _) _⟩
  case round =>
    clear hmk
    obtain ⟨j, zs, hj, hz, HU, rfl, rfl, hrow, hB⟩ := hrel
    by_cases hlt : j < k
    · obtain ⟨ad, rfl, hab, hcell⟩ := (hv'.below hB).int (j := j) (by rw [gl_len]; exact hlt)
      rw [gl_at l n hlt] at hcell
      have hc0 := hrow.cell (i := j) (by omega)
      have hf0 := hrow.frozen j
      have HX : Hid (Value.int .u64 (IntKind.u64.wrap (((sm0 (G l n) j : Nat) : Int) + ((G l n j : Nat) : Int))) = .int .u64 ((sm (G l n) j : Nat) : Int)) := by
        show _ = _
        rw [add_u64, sm0_next]
      have HR2 : Hid (∀ x : Nat, Row (wr.setCell ⟨w1.heap.size, j, none⟩ (.int .u64 (x : Int))) w1.heap.size 67 .u64 (zs.set j x)) := fun x => hrow.put (by omega) x
      have HU3 := Lib.hid (HU.out.succ (show j < zs.length by omega))
      have HS : Hid (sm0 (G l n) (j + 1) = sm (G l n) j) := rfl
      generalize sm0 (G l n) j = S at *
      generalize G l n j = X at *
      go_wp2
      go_roundw
      case rel =>
        refine ⟨j + 1, zs.set j (sm (G l n) j), by omega, by rw [List.length_set]; exact hz, HU3.out, by go_num, ?_, ?_, ?_⟩
        · rw [HS.out]; exact HX.out
        · rw [HX.out]; exact HR2.out _
        · exact hB.setCell (by exact Nat.le_refl _) _
      case measure => simp [intOf]; omega
    · obtain rfl : j = k := by omega
      have HJ : Hid (jl zs n ++ r = undeltaB l n) := by
        show _ = _
        rw [← HK.out, jl_upto n (f := sm (G l n)) (by rw [hz]; exact HU.out), hz]
      have HB0 := Lib.hid (hb1.trans (hB.mono hb1.size))
      have HL : Hid (∀ t, zs.getD t 0 < 2 ^ 64) := fun t => by
        rcases Nat.lt_or_ge t j with ht | ht
        · rw [HU.out t ht]; exact sm_lt _ t
        · rw [List.getD_eq_getElem?_getD, List.getElem?_eq_none (by omega)]; decide
      have hrl : r.length ≤ 1048576 := Nat.le_trans HR.out hm
      subst hz
      go_wp2_with fail
      refine (rjoined_any _ A2 _ c2 n zs r _ h1 h8 HL.out (by omega) hrl hrow.all ((hu'.below hB).more hB.size)).mono ?_
      rintro e w2 ⟨hb2, v, rfl, hv2⟩
      rw [HJ.out] at hv2
      have HV := Lib.hid hv2
      have hB2 := HB0.out.trans (hb2.mono HB0.out.size)
      clear hv2
      go_wp2
      go_ret2
      exact ⟨hB2, _, rfl, HV.out⟩
end Go.Proofs.YtpkhgdnkkdhlcaaGreatDoor

namespace Go.Proofs.YtpkhgdnkkdhlcaaGreatDoor
open Go.RowKit By

set_option maxHeartbeats 400000 in
theorem is_true (v u : Value) (l : List Nat) (e : Int) (w : World) (h : IsL w w.heap.size .u8 v l) (h' : IsL w w.heap.size .u8 u l) :
    Calls Tryz.prog 31 #[v, .int .i64 e, u, .int .i64 e] w fun e w' => w = w' ∧ e = .returned (.bool true) := by
  obtain ⟨A, c, rfl, _, h3⟩ := h
  obtain ⟨A2, c2, rfl, _, k3⟩ := h'
  have s1 := run_to_string (P := Tryz.prog) h3 25 5 9 Tryz.underlying25 Tryz.underlying5 Tryz.underlying9 l.length c rfl
  have s2 := run_to_string (P := Tryz.prog) k3 25 5 9 Tryz.underlying25 Tryz.underlying5 Tryz.underlying9 l.length c2 rfl
  have s3 := bstr_self l
  generalize bstr l = s at *
  generalize l.length = n at *
  go_enter Tryz.func31, Tryz.ntmps31
  go_wp2
  go_ret
  exact ⟨rfl, rfl⟩

end Go.Proofs.YtpkhgdnkkdhlcaaGreatDoor

namespace Go.Proofs.YtpkhgdnkkdhlcaaGreatDoor
open Go.RowKit By

theorem grE_cases (n : Int) (m : Nat) : grE n m = 0 ∨ grE n m = 2 ∨ grE n m = 4 := by
  unfold grE; split
  · exact .inr (.inl rfl)
  · split
    · exact .inr (.inr rfl)
    · exact .inl rfl
theorem grE_zero {n : Int} {m : Nat} (h : grE n m = 0) : 1 ≤ n ∧ n ≤ 8 ∧ m ≤ 1048576 := by
  unfold grE at h
  split at h
  · cases h
  · split at h
    · cases h
    · omega

set_option maxRecDepth 100000 in
set_option maxHeartbeats 800000 in
theorem delta_err (A : Option Addr) (m c : Nat) (n g : Int) (w : World) (hg : grE n m = g) (h0 : g = 2 ∨ g = 4) (hm : m ≤ 4000000000000) :
    Calls Tryz.prog 118 #[.slice A m c, .int .i64 n] w fun e w' => w = w' ∧ e = .returned (.tuple #[.slice none 0 0, .int .i64 g]) := by
  rcases h0 with rfl | rfl
  all_goals
    go_enter Tryz.func118, Tryz.ntmps118
    go_wp2_with fail
    refine (grouped_any _ _ _ _ _ hm).mono ?_
    rintro e w1 ⟨rfl, rfl⟩
    rw [hg]
    clear hg
    go_wp2
    go_ret2
    exact ⟨rfl, rfl⟩
set_option maxRecDepth 100000 in
set_option maxHeartbeats 800000 in
theorem undelta_err (A : Option Addr) (m c : Nat) (n g : Int) (w : World) (hg : grE n m = g) (h0 : g = 2 ∨ g = 4) (hm : m ≤ 4000000000000) :
    Calls Tryz.prog 109 #[.slice A m c, .int .i64 n] w fun e w' => w = w' ∧ e = .returned (.tuple #[.slice none 0 0, .int .i64 g]) := by
  rcases h0 with rfl | rfl
  all_goals
    go_enter Tryz.func109, Tryz.ntmps109
    go_wp2_with fail
    refine (grouped_any _ _ _ _ _ hm).mono ?_
    rintro e w1 ⟨rfl, rfl⟩
    rw [hg]
    clear hg
    go_wp2
    go_ret2
    exact ⟨rfl, rfl⟩
set_option maxRecDepth 100000 in
set_option maxHeartbeats 800000 in
theorem rdelta_err (A : Option Addr) (m c : Nat) (n g : Int) (w : World) (hg : grE n m = g) (h0 : g = 2 ∨ g = 4) (hm : m ≤ 4000000000000) :
    Calls Tryz.prog 122 #[.slice A m c, .int .i64 n] w fun e w' => w = w' ∧ e = .returned (.tuple #[.slice none 0 0, .int .i64 g]) := by
  rcases h0 with rfl | rfl
  all_goals
    go_enter Tryz.func122, Tryz.ntmps122
    go_wp2_with fail
    refine (asked_any _ _ _ _ _ hm).mono ?_
    rintro e w1 ⟨rfl, rfl⟩
    rw [hg]
    clear hg
    go_wp2
    go_ret2
    exact ⟨rfl, rfl⟩
set_option maxRecDepth 100000 in
set_option maxHeartbeats 800000 in
theorem rundelta_err (A : Option Addr) (m c : Nat) (n g : Int) (w : World) (hg : grE n m = g) (h0 : g = 2 ∨ g = 4) (hm : m ≤ 4000000000000) :
    Calls Tryz.prog 114 #[.slice A m c, .int .i64 n] w fun e w' => w = w' ∧ e = .returned (.tuple #[.slice none 0 0, .int .i64 g]) := by
  rcases h0 with rfl | rfl
  all_goals
    go_enter Tryz.func114, Tryz.ntmps114
    go_wp2_with fail
    refine (asked_any _ _ _ _ _ hm).mono ?_
    rintro e w1 ⟨rfl, rfl⟩
    rw [hg]
    clear hg
    go_wp2
    go_ret2
    exact ⟨rfl, rfl⟩
end Go.Proofs.YtpkhgdnkkdhlcaaGreatDoor

namespace Go.Proofs.YtpkhgdnkkdhlcaaGreatDoor
open Go.RowKit By

theorem Tryz.i64_info : (Tryz.prog.info? 3).map (fun i => (i.zero, i.size, i.bytes)) = some (some (.int .i64 0), 1, 8) := by kernel_rfl

/-- The first k places. -/
def pls (m n k : Nat) : List Nat := (List.range k).map (pl m n)
theorem pls_len (m n k : Nat) : (pls m n k).length = k := by simp [pls]
theorem pls_succ (m n k : Nat) : pls m n (k + 1) = pls m n k ++ [pl m n k] := by simp [pls, List.range_succ]
theorem pls_at (m n : Nat) {k j : Nat} (h : j < k) : (pls m n k).getD j 0 = pl m n j := by
  simp [pls, List.getD_eq_getElem?_getD, List.getElem?_range h]

set_option maxRecDepth 100000 in
set_option maxHeartbeats 1600000 in
theorem places_any (m n : Nat) (w : World) (h1 : 1 ≤ n) (h8 : n ≤ 8) (hm : m ≤ 1048576) :
    Calls Tryz.prog 158 #[.int .i64 (m : Int), .int .i64 (n : Int)] w fun e w' => Below w.heap.size w w' ∧ ∃ v, e = .returned v ∧ w'.ownsRow w.heap.size 3 1 v m (ints .i64 (pls m n m)) := by
  obtain ⟨i0, hi0, hz0, hz1, hz2⟩ := info_parts Tryz.i64_info
  obtain ⟨K, hK⟩ : ∃ K, K = m / n := ⟨_, rfl⟩
  have hKm : K ≤ m := by rw [hK]; exact Nat.div_le_self _ _
  have hKn : K * n ≤ m := by rw [hK]; exact Nat.div_mul_le_self _ _
  have x1 : (m : Int).tdiv (n : Int) = (K : Int) := by rw [Int.tdiv_eq_ediv_of_nonneg (by omega), hK]; simp
  have x2 : ¬ (n : Int) = 0 := by omega
  have HK := Lib.hid hK
  clear hK
  go_enter Tryz.func158, Tryz.ntmps158
  go_wp2
  clear x1 x2
  go_loopw [6, 14] (fun v i wr => ∃ k q : Nat, k ≤ n ∧ Hid (q = k * K) ∧ i = .int .i64 k ∧ q ≤ m ∧ wr.ownsRow w.heap.size 3 1 v q (ints .i64 (pls m n q)) ∧ Below w.heap.size w wr) (fun _ i _ => n - (intOf i).toNat)
  case atStart => exact ⟨0, 0, Nat.zero_le _, (show 0 = 0 * K by omega), rfl, Nat.zero_le _, World.ownsRow_nil _ _ _ _, Below.refl _ _⟩
  case round =>
    obtain ⟨k, q, hk, HQ, rfl, hq, hown, hB⟩ := hrel
    by_cases hlt : k < n
    · obtain ⟨wo, rfl⟩ : ∃ wo : World, wo = wr := ⟨_, rfl⟩
      have hqK : q + K ≤ m := by
        have h3 : (k + 1) * K ≤ n * K := Nat.mul_le_mul_right _ (by omega)
        have := HQ.out
        rw [Nat.succ_mul, Nat.mul_comm n K] at h3
        omega
      go_wp2
      go_loopw [6, 18] (fun v i wr => ∃ g : Nat, g ≤ K ∧ i = .int .i64 g ∧ wr.ownsRow w.heap.size 3 1 v (q + g) (ints .i64 (pls m n (q + g))) ∧ Below w.heap.size w wr) (fun _ i _ => K - (intOf i).toNat)
      case atStart => exact ⟨0, Nat.zero_le _, rfl, hown, hB⟩
      case round =>
        clear hown hB
        obtain ⟨g, hg, rfl, hown, hB⟩ := hrel
        by_cases hlt2 : g < K
        · obtain ⟨y, hy⟩ : ∃ y, y = g * n := ⟨_, rfl⟩
          have hym : y + k ≤ m := by
            have h3 : (g + 1) * n ≤ K * n := Nat.mul_le_mul_right _ (by omega)
            rw [Nat.succ_mul] at h3
            omega
          have y1 : (g : Int) * (n : Int) = (y : Int) := by rw [hy]; simp
          have HP : Hid (pl m n (q + g) = y + k) := by
            show _ = _
            rw [hy, HQ.out, HK.out]
            exact pl_group (by rw [← HK.out]; exact hlt2) hlt
          clear hy
          go_wp2_with (at_builtin; refine wpL_append _ rfl (.tmp 21) (.tmp 27) _ rfl w.heap.size 3 i0 _ 1 8 Tryz.underlying151 hi0 hz0 hz1 hz2 rfl (by omega) _ (q + g) (ints .i64 (pls m n (q + g))) rfl (hown.alloc _) (some ⟨wr.heap.size, 0, none⟩) 1 1 [.int .i64 ((y : Int) + (k : Int))] rfl rfl (Rd.of_new wr [.int .i64 ((y : Int) + (k : Int))] 3) (by intro u hu; simp at hu; subst hu; rfl) (by unfold maxLen; omega) (by omega) (by have := hB.size; simp; omega) ?_; intro v1 w1 hown1 hg1 hat1)
          have HO : Hid (w1.ownsRow w.heap.size 3 1 v1 (q + (g + 1)) (ints .i64 (pls m n (q + (g + 1))))) := by
            show World.ownsRow _ _ _ _ _ _ _
            rw [← Nat.add_assoc, pls_succ, HP.out, ints_append]
            exact hown1
          have hB1 : Below w.heap.size w w1 := below_app (hB.alloc hB.size _) hg1 (by have := hB.size; simp; omega) (hown.alloc _) (Nat.le_refl _)
          clear hown hown1 HP y1
          go_wp2
          go_roundw
          case rel => exact ⟨g + 1, by omega, by go_num, HO.out, hB1⟩
          case measure => simp [intOf]; omega
        · obtain rfl : g = K := by omega
          have HO := Lib.hid hown
          clear hown
          go_wp2
          go_roundw
          case rel => exact ⟨k + 1, q + g, by omega, (show q + g = (k + 1) * g by have := HQ.out; rw [Nat.succ_mul]; omega), by go_num, hqK, HO.out, hB⟩
          case measure => simp [intOf]; omega
    · obtain rfl : k = n := by omega
      have hqe : q = K * k := by have := HQ.out; rw [Nat.mul_comm] at this; exact this
      have y1 : (K : Int) * (k : Int) = (q : Int) := by rw [hqe]; simp
      have HE := Lib.hid hqe
      clear hqe
      obtain ⟨wo, rfl⟩ : ∃ wo : World, wo = wr := ⟨_, rfl⟩
      go_wp2
      clear y1
      go_loopw [6, 9] (fun v i wr => ∃ g : Nat, q ≤ g ∧ g ≤ m ∧ i = .int .i64 g ∧ wr.ownsRow w.heap.size 3 1 v g (ints .i64 (pls m k g)) ∧ Below w.heap.size w wr) (fun _ i _ => m - (intOf i).toNat)
      case atStart => exact ⟨q, Nat.le_refl _, hq, rfl, hown, hB⟩
      case round =>
        clear hown hB
        obtain ⟨g, hqg, hg, rfl, hown, hB⟩ := hrel
        by_cases hlt2 : g < m
        · have HP : Hid (pl m k g = g) := by
            show _ = _
            exact pl_rest (by rw [← HK.out, ← HE.out]; exact hqg)
          go_wp2_with (at_builtin; refine wpL_append _ rfl (.tmp 39) (.tmp 41) _ rfl w.heap.size 3 i0 _ 1 8 Tryz.underlying151 hi0 hz0 hz1 hz2 rfl (by omega) _ g (ints .i64 (pls m k g)) rfl (hown.alloc _) (some ⟨wr.heap.size, 0, none⟩) 1 1 [.int .i64 (g : Int)] rfl rfl (Rd.of_new wr [.int .i64 (g : Int)] 3) (by intro u hu; simp at hu; subst hu; rfl) (by unfold maxLen; omega) (by omega) (by have := hB.size; simp; omega) ?_; intro v1 w1 hown1 hg1 hat1)
          have HO : Hid (w1.ownsRow w.heap.size 3 1 v1 (g + 1) (ints .i64 (pls m k (g + 1)))) := by
            show World.ownsRow _ _ _ _ _ _ _
            rw [pls_succ, HP.out, ints_append]
            exact hown1
          have hB1 : Below w.heap.size w w1 := below_app (hB.alloc hB.size _) hg1 (by have := hB.size; simp; omega) (hown.alloc _) (Nat.le_refl _)
          clear hown hown1 HP
          go_wp2
          go_roundw
          case rel => exact ⟨g + 1, by omega, by omega, by go_num, HO.out, hB1⟩
          case measure => simp [intOf]; omega
        · obtain rfl : g = m := by omega
          have HO := Lib.hid hown
          clear hown
          go_wp2
          go_ret
          exact ⟨hB, _, rfl, HO.out⟩

/-- What has been written to the places. -/
def UptoP (zs : List Nat) (j m n : Nat) (l : List Nat) : Prop := ∀ t, t < j → zs.getD (pl m n t) 0 = l.getD t 0
theorem UptoP.succ {zs : List Nat} {j m n : Nat} {l : List Nat} (h : UptoP zs j m n l) (hj : j < m) (hz : zs.length = m) : UptoP (zs.set (pl m n j) (l.getD j 0)) (j + 1) m n l := fun t ht => by
  rcases Nat.lt_or_ge t j with h1 | h1
  · have hne : pl m n j ≠ pl m n t := fun e => by
      have e1 := (ql_pl (n := n) hj).1
      have e2 := (ql_pl (n := n) (show t < m by omega)).1
      rw [e, e2] at e1; omega
    rw [List.getD_eq_getElem?_getD, List.getElem?_set_ne hne, ← List.getD_eq_getElem?_getD, h t h1]
  · obtain rfl : t = j := by omega
    have := (ql_pl (n := n) hj).2
    rw [List.getD_eq_getElem?_getD, List.getElem?_set_self (by omega)]; rfl

set_option maxRecDepth 100000 in
set_option maxHeartbeats 1600000 in
theorem shuffle_any (A : Option Addr) (c n : Nat) (l : List Nat) (w : World) (h1 : 1 ≤ n) (h8 : n ≤ 8) (hm : l.length ≤ 1048576) (h : Rd w w.heap.size A (ints .u8 l)) :
    Calls Tryz.prog 119 #[.slice A l.length c, .int .i64 n] w fun e w' => Below w.heap.size w w' ∧ ∃ v, e = .returned (.tuple #[v, .int .i64 0]) ∧ IsL w' w'.heap.size .u8 v (shufB l n) := by
  have hg : grE n l.length = 0 := by unfold grE; rw [if_neg (by omega), if_neg (by omega)]
  obtain ⟨i0, hi0, hz0, hz1, hz2⟩ := info_parts Tryz.u8c_info
  have hmk := make_ints (P := Tryz.prog) 25 5 i0 .u8 Tryz.underlying25 hi0 hz0 hz1 (by omega) .i64 .i64 l.length (l.length : Int) rfl (by omega)
  go_enter Tryz.func119, Tryz.ntmps119
  go_wp2_with fail
  refine (grouped_any _ _ _ _ _ (by omega)).mono ?_
  rintro e w1 ⟨rfl, rfl⟩
  rw [hg]
  clear hg
  go_wp2_with fail
  clear hmk
  have hk0 := Bk.new w 5 (ints .u8 (List.replicate l.length 0)).toArray
  refine (places_any l.length n _ h1 h8 hm).mono ?_
  rintro e w2 ⟨hb2, v, rfl, hv⟩
  obtain ⟨A', c', rfl, hc', hp'⟩ := IsL.of_own hv
  rw [pls_len] at hc' ⊢
  clear hv
  have hrow0 : Row w2 w.heap.size 5 .u8 (List.replicate l.length 0) := (Row.of_bk hk0).next hb2
  have hB0 : Below w.heap.size w w2 := (((Below.refl _ _).alloc (Nat.le_refl _) _).trans (hb2.mono (by simp)))
  have hgl := hrow0.lt
  go_wp2
  go_loopw [24] (fun i wr => ∃ (j : Nat) (zs : List Nat), j ≤ l.length ∧ zs.length = l.length ∧ Hid (Upto zs j (fun t => l.getD (pl l.length n t) 0)) ∧ i = .int .i64 j ∧ Row wr w.heap.size 5 .u8 zs ∧ Below w.heap.size w wr ∧ Rd wr w2.heap.size A' (ints .i64 (pls l.length n l.length))) (fun i _ => l.length - (intOf i).toNat)
  case atStart => exact ⟨0, List.replicate l.length 0, Nat.zero_le _, by simp, (fun t ht => by omega), rfl, hrow0, hB0, hp'⟩
  case round =>
    clear hrow0 hB0 hk0 hb2 hp'
    obtain ⟨j, zs, hj, hz, HU, rfl, hrow, hB, hp⟩ := hrel
    by_cases hlt : j < l.length
    · obtain ⟨ad, rfl, hab, hcell⟩ := (h.below hB).int (j := pl l.length n j) (by first | exact hlt | exact (ql_pl hlt).2)
      obtain ⟨ad2, rfl, hab2, hcell2⟩ := hp.int (j := j) (by rw [pls_len]; exact hlt)
      have e2 := pls_at l.length n hlt
      rw [e2] at hcell2
      clear e2
      have hpl := (ql_pl (n := n) hlt).2
      have hc0 := hrow.cell (i := j) (by omega)
      have hf0 := hrow.frozen (j)
      have HR2 := Lib.hid (fun x => hrow.put (i := j) (by omega) x)
      have HUn := Lib.hid (HU.out.succ (f := fun t => l.getD (pl l.length n t) 0) (show j < zs.length by omega))
      have HPD := Lib.hid (fun u => hp.put_kind hc0 (by decide) u)
      clear hrow hp
      generalize zs.getD j 0 = old at *
      generalize l.getD (pl l.length n j) 0 = x at *
      go_wp2
      go_roundw
      case rel =>
        exact ⟨j + 1, _, by omega, by rw [List.length_set]; exact hz, HUn.out, by go_num, HR2.out _, hB.setCell (by exact Nat.le_refl _) _, HPD.out _⟩
      case measure => simp [intOf]; omega
    · obtain rfl : j = l.length := by omega
      have HE : Hid (zs = shufB l n) := ext_getD (by rw [hz, shufB_len]) fun i hi => by
        rw [HU.out i (by omega), shufB_at _ _ (by omega)]
      have HL := Lib.hid (IsL.row hrow (c := l.length) (by omega))
      have HZ := Lib.hid hz
      go_wp2
      go_ret2
      refine ⟨hB, _, rfl, ?_⟩
      have := HL.out
      rw [HZ.out, HE.out] at this
      exact this

set_option maxRecDepth 100000 in
set_option maxHeartbeats 1600000 in
theorem unshuffle_any (A : Option Addr) (c n : Nat) (l : List Nat) (w : World) (h1 : 1 ≤ n) (h8 : n ≤ 8) (hm : l.length ≤ 1048576) (h : Rd w w.heap.size A (ints .u8 l)) :
    Calls Tryz.prog 110 #[.slice A l.length c, .int .i64 n] w fun e w' => Below w.heap.size w w' ∧ ∃ v, e = .returned (.tuple #[v, .int .i64 0]) ∧ IsL w' w'.heap.size .u8 v (unshB l n) := by
  have hg : grE n l.length = 0 := by unfold grE; rw [if_neg (by omega), if_neg (by omega)]
  obtain ⟨i0, hi0, hz0, hz1, hz2⟩ := info_parts Tryz.u8c_info
  have hmk := make_ints (P := Tryz.prog) 25 5 i0 .u8 Tryz.underlying25 hi0 hz0 hz1 (by omega) .i64 .i64 l.length (l.length : Int) rfl (by omega)
  go_enter Tryz.func110, Tryz.ntmps110
  go_wp2_with fail
  refine (grouped_any _ _ _ _ _ (by omega)).mono ?_
  rintro e w1 ⟨rfl, rfl⟩
  rw [hg]
  clear hg
  go_wp2_with fail
  clear hmk
  have hk0 := Bk.new w 5 (ints .u8 (List.replicate l.length 0)).toArray
  refine (places_any l.length n _ h1 h8 hm).mono ?_
  rintro e w2 ⟨hb2, v, rfl, hv⟩
  obtain ⟨A', c', rfl, hc', hp'⟩ := IsL.of_own hv
  rw [pls_len] at hc' ⊢
  clear hv
  have hrow0 : Row w2 w.heap.size 5 .u8 (List.replicate l.length 0) := (Row.of_bk hk0).next hb2
  have hB0 : Below w.heap.size w w2 := (((Below.refl _ _).alloc (Nat.le_refl _) _).trans (hb2.mono (by simp)))
  have hgl := hrow0.lt
  go_wp2
  go_loopw [24] (fun i wr => ∃ (j : Nat) (zs : List Nat), j ≤ l.length ∧ zs.length = l.length ∧ Hid (UptoP zs j l.length n l) ∧ i = .int .i64 j ∧ Row wr w.heap.size 5 .u8 zs ∧ Below w.heap.size w wr ∧ Rd wr w2.heap.size A' (ints .i64 (pls l.length n l.length))) (fun i _ => l.length - (intOf i).toNat)
  case atStart => exact ⟨0, List.replicate l.length 0, Nat.zero_le _, by simp, (fun t ht => by omega), rfl, hrow0, hB0, hp'⟩
  case round =>
    clear hrow0 hB0 hk0 hb2 hp'
    obtain ⟨j, zs, hj, hz, HU, rfl, hrow, hB, hp⟩ := hrel
    by_cases hlt : j < l.length
    · obtain ⟨ad, rfl, hab, hcell⟩ := (h.below hB).int (j := j) hlt
      obtain ⟨ad2, rfl, hab2, hcell2⟩ := hp.int (j := j) (by rw [pls_len]; exact hlt)
      have e2 := pls_at l.length n hlt
      rw [e2] at hcell2
      clear e2
      have hpl := (ql_pl (n := n) hlt).2
      have hc0 := hrow.cell (i := pl l.length n j) (by omega)
      have hf0 := hrow.frozen (pl l.length n j)
      have HR2 := Lib.hid (fun x => hrow.put (i := pl l.length n j) (by omega) x)
      have HUn := Lib.hid (HU.out.succ hlt hz)
      have HPD := Lib.hid (fun u => hp.put_kind hc0 (by decide) u)
      clear hrow hp
      generalize pl l.length n j = dst at *
      generalize zs.getD dst 0 = old at *
      generalize l.getD j 0 = x at *
      go_wp2
      go_roundw
      case rel =>
        exact ⟨j + 1, _, by omega, by rw [List.length_set]; exact hz, HUn.out, by go_num, HR2.out _, hB.setCell (by exact Nat.le_refl _) _, HPD.out _⟩
      case measure => simp [intOf]; omega
    · obtain rfl : j = l.length := by omega
      have HE : Hid (zs = unshB l n) := ext_getD (by rw [hz, unshB_len]) fun i hi => by
        obtain ⟨e1, e2⟩ := pl_ql (n := n) (show i < l.length by omega)
        rw [unshB_at _ _ (by omega), ← HU.out _ e2, e1]
      have HL := Lib.hid (IsL.row hrow (c := l.length) (by omega))
      have HZ := Lib.hid hz
      go_wp2
      go_ret2
      refine ⟨hB, _, rfl, ?_⟩
      have := HL.out
      rw [HZ.out, HE.out] at this
      exact this
end Go.Proofs.YtpkhgdnkkdhlcaaGreatDoor

namespace Go.Proofs.YtpkhgdnkkdhlcaaGreatDoor
open Go.RowKit By

/-- The first k bytes of shuffled bytes, and of what undoes it. -/
def shP (l : List Nat) (n k : Nat) : List Nat := (List.range k).map fun t => l.getD (pl l.length n t) 0
def unP (l : List Nat) (n k : Nat) : List Nat := (List.range k).map fun t => l.getD (ql l.length n t) 0
theorem shP_succ (l : List Nat) (n k : Nat) : shP l n (k + 1) = shP l n k ++ [l.getD (pl l.length n k) 0] := by simp [shP, List.range_succ]
theorem unP_succ (l : List Nat) (n k : Nat) : unP l n (k + 1) = unP l n k ++ [l.getD (ql l.length n k) 0] := by simp [unP, List.range_succ]
theorem shP_end (l : List Nat) (n : Nat) : shP l n (l.length / n * n) ++ l.drop (l.length / n * n) = shufB l n := map_rest l _ (Nat.div_mul_le_self _ _) fun _ h => pl_rest h
theorem unP_end (l : List Nat) (n : Nat) : unP l n (l.length / n * n) ++ l.drop (l.length / n * n) = unshB l n := map_rest l _ (Nat.div_mul_le_self _ _) fun _ h => ql_rest h

set_option maxRecDepth 100000 in
set_option maxHeartbeats 3200000 in
theorem rshuffle_any (A : Option Addr) (c n : Nat) (l : List Nat) (w : World) (h1 : 1 ≤ n) (h8 : n ≤ 8) (hl : l.length ≤ c) (hm : l.length ≤ 1048576) (h : Rd w w.heap.size A (ints .u8 l)) :
    Calls Tryz.prog 123 #[.slice A l.length c, .int .i64 n] w fun e w' => Below w.heap.size w w' ∧ ∃ v, e = .returned (.tuple #[v, .int .i64 0]) ∧ IsL w' w'.heap.size .u8 v (shufB l n) := by
  have hg : grE n l.length = 0 := by unfold grE; rw [if_neg (by omega), if_neg (by omega)]
  obtain ⟨i0, hi0, hz0, hz1, hz2⟩ := info_parts Tryz.u8c_info
  obtain ⟨K, hK⟩ : ∃ K, K = l.length / n := ⟨_, rfl⟩
  have hKm : K ≤ l.length := by rw [hK]; exact Nat.div_le_self _ _
  have hKn : K * n ≤ l.length := by rw [hK]; exact Nat.div_mul_le_self _ _
  have x1 : (l.length : Int).tdiv (n : Int) = (K : Int) := by rw [Int.tdiv_eq_ediv_of_nonneg (by omega), hK]; simp
  have x2 : ¬ (n : Int) = 0 := by omega
  have hmk := make_room 25 5 i0 .u8 Tryz.underlying25 hi0 hz0 hz1 (by omega) (l.length : Int) l.length rfl (by omega)
  have HK := Lib.hid hK
  clear hK
  go_enter Tryz.func123, Tryz.ntmps123
  go_wp2_with fail
  refine (asked_any _ _ _ _ _ (by omega)).mono ?_
  rintro e w1 ⟨rfl, rfl⟩
  rw [hg]
  clear hg
  have hown0 : (w.alloc (.cells (ints .u8 (List.replicate l.length 0)).toArray 5)).ownsRow w.heap.size 5 1 (.slice (some ⟨w.heap.size, 0, none⟩) 0 l.length) 0 (ints .u8 []) := by
    have := (Bk.new w 5 (ints .u8 (List.replicate l.length 0)).toArray).own (base := w.heap.size) (size := 1) (n := 0) (cap := l.length) (Nat.le_refl _) (Nat.zero_le _) (by unfold maxLen; omega) (by simp [ints_length])
    rw [Nat.zero_mul, List.take_zero] at this
    exact this
  have hB0 : Below w.heap.size w (w.alloc (.cells (ints .u8 (List.replicate l.length 0)).toArray 5)) := (Below.refl _ _).alloc (Nat.le_refl _) _
  go_wp2
  clear x1 x2 hmk
  go_loopw [8, 9] (fun v i wr => ∃ a q : Nat, a ≤ n ∧ Hid (q = a * K) ∧ i = .int .i64 a ∧ q ≤ l.length ∧ wr.ownsRow w.heap.size 5 1 v q (ints .u8 (shP l n q)) ∧ Below w.heap.size w wr) (fun _ i _ => n - (intOf i).toNat)
  case atStart => exact ⟨0, 0, Nat.zero_le _, (show 0 = 0 * _ by omega), rfl, Nat.zero_le _, hown0, hB0⟩
  case round =>
    clear hown0 hB0
    obtain ⟨a, q, ha, HQ, rfl, hq, hown, hB⟩ := hrel
    by_cases hlt : a < n
    · obtain ⟨wo, rfl⟩ : ∃ wo : World, wo = wr := ⟨_, rfl⟩
      have hqK : q + K ≤ l.length := by
        have h3 : (a + 1) * K ≤ n * K := Nat.mul_le_mul_right _ (by omega)
        have := HQ.out
        rw [Nat.succ_mul] at h3
        have h4 : n * K = K * n := Nat.mul_comm _ _
        omega
      go_wp2
      go_loopw [8, 10] (fun v i wr => ∃ b : Nat, b ≤ K ∧ i = .int .i64 b ∧ wr.ownsRow w.heap.size 5 1 v (q + b) (ints .u8 (shP l n (q + b))) ∧ Below w.heap.size w wr) (fun _ i _ => K - (intOf i).toNat)
      case atStart => exact ⟨0, Nat.zero_le _, rfl, hown, hB⟩
      case round =>
        clear hown hB
        obtain ⟨b, hb, rfl, hown, hB⟩ := hrel
        by_cases hlt2 : b < K
        · obtain ⟨y, hy⟩ : ∃ y, y = b * n := ⟨_, rfl⟩
          obtain ⟨z, rfl⟩ : ∃ z, a = z := ⟨_, rfl⟩
          have hyz : y + a < l.length := by
            have h3 : (b + 1) * n ≤ K * n := Nat.mul_le_mul_right _ (by omega)
            rw [Nat.succ_mul] at h3
            omega
          have y1 : (b : Int) * (n : Int) = (y : Int) := by rw [hy]; simp
          have hpl : pl l.length n (q + b) = y + a := by
            rw [hy, HQ.out, HK.out]
            exact pl_group (by rw [← HK.out]; exact hlt2) hlt
          clear hy
          obtain ⟨ad, rfl, hab, hcell⟩ := (h.below hB).int (j := y + a) hyz
          have HP : Hid (shP l n (q + (b + 1)) = shP l n (q + b) ++ [l.getD (y + a) 0]) := by
            show _ = _
            rw [← Nat.add_assoc, shP_succ, hpl]
          clear hpl
          generalize l.getD (y + a) 0 = x at *
          go_wp2_with (at_builtin; refine wpL_append _ rfl (.tmp 34) (.tmp 43) _ rfl w.heap.size 5 i0 _ 1 1 Tryz.underlying25 hi0 hz0 hz1 hz2 rfl (by omega) _ (q + b) (ints .u8 (shP l n (q + b))) rfl (hown.alloc _) (some ⟨wr.heap.size, 0, none⟩) 1 1 [.int .u8 (x : Int)] rfl rfl (Rd.of_new wr [.int .u8 (x : Int)] 5) (by intro u hu; simp at hu; subst hu; rfl) (by unfold maxLen; omega) (by omega) (by have := hB.size; simp; omega) ?_; intro v1 w1 hown1 hg1 hat1)
          have HO : Hid (w1.ownsRow w.heap.size 5 1 v1 (q + (b + 1)) (ints .u8 (shP l n (q + (b + 1))))) := by
            show World.ownsRow _ _ _ _ _ _ _
            rw [HP.out, ints_append]
            exact hown1
          have hB1 : Below w.heap.size w w1 := below_app (hB.alloc hB.size _) hg1 (by have := hB.size; simp; omega) (hown.alloc _) (Nat.le_refl _)
          clear hown hown1 HP y1
          go_wp2
          go_roundw
          case rel => exact ⟨b + 1, by omega, by go_num, HO.out, hB1⟩
          case measure => simp [intOf]; omega
        · obtain rfl : b = K := by omega
          have HO := Lib.hid hown
          clear hown
          go_wp2
          go_roundw
          case rel => exact ⟨a + 1, q + b, by omega, (show q + b = (a + 1) * b by have := HQ.out; rw [Nat.succ_mul]; omega), by go_num, hqK, HO.out, hB⟩
          case measure => simp [intOf]; omega
    · obtain rfl : n = a := by omega
      obtain ⟨q0, hq0⟩ : ∃ q0, q0 = K * n := ⟨_, rfl⟩
      have y1 : (K : Int) * (n : Int) = (q0 : Int) := by rw [hq0]; simp
      have hqq : q = q0 := by have := HQ.out; rw [hq0, this]; exact Nat.mul_comm _ _
      have HE : Hid (shP l n q ++ l.drop q0 = shufB l n) := by
        show _ = _
        rw [hqq, hq0, HK.out]; exact shP_end l n
      have hr := (h.below hB).cut (k := q0) (cap := c) (by rw [ints_length]; exact hl)
      rw [← ints_drop] at hr
      have hql : q0 ≤ l.length := by omega
      clear hq0 hqq
      by_cases hcq : c = q0
      · rw [if_pos hcq] at hr
        obtain rfl : q0 = c := hcq.symm
        have HE0 : Hid (l.drop q0 = []) := List.drop_eq_nil_of_le hl
        rw [HE0.out] at HE
        clear hr HE0
        go_wp2_with (at_builtin; refine wpL_append _ rfl (.tmp 45) (.tmp 50) _ rfl w.heap.size 5 i0 _ 1 1 Tryz.underlying25 hi0 hz0 hz1 hz2 rfl (by omega) _ q (ints .u8 (shP l n q)) rfl hown A 0 0 (ints .u8 []) rfl rfl (Rd.nil (B := 0)) (ints_one _ _) (by unfold maxLen; omega) (by omega) hB.size ?_; intro v1 w1 hown1 hg1 hat1)
        have HO : Hid (IsL w1 w1.heap.size .u8 v1 (shufB l n)) := by
          rw [← ints_append, HE.out] at hown1
          exact IsL.of_own hown1
        have hB1 : Below w.heap.size w w1 := below_app hB hg1 hB.size hown (Nat.le_refl _)
        clear hown hown1
        go_wp2
        go_ret2
        exact ⟨hB1, _, rfl, HO.out⟩
      · rw [if_neg hcq] at hr
        go_wp2_with (at_builtin; refine wpL_append _ rfl (.tmp 45) (.tmp 50) _ rfl w.heap.size 5 i0 _ 1 1 Tryz.underlying25 hi0 hz0 hz1 hz2 rfl (by omega) _ q (ints .u8 (shP l n q)) rfl hown (A.map (·.add q0)) (l.length - q0) (c - q0) (ints .u8 (l.drop q0)) rfl (by rw [ints_length, List.length_drop, Nat.mul_one]) (hr.more hB.size) (ints_one _ _) (by unfold maxLen; omega) (by omega) hB.size ?_; intro v1 w1 hown1 hg1 hat1)
        have HO : Hid (IsL w1 w1.heap.size .u8 v1 (shufB l n)) := by
          rw [← ints_append, HE.out] at hown1
          exact IsL.of_own hown1
        have hB1 : Below w.heap.size w w1 := below_app hB hg1 hB.size hown (Nat.le_refl _)
        clear hown hown1
        go_wp2
        go_ret2
        exact ⟨hB1, _, rfl, HO.out⟩

set_option maxRecDepth 100000 in
set_option maxHeartbeats 3200000 in
theorem runshuffle_any (A : Option Addr) (c n : Nat) (l : List Nat) (w : World) (h1 : 1 ≤ n) (h8 : n ≤ 8) (hl : l.length ≤ c) (hm : l.length ≤ 1048576) (h : Rd w w.heap.size A (ints .u8 l)) :
    Calls Tryz.prog 115 #[.slice A l.length c, .int .i64 n] w fun e w' => Below w.heap.size w w' ∧ ∃ v, e = .returned (.tuple #[v, .int .i64 0]) ∧ IsL w' w'.heap.size .u8 v (unshB l n) := by
  have hg : grE n l.length = 0 := by unfold grE; rw [if_neg (by omega), if_neg (by omega)]
  obtain ⟨i0, hi0, hz0, hz1, hz2⟩ := info_parts Tryz.u8c_info
  obtain ⟨K, hK⟩ : ∃ K, K = l.length / n := ⟨_, rfl⟩
  have hKm : K ≤ l.length := by rw [hK]; exact Nat.div_le_self _ _
  have hKn : K * n ≤ l.length := by rw [hK]; exact Nat.div_mul_le_self _ _
  have x1 : (l.length : Int).tdiv (n : Int) = (K : Int) := by rw [Int.tdiv_eq_ediv_of_nonneg (by omega), hK]; simp
  have x2 : ¬ (n : Int) = 0 := by omega
  have hmk := make_room 25 5 i0 .u8 Tryz.underlying25 hi0 hz0 hz1 (by omega) (l.length : Int) l.length rfl (by omega)
  have HK := Lib.hid hK
  clear hK
  go_enter Tryz.func115, Tryz.ntmps115
  go_wp2_with fail
  refine (asked_any _ _ _ _ _ (by omega)).mono ?_
  rintro e w1 ⟨rfl, rfl⟩
  rw [hg]
  clear hg
  have hown0 : (w.alloc (.cells (ints .u8 (List.replicate l.length 0)).toArray 5)).ownsRow w.heap.size 5 1 (.slice (some ⟨w.heap.size, 0, none⟩) 0 l.length) 0 (ints .u8 []) := by
    have := (Bk.new w 5 (ints .u8 (List.replicate l.length 0)).toArray).own (base := w.heap.size) (size := 1) (n := 0) (cap := l.length) (Nat.le_refl _) (Nat.zero_le _) (by unfold maxLen; omega) (by simp [ints_length])
    rw [Nat.zero_mul, List.take_zero] at this
    exact this
  have hB0 : Below w.heap.size w (w.alloc (.cells (ints .u8 (List.replicate l.length 0)).toArray 5)) := (Below.refl _ _).alloc (Nat.le_refl _) _
  go_wp2
  clear x1 x2 hmk
  go_loopw [8, 9] (fun v i wr => ∃ a q : Nat, a ≤ K ∧ Hid (q = a * n) ∧ i = .int .i64 a ∧ q ≤ l.length ∧ wr.ownsRow w.heap.size 5 1 v q (ints .u8 (unP l n q)) ∧ Below w.heap.size w wr) (fun _ i _ => K - (intOf i).toNat)
  case atStart => exact ⟨0, 0, Nat.zero_le _, (show 0 = 0 * _ by omega), rfl, Nat.zero_le _, hown0, hB0⟩
  case round =>
    clear hown0 hB0
    obtain ⟨a, q, ha, HQ, rfl, hq, hown, hB⟩ := hrel
    by_cases hlt : a < K
    · obtain ⟨wo, rfl⟩ : ∃ wo : World, wo = wr := ⟨_, rfl⟩
      have hqK : q + n ≤ l.length := by
        have h3 : (a + 1) * n ≤ K * n := Nat.mul_le_mul_right _ (by omega)
        have := HQ.out
        rw [Nat.succ_mul] at h3
        have h4 : n * K = K * n := Nat.mul_comm _ _
        omega
      go_wp2
      go_loopw [8, 10] (fun v i wr => ∃ b : Nat, b ≤ n ∧ i = .int .i64 b ∧ wr.ownsRow w.heap.size 5 1 v (q + b) (ints .u8 (unP l n (q + b))) ∧ Below w.heap.size w wr) (fun _ i _ => n - (intOf i).toNat)
      case atStart => exact ⟨0, Nat.zero_le _, rfl, hown, hB⟩
      case round =>
        clear hown hB
        obtain ⟨b, hb, rfl, hown, hB⟩ := hrel
        by_cases hlt2 : b < n
        · obtain ⟨y, hy⟩ : ∃ y, y = b * K := ⟨_, rfl⟩
          have hyz : y + a < l.length := by
            have h3 : (b + 1) * K ≤ n * K := Nat.mul_le_mul_right _ (by omega)
            rw [Nat.succ_mul, Nat.mul_comm n K] at h3
            omega
          have y1 : (b : Int) * (K : Int) = (y : Int) := by rw [hy]; simp
          have hpl : ql l.length n (q + b) = y + a := by
            rw [hy, HQ.out, HK.out]
            exact ql_group (by rw [← HK.out]; exact hlt) hlt2
          clear hy
          obtain ⟨ad, rfl, hab, hcell⟩ := (h.below hB).int (j := y + a) hyz
          have HP : Hid (unP l n (q + (b + 1)) = unP l n (q + b) ++ [l.getD (y + a) 0]) := by
            show _ = _
            rw [← Nat.add_assoc, unP_succ, hpl]
          clear hpl
          generalize l.getD (y + a) 0 = x at *
          go_wp2_with (at_builtin; refine wpL_append _ rfl (.tmp 34) (.tmp 43) _ rfl w.heap.size 5 i0 _ 1 1 Tryz.underlying25 hi0 hz0 hz1 hz2 rfl (by omega) _ (q + b) (ints .u8 (unP l n (q + b))) rfl (hown.alloc _) (some ⟨wr.heap.size, 0, none⟩) 1 1 [.int .u8 (x : Int)] rfl rfl (Rd.of_new wr [.int .u8 (x : Int)] 5) (by intro u hu; simp at hu; subst hu; rfl) (by unfold maxLen; omega) (by omega) (by have := hB.size; simp; omega) ?_; intro v1 w1 hown1 hg1 hat1)
          have HO : Hid (w1.ownsRow w.heap.size 5 1 v1 (q + (b + 1)) (ints .u8 (unP l n (q + (b + 1))))) := by
            show World.ownsRow _ _ _ _ _ _ _
            rw [HP.out, ints_append]
            exact hown1
          have hB1 : Below w.heap.size w w1 := below_app (hB.alloc hB.size _) hg1 (by have := hB.size; simp; omega) (hown.alloc _) (Nat.le_refl _)
          clear hown hown1 HP y1
          go_wp2
          go_roundw
          case rel => exact ⟨b + 1, by omega, by go_num, HO.out, hB1⟩
          case measure => simp [intOf]; omega
        · obtain rfl : n = b := by omega
          have HO := Lib.hid hown
          clear hown
          go_wp2
          go_roundw
          case rel => exact ⟨a + 1, q + n, by omega, (show q + n = (a + 1) * n by have := HQ.out; rw [Nat.succ_mul]; omega), by go_num, hqK, HO.out, hB⟩
          case measure => simp [intOf]; omega
    · obtain rfl : K = a := by omega
      obtain ⟨q0, hq0⟩ : ∃ q0, q0 = K * n := ⟨_, rfl⟩
      have y1 : (K : Int) * (n : Int) = (q0 : Int) := by rw [hq0]; simp
      have hqq : q = q0 := by have := HQ.out; rw [hq0, this]
      have HE : Hid (unP l n q ++ l.drop q0 = unshB l n) := by
        show _ = _
        rw [hqq, hq0, HK.out]; exact unP_end l n
      have hr := (h.below hB).cut (k := q0) (cap := c) (by rw [ints_length]; exact hl)
      rw [← ints_drop] at hr
      have hql : q0 ≤ l.length := by omega
      clear hq0 hqq
      by_cases hcq : c = q0
      · rw [if_pos hcq] at hr
        obtain rfl : q0 = c := hcq.symm
        have HE0 : Hid (l.drop q0 = []) := List.drop_eq_nil_of_le hl
        rw [HE0.out] at HE
        clear hr HE0
        go_wp2_with (at_builtin; refine wpL_append _ rfl (.tmp 45) (.tmp 50) _ rfl w.heap.size 5 i0 _ 1 1 Tryz.underlying25 hi0 hz0 hz1 hz2 rfl (by omega) _ q (ints .u8 (unP l n q)) rfl hown A 0 0 (ints .u8 []) rfl rfl (Rd.nil (B := 0)) (ints_one _ _) (by unfold maxLen; omega) (by omega) hB.size ?_; intro v1 w1 hown1 hg1 hat1)
        have HO : Hid (IsL w1 w1.heap.size .u8 v1 (unshB l n)) := by
          rw [← ints_append, HE.out] at hown1
          exact IsL.of_own hown1
        have hB1 : Below w.heap.size w w1 := below_app hB hg1 hB.size hown (Nat.le_refl _)
        clear hown hown1
        go_wp2
        go_ret2
        exact ⟨hB1, _, rfl, HO.out⟩
      · rw [if_neg hcq] at hr
        go_wp2_with (at_builtin; refine wpL_append _ rfl (.tmp 45) (.tmp 50) _ rfl w.heap.size 5 i0 _ 1 1 Tryz.underlying25 hi0 hz0 hz1 hz2 rfl (by omega) _ q (ints .u8 (unP l n q)) rfl hown (A.map (·.add q0)) (l.length - q0) (c - q0) (ints .u8 (l.drop q0)) rfl (by rw [ints_length, List.length_drop, Nat.mul_one]) (hr.more hB.size) (ints_one _ _) (by unfold maxLen; omega) (by omega) hB.size ?_; intro v1 w1 hown1 hg1 hat1)
        have HO : Hid (IsL w1 w1.heap.size .u8 v1 (unshB l n)) := by
          rw [← ints_append, HE.out] at hown1
          exact IsL.of_own hown1
        have hB1 : Below w.heap.size w w1 := below_app hB hg1 hB.size hown (Nat.le_refl _)
        clear hown hown1
        go_wp2
        go_ret2
        exact ⟨hB1, _, rfl, HO.out⟩
end Go.Proofs.YtpkhgdnkkdhlcaaGreatDoor

namespace Go.Proofs.YtpkhgdnkkdhlcaaGreatDoor
open Go.RowKit By

/-- A slice without its first numbers. -/
theorem cut_slice {w : World} {B : Nat} {A : Option Addr} {k : IntKind} {l : List Nat} {c : Nat} (h : Rd w B A (ints k l)) (hc : l.length ≤ c) (q : Nat) :
    (c = q → Rd w B A (ints k (l.drop q))) ∧ (¬ c = q → Rd w B (A.map (·.add q)) (ints k (l.drop q))) := by
  have hr := h.cut (k := q) (cap := c) (by rw [ints_length]; exact hc)
  rw [← ints_drop] at hr
  exact ⟨fun e => by rw [if_pos e] at hr; exact hr, fun e => by rw [if_neg e] at hr; exact hr⟩
theorem gv_two {t : List Nat} (h : 2 ≤ t.length) : gv (t.take 2) = t.getD 0 0 * 256 + t.getD 1 0 := by
  match t, h with
  | a :: b :: r, _ => simp [gv]

set_option maxRecDepth 100000 in
set_option maxHeartbeats 6400000 in
theorem undict_any (A : Option Addr) (c : Nat) (l : List Nat) (E : Nat) (R : List Nat) (w : World) (hl : Bytes l) (hc : l.length ≤ c) (hm : l.length ≤ 100000000) {pp : Prop} (_ : pp) (h : Rd w w.heap.size A (ints .u8 l)) (hu : und l [] = (E, R)) :
    Calls Tryz.prog 112 #[.slice A l.length c] w fun e w' => Below w.heap.size w w' ∧ ∃ v, e = .returned (.tuple #[v, .int .i64 (E : Int)]) ∧ IsL w' w'.heap.size .u8 v R := by
  obtain ⟨i0, hi0, hz0, hz1, hz2⟩ := info_parts Tryz.u8c_info
  have HU0 := Lib.hid hu
  clear hu
  go_enter Tryz.func112, Tryz.ntmps112
  go_wp2
  go_loopw [0, 4] (fun x v wr => ∃ (B : Option Addr) (cb : Nat) (r o : List Nat), x = .slice B r.length cb ∧ r.length ≤ cb ∧ r.length ≤ 100000000 ∧ 0 ≤ cb ∧ Bytes r ∧ Rd wr w.heap.size B (ints .u8 r) ∧ o.length ≤ 1048576 ∧ Bytes o ∧ wr.ownsRow w.heap.size 5 1 v o.length (ints .u8 o) ∧ Hid (und r o = (E, R)) ∧ Below w.heap.size w wr)
    (fun x _ _ => (match x with | .slice _ n _ => n | _ => 0))
  case atStart => exact ⟨A, c, l, [], rfl, hc, hm, Nat.zero_le _, hl, h, by decide, bytes_nil, World.ownsRow_nil _ _ _ _, HU0.out, Below.refl _ _⟩
  case round =>
    clear h hl hc hm HU0
    obtain ⟨B, cb, r, o, rfl, hrc, hrm, -, hbr, hrd, ho, hbo, hown, HU, hB⟩ := hrel
    obtain ⟨A', c', rfl, hc'⟩ := own_slice hown
    rcases r with _ | ⟨x, t⟩
    · have HE : Hid (E = 0 ∧ R = o) := by
        have := HU.out
        rw [und_nil] at this
        injection this with e1 e2
        exact ⟨e1.symm, e2.symm⟩
      obtain ⟨rfl, rfl⟩ := HE.out
      have HL := Lib.hid (IsL.of_own hown)
      clear hown HE
      go_wp2
      go_ret2
      exact ⟨hB, _, rfl, HL.out⟩
    · have hx : x < 256 := hbr x (by simp)
      have hbt : Bytes t := fun y hy => hbr y (by simp [hy])
      obtain ⟨ad, rfl, hab, hcell⟩ := hrd.int (j := 0) (by simp)
      rw [addr_zero, List.getD_cons_zero] at hcell
      have hlen : (x :: t).length = t.length + 1 := rfl
      rw [hlen] at hrc hrm ⊢
      have HRD := Lib.hid hrd
      clear hrd hbr
      by_cases hx8 : x < 128
      · by_cases hsh : t.length < x + 1
        · have HE : Hid (E = 5 ∧ R = []) := by
            have := HU.out
            rw [und_lit_short hx8 hsh] at this
            injection this with e1 e2
            exact ⟨e1.symm, e2.symm⟩
          obtain ⟨rfl, rfl⟩ := HE.out
          clear HE hown
          go_wp2
          go_quiet (fail)
          go_wp2
          go_ret2
          exact ⟨below_drewN hB _, _, rfl, IsL.nil _ _ _⟩
        · by_cases hbig : o.length + (x + 1) > 1048576
          · have HE : Hid (E = 4 ∧ R = []) := by
              have := HU.out
              rw [und_lit_long hx8 hsh hbig] at this
              injection this with e1 e2
              exact ⟨e1.symm, e2.symm⟩
            obtain ⟨rfl, rfl⟩ := HE.out
            clear HE hown
            go_wp2
            go_quiet (fail)
            go_wp2
            go_ret2
            exact ⟨below_drewN hB _, _, rfl, IsL.nil _ _ _⟩
          · go_wp2
            go_quiet (fail)
            have hsub := (HRD.out.sub 1 (1 + x)).drewN nq
            have hsub2 : Rd (wr.drewN nq) w.heap.size (some ⟨ad.block, ad.off + 1, none⟩) (ints .u8 (t.take (1 + x))) := hsub
            have htl : (t.take (1 + x)).length = 1 + x := by rw [List.length_take]; omega
            have HTL := Lib.hid htl
            have hownq : (wr.drewN nq).ownsRow w.heap.size 5 1 (.slice A' o.length c') o.length (ints .u8 o) := hown
            have hBq := below_drewN hB nq
            have HR1 := HRD.out.drewN nq
            have hcq : (wr.drewN nq).cell? ad = some (.int .u8 (x : Int)) := hcell
            clear hcell
            clear hsub htl hown hB
            generalize wr.drewN nq = wq at *
            go_wp2_with (at_builtin; refine wpL_append _ rfl (.tmp 58) (.tmp 61) _ rfl w.heap.size 5 i0 _ 1 1 Tryz.underlying25 hi0 hz0 hz1 hz2 rfl (by omega) _ o.length (ints .u8 o) rfl hownq (some ⟨ad.block, ad.off + 1, none⟩) (2 + x - 1) (cb - 1) (ints .u8 (t.take (1 + x))) rfl (by rw [ints_length, HTL.out]; omega) hsub2 (ints_one _ _) (by unfold maxLen; omega) (by omega) hBq.size ?_; intro v1 w1 hown1 hg1 hat1)
            have hB1 : Below w.heap.size w w1 := below_app hBq hg1 hBq.size hownq (Nat.le_refl _)
            have HRD1 : Hid (Rd w1 w.heap.size (some ad) (ints .u8 (x :: t))) := HR1.grown hg1 hBq.size fun g hg => (hownq.lt g hg).1
            have hoL : (o ++ t.take (1 + x)).length = o.length + (2 + x - 1) := by rw [List.length_append, HTL.out]; omega
            have HO : Hid (w1.ownsRow w.heap.size 5 1 v1 (o ++ t.take (1 + x)).length (ints .u8 (o ++ t.take (1 + x)))) := by
              show World.ownsRow _ _ _ _ _ _ _
              rw [hoL, ints_append]; exact hown1
            have HOL := Lib.hid hoL
            have HU1 : Hid (und (t.drop (x + 1)) (o ++ t.take (1 + x)) = (E, R)) := by
              have := HU.out
              rw [und_lit hx8 hsh hbig, Nat.add_comm x 1] at this
              rw [Nat.add_comm x 1]; exact this
            clear hownq hown1 hsub2 hoL HR1
            go_wp2
            go_loop [4, 64] (fun v i => ∃ j : Nat, j ≤ 1 + x ∧ i = .int .i64 j ∧ v = v1) (fun _ i => 1 + x - (intOf i).toNat)
            case atStart => exact ⟨0, Nat.zero_le _, rfl, rfl⟩
            case round =>
              obtain ⟨j, hj, rfl, rfl⟩ := hrel
              by_cases hlt : j < 1 + x
              · go_wp2
                go_round
                case rel => exact ⟨j + 1, by omega, by go_num, rfl⟩
                case measure => simp [intOf]; omega
              · by_cases hq : cb = 2 + x
                · have hr2 := (cut_slice HRD1.out (by rw [hlen]; exact hrc) (2 + x)).1 hq
                  have HB2 : Hid (Rd w1 w.heap.size (some ad) (ints .u8 (t.drop (x + 1)))) := by
                    have e : (x :: t).drop (2 + x) = t.drop (x + 1) := by rw [show 2 + x = (x + 1) + 1 by omega]; rfl
                    rw [e] at hr2; exact hr2
                  have HBO : Hid (Bytes (o ++ t.take (1 + x))) := hbo.app (hbt.take _)
                  have HBT : Hid (Bytes (t.drop (x + 1))) := hbt.drop _
                  have HOLL : Hid ((o ++ t.take (1 + x)).length ≤ 1048576) := by show _ ≤ _; rw [HOL.out]; omega
                  have HTD : Hid ((t.drop (x + 1)).length = t.length + 1 - (2 + x)) := by show _ = _; rw [List.length_drop]; omega
                  clear hlen hr2
                  go_wp2
                  go_roundw
                  case rel => exact ⟨some ad, 2 + x - (2 + x), t.drop (x + 1), _, by rw [HTD.out], by rw [HTD.out]; omega, by rw [HTD.out]; omega, by omega, HBT.out, HB2.out, HOLL.out, HBO.out, HO.out, HU1.out, hB1⟩
                  case measure => simp; omega
                · have hr2 := (cut_slice HRD1.out (by rw [hlen]; exact hrc) (2 + x)).2 hq
                  have HB2 : Hid (Rd w1 w.heap.size (some (ad.add (2 + x))) (ints .u8 (t.drop (x + 1)))) := by
                    have e : (x :: t).drop (2 + x) = t.drop (x + 1) := by rw [show 2 + x = (x + 1) + 1 by omega]; rfl
                    rw [e] at hr2; exact hr2
                  have HBO : Hid (Bytes (o ++ t.take (1 + x))) := hbo.app (hbt.take _)
                  have HBT : Hid (Bytes (t.drop (x + 1))) := hbt.drop _
                  have HOLL : Hid ((o ++ t.take (1 + x)).length ≤ 1048576) := by show _ ≤ _; rw [HOL.out]; omega
                  have HTD : Hid ((t.drop (x + 1)).length = t.length + 1 - (2 + x)) := by show _ = _; rw [List.length_drop]; omega
                  clear hlen hr2
                  go_wp2
                  go_roundw
                  case rel => exact ⟨some (ad.add (2 + x)), cb - (2 + x), t.drop (x + 1), _, by rw [HTD.out], by rw [HTD.out]; omega, by rw [HTD.out]; omega, by omega, HBT.out, HB2.out, HOLL.out, HBO.out, HO.out, HU1.out, hB1⟩
                  case measure => simp; omega
      · by_cases hsh : t.length < 2
        · have HE : Hid (E = 5 ∧ R = []) := by
            have := HU.out
            rw [und_rep_short hx8 hsh] at this
            injection this with e1 e2
            exact ⟨e1.symm, e2.symm⟩
          obtain ⟨rfl, rfl⟩ := HE.out
          clear HE hown
          go_wp2
          go_quiet (fail)
          go_wp2
          go_quiet (fail)
          go_wp2
          go_ret2
          exact ⟨below_drewN hB _, _, rfl, IsL.nil _ _ _⟩
        · go_wp2
          go_quiet (fail)
          have hcq : (wr.drewN nq).cell? ad = some (.int .u8 (x : Int)) := hcell
          have hownq : (wr.drewN nq).ownsRow w.heap.size 5 1 (.slice A' o.length c') o.length (ints .u8 o) := hown
          have hBq := below_drewN hB nq
          have HR1 := Lib.hid (HRD.out.drewN nq)
          clear hown hB hcell HRD
          generalize wr.drewN nq = wq at *
          go_wp2
          go_quiet (fail)
          have hcell : (wq.drewN nq).cell? ad = some (.int .u8 (x : Int)) := hcq
          have hown : (wq.drewN nq).ownsRow w.heap.size 5 1 (.slice A' o.length c') o.length (ints .u8 o) := hownq
          have hB := below_drewN hBq nq
          have HRD := Lib.hid (HR1.out.drewN nq)
          clear hownq hBq hcq HR1
          generalize wq.drewN nq = wp at *
          have hsub2 : Rd wp wp.heap.size (some ⟨ad.block, ad.off + 1, none⟩) (ints .u8 (t.take 2)) := (HRD.out.sub 1 2).more hB.size
          have ht2 : (t.take 2).length = 2 := by rw [List.length_take]; omega
          obtain ⟨d, hd⟩ : ∃ d, d = t.getD 0 0 * 256 + t.getD 1 0 := ⟨_, rfl⟩
          have hdd : gv (t.take 2) = d := by rw [hd, gv_two (by omega)]
          have hdlt : d < 65536 := by
            have hd0 := hbt.at_ 0
            have hd1 := hbt.at_ 1
            omega
          have HD := Lib.hid hd
          clear hd
          go_wp2_with fail
          refine (number_any _ _ 2 (t.take 2) _ ht2 (by decide) (hbt.take _) hsub2).mono ?_
          rintro e w2 ⟨rfl, rfl⟩
          rw [hdd]
          clear hsub2 ht2 hdd
          have hL : (x : Int) - 128 + 4 = ((x - 124 : Nat) : Int) := by omega
          obtain ⟨L, hLx⟩ : ∃ L, L = x - 124 := ⟨_, rfl⟩
          rw [← hLx] at hL
          have hL1 : L ≤ 131 := by omega
          have HLX := Lib.hid hLx
          clear hLx
          by_cases hfar : d = 0 ∨ d > o.length
          · have HE : Hid (E = 5 ∧ R = []) := by
              have := HU.out
              rw [und_rep_far hx8 hsh (by rw [← HD.out]; exact hfar)] at this
              injection this with e1 e2
              exact ⟨e1.symm, e2.symm⟩
            obtain ⟨rfl, rfl⟩ := HE.out
            clear HE hown hL
            rcases Nat.eq_zero_or_pos d with hd0 | hd0
            · have hd1 : (d : Int) = 0 := by omega
              clear hfar
              go_wp2
              go_ret2
              exact ⟨hB, _, rfl, IsL.nil _ _ _⟩
            · have hd1 : o.length < d := by omega
              clear hfar
              go_wp2
              go_ret2
              exact ⟨hB, _, rfl, IsL.nil _ _ _⟩
          · have hd0 : 0 < d := by omega
            have hd1 : d ≤ o.length := by omega
            have hdn : decide (o.length < d) = false := by rw [decide_eq_false_iff_not]; omega
            have hdz : ((d : Int) == 0) = false := by rw [beq_eq_false_iff_ne]; omega
            by_cases hbig : o.length + L > 1048576
            · have HE : Hid (E = 4 ∧ R = []) := by
                have := HU.out
                rw [und_rep_long hx8 hsh (by rw [← HD.out]; exact hfar) (by rw [← HLX.out]; exact hbig)] at this
                injection this with e1 e2
                exact ⟨e1.symm, e2.symm⟩
              obtain ⟨rfl, rfl⟩ := HE.out
              clear HE hown hfar
              go_wp2
              go_ret2
              exact ⟨hB, _, rfl, IsL.nil _ _ _⟩
            · have HU1 : Hid (und (t.drop 2) (rep d o L) = (E, R)) := by
                have := HU.out
                rw [und_rep hx8 hsh (by rw [← HD.out]; exact hfar) (by rw [← HLX.out]; exact hbig), ← HD.out, ← HLX.out] at this
                exact this
              clear hfar
              go_wp2
              clear hL
              go_loopw [4, 64] (fun v i wr => ∃ j : Nat, j ≤ L ∧ i = .int .i64 j ∧ wr.ownsRow w.heap.size 5 1 v (o.length + j) (ints .u8 (rep d o j)) ∧ Below w.heap.size w wr ∧ Rd wr w.heap.size (some ad) (ints .u8 (x :: t))) (fun _ i _ => L - (intOf i).toNat)
              case atStart => exact ⟨0, Nat.zero_le _, rfl, hown, hB, HRD.out⟩
              case round =>
                clear hown hB HRD hcell
                obtain ⟨j, hj, rfl, hown, hB, hrd⟩ := hrel
                by_cases hlt : j < L
                · obtain ⟨g, cap, rfl, hg, hcap, hcm, hrow⟩ := Row.of_own hown (by omega)
                  have hRL := rep_len d o j
                  have hc0 := hrow.cell (i := o.length + j - d) (by rw [hRL]; omega)
                  have hownA := fun y : Nat => hown.alloc (Obj.cells #[.int .u8 (y : Int)] 5)
                  have HRS : Hid (rep d o (j + 1) = rep d o j ++ [(rep d o j).getD (o.length + j - d) 0]) := by show _ = _; rw [rep, hRL]
                  clear hrow hRL
                  generalize (rep d o j).getD (o.length + j - d) 0 = y at *
                  have m1 : IntKind.i64.wrap ((o.length : Int) + (j : Int) - (d : Int)) = (o.length : Int) + (j : Int) - (d : Int) := IntWalk.i64_in _ (by omega)
                  have m2 : ((o.length : Int) + (j : Int) - (d : Int)).toNat = o.length + j - d := by omega
                  have m3 : 0 ≤ (o.length : Int) + (j : Int) - (d : Int) := by omega
                  have m4 : (o.length : Int) + (j : Int) - (d : Int) < (o.length : Int) + (j : Int) := by omega
                  go_wp2_with (at_builtin; refine wpL_append _ rfl (.tmp 68) (.tmp 76) _ rfl w.heap.size 5 i0 _ 1 1 Tryz.underlying25 hi0 hz0 hz1 hz2 rfl (by omega) _ (o.length + j) (ints .u8 (rep d o j)) rfl (hown.alloc _) (some ⟨wr.heap.size, 0, none⟩) 1 1 [.int .u8 (y : Int)] rfl rfl (Rd.of_new wr [.int .u8 (y : Int)] 5) (by intro u hu; simp at hu; subst hu; rfl) (by unfold maxLen; omega) (by omega) (by have := hB.size; simp; omega) ?_; intro v1 w1 hown1 hg1 hat1)
                  have HO : Hid (w1.ownsRow w.heap.size 5 1 v1 (o.length + (j + 1)) (ints .u8 (rep d o (j + 1)))) := by
                    show World.ownsRow _ _ _ _ _ _ _
                    rw [HRS.out, ints_append, ← Nat.add_assoc]; exact hown1
                  have hB1 : Below w.heap.size w w1 := below_app (hB.alloc hB.size _) hg1 (by have := hB.size; simp; omega) (hown.alloc _) (Nat.le_refl _)
                  have HR1 : Hid (Rd w1 w.heap.size (some ad) (ints .u8 (x :: t))) := (hrd.alloc hB.size _).grown hg1 (by have := hB.size; simp; omega) fun g hg => ((hownA y).lt g hg).1
                  clear hown hown1 hownA hrd m1 m2 m3 m4 HRS
                  go_wp2
                  go_roundw
                  case rel => exact ⟨j + 1, by omega, by go_num, HO.out, hB1, HR1.out⟩
                  case measure => simp [intOf]; omega
                · obtain rfl : L = j := by omega
                  have hRL := rep_len d o L
                  have HOL : Hid ((rep d o L).length ≤ 1048576) := by show _ ≤ _; rw [hRL]; omega
                  have HBO : Hid (Bytes (rep d o L)) := rep_bytes hbo L
                  have HO : Hid (∀ v, wr.ownsRow w.heap.size 5 1 v (o.length + L) (ints .u8 (rep d o L)) → wr.ownsRow w.heap.size 5 1 v (rep d o L).length (ints .u8 (rep d o L))) := fun v h => by rw [hRL]; exact h
                  have HBT : Hid (Bytes (t.drop 2)) := hbt.drop _
                  have HTD : Hid ((t.drop 2).length = t.length - 2) := List.length_drop
                  clear hRL
                  have e3 : (x :: t).drop 3 = t.drop 2 := rfl
                  by_cases hq : cb = 3
                  · have hr2 := (cut_slice hrd (by rw [hlen]; exact hrc) 3).1 hq
                    rw [e3] at hr2
                    have HB2 := Lib.hid hr2
                    have HOW := Lib.hid (HO.out _ hown)
                    clear hlen hrd hown hr2 e3
                    go_wp2
                    go_roundw
                    case rel => exact ⟨some ad, 0, t.drop 2, _, by rw [HTD.out], by rw [HTD.out]; omega, by rw [HTD.out]; omega, by omega, HBT.out, HB2.out, HOL.out, HBO.out, HOW.out, HU1.out, hB⟩
                    case measure => simp; omega
                  · have hr2 := (cut_slice hrd (by rw [hlen]; exact hrc) 3).2 hq
                    rw [e3] at hr2
                    have HB2 : Hid (Rd wr w.heap.size (some ⟨ad.block, ad.off + 3, none⟩) (ints .u8 (t.drop 2))) := hr2
                    have HOW := Lib.hid (HO.out _ hown)
                    clear hlen hrd hown hr2 e3
                    go_wp2
                    go_roundw
                    case rel => exact ⟨some ⟨ad.block, ad.off + 3, none⟩, cb - 3, t.drop 2, _, by rw [HTD.out], by rw [HTD.out]; omega, by rw [HTD.out]; omega, by omega, HBT.out, HB2.out, HOL.out, HBO.out, HOW.out, HU1.out, hB⟩
                    case measure => simp; omega
end Go.Proofs.YtpkhgdnkkdhlcaaGreatDoor

namespace Go.Proofs.YtpkhgdnkkdhlcaaGreatDoor
open Go.RowKit By

set_option maxRecDepth 100000 in
set_option maxHeartbeats 6400000 in
theorem rundict_any (A : Option Addr) (c : Nat) (l : List Nat) (E : Nat) (R : List Nat) (w : World) (hl : Bytes l) (hc : l.length ≤ c) (hm : l.length ≤ 100000000) {pp : Prop} (_ : pp) (h : Rd w w.heap.size A (ints .u8 l)) (hu : und l [] = (E, R)) :
    Calls Tryz.prog 117 #[.slice A l.length c] w fun e w' => Below w.heap.size w w' ∧ ∃ v, e = .returned (.tuple #[v, .int .i64 (E : Int)]) ∧ IsL w' w'.heap.size .u8 v R := by
  obtain ⟨i0, hi0, hz0, hz1, hz2⟩ := info_parts Tryz.u8c_info
  have HU0 := Lib.hid hu
  clear hu
  go_enter Tryz.func117, Tryz.ntmps117
  go_wp2
  go_loopw [0, 4] (fun x v wr => ∃ (B : Option Addr) (cb : Nat) (r o : List Nat), x = .slice B r.length cb ∧ r.length ≤ cb ∧ r.length ≤ 100000000 ∧ 0 ≤ cb ∧ Bytes r ∧ Rd wr w.heap.size B (ints .u8 r) ∧ o.length ≤ 1048576 ∧ Bytes o ∧ wr.ownsRow w.heap.size 5 1 v o.length (ints .u8 o) ∧ Hid (und r o = (E, R)) ∧ Below w.heap.size w wr)
    (fun x _ _ => (match x with | .slice _ n _ => n | _ => 0))
  case atStart => exact ⟨A, c, l, [], rfl, hc, hm, Nat.zero_le _, hl, h, by decide, bytes_nil, World.ownsRow_nil _ _ _ _, HU0.out, Below.refl _ _⟩
  case round =>
    clear h hl hc hm HU0
    obtain ⟨B, cb, r, o, rfl, hrc, hrm, -, hbr, hrd, ho, hbo, hown, HU, hB⟩ := hrel
    obtain ⟨A', c', rfl, hc'⟩ := own_slice hown
    rcases r with _ | ⟨x, t⟩
    · have HE : Hid (E = 0 ∧ R = o) := by
        have := HU.out
        rw [und_nil] at this
        injection this with e1 e2
        exact ⟨e1.symm, e2.symm⟩
      obtain ⟨rfl, rfl⟩ := HE.out
      have HL := Lib.hid (IsL.of_own hown)
      clear hown HE
      go_wp2
      go_ret2
      exact ⟨hB, _, rfl, HL.out⟩
    · have hx : x < 256 := hbr x (by simp)
      have hbt : Bytes t := fun y hy => hbr y (by simp [hy])
      obtain ⟨ad, rfl, hab, hcell⟩ := hrd.int (j := 0) (by simp)
      rw [addr_zero, List.getD_cons_zero] at hcell
      have hlen : (x :: t).length = t.length + 1 := rfl
      rw [hlen] at hrc hrm ⊢
      have HRD := Lib.hid hrd
      clear hrd hbr
      by_cases hx8 : x < 128
      · by_cases hsh : t.length < x + 1
        · have HE : Hid (E = 5 ∧ R = []) := by
            have := HU.out
            rw [und_lit_short hx8 hsh] at this
            injection this with e1 e2
            exact ⟨e1.symm, e2.symm⟩
          obtain ⟨rfl, rfl⟩ := HE.out
          clear HE hown
          go_wp2
          go_ret2
          exact ⟨hB, _, rfl, IsL.nil _ _ _⟩
        · by_cases hbig : o.length + (x + 1) > 1048576
          · have HE : Hid (E = 4 ∧ R = []) := by
              have := HU.out
              rw [und_lit_long hx8 hsh hbig] at this
              injection this with e1 e2
              exact ⟨e1.symm, e2.symm⟩
            obtain ⟨rfl, rfl⟩ := HE.out
            clear HE
            have hsub2 : Rd wr w.heap.size (some ⟨ad.block, ad.off + 1, none⟩) (ints .u8 (t.take (1 + x))) := HRD.out.sub 1 (1 + x)
            have htl : (t.take (1 + x)).length = 1 + x := by rw [List.length_take]; omega
            have HTL := Lib.hid htl
            clear htl hlen
            go_wp2_with (at_builtin; refine wpL_append _ rfl (.tmp 23) (.tmp 27) _ rfl w.heap.size 5 i0 _ 1 1 Tryz.underlying25 hi0 hz0 hz1 hz2 rfl (by omega) _ o.length (ints .u8 o) rfl hown (some ⟨ad.block, ad.off + 1, none⟩) (x + 2 - 1) (cb - 1) (ints .u8 (t.take (1 + x))) rfl (by rw [ints_length, HTL.out]; omega) hsub2 (ints_one _ _) (by unfold maxLen; omega) (by omega) hB.size ?_; intro v1 w1 hown1 hg1 hat1; obtain ⟨A2, c2, hv2, hc2⟩ := own_slice hown1; obtain ⟨N, hN⟩ : ∃ N, N = o.length + (x + 2 - 1) := ⟨_, rfl⟩; rw [← hN] at hv2 hc2 hown1; subst hv2; have hN3 : 1048576 < N := (by omega); have HN := Lib.hid hN; clear hN; have HG1 := Lib.hid hg1; have HW1 := Lib.hid hown1; clear hat1 hg1 hown1)
            all_goals
              have hB1 : Below w.heap.size w w1 := below_app hB HG1.out hB.size hown (Nat.le_refl _)
              go_ret2
              exact ⟨hB1, _, rfl, IsL.nil _ _ _⟩
          · have HU1 : Hid (und (t.drop (x + 1)) (o ++ t.take (1 + x)) = (E, R)) := by
              have := HU.out
              rw [und_lit hx8 hsh hbig, Nat.add_comm x 1] at this
              rw [Nat.add_comm x 1]; exact this
            have HBO : Hid (Bytes (o ++ t.take (1 + x))) := hbo.app (hbt.take _)
            have HBT : Hid (Bytes (t.drop (x + 1))) := hbt.drop _
            have HTD : Hid ((t.drop (x + 1)).length = t.length + 1 - (x + 2)) := by show _ = _; rw [List.length_drop]; omega
            have HCS := Lib.hid (fun w1 (h : Rd w1 w.heap.size (some ad) (ints .u8 (x :: t))) => cut_slice h (by rw [hlen]; exact hrc) (x + 2))
            have hsub2 : Rd wr w.heap.size (some ⟨ad.block, ad.off + 1, none⟩) (ints .u8 (t.take (1 + x))) := HRD.out.sub 1 (1 + x)
            have htl : (t.take (1 + x)).length = 1 + x := by rw [List.length_take]; omega
            have HTL := Lib.hid htl
            clear htl hlen
            go_wp2_with (at_builtin; refine wpL_append _ rfl (.tmp 23) (.tmp 27) _ rfl w.heap.size 5 i0 _ 1 1 Tryz.underlying25 hi0 hz0 hz1 hz2 rfl (by omega) _ o.length (ints .u8 o) rfl hown (some ⟨ad.block, ad.off + 1, none⟩) (x + 2 - 1) (cb - 1) (ints .u8 (t.take (1 + x))) rfl (by rw [ints_length, HTL.out]; omega) hsub2 (ints_one _ _) (by unfold maxLen; omega) (by omega) hB.size ?_; intro v1 w1 hown1 hg1 hat1; obtain ⟨A2, c2, hv2, hc2⟩ := own_slice hown1; obtain ⟨N, hN⟩ : ∃ N, N = o.length + (x + 2 - 1) := ⟨_, rfl⟩; rw [← hN] at hv2 hc2 hown1; subst hv2; have hN3 : N ≤ 1048576 := (by omega); have HN := Lib.hid hN; clear hN; have HG1 := Lib.hid hg1; have HW1 := Lib.hid hown1; clear hat1 hg1 hown1)
            have hB1 : Below w.heap.size w w1 := below_app hB HG1.out hB.size hown (Nat.le_refl _)
            have hoL : (o ++ t.take (1 + x)).length = N := by rw [List.length_append, HTL.out, HN.out]; omega
            have HRD1 : Rd w1 w.heap.size (some ad) (ints .u8 (x :: t)) := HRD.out.grown HG1.out hB.size fun g hg => (hown.lt g hg).1
            have HB2 : Hid (Rd w1 w.heap.size (if cb = x + 2 then some ad else some (ad.add (x + 2))) (ints .u8 (t.drop (x + 1)))) := by
              show Rd _ _ _ _
              split
              · exact (HCS.out w1 HRD1).1 (by assumption)
              · exact (HCS.out w1 HRD1).2 (by assumption)
            have HO : Hid (w1.ownsRow w.heap.size 5 1 (.slice A2 N c2) (o ++ t.take (1 + x)).length (ints .u8 (o ++ t.take (1 + x)))) := by
              show World.ownsRow _ _ _ _ _ _ _
              rw [hoL, ints_append]; exact HW1.out
            have HOLL : Hid ((o ++ t.take (1 + x)).length ≤ 1048576) := by show _ ≤ _; rw [hoL]; omega
            clear hown hsub2 hoL HRD1
            go_roundw
            case rel => exact ⟨_, cb - (x + 2), t.drop (x + 1), _, by rw [HTD.out], by rw [HTD.out]; omega, by rw [HTD.out]; omega, by omega, HBT.out, HB2.out, HOLL.out, HBO.out, HO.out, HU1.out, hB1⟩
            case measure => simp; omega
      · by_cases hsh : t.length < 2
        · have HE : Hid (E = 5 ∧ R = []) := by
            have := HU.out
            rw [und_rep_short hx8 hsh] at this
            injection this with e1 e2
            exact ⟨e1.symm, e2.symm⟩
          obtain ⟨rfl, rfl⟩ := HE.out
          clear HE hown
          go_wp2
          go_ret2
          exact ⟨hB, _, rfl, IsL.nil _ _ _⟩
        · obtain ⟨ad1, ha1, _, hcell1⟩ := HRD.out.int (j := 1) (by simp; omega)
          obtain ⟨ad2, ha2, _, hcell2⟩ := HRD.out.int (j := 2) (by simp; omega)
          injection ha1 with ha1
          injection ha2 with ha2
          subst ha1 ha2
          have ex1 : (x :: t).getD 1 0 = t.getD 0 0 := rfl
          have ex2 : (x :: t).getD 2 0 = t.getD 1 0 := rfl
          rw [ex1, show ad.add 1 = ⟨ad.block, ad.off + 1, none⟩ from rfl] at hcell1
          rw [ex2, show ad.add 2 = ⟨ad.block, ad.off + 2, none⟩ from rfl] at hcell2
          clear ex1 ex2
          have hd0 := hbt.at_ 0
          have hd1 := hbt.at_ 1
          obtain ⟨d, hd⟩ : ∃ d, d = t.getD 0 0 * 256 + t.getD 1 0 := ⟨_, rfl⟩
          have hdlt : d < 65536 := by omega
          have hor : bits .or .i64 (((t.getD 0 0 : Nat) : Int) * 256) ((t.getD 1 0 : Nat) : Int) = (d : Int) := by rw [hd]; exact or_i64 (by omega) hd1
          have HD := Lib.hid hd
          clear hd
          generalize t.getD 0 0 = p0 at hcell1 hd0 hor
          generalize t.getD 1 0 = p1 at hcell2 hd1 hor
          have hL : (x : Int) - 128 + 4 = ((x - 124 : Nat) : Int) := by omega
          obtain ⟨L, hLx⟩ : ∃ L, L = x - 124 := ⟨_, rfl⟩
          rw [← hLx] at hL
          have hL1 : L ≤ 131 := by omega
          have HLX := Lib.hid hLx
          clear hLx
          go_wp2
          go_quiet (fail)
          have hownq : (wr.drewN nq).ownsRow w.heap.size 5 1 (.slice A' o.length c') o.length (ints .u8 o) := hown
          have hBq := below_drewN hB nq
          have HR1 := Lib.hid (HRD.out.drewN nq)
          clear hown hB hcell HRD hcell1 hcell2 hor hd0 hd1
          generalize wr.drewN nq = wq at *
          by_cases hfar : d = 0 ∨ d > o.length
          · have HE : Hid (E = 5 ∧ R = []) := by
              have := HU.out
              rw [und_rep_far hx8 hsh (by rw [← HD.out]; exact hfar)] at this
              injection this with e1 e2
              exact ⟨e1.symm, e2.symm⟩
            obtain ⟨rfl, rfl⟩ := HE.out
            clear HE hownq hL
            rcases Nat.eq_zero_or_pos d with hd0 | hd0
            · have hd1 : (d : Int) = 0 := by omega
              clear hfar
              go_wp2
              go_ret2
              exact ⟨hBq, _, rfl, IsL.nil _ _ _⟩
            · have hd1 : o.length < d := by omega
              clear hfar
              go_wp2
              go_ret2
              exact ⟨hBq, _, rfl, IsL.nil _ _ _⟩
          · have hd0 : 0 < d := by omega
            have hd1 : d ≤ o.length := by omega
            have hdn : decide (o.length < d) = false := by rw [decide_eq_false_iff_not]; omega
            have hdz : ((d : Int) == 0) = false := by rw [beq_eq_false_iff_ne]; omega
            have HUC : Hid ((1048576 < o.length + L → E = 4 ∧ R = []) ∧ (¬ 1048576 < o.length + L → und (t.drop 2) (rep d o L) = (E, R))) := by
              have hU := HU.out
              constructor
              · intro hbig
                rw [und_rep_long hx8 hsh (by rw [← HD.out]; exact hfar) (by rw [← HLX.out]; exact hbig)] at hU
                injection hU with e1 e2
                exact ⟨e1.symm, e2.symm⟩
              · intro hbig
                rw [und_rep hx8 hsh (by rw [← HD.out]; exact hfar) (by rw [← HLX.out]; exact hbig), ← HD.out, ← HLX.out] at hU
                exact hU
            clear hfar
            go_wp2
            go_loopw [4, 7] (fun v i wr => ∃ j : Nat, j ≤ L ∧ i = .int .i64 j ∧ wr.ownsRow w.heap.size 5 1 v (o.length + j) (ints .u8 (rep d o j)) ∧ Below w.heap.size w wr ∧ Rd wr w.heap.size (some ad) (ints .u8 (x :: t))) (fun _ i _ => L - (intOf i).toNat)
            case atStart => exact ⟨0, Nat.zero_le _, rfl, hownq, hBq, HR1.out⟩
            case round =>
              clear hownq hBq HR1
              obtain ⟨j, hj, rfl, hown, hB, hrd⟩ := hrel
              by_cases hlt : j < L
              · obtain ⟨g, cap, rfl, hg, hcap, hcm, hrow⟩ := Row.of_own hown (by omega)
                have hRL := rep_len d o j
                have hc0 := hrow.cell (i := o.length + j - d) (by rw [hRL]; omega)
                have hownA := fun y : Nat => hown.alloc (Obj.cells #[.int .u8 (y : Int)] 5)
                have HRS : Hid (rep d o (j + 1) = rep d o j ++ [(rep d o j).getD (o.length + j - d) 0]) := by show _ = _; rw [rep, hRL]
                clear hrow hRL
                generalize (rep d o j).getD (o.length + j - d) 0 = y at *
                have m1 : IntKind.i64.wrap ((o.length : Int) + (j : Int) - (d : Int)) = (o.length : Int) + (j : Int) - (d : Int) := IntWalk.i64_in _ (by omega)
                have m2 : ((o.length : Int) + (j : Int) - (d : Int)).toNat = o.length + j - d := by omega
                have m3 : 0 ≤ (o.length : Int) + (j : Int) - (d : Int) := by omega
                have m4 : (o.length : Int) + (j : Int) - (d : Int) < (o.length : Int) + (j : Int) := by omega
                go_wp2_with (at_builtin; refine wpL_append _ rfl (.tmp 68) (.tmp 70) _ rfl w.heap.size 5 i0 _ 1 1 Tryz.underlying25 hi0 hz0 hz1 hz2 rfl (by omega) _ (o.length + j) (ints .u8 (rep d o j)) rfl (hown.alloc _) (some ⟨wr.heap.size, 0, none⟩) 1 1 [.int .u8 (y : Int)] rfl rfl (Rd.of_new wr [.int .u8 (y : Int)] 5) (by intro u hu; simp at hu; subst hu; rfl) (by unfold maxLen; omega) (by omega) (by have := hB.size; simp; omega) ?_; intro v1 w1 hown1 hg1 hat1)
                have HO : Hid (w1.ownsRow w.heap.size 5 1 v1 (o.length + (j + 1)) (ints .u8 (rep d o (j + 1)))) := by
                  show World.ownsRow _ _ _ _ _ _ _
                  rw [HRS.out, ints_append, ← Nat.add_assoc]; exact hown1
                have hB1 : Below w.heap.size w w1 := below_app (hB.alloc hB.size _) hg1 (by have := hB.size; simp; omega) (hown.alloc _) (Nat.le_refl _)
                have HR1 : Hid (Rd w1 w.heap.size (some ad) (ints .u8 (x :: t))) := (hrd.alloc hB.size _).grown hg1 (by have := hB.size; simp; omega) fun g hg => ((hownA y).lt g hg).1
                clear hown hown1 hownA hrd m1 m2 m3 m4 HRS
                go_wp2
                go_roundw
                case rel => exact ⟨j + 1, by omega, by go_num, HO.out, hB1, HR1.out⟩
                case measure => simp [intOf]; omega
              · obtain rfl : L = j := by omega
                have hRL := rep_len d o L
                have HBO : Hid (Bytes (rep d o L)) := rep_bytes hbo L
                have HBT : Hid (Bytes (t.drop 2)) := hbt.drop _
                have HTD : Hid ((t.drop 2).length = t.length - 2) := List.length_drop
                have HCS := Lib.hid (cut_slice hrd (by rw [hlen]; exact hrc) 3)
                obtain ⟨A2, c2, rfl, hc2⟩ := own_slice hown
                have HOW := Lib.hid hown
                have HRL := Lib.hid hRL
                have hlim : o.length + L ≤ 2000000 := by omega
                obtain ⟨N, hN⟩ : ∃ N, N = o.length + L := ⟨_, rfl⟩
                rw [← hN] at HOW HRL HUC hc2 hlim ⊢
                clear hN hrd hown hlen hRL
                by_cases hbig : 1048576 < N
                · obtain ⟨rfl, rfl⟩ := HUC.out.1 hbig
                  clear HUC HU
                  go_wp2
                  all_goals
                    go_ret2
                    exact ⟨hB, _, rfl, IsL.nil _ _ _⟩
                · have HU1 := Lib.hid (HUC.out.2 hbig)
                  have HOL : Hid ((rep d o L).length ≤ 1048576) := by show _ ≤ _; rw [HRL.out]; omega
                  clear HUC
                  go_wp2
                  go_roundw
                  case rel =>
                    refine ⟨if cb = 3 then some ad else some ⟨ad.block, ad.off + 3, none⟩, cb - 3, t.drop 2, _, by rw [HTD.out], by rw [HTD.out]; omega, by rw [HTD.out]; omega, by omega, HBT.out, ?_, HOL.out, HBO.out, by rw [HRL.out]; exact HOW.out, HU1.out, hB⟩
                    have h1 := HCS.out
                    split
                    · exact h1.1 (by assumption)
                    · exact h1.2 (by assumption)
                  case measure => simp; omega
end Go.Proofs.YtpkhgdnkkdhlcaaGreatDoor
