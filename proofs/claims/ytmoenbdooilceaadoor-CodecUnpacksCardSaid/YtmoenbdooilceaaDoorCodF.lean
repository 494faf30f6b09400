/-
  Walks: the reference of package codec: differences and sums.
-/
import Derived.Test.YtmoenbdooilceaaDoorCodE
namespace Go.Proofs.YtmoenbdooilceaaDoor
open Go.RowKit By

set_option maxHeartbeats 400000 in
theorem asked_any (A : Option Addr) (m c : Nat) (n : Int) (w : World) (hm : m ≤ 4000000000000) :
    Calls Tryd.prog 37 #[.slice A m c, .int .i64 n] w fun e w' => w = w' ∧ e = .returned (.int .i64 (grE n m)) := by
  rcases Classical.em (n < 1) with h1 | h1
  · have e : grE n m = 2 := if_pos (.inl h1)
    rw [e]; clear e
    go_enter Tryd.func37, Tryd.ntmps37
    go_wp2
    go_ret
    exact ⟨rfl, rfl⟩
  · rcases Classical.em (8 < n) with h2 | h2
    · have e : grE n m = 2 := if_pos (.inr h2)
      rw [e]; clear e
      go_enter Tryd.func37, Tryd.ntmps37
      go_wp2
      go_ret
      exact ⟨rfl, rfl⟩
    · rcases Classical.em (1048576 < m) with h3 | h3
      · have e : grE n m = 4 := by unfold grE; rw [if_neg (by omega), if_pos h3]
        rw [e]; clear e
        go_enter Tryd.func37, Tryd.ntmps37
        go_wp2
        go_ret
        exact ⟨rfl, rfl⟩
      · have e : grE n m = 0 := by unfold grE; rw [if_neg (by omega), if_neg h3]
        rw [e]; clear e
        go_enter Tryd.func37, Tryd.ntmps37
        go_wp2
        go_ret
        exact ⟨rfl, rfl⟩

/-- The world under one name. -/
theorem wp_named {P : Program} {c : Code} {Q : Exit → Act → World → Prop} {a : Act} {w : World} (F : World → Prop) (hF : F w) (h : ∀ W, F W → c.wp P Q a W) : c.wp P Q a w := h w hF

/-- Some numbers are known. -/
def Upto (zs : List Nat) (j : Nat) (f : Nat → Nat) : Prop := ∀ t, t < j → zs.getD t 0 = f t
theorem Upto.zero (zs : List Nat) (f : Nat → Nat) : Upto zs 0 f := fun t h => by omega
theorem Upto.succ {zs : List Nat} {j : Nat} {f : Nat → Nat} (h : Upto zs j f) (hj : j < zs.length) : Upto (zs.set j (f j)) (j + 1) f := fun t ht => by
  rcases Nat.lt_or_ge t j with h1 | h1
  · rw [List.getD_eq_getElem?_getD, List.getElem?_set_ne (by omega), ← List.getD_eq_getElem?_getD, h t h1]
  · obtain rfl : t = j := by omega
    rw [List.getD_eq_getElem?_getD, List.getElem?_set_self hj]; rfl
theorem Upto.keep {zs : List Nat} {j x : Nat} {f : Nat → Nat} (h : Upto zs j f) : Upto (zs.set j x) j f := fun t ht => by
  rw [List.getD_eq_getElem?_getD, List.getElem?_set_ne (by omega), ← List.getD_eq_getElem?_getD, h t ht]
theorem G_lt64 {l : List Nat} (hl : Bytes l) {n : Nat} (h8 : n ≤ 8) (j : Nat) : G l n j < 2 ^ 64 := gv_lt64 (by rw [List.length_take]; omega) ((hl.drop _).take _)
theorem dl_lt {f : Nat → Nat} (h : f 0 < 2 ^ 64) : ∀ j, dl f j < 2 ^ 64
  | 0 => h
  | _ + 1 => Nat.mod_lt _ (by decide)
theorem jl_upto {zs : List Nat} {f : Nat → Nat} (n : Nat) (h : Upto zs zs.length f) : jl zs n = jn f n zs.length := jn_congr fun j hj => by rw [h j hj]

set_option maxRecDepth 100000 in
set_option maxHeartbeats 1600000 in
theorem rdelta_any (A : Option Addr) (c n : Nat) (l : List Nat) (w : World) (h1 : 1 ≤ n) (h8 : n ≤ 8) (hl : Bytes l) (hc : l.length ≤ c) (hm : l.length ≤ 1048576) (h : Rd w w.heap.size A (ints .u8 l)) :
    Calls Tryd.prog 17 #[.slice A l.length c, .int .i64 n] w fun e w' => Below w.heap.size w w' ∧ ∃ v, e = .returned (.tuple #[v, .int .i64 0]) ∧ IsL w' w'.heap.size .u8 v (deltaB l n) := by
  have hg : grE n l.length = 0 := by unfold grE; rw [if_neg (by omega), if_neg (by omega)]
  obtain ⟨i0, hi0, hz0, hz1, hz2⟩ := info_parts Tryd.u64_info
  have hkn : l.length / n ≤ l.length := Nat.div_le_self _ _
  go_enter Tryd.func17, Tryd.ntmps17
  go_wp2_with fail
  refine (asked_any _ _ _ _ _ (by omega)).mono ?_
  rintro e w1 ⟨rfl, rfl⟩
  rw [hg]
  clear hg
  go_wp2_with fail
  refine (rgroups_any A c n l w h1 h8 hl hc hm h).mono ?_
  rintro e w1 ⟨hb1, v, u, rfl, hv, hu⟩
  obtain ⟨A', c', rfl, hc', hv'⟩ := IsL.of_own hv
  obtain ⟨A2, c2, rfl, hc2, hu'⟩ := hu
  clear hv
  have HR : Hid ((rest l n).length ≤ l.length) := by show _ ≤ _; unfold rest; simp
  rw [gl_len] at hc' ⊢
  have HK : Hid (jn (dl (G l n)) n (l.length / n) ++ rest l n = deltaB l n) := rfl
  generalize rest l n = r at *
  generalize l.length / n = k at *
  have hmk := make_ints (P := Tryd.prog) 45 40 i0 .u64 Tryd.underlying45 hi0 hz0 hz1 (by omega) .i64 .i64 k (k : Int) rfl (by omega)
  go_wp2
  go_loopw [10] (fun i wr => ∃ (j : Nat) (zs : List Nat), j ≤ k ∧ zs.length = k ∧ Hid (Upto zs j (dl (G l n))) ∧ i = .int .i64 j ∧ Row wr w1.heap.size 40 .u64 zs ∧ Below w1.heap.size w1 wr) (fun i _ => k - (intOf i).toNat)
  case atStart => exact ⟨0, List.replicate k 0, Nat.zero_le _, by simp, Upto.zero _ _, rfl, Row.of_bk (Bk.new _ _ _), (Below.refl _ _).alloc (Nat.le_refl _) _⟩
  case round =>
    clear hmk
    obtain ⟨j, zs, hj, hz, HU, rfl, hrow, hB⟩ := hrel
    by_cases hlt : j < k
    · obtain ⟨ad, rfl, hab, hcell⟩ := (hv'.below hB).int (j := j) (by rw [gl_len]; exact hlt)
      have e1 := gl_at l n hlt
      rw [e1] at hcell
      have hc0 := hrow.cell (i := j) (by omega)
      have hf0 := hrow.frozen j
      clear e1
      by_cases hj0 : 0 < j
      · have hj1 : j - 1 < k := by omega
        have HR0 : Hid (Row (wr.setCell ⟨w1.heap.size, j, none⟩ (.int .u64 ((G l n j : Nat) : Int))) w1.heap.size 40 .u64 (zs.set j (G l n j)) ∧ Below w1.heap.size w1 (wr.setCell ⟨w1.heap.size, j, none⟩ (.int .u64 ((G l n j : Nat) : Int)))) :=
          ⟨hrow.put (by omega) _, hB.setCell (by exact Nat.le_refl _) _⟩
        go_wp2
        refine wp_named (fun W => Row W w1.heap.size 40 .u64 (zs.set j (G l n j)) ∧ Below w1.heap.size w1 W) HR0.out ?_
        rintro W ⟨hrow2, hB2⟩
        clear hrow hB hcell hc0 hf0 HR0
        have hz2 : (zs.set j (G l n j)).length = k := by rw [List.length_set]; exact hz
        have HU2 : Hid (Upto (zs.set j (G l n j)) j (dl (G l n))) := HU.out.keep
        generalize zs.set j (G l n j) = ys at *
        obtain ⟨ad1, ha1, _, hcell1⟩ := (hv'.below hB2).int (j := j) (by rw [gl_len]; exact hlt)
        obtain ⟨ad2, ha2, _, hcell2⟩ := (hv'.below hB2).int (j := j - 1) (by rw [gl_len]; exact hj1)
        rw [gl_at l n hlt] at hcell1
        rw [gl_at l n hj1] at hcell2
        injection ha1 with ha1
        injection ha2 with ha2
        subst ha1 ha2
        have hc0 := hrow2.cell (i := j) (by omega)
        have hf0 := hrow2.frozen j
        have x1 : IntKind.i64.wrap ((j : Int) - 1) = (j : Int) - 1 := IntWalk.i64_in _ (by omega)
        have x2 : ((j : Int) - 1).toNat = j - 1 := by omega
        have x3 : 0 ≤ (j : Int) - 1 := by omega
        have x4 : (j : Int) - 1 < k := by omega
        have x5 : (1 : Int) ≤ j := by omega
        go_still_tail 13, (by kernel_rfl)
        clear x1 x2 x3 x4 x5 hcell1 hcell2
        have HX : Hid (Value.int .u64 (IntKind.u64.wrap (((G l n j : Nat) : Int) - ((G l n (j - 1) : Nat) : Int))) = .int .u64 ((dl (G l n) j : Nat) : Int)) := by
          show _ = _
          obtain ⟨t, rfl⟩ : ∃ t, j = t + 1 := ⟨j - 1, by omega⟩
          rw [sub_u64]; rfl
        have HR2 : Hid (∀ x : Nat, Row (W.drew.setCell ⟨w1.heap.size, j, none⟩ (.int .u64 (x : Int))) w1.heap.size 40 .u64 (ys.set j x)) := fun x => hrow2.drew.put (by omega) x
        have HU3 := Lib.hid (HU2.out.succ (show j < ys.length by omega))
        go_wp2
        go_roundw
        case rel =>
          refine ⟨j + 1, ys.set j (dl (G l n) j), by omega, by rw [List.length_set]; exact hz2, HU3.out, by go_num, ?_, ?_⟩
          · rw [HX.out]; exact HR2.out _
          · exact hB2.drew.setCell (by exact Nat.le_refl _) _
        case measure => simp [intOf]; omega
      · have HR2 : Hid (∀ x : Nat, Row (wr.setCell ⟨w1.heap.size, j, none⟩ (.int .u64 (x : Int))) w1.heap.size 40 .u64 (zs.set j x)) := fun x => hrow.put (by omega) x
        have HU3 := Lib.hid (HU.out.succ (show j < zs.length by omega))
        have HX : Hid (G l n j = dl (G l n) j) := by
          obtain rfl : j = 0 := by omega
          rfl
        go_wp2
        go_roundw
        case rel =>
          refine ⟨j + 1, zs.set j (dl (G l n) j), by omega, by rw [List.length_set]; exact hz, HU3.out, by go_num, ?_, ?_⟩
          · rw [HX.out]; exact HR2.out _
          · exact hB.setCell (by exact Nat.le_refl _) _
        case measure => simp [intOf]; omega
    · obtain rfl : j = k := by omega
      have HJ : Hid (jl zs n ++ r = deltaB l n) := by
        show _ = _
        rw [← HK.out, jl_upto n (f := dl (G l n)) (by rw [hz]; exact HU.out), hz]
      have HB0 := Lib.hid (hb1.trans (hB.mono hb1.size))
      have HL : Hid (∀ t, zs.getD t 0 < 2 ^ 64) := fun t => by
        rcases Nat.lt_or_ge t j with ht | ht
        · rw [HU.out t ht]; exact dl_lt (G_lt64 hl h8 0) t
        · rw [List.getD_eq_getElem?_getD, List.getElem?_eq_none (by omega)]; decide
      have hrl : r.length ≤ 1048576 := Nat.le_trans HR.out hm
      subst hz
      go_wp2_with fail
      refine (rjoined_any _ A2 _ c2 n zs r _ h1 h8 HL.out (by omega) hrl hrow.all ((hu'.below hB).more hB.size)).mono ?_
      rintro e w2 ⟨hb2, v, rfl, hv2⟩
      rw [HJ.out] at hv2
      have HV := Lib.hid hv2
      have hB2 := HB0.out.trans (hb2.mono HB0.out.size)
      clear hv2
      go_wp2
      go_ret2
      exact ⟨hB2, _, rfl, HV.out⟩

/-- The sum in front of a number. -/
def sm0 (f : Nat → Nat) : Nat → Nat
  | 0 => 0
  | j + 1 => sm f j
theorem sm0_next (f : Nat → Nat) : ∀ j, (sm0 f j + f j) % 2 ^ 64 = sm f j
  | 0 => by show (0 + f 0) % 2 ^ 64 = f 0 % 2 ^ 64; rw [Nat.zero_add]
  | _ + 1 => rfl

set_option maxRecDepth 100000 in
set_option maxHeartbeats 1600000 in
theorem rundelta_any (A : Option Addr) (c n : Nat) (l : List Nat) (w : World) (h1 : 1 ≤ n) (h8 : n ≤ 8) (hl : Bytes l) (hc : l.length ≤ c) (hm : l.length ≤ 1048576) (h : Rd w w.heap.size A (ints .u8 l)) :
    Calls Tryd.prog 19 #[.slice A l.length c, .int .i64 n] w fun e w' => Below w.heap.size w w' ∧ ∃ v, e = .returned (.tuple #[v, .int .i64 0]) ∧ IsL w' w'.heap.size .u8 v (undeltaB l n) := by
  have hg : grE n l.length = 0 := by unfold grE; rw [if_neg (by omega), if_neg (by omega)]
  obtain ⟨i0, hi0, hz0, hz1, hz2⟩ := info_parts Tryd.u64_info
  have hkn : l.length / n ≤ l.length := Nat.div_le_self _ _
  go_enter Tryd.func19, Tryd.ntmps19
  go_wp2_with fail
  refine (asked_any _ _ _ _ _ (by omega)).mono ?_
  rintro e w1 ⟨rfl, rfl⟩
  rw [hg]
  clear hg
  go_wp2_with fail
  refine (rgroups_any A c n l w h1 h8 hl hc hm h).mono ?_
  rintro e w1 ⟨hb1, v, u, rfl, hv, hu⟩
  obtain ⟨A', c', rfl, hc', hv'⟩ := IsL.of_own hv
  obtain ⟨A2, c2, rfl, hc2, hu'⟩ := hu
  clear hv
  have HR : Hid ((rest l n).length ≤ l.length) := by show _ ≤ _; unfold rest; simp
  rw [gl_len] at hc' ⊢
  have HK : Hid (jn (sm (G l n)) n (l.length / n) ++ rest l n = undeltaB l n) := rfl
  generalize rest l n = r at *
  generalize l.length / n = k at *
  have hmk := make_ints (P := Tryd.prog) 45 40 i0 .u64 Tryd.underlying45 hi0 hz0 hz1 (by omega) .i64 .i64 k (k : Int) rfl (by omega)
  go_wp2
  go_loopw [10, 11] (fun x i wr => ∃ (j : Nat) (zs : List Nat), j ≤ k ∧ zs.length = k ∧ Hid (Upto zs j (sm (G l n))) ∧ i = .int .i64 j ∧ x = .int .u64 ((sm0 (G l n) j : Nat) : Int) ∧ Row wr w1.heap.size 40 .u64 zs ∧ Below w1.heap.size w1 wr) (fun _ i _ => k - (intOf i).toNat)
  case atStart => exact ⟨0, List.replicate k 0, Nat.zero_le _, by simp, Upto.zero _ _, rfl, rfl, Row.of_bk (Bk.new _ _ _), (Below.refl _ _).alloc (Nat.le_refl _) _⟩
  case round =>
    clear hmk
    obtain ⟨j, zs, hj, hz, HU, rfl, rfl, hrow, hB⟩ := hrel
    by_cases hlt : j < k
    · obtain ⟨ad, rfl, hab, hcell⟩ := (hv'.below hB).int (j := j) (by rw [gl_len]; exact hlt)
      rw [gl_at l n hlt] at hcell
      have hc0 := hrow.cell (i := j) (by omega)
      have hf0 := hrow.frozen j
      have HX : Hid (Value.int .u64 (IntKind.u64.wrap (((sm0 (G l n) j : Nat) : Int) + ((G l n j : Nat) : Int))) = .int .u64 ((sm (G l n) j : Nat) : Int)) := by
        show _ = _
        rw [add_u64, sm0_next]
      have HR2 : Hid (∀ x : Nat, Row (wr.setCell ⟨w1.heap.size, j, none⟩ (.int .u64 (x : Int))) w1.heap.size 40 .u64 (zs.set j x)) := fun x => hrow.put (by omega) x
      have HU3 := Lib.hid (HU.out.succ (show j < zs.length by omega))
      have HS : Hid (sm0 (G l n) (j + 1) = sm (G l n) j) := rfl
      generalize sm0 (G l n) j = S at *
      generalize G l n j = X at *
      go_wp2
      go_roundw
      case rel =>
        refine ⟨j + 1, zs.set j (sm (G l n) j), by omega, by rw [List.length_set]; exact hz, HU3.out, by go_num, ?_, ?_, ?_⟩
        · rw [HS.out]; exact HX.out
        · rw [HX.out]; exact HR2.out _
        · exact hB.setCell (by exact Nat.le_refl _) _
      case measure => simp [intOf]; omega
    · obtain rfl : j = k := by omega
      have HJ : Hid (jl zs n ++ r = undeltaB l n) := by
        show _ = _
        rw [← HK.out, jl_upto n (f := sm (G l n)) (by rw [hz]; exact HU.out), hz]
      have HB0 := Lib.hid (hb1.trans (hB.mono hb1.size))
      have HL : Hid (∀ t, zs.getD t 0 < 2 ^ 64) := fun t => by
        rcases Nat.lt_or_ge t j with ht | ht
        · rw [HU.out t ht]; exact sm_lt _ t
        · rw [List.getD_eq_getElem?_getD, List.getElem?_eq_none (by omega)]; decide
      have hrl : r.length ≤ 1048576 := Nat.le_trans HR.out hm
      subst hz
      go_wp2_with fail
      refine (rjoined_any _ A2 _ c2 n zs r _ h1 h8 HL.out (by omega) hrl hrow.all ((hu'.below hB).more hB.size)).mono ?_
      rintro e w2 ⟨hb2, v, rfl, hv2⟩
      rw [HJ.out] at hv2
      have HV := Lib.hid hv2
      have hB2 := HB0.out.trans (hb2.mono HB0.out.size)
      clear hv2
      go_wp2
      go_ret2
      exact ⟨hB2, _, rfl, HV.out⟩
end Go.Proofs.YtmoenbdooilceaaDoor
