/-
  Walks: the texts of the reference's natural numbers: NatText.
  Walks: the reference's texts of numbers: digits, NatRead, Text.
-/
import Derived.Test.YtpkhgdnkkdhlcaaGreatDoorQnX
import Derived.Test.YtpkhgdnkkdhlcaaGreatDoorFracU
import Derived.Laws.IdiomStrings
import Derived.Test.YtpkhgdnkkdhlcaaGreatDoorQqU
namespace Go.Proofs.YtpkhgdnkkdhlcaaGreatDoor
open Go.RowKit Ar

/-- Bytes as cells. -/
def by8 (l : List UInt8) : List Value := ints .u8 (l.map UInt8.toNat)
theorem by8_len (l : List UInt8) : (by8 l).length = l.length := by unfold by8; rw [ints_length, List.length_map]
theorem by8_app (l m : List UInt8) : by8 (l ++ m) = by8 l ++ by8 m := by unfold by8; rw [List.map_append, ints_append]
theorem by8_one (l : List UInt8) : ∀ u ∈ by8 l, u.oneCell' = true := ints_one _ _
theorem by8_get {l : List UInt8} {j : Nat} (h : j < l.length) : (by8 l)[j]? = some (.int .u8 ((l[j].toNat : Nat) : Int)) := by
  unfold by8 ints
  rw [List.getElem?_map, List.getElem?_map, List.getElem?_eq_getElem h]; rfl
theorem by8_digit {d : Nat} (h : d < 10) : by8 [Ar.digit d] = [.int .u8 (48 + (d : Int))] := by
  unfold by8 ints
  simp only [List.map_cons, List.map_nil, digit_toNat h]
  simp
theorem Tryz.u8_info : (Tryz.prog.info? 5).map (fun i => (i.zero, i.size, i.bytes)) = some (some (.int .u8 0), 1, 1) := by kernel_rfl
/-- 'make' of bytes, none yet. -/
theorem make0_u8 (n : Nat) (x : Int) (hx : x = (n : Int)) (hn : n ≤ 40000000000000) (w : World) :
    (Instr.makeSlice 25 (.int .i64 0) (.int .i64 x)).run Tryz.prog w = .ok (.slice (some ⟨w.heap.size, 0, none⟩) 0 n) (w.alloc (.cells (ints .u8 (List.replicate n 0)).toArray 5)) := by
  obtain ⟨i0, hi0, hz0, hz1, hz2⟩ := info_parts Tryz.u8_info
  subst hx
  have h1 : (i0.bytes : Int) * (n : Int) ≤ 281474976710656 := by rw [hz2]; omega
  have hr := run_make (P := Tryz.prog) w _ _ i0 (.int .u8 0) Tryz.underlying25 hi0 hz0 .i64 .i64 0 n (by omega) (by omega) h1 (by omega)
  rw [hr, hz1]
  have e1 : madeCells (Value.cells (.int .u8 0)) ((n : Int).toNat * 1) = (ints .u8 (List.replicate n 0)).toArray := by
    apply Array.ext'
    have : Value.cells (.int .u8 0) = #[.int .u8 0] := rfl
    rw [this, toList_madeCells_one]
    simp [ints]
  rw [e1]
  simp
theorem own_made8 (w : World) (n : Nat) (hn : n ≤ 40000000000000) : (w.alloc (.cells (ints .u8 (List.replicate n 0)).toArray 5)).ownsRow w.heap.size 5 1 (.slice (some ⟨w.heap.size, 0, none⟩) 0 n) 0 [] :=
  World.ownsRow_made _ _ _ (Nat.le_refl _) (by unfold maxLen; omega) (by simp [ints_length])
theorem div_ten (x k : Nat) : x / 10 ^ k / 10 = x / 10 ^ (k + 1) := by rw [Nat.div_div_eq_div_mul, ← Nat.pow_succ]

set_option maxRecDepth 100000 in
set_option maxHeartbeats 6400000 in
theorem ntext_any (n : Nat) (v : Value) (w : World) (h : IsN w w.heap.size .u64 v n) (hl : (limbs n).length ≤ 1000000000000) :
    Calls Tryz.prog 153 #[v] w fun e w' => Below w.heap.size w w' ∧ e = .returned (.string ⟨(Lib.decDigits n).toArray⟩) := by
  obtain ⟨A, c, rfl, h1, h3⟩ := h
  rcases Nat.eq_zero_or_pos n with rfl | hn0
  · have e0 : Lib.decDigits 0 = [48] := by rw [decDigits_small (by omega)]; rfl
    rw [e0, limbs_zero]
    clear h1 h3 e0 hl
    go_enter Tryz.func153, Tryz.ntmps153
    go_wp2
    go_ret
    exact ⟨Below.refl _ _, rfl⟩
  obtain ⟨m, xt, hm, hxt⟩ := limbs_top hn0
  have hsm := Small.limbs n
  have hv := val_limbs n
  have HTL : Hid (Lib.decDigits n = Lib.decDigits xt ++ tail9 m) := by
    show _ = _
    rw [hm] at hsm hv
    rw [← hv]
    exact text_limbs hsm hxt
  have hne := decDigits_ne n
  generalize hD : Lib.decDigits n = D at *
  have HD := Lib.hid hD
  clear hD hv
  have hDl : 0 < D.length := List.length_pos_iff.2 hne
  generalize hgl : limbs n = l at *
  have HM := Lib.hid hm
  have hlen : l.length = m.length + 1 := by rw [hm]; simp
  have HLEN := Lib.hid hlen
  have hlpos : 0 < l.length := by omega
  clear hm hgl hne hlen
  obtain ⟨i0, hi0, hz0, hz1, hz2⟩ := info_parts Tryz.u8_info
  have hmk := make0_u8 (9 * l.length) (9 * (l.length : Int)) (by omega) (by omega)
  have hz : ((l.length : Int) == 0) = false := by rw [beq_eq_false_iff_ne]; omega
  go_enter Tryz.func153, Tryz.ntmps153
  go_wp2_with fail
  clear hmk
  go_loopw [3, 18] (fun bv i wr => ∃ (j : Nat) (bs : List UInt8), j ≤ l.length ∧ i = .int .i64 j ∧ bs.length ≤ 9 * j ∧ Hid ((j < l.length → bs = (tail9 (l.take j)).reverse) ∧ (j = l.length → bs = D.reverse)) ∧
      wr.ownsRow w.heap.size 5 1 bv bs.length (by8 bs) ∧ Below w.heap.size w wr) (fun _ i _ => l.length - (intOf i).toNat)
  case atStart => exact ⟨0, [], Nat.zero_le _, rfl, by simp, ⟨fun _ => by simp [tail9], fun h => by omega⟩, own_made8 w _ (by omega), (Below.refl _ _).alloc (Nat.le_refl _) _⟩
  case round =>
    obtain ⟨j, bs, hj, rfl, hbl, HB, hown, hbel⟩ := hrel
    rcases Nat.lt_or_ge j l.length with hlt | hge
    · obtain ⟨ad, rfl, hb, hcell⟩ := (h3.below hbel).int (j := j) hlt
      have hx : l.getD j 0 < 1000000000 := hsm.getD j
      have HBS : Hid (bs = (tail9 (l.take j)).reverse) := HB.out.1 hlt
      have HXA : Hid (j + 1 < l.length → tail9 (l.take (j + 1)) = pad 9 (l.getD j 0) ++ tail9 (l.take j)) := fun h => by
        rw [← tail9_app, List.getD_eq_getElem?_getD, List.getElem?_eq_getElem hlt, List.take_succ_eq_append_getElem hlt]
        rfl
      have HXB : Hid (j + 1 = l.length → l.take j = m ∧ l.getD j 0 = xt) := fun h => by
        have hjm : j = m.length := by have := HLEN.out; omega
        rw [HM.out, hjm, List.take_left, List.getD_eq_getElem?_getD, List.getElem?_append_right (Nat.le_refl _)]
        simp
      generalize l.getD j 0 = x at *
      go_wp2_with fail
      obtain ⟨wo, hwo⟩ : ∃ wo : World, wo = wr := ⟨_, rfl⟩
      subst hwo
      go_loopw [3, 5, 6] (fun bv dv kv wi => ∃ k : Nat, k ≤ 9 ∧ kv = .int .i64 k ∧ dv = .int .u64 ((x / 10 ^ k : Nat) : Int) ∧ Hid (∀ t, t < k → j + 1 < l.length ∨ 0 < x / 10 ^ t) ∧
          wi.ownsRow w.heap.size 5 1 bv (bs.length + k) (by8 (bs ++ (pad k x).reverse)) ∧ Below w.heap.size w wi) (fun _ _ kv _ => 9 - (intOf kv).toNat)
      case atStart => exact ⟨0, by omega, rfl, by simp, (fun t ht => absurd ht (Nat.not_lt_zero _)), by simpa [pad] using hown, hbel⟩
      case round =>
        clear hown hbel
        obtain ⟨k, hk, rfl, rfl, HK, hown, hbel⟩ := hrel
        have hs5 := hbel.size
        have hyx : x / 10 ^ k ≤ x := Nat.div_le_self _ _
        have HDT := Lib.hid (div_ten x k)
        have HPF := Lib.hid (pad_front_rev k x)
        have HPS := Lib.hid (fun (h0 : 0 < x) (hz : x / 10 ^ k = 0) (hp : ∀ j, j < k → 0 < x / 10 ^ j) => pad_stop h0 hz hp)
        generalize hgy : x / 10 ^ k = y at *
        have HGY := Lib.hid hgy
        clear hgy
        have STEP : Hid (∀ (v1 : Value) (w1 : World), w1.ownsRow w.heap.size 5 1 v1 (bs.length + k + 1) (by8 (bs ++ (pad k x).reverse) ++ [.int .u8 (48 + (y : Int) % 10)]) →
            w1.ownsRow w.heap.size 5 1 v1 (bs.length + (k + 1)) (by8 (bs ++ (pad (k + 1) x).reverse))) := fun v1 w1 h => by
          rw [HPF.out, ← List.append_assoc, by8_app (bs ++ _), by8_digit (Nat.mod_lt _ (by omega))]
          simpa [Nat.add_assoc] using h
        rcases Nat.lt_or_ge k 9 with hk9 | hk9
        · rcases Nat.lt_or_ge (j + 1) l.length with hj1 | hj1
          · go_wp2_with (at_builtin; refine wpL_append _ rfl (.tmp 38) (.tmp 43) _ rfl w.heap.size 5 i0 _ 1 1 Tryz.underlying25 hi0 hz0 hz1 hz2 rfl (by omega) _ (bs.length + k) _ rfl (hown.alloc _) (some ⟨wr.heap.size, 0, none⟩) 1 1 [.int .u8 (48 + (y : Int) % 10)] rfl rfl (Rd.of_new wr [.int .u8 (48 + (y : Int) % 10)] 5) (by intro u hu; simp at hu; subst hu; rfl) (by unfold maxLen; omega) (by omega) (by simp; omega) ?_; intro v1 w1 hown1 hg1 hat1)
            go_roundw
            case rel => exact ⟨k + 1, by omega, by go_num, by rw [← HDT.out]; go_num, (fun t _ => .inl hj1), STEP.out _ _ hown1, below_app (hbel.alloc hbel.size _) hg1 (by simp; omega) (hown.alloc _) (Nat.le_refl _)⟩
            case measure => simp [intOf]; omega
          · rcases Nat.eq_zero_or_pos y with hy0 | hy0
            · subst hy0
              go_wp2
              go_roundw
              case rel =>
                obtain ⟨e1, e2⟩ := HXB.out (by omega)
                refine ⟨j + 1, bs ++ (pad k x).reverse, by omega, by go_num, by simp [pad_length]; omega, ⟨fun h => by omega, fun _ => ?_⟩, ?_, hbel⟩
                · rw [HPS.out (by omega) rfl (fun t ht => (HK.out t ht).resolve_left (by omega)), HBS.out, e1, e2, HTL.out, List.reverse_append]
                · simpa [pad_length] using hown
              case measure => simp [intOf]; omega
            · have HK1 : Hid (∀ t, t < k + 1 → j + 1 < l.length ∨ 0 < x / 10 ^ t) := fun t ht => by
                rcases Nat.lt_or_ge t k with h5 | h5
                · exact HK.out t h5
                · right; rw [show t = k by omega, HGY.out]; exact hy0
              go_wp2_with (at_builtin; refine wpL_append _ rfl (.tmp 38) (.tmp 43) _ rfl w.heap.size 5 i0 _ 1 1 Tryz.underlying25 hi0 hz0 hz1 hz2 rfl (by omega) _ (bs.length + k) _ rfl (hown.alloc _) (some ⟨wr.heap.size, 0, none⟩) 1 1 [.int .u8 (48 + (y : Int) % 10)] rfl rfl (Rd.of_new wr [.int .u8 (48 + (y : Int) % 10)] 5) (by intro u hu; simp at hu; subst hu; rfl) (by unfold maxLen; omega) (by omega) (by simp; omega) ?_; intro v1 w1 hown1 hg1 hat1)
              go_roundw
              case rel => exact ⟨k + 1, by omega, by go_num, by rw [← HDT.out]; go_num, HK1.out, STEP.out _ _ hown1, below_app (hbel.alloc hbel.size _) hg1 (by simp; omega) (hown.alloc _) (Nat.le_refl _)⟩
              case measure => simp [intOf]; omega
        · obtain rfl : k = 9 := by omega
          go_wp2
          go_roundw
          case rel =>
            refine ⟨j + 1, bs ++ (pad 9 x).reverse, by omega, by go_num, by simp [pad_length]; omega, ⟨fun h => ?_, fun h => ?_⟩, ?_, hbel⟩
            · rw [HXA.out h, List.reverse_append, HBS.out]
            · obtain ⟨e1, e2⟩ := HXB.out h
              have hy0 : x / 10 ^ 9 = 0 := Nat.div_eq_of_lt (by omega)
              rw [HPS.out (by omega) (by rw [← HGY.out]; exact hy0) (fun t ht => (HK.out t ht).resolve_left (by omega)), HBS.out, e1, e2, HTL.out, List.reverse_append]
            · simpa [pad_length] using hown
          case measure => simp [intOf]; omega
    · obtain rfl : j = l.length := by omega
      have HBD : Hid (bs = D.reverse) := HB.out.2 rfl
      have hbD : bs.length = D.length := by rw [HBD.out, List.length_reverse]
      rw [hbD] at hown hbl
      have hown' : wr.ownsRow w.heap.size 5 1 u3 D.length (by8 D.reverse) := by rw [← HBD.out]; exact hown
      obtain ⟨g, cap, rfl, hg, hcap, hcm⟩ := own_form hown' hDl
      have hrd := Rd.of_own hown'
      have hmk := make0_u8 D.length (D.length : Int) rfl (by omega)
      have hsz := hbel.size
      clear HB hown hbD HBD
      obtain ⟨wo, hwo⟩ : ∃ wo : World, wo = wr := ⟨_, rfl⟩
      subst hwo
      go_wp2_with fail
      have ho0 := own_made8 wo D.length (by omega)
      have hB0 := below_alloc wo (.cells (ints .u8 (List.replicate D.length 0)).toArray 5)
      clear hmk
      go_loopw [7, 8] (fun ov i wi => ∃ r : Nat, r ≤ D.length ∧ i = .int .i64 ((D.length : Int) - r - 1) ∧ wi.ownsRow wo.heap.size 5 1 ov r (by8 (D.take r)) ∧ Below wo.heap.size wo wi) (fun _ i _ => (intOf i + 1).toNat)
      case atStart => exact ⟨0, Nat.zero_le _, by go_num, by simpa [by8, ints] using ho0, hB0⟩
      case round =>
        clear ho0 hB0 hown'
        obtain ⟨r, hr, rfl, hown, hbi⟩ := hrel
        have hsi := hbi.size
        rcases Nat.lt_or_ge r D.length with hlr | hgr
        · obtain ⟨ix, hix⟩ : ∃ ix, ix + r + 1 = D.length := ⟨D.length - r - 1, by omega⟩
          rw [show (D.length : Int) - r - 1 = (ix : Int) by omega]
          have hrev : (by8 D.reverse)[ix]? = some (.int .u8 ((D[r].toNat : Nat) : Int)) := by
            rw [by8_get (by rw [List.length_reverse]; omega), List.getElem_reverse]
            congr 5
            omega
          obtain ⟨ad9, he9, _, hc9⟩ := (hrd.below (hbi.mono (Nat.le_refl _))) (by intro e; rw [e] at hrev; simp at hrev)
          injection he9 with he9
          subst he9
          have hcell := hc9 ix _ hrev
          rw [addr_mk, Nat.zero_add] at hcell
          have hT : Hid (by8 (D.take (r + 1)) = by8 (D.take r) ++ [.int .u8 ((D[r].toNat : Nat) : Int)]) := by
            show _ = _
            rw [List.take_succ_eq_append_getElem hlr, by8_app]
            rfl
          have hi1 : (ix : Int) < D.length := by omega
          clear hc9 hrev
          generalize D[r].toNat = q at *
          have HIX := Lib.hid hix
          clear hix
          go_wp2_with (at_builtin; refine wpL_append _ rfl (.tmp 58) (.tmp 63) _ rfl wo.heap.size 5 i0 _ 1 1 Tryz.underlying25 hi0 hz0 hz1 hz2 rfl (by omega) _ r _ rfl (hown.alloc _) (some ⟨wr.heap.size, 0, none⟩) 1 1 [.int .u8 (q : Int)] rfl rfl (Rd.of_new wr [.int .u8 (q : Int)] 5) (by intro u hu; simp at hu; subst hu; rfl) (by unfold maxLen; omega) (by omega) (by simp; omega) ?_; intro v1 w1 hown1 hg1 hat1)
          go_roundw
          case rel => exact ⟨r + 1, by omega, by have := HIX.out; congr 1; omega, by rw [hT.out]; exact hown1, below_app (hbi.alloc hbi.size _) hg1 (by simp; omega) (hown.alloc _) (Nat.le_refl _)⟩
          case measure => have := HIX.out; simp [intOf]
        · obtain rfl : r = D.length := by omega
          rw [show (D.length : Int) - D.length - 1 = -1 by omega]
          rw [List.take_length] at hown
          obtain ⟨g2, cap2, rfl, hg2, hcap2, hcm2⟩ := own_form hown hDl
          have hcl := hown.cells (g := g2) rfl
          have hcv := run_convert_bytes_back (P := Tryz.prog) wr 25 9 5 ⟨g2, 0, none⟩ cap2 D Tryz.underlying25 Tryz.underlying5 Tryz.underlying9 (fun j hj => hcl j _ (by8_get hj))
          clear hcl hown hrd
          go_wp2
          go_ret
          exact ⟨hbel.trans (hbi.mono hsz), rfl⟩
end Go.Proofs.YtpkhgdnkkdhlcaaGreatDoor

namespace Go.Proofs.YtpkhgdnkkdhlcaaGreatDoor
open Go.RowKit Ar

end Go.Proofs.YtpkhgdnkkdhlcaaGreatDoor

