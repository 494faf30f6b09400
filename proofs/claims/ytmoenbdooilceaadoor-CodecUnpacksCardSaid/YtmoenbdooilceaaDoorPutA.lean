/-
  Walks: package codec: Put at integers.
-/
import Derived.Test.YtmoenbdooilceaaDoorCodD
import Derived.Test.YtmoenbdooilceaaDoorPutM
import Derived.Test.YtmoenbdooilceaaDoorFitB
import Derived.StillTailTactics
namespace Go.Proofs.YtmoenbdooilceaaDoor
open Go.RowKit By

set_option maxHeartbeats 400000 in
theorem width_any (k : Nat) (w : World) (h1 : 1 ≤ k) (h4 : k ≤ 4) : Calls Tryd.prog 56 #[.int .i64 (k : Int)] w fun e w' => w = w' ∧ e = .returned (.int .i64 ((2 ^ (k - 1) : Nat) : Int)) := by
  obtain rfl | rfl | rfl | rfl : k = 1 ∨ k = 2 ∨ k = 3 ∨ k = 4 := by omega
  all_goals
    go_enter Tryd.func56, Tryd.ntmps56
    go_wp2
    go_ret
    exact ⟨rfl, rfl⟩

theorem own_put {w : World} {base g n cap : Nat} {T : TypeId} {k : IntKind} {l : List Nat} (h : w.ownsRow base T 1 (.slice (some ⟨g, 0, none⟩) n cap) n (ints k l)) (i x : Nat) :
    (w.setCell ⟨g, i, none⟩ (.int k (x : Int))).ownsRow base T 1 (.slice (some ⟨g, 0, none⟩) n cap) n (ints k (l.set i x)) := by
  have := (h.stored i (.int k (x : Int))).1
  have e : (ints k l).set i (.int k (x : Int)) = ints k (l.set i x) := by simp [ints, List.map_set]
  rwa [e] at this
/-- What the reading of a text as a number of 64 bits gives. -/
def Parses (s : ByteArray) (n : Int) : Prop := ∀ W, Env W → Calls Tryd.prog 57 #[.string s, .int .i64 10, .int .i64 64] W fun e w' => Below W.heap.size W w' ∧ ∃ x, e = .returned (.tuple #[.int .i64 n, x])

set_option maxRecDepth 100000 in
set_option maxHeartbeats 3200000 in
theorem puti_any (A : Option Addr) (c k : Nat) (ss : List ByteArray) (fl : List Bool) (ns : List Int) (w : World) (h1 : 1 ≤ k) (h4 : k ≤ 4) (hm : ss.length ≤ 4096) (hfl : fl.length = ss.length) (h : Rd w w.heap.size A (strs ss)) (he : Env w)
    (hacc : Calls Tryd.prog 55 #[.int .i64 (k : Int), .slice A ss.length c] w fun e w' => Below w.heap.size w w' ∧ e = .returned (.int .i64 0))
    (hf : ∀ i (hi : i < ss.length), fl.getD i false = !ss[i].toList.isEmpty) (hp : ∀ i (hi : i < ss.length), Parses ss[i] (ns.getD i 0)) :
    Calls Tryd.prog 31 #[.int .i64 (k : Int), .slice A ss.length c] w fun e w' => Below w.heap.size w w' ∧ ∃ v, e = .returned (.tuple #[v, .int .i64 0]) ∧ IsL w' w'.heap.size .u8 v (putI (2 ^ (k - 1)) fl ns ss.length) := by
  obtain ⟨i0, hi0, hz0, hz1, hz2⟩ := info_parts Tryd.u8_info
  have HA := Lib.hid hacc
  have HF := Lib.hid hf
  have HPP := Lib.hid hp
  clear hacc hf hp
  have hW8 : 2 ^ (k - 1) ≤ 8 := by
    have : 2 ^ (k - 1) ≤ 2 ^ 3 := Nat.pow_le_pow_right (by decide) (by omega)
    omega
  have hW1 : 0 < 2 ^ (k - 1) := Nat.pow_pos (by decide)
  have HWA := Lib.hid (fun W => width_any k W h1 h4)
  generalize 2 ^ (k - 1) = WW at *
  obtain ⟨m, hm8⟩ : ∃ m, m = (ss.length + 7) / 8 := ⟨_, rfl⟩
  have hmk := make_ints (P := Tryd.prog) 22 5 i0 .u8 Tryd.underlying22 hi0 hz0 hz1 (by omega) .i64 .i64 m (((ss.length : Int) + 7) / 8) (by omega) (by omega)
  have HM := Lib.hid hm8
  have hm512 : m ≤ 512 := by omega
  clear hm8
  go_enter Tryd.func31, Tryd.ntmps31
  go_wp2_with fail
  refine HA.out.mono ?_
  rintro e w1 ⟨hb1, rfl⟩
  go_wp2_with fail
  refine (HWA.out _).mono ?_
  rintro e w2 ⟨rfl, rfl⟩
  have hB0 : Below w.heap.size w (w1.alloc (.cells (ints .u8 (List.replicate m 0)).toArray 5)) := hb1.alloc hb1.size _
  have hown0 : (w1.alloc (.cells (ints .u8 (List.replicate m 0)).toArray 5)).ownsRow w.heap.size 5 1 (.slice (some ⟨w1.heap.size, 0, none⟩) m m) m (ints .u8 (List.replicate m 0)) := by
    have := (Bk.new w1 5 (ints .u8 (List.replicate m 0)).toArray).own (base := w.heap.size) (size := 1) (n := m) (cap := m) hb1.size (Nat.le_refl _) (by unfold maxLen; omega) (by simp [ints_length])
    rw [Nat.mul_one, List.toList_toArray, List.take_of_length_le (by simp [ints_length])] at this
    exact this
  clear hmk HA HWA
  go_wp2
  go_loopw [7, 29] (fun v i wr => ∃ j N : Nat, j ≤ ss.length ∧ Hid (N = m + j * WW) ∧ i = .int .i64 j ∧ wr.ownsRow w.heap.size 5 1 v N (ints .u8 (putI WW fl ns j)) ∧ Below w.heap.size w wr) (fun _ i _ => ss.length - (intOf i).toNat)
  case atStart =>
    refine ⟨0, m, Nat.zero_le _, (show m = m + 0 * WW by omega), rfl, ?_, hB0⟩
    have : putI WW fl ns 0 = List.replicate m 0 := by unfold putI; rw [bm, pv, List.append_nil, hfl, HM.out]
    rw [this]
    exact hown0
  case round =>
    clear hown0 hB0
    obtain ⟨j, N, hj, HN, rfl, hown, hB⟩ := hrel
    by_cases hlt : j < ss.length
    · obtain ⟨ad, rfl, hab, hcell⟩ := (h.below hB).str hlt
      have hjW : j * WW ≤ 4096 * 8 := Nat.mul_le_mul (by omega) hW8
      have hN1 : N ≤ 40000 := by have := HN.out; have := HM.out; omega
      have hjN : j / 8 < N := by have := HN.out; have := HM.out; omega
      clear hjW
      have HPJ := Lib.hid (HPP.out j hlt)
      have hfj := HF.out j hlt
      have HPI := putI_flag (W := WW) (ns := ns) (i := j) (show j < fl.length by omega)
      generalize ss[j] = s at *
      cases hs : s.toList.isEmpty
      · rw [hs, Bool.not_false] at hfj
        rw [if_pos hfj] at HPI
        obtain ⟨g, cap, rfl, hg, hcap, hcm, hrow⟩ := Row.of_own hown (by omega)
        have hc0 := hrow.cell (i := j / 8) (by rw [putI_len]; have := HM.out; omega)
        have hf0 := hrow.frozen (j / 8)
        clear hrow
        generalize hold : (putI WW fl ns j).getD (j / 8) 0 = old at *
        have HOL := Lib.hid hold
        clear hold
        go_wp2
        have x1 : IntKind.i64.wrap ((j : Int) / 8) = (j : Int) / 8 := IntWalk.i64_in _ (by omega)
        have x2 : ((j : Int) / 8).toNat = j / 8 := by omega
        have x3 : 0 ≤ (j : Int) / 8 := by omega
        have x4 : (j : Int) / 8 < N := by omega
        obtain ⟨t, ht⟩ : ∃ t, t = j % 8 := ⟨_, rfl⟩
        obtain ⟨P, hP⟩ : ∃ P, P = 2 ^ (j % 8) := ⟨_, rfl⟩
        obtain ⟨Q, hQ⟩ : ∃ Q, Q = old ||| P := ⟨_, rfl⟩
        have hPb : P < 256 := by rw [hP]; exact pow_bit j
        have hob : old < 256 := by rw [← HOL.out]; exact (putI_bytes WW fl ns j).at_ _
        have x5 : (j : Int).tmod 8 = (t : Int) := by rw [Int.tmod_eq_emod_of_nonneg (by omega)]; omega
        have x6 : (t : Int) ≤ 8 := by omega
        have x7 : 0 ≤ (t : Int) := by omega
        have x9 : IntKind.u8.wrap ((2 : Int) ^ t) = (P : Int) := by
          have e1 : ((2 ^ t : Nat) : Int) = (2 : Int) ^ t := by simp
          rw [← e1, ht, ← hP]; exact wrap_u8 hPb
        have x10 : bits .or .u8 (old : Int) (P : Int) = (Q : Int) := by rw [hQ]; exact or_u8 hob hPb
        have HPB : Hid ((putI WW fl ns j).set (j / 8) Q = putbit (putI WW fl ns j) j) := by show _ = _; unfold putbit; rw [HOL.out, hQ, hP]
        clear ht hP hQ hPb hob
        go_still_tail 10, (by kernel_rfl)
        have hown1 := own_put hown (j / 8) Q
        rw [HPB.out] at hown1
        have hB1 : Below w.heap.size w (wr.setCell ⟨g, j / 8, none⟩ (.int .u8 (Q : Int))) := hB.setCell (by exact hg) _
        clear x1 x2 x3 x4 x5 x6 x7 x9 x10 HOL
        go_wp2_with fail
        clear hc0 hf0
        generalize wr.setCell ⟨g, j / 8, none⟩ (.int .u8 (Q : Int)) = wq at *
        have hE2 : Env wq.drew := (he.next hB1).drewN 1
        have hownL : wq.drew.ownsRow w.heap.size 5 1 _ N _ := hown1.drew
        have hBL : Below w.heap.size w wq.drew := hB1.drew
        clear hown1 hB1 hown hB
        refine (HPJ.out _ hE2).mono ?_
        rintro e w2 ⟨hb2, x, rfl⟩
        have hown2 := own_next hownL hb2
        have hB2 := hBL.trans (hb2.mono hBL.size)
        clear hownL hBL hE2 hb2 HPJ
        have HPI2 := Lib.hid HPI
        clear HPI
        generalize ns.getD j 0 = nv at *
        generalize putbit (putI WW fl ns j) j = L at *
        go_wp2
        go_loopw [7, 13] (fun v i wr => ∃ t : Nat, t ≤ WW ∧ ((t = 0 ∧ i = .int .i64 (-1)) ∨ (∃ s : Nat, t = s + 1 ∧ i = .int .i64 s)) ∧ wr.ownsRow w.heap.size 5 1 v (N + (WW - t)) (ints .u8 (L ++ (gb WW (nv % 18446744073709551616).toNat).take (WW - t))) ∧ Below w.heap.size w wr) (fun _ i _ => (intOf i + 1).toNat)
        case atStart =>
          refine ⟨WW, Nat.le_refl _, .inr ⟨WW - 1, by omega, by congr 1; omega⟩, ?_, hB2⟩
          rw [Nat.sub_self, List.take_zero, List.append_nil]; exact hown2
        case round =>
          clear hown2 hB2
          obtain ⟨t, ht, hi, hown3, hB3⟩ := hrel
          rcases hi with ⟨rfl, rfl⟩ | ⟨s, rfl, rfl⟩
          · have HE : Hid (L ++ (gb WW (nv % 18446744073709551616).toNat).take (WW - 0) = putI WW fl ns (j + 1)) := by
              show _ = _
              rw [Nat.sub_zero, List.take_of_length_le (by rw [gb_len]; exact Nat.le_refl _)]; exact HPI2.out
            go_wp2
            go_roundw
            case rel =>
              refine ⟨j + 1, N + WW, by omega, ?_, by go_num, ?_, hB3⟩
              · have := HN.out
                show N + WW = m + (j + 1) * WW
                rw [Nat.succ_mul]; omega
              · rw [HE.out] at hown3; exact hown3
            case measure => simp [intOf]; omega
          · have HG := Lib.hid (gb_head (X := (nv % 18446744073709551616).toNat) ht)
            have HE : Hid (Value.int .u8 (nv / 2 ^ (8 * s) % 256) = .int .u8 (((nv % 18446744073709551616).toNat / 256 ^ s % 256 : Nat) : Int)) := by
              show _ = _
              rw [byte_of nv (by omega)]
            generalize (nv % 18446744073709551616).toNat = X at *
            go_wp2_with (at_builtin; refine wpL_append _ rfl (.tmp 59) (.tmp 65) _ rfl w.heap.size 5 i0 _ 1 1 Tryd.underlying22 hi0 hz0 hz1 hz2 rfl (by omega) _ (N + (WW - (s + 1))) (ints .u8 (L ++ (gb WW X).take (WW - (s + 1)))) rfl (hown3.alloc _) (some ⟨wr.heap.size, 0, none⟩) 1 1 [.int .u8 (nv / 2 ^ (8 * s) % 256)] rfl rfl (Rd.of_new wr [.int .u8 (nv / 2 ^ (8 * s) % 256)] 5) (by intro u hu; simp at hu; subst hu; rfl) (by unfold maxLen; omega) (by omega) (by have := hB3.size; simp; omega) ?_; intro v1 w4 hown4 hg4 hat4)
            have HO : Hid (w4.ownsRow w.heap.size 5 1 v1 (N + (WW - s)) (ints .u8 (L ++ (gb WW X).take (WW - s)))) := by
              show World.ownsRow _ _ _ _ _ _ _
              rw [HG.out, ← List.append_assoc, ints_append]
              rw [HE.out] at hown4
              have e : N + (WW - (s + 1)) + 1 = N + (WW - s) := by omega
              rw [e] at hown4
              exact hown4
            have hB4 : Below w.heap.size w w4 := below_app (hB3.alloc hB3.size _) hg4 (by have := hB3.size; simp; omega) (hown3.alloc _) (Nat.le_refl _)
            clear hown3 hown4 HG HE
            go_wp2
            go_roundw
            case rel =>
              refine ⟨s, by omega, ?_, HO.out, hB4⟩
              rcases s with _ | y
              · exact .inl ⟨rfl, rfl⟩
              · exact .inr ⟨y, rfl, by go_num⟩
            case measure => simp [intOf]
      · rw [hs, Bool.not_true] at hfj
        rw [if_neg (by rw [hfj]; decide)] at HPI
        obtain ⟨A', cap, rfl, hcap⟩ := own_slice hown
        have hE2 : Env wr := he.next hB
        have hownL := hown
        have hBL := hB
        clear hown hB
        go_wp2_with fail
        refine (HPJ.out _ hE2).mono ?_
        rintro e w2 ⟨hb2, x, rfl⟩
        have hown2 := own_next hownL hb2
        have hB2 := hBL.trans (hb2.mono hBL.size)
        clear hownL hBL hE2 hb2 HPJ
        have HPI2 := Lib.hid HPI
        clear HPI
        generalize ns.getD j 0 = nv at *
        generalize putI WW fl ns j = L at *
        go_wp2
        go_loopw [7, 13] (fun v i wr => ∃ t : Nat, t ≤ WW ∧ ((t = 0 ∧ i = .int .i64 (-1)) ∨ (∃ s : Nat, t = s + 1 ∧ i = .int .i64 s)) ∧ wr.ownsRow w.heap.size 5 1 v (N + (WW - t)) (ints .u8 (L ++ (gb WW (nv % 18446744073709551616).toNat).take (WW - t))) ∧ Below w.heap.size w wr) (fun _ i _ => (intOf i + 1).toNat)
        case atStart =>
          refine ⟨WW, Nat.le_refl _, .inr ⟨WW - 1, by omega, by congr 1; omega⟩, ?_, hB2⟩
          rw [Nat.sub_self, List.take_zero, List.append_nil]; exact hown2
        case round =>
          clear hown2 hB2
          obtain ⟨t, ht, hi, hown3, hB3⟩ := hrel
          rcases hi with ⟨rfl, rfl⟩ | ⟨s, rfl, rfl⟩
          · have HE : Hid (L ++ (gb WW (nv % 18446744073709551616).toNat).take (WW - 0) = putI WW fl ns (j + 1)) := by
              show _ = _
              rw [Nat.sub_zero, List.take_of_length_le (by rw [gb_len]; exact Nat.le_refl _)]; exact HPI2.out
            go_wp2
            go_roundw
            case rel =>
              refine ⟨j + 1, N + WW, by omega, ?_, by go_num, ?_, hB3⟩
              · have := HN.out
                show N + WW = m + (j + 1) * WW
                rw [Nat.succ_mul]; omega
              · rw [HE.out] at hown3; exact hown3
            case measure => simp [intOf]; omega
          · have HG := Lib.hid (gb_head (X := (nv % 18446744073709551616).toNat) ht)
            have HE : Hid (Value.int .u8 (nv / 2 ^ (8 * s) % 256) = .int .u8 (((nv % 18446744073709551616).toNat / 256 ^ s % 256 : Nat) : Int)) := by
              show _ = _
              rw [byte_of nv (by omega)]
            generalize (nv % 18446744073709551616).toNat = X at *
            go_wp2_with (at_builtin; refine wpL_append _ rfl (.tmp 59) (.tmp 65) _ rfl w.heap.size 5 i0 _ 1 1 Tryd.underlying22 hi0 hz0 hz1 hz2 rfl (by omega) _ (N + (WW - (s + 1))) (ints .u8 (L ++ (gb WW X).take (WW - (s + 1)))) rfl (hown3.alloc _) (some ⟨wr.heap.size, 0, none⟩) 1 1 [.int .u8 (nv / 2 ^ (8 * s) % 256)] rfl rfl (Rd.of_new wr [.int .u8 (nv / 2 ^ (8 * s) % 256)] 5) (by intro u hu; simp at hu; subst hu; rfl) (by unfold maxLen; omega) (by omega) (by have := hB3.size; simp; omega) ?_; intro v1 w4 hown4 hg4 hat4)
            have HO : Hid (w4.ownsRow w.heap.size 5 1 v1 (N + (WW - s)) (ints .u8 (L ++ (gb WW X).take (WW - s)))) := by
              show World.ownsRow _ _ _ _ _ _ _
              rw [HG.out, ← List.append_assoc, ints_append]
              rw [HE.out] at hown4
              have e : N + (WW - (s + 1)) + 1 = N + (WW - s) := by omega
              rw [e] at hown4
              exact hown4
            have hB4 : Below w.heap.size w w4 := below_app (hB3.alloc hB3.size _) hg4 (by have := hB3.size; simp; omega) (hown3.alloc _) (Nat.le_refl _)
            clear hown3 hown4 HG HE
            go_wp2
            go_roundw
            case rel =>
              refine ⟨s, by omega, ?_, HO.out, hB4⟩
              rcases s with _ | y
              · exact .inl ⟨rfl, rfl⟩
              · exact .inr ⟨y, rfl, by go_num⟩
            case measure => simp [intOf]
    · obtain rfl : j = ss.length := by omega
      have HN2 : Hid ((putI WW fl ns ss.length).length = N) := by
        show _ = _
        rw [putI_len, hfl, HN.out, ← HM.out]
      obtain ⟨A', cap, rfl, hcap⟩ := own_slice hown
      have HL := Lib.hid (IsL.of_own hown)
      clear hown
      go_wp2
      go_ret2
      exact ⟨hB, _, rfl, HL.out⟩
end Go.Proofs.YtmoenbdooilceaaDoor
