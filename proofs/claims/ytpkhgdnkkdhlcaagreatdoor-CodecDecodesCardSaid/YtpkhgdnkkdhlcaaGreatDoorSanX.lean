/-
  Walks: texts of numbers: integers are values.
  Walks: slices.ContainsFunc at strings.
  Walks: integers of 16 bits are values of their type; what is accepted.
  Walks: package codec: Put at integers.
  Walks: the laws' sanity check of package codec.
-/
import Derived.Test.YtpkhgdnkkdhlcaaGreatDoorReadC
import Derived.Test.YtpkhgdnkkdhlcaaGreatDoorTxtS
import Derived.Test.YtpkhgdnkkdhlcaaGreatDoorCodX
import Derived.StillTailTactics
namespace Go.Proofs.YtpkhgdnkkdhlcaaGreatDoor
open Go.RowKit Ar

set_option maxRecDepth 100000 in
set_option maxHeartbeats 1600000 in
theorem read_int (s : ByteArray) (w : World) (hs : s.size ≤ 4000000) (hT : IntText s.data.toList) (h40 : (unsign s.data.toList).length ≤ 40) (he : Env w) :
    Calls Tryz.prog 134 #[.string s] w fun e w' => Below w.heap.size w w' ∧ ∃ N D, e = .returned (.tuple #[.agg #[.bool (isNeg s.data.toList), N, D], .bool true]) ∧ IsN w' w'.heap.size .u32 N (dval (unsign s.data.toList)) ∧ IsN w' w'.heap.size .u32 D 1 := by
  have c1 := fun W => Tryz.strings_TrimPrefix s ⟨#[45]⟩ W
  have e45 : (⟨#[45]⟩ : ByteArray).data.toList = [45] := rfl
  rw [e45, trimPrefix_45] at c1
  obtain ⟨r, hr⟩ : ∃ r : ByteArray, r = ⟨(unsign s.data.toList).toArray⟩ := ⟨_, rfl⟩
  have hu : r.data.toList = unsign s.data.toList := by rw [hr]
  rw [← hr] at c1
  have hl := unsign_len s.data.toList
  rw [size_list] at hl
  have hus : r.size ≤ 4000000 := by rw [hr, mk_size]; omega
  have hq40 : r.size ≤ 40 := by rw [hr, mk_size]; exact h40
  have HU := Lib.hid hu
  have HC := Lib.hid (cut47_none hT.no47)
  have RL := Lib.hid (fun W hW => readlong_int s W hs hT hW)
  clear hu hr hT h40 hl e45
  generalize unsign s.data.toList = u at *
  generalize isNeg s.data.toList = g at *
  obtain ⟨q, hq⟩ : ∃ q : ByteArray, q = ⟨u.toArray⟩ := ⟨_, rfl⟩
  have HQ : Hid (⟨u.toArray⟩ = q) := hq.symm
  have hqs : q.size ≤ 40 := by
    have e1 : r.size = u.length := by rw [← size_list, HU.out]
    rw [hq, mk_size, ← e1]; exact hq40
  clear hq hq40
  go_enter Tryz.func134, Tryz.ntmps134
  go_wp2_with fail
  refine (c1 _).mono ?_
  rintro e w1 ⟨rfl, rfl⟩
  go_wp2_with fail
  refine (cut_any _ _ hus (he.alloc _)).mono ?_
  rintro e w1 ⟨rfl, n1, rfl⟩
  rw [HU.out, HC.out, HQ.out]
  go_wp2_with fail
  refine (RL.out _ ((he.alloc _).drewN n1)).mono ?_
  rintro e w3 ⟨hb3, N, D, rfl, hN, hD⟩
  obtain ⟨A, l, c, rfl⟩ := hN.form
  obtain ⟨A2, l2, c2, rfl⟩ := hD.form
  have k0 := (Bk.new w 102 #[Value.bool false, .slice none 0 0, .slice none 0 0]).drewN n1
  have k3 := k0.below hb3 k0.lt
  have d0 := k3.cell 0
  have d1 := k3.cell 1
  have d2 := k3.cell 2
  have f0 := k3.frozen 0
  have f1 := k3.frozen 1
  have f2 := k3.frozen 2
  simp only [List.getElem?_toArray, List.getElem?_cons_zero, List.getElem?_cons_succ] at d0 d1 d2
  have hb0 : Below w.heap.size w w3 := (below_drewN (below_alloc w _) n1).trans (hb3.mono (by show _ ≤ (w.alloc _).heap.size; simp))
  clear k0
  have h1 := hN.set3 k3 (.bool g) (.slice A l c) (.slice A2 l2 c2)
  have h2 := hD.set3 k3 (.bool g) (.slice A l c) (.slice A2 l2 c2)
  have hs3 := set3_size w3 w.heap.size (.bool g) (.slice A l c) (.slice A2 l2 c2)
  have hk := set3_bk (x := .bool g) (y := .slice A l c) (z := .slice A2 l2 c2) k3
  have hb := set3_below (x := .bool g) (y := .slice A l c) (z := .slice A2 l2 c2) hb0 (Nat.le_refl _)
  rw [← hs3] at h1 h2
  have HF : Hid ((fun W => Below w.heap.size w W ∧ Bk W w.heap.size 102 #[.bool g, .slice A l c, .slice A2 l2 c2] ∧ IsN W W.heap.size .u32 (.slice A l c) (dval u) ∧ IsN W W.heap.size .u32 (.slice A2 l2 c2) 1) (((w3.setCell ⟨w.heap.size, 0, none⟩ (.bool g)).setCell ⟨w.heap.size, 1, none⟩ (.slice A l c)).setCell ⟨w.heap.size, 2, none⟩ (.slice A2 l2 c2))) := ⟨hb, hk, h1, h2⟩
  clear h1 h2 hs3 hk hb hN hD hb0
  go_wp2
  refine bodyPost_named (fun W => Below w.heap.size w W ∧ Bk W w.heap.size 102 #[.bool g, .slice A l c, .slice A2 l2 c2] ∧ IsN W W.heap.size .u32 (.slice A l c) (dval u) ∧ IsN W W.heap.size .u32 (.slice A2 l2 c2) 1) HF.out ?_
  rintro W ⟨hB, hk, hN', hD'⟩
  have e0 := hk.cell 0
  have e1 := hk.cell 1
  have e2 := hk.cell 2
  simp only [List.getElem?_toArray, List.getElem?_cons_zero, List.getElem?_cons_succ] at e0 e1 e2
  refine bodyPost_ret (v := .tuple #[.agg #[.bool g, .slice A l c, .slice A2 l2 c2], .bool true]) (by simp [results, Tryz.results134, go_sem, e0, e1, e2]) rfl ?_
  exact ⟨hB, _, _, rfl, hN', hD'⟩

set_option maxHeartbeats 800000 in
theorem valid_int (s : ByteArray) (w : World) (hs : s.size ≤ 4000000) (hT : IntText s.data.toList) (h40 : (unsign s.data.toList).length ≤ 40) (he : Env w) :
    Calls Tryz.prog 85 #[.string s] w fun e w' => Below w.heap.size w w' ∧ e = .returned (.bool true) := by
  go_enter Tryz.func85, Tryz.ntmps85
  go_wp2_with fail
  refine (read_int s _ hs hT h40 he).mono ?_
  rintro e w3 ⟨hb3, N, D, rfl, hN, hD⟩
  obtain ⟨A, l, c, rfl⟩ := hN.form
  obtain ⟨A2, l2, c2, rfl⟩ := hD.form
  go_wp2
  go_ret
  exact ⟨hb3.alloc hb3.size _, rfl⟩
end Go.Proofs.YtpkhgdnkkdhlcaaGreatDoor

namespace Go.Proofs.YtpkhgdnkkdhlcaaGreatDoor
open Go.RowKit Ar

set_option maxRecDepth 100000 in
set_option maxHeartbeats 800000 in
theorem indexfunc_any (x : Value) (A : Option Addr) (c : Nat) (ss : List ByteArray) (p : ByteArray → Bool) (w : World) (hm : ss.length ≤ 4000000) (h : Rd w w.heap.size A (strs ss))
    (hf : ∀ W s, s ∈ ss → Below w.heap.size w W → Calls Tryz.prog 68 #[.string s, x] W fun e w' => Below W.heap.size W w' ∧ e = .returned (.bool (p s))) :
    Calls Tryz.prog 126 #[.slice A ss.length c, .func (.func 68) #[] #[x]] w fun e w' => Below w.heap.size w w' ∧ ∃ k : Int, e = .returned (.int .i64 k) ∧ -1 ≤ k ∧ (0 ≤ k ↔ ss.any p = true) := by
  have HF := Lib.hid hf
  clear hf
  go_enter Tryz.func126, Tryz.ntmps126
  go_wp2
  go_loopw [8] (fun i wr => ∃ k : Nat, k ≤ ss.length ∧ i = .int .i64 k ∧ Hid ((ss.take k).any p = false) ∧ Below w.heap.size w wr) (fun i _ => ss.length - (intOf i).toNat)
  case atStart => exact ⟨0, Nat.zero_le _, rfl, rfl, Below.refl _ _⟩
  case round =>
    obtain ⟨k, hk, rfl, HN, hB⟩ := hrel
    by_cases hlt : k < ss.length
    · obtain ⟨ad, rfl, hab, hcell⟩ := (h.below hB).str hlt
      have hmem : ss[k] ∈ ss := List.getElem_mem _
      have HT : Hid ((ss.take (k + 1)).any p = p ss[k]) := by
        show _ = _
        rw [List.take_succ_eq_append_getElem hlt, List.any_append, HN.out]; simp
      have HA : Hid (p ss[k] = true → ss.any p = true) := fun e => List.any_eq_true.2 ⟨_, hmem, e⟩
      have HC := Lib.hid (fun W hW => HF.out W ss[k] hmem hW)
      clear hmem
      generalize ss[k] = s at *
      go_wp2_with fail
      refine (HC.out wr hB).mono ?_
      rintro e w1 ⟨hb1, rfl⟩
      have hB1 := hB.trans (hb1.mono hB.size)
      cases hp : p s
      · have HN2 : Hid ((ss.take (k + 1)).any p = false) := by show _ = _; rw [HT.out]; exact hp
        clear hp
        go_wp2
        go_roundw
        case rel => exact ⟨k + 1, by omega, by go_num, HN2.out, hB1⟩
        case measure => simp [intOf]; omega
      · have HY := Lib.hid (HA.out hp)
        clear hp
        go_wp2
        go_ret
        exact ⟨hB1, _, rfl, by omega, fun _ => HY.out, fun _ => by omega⟩
    · have HE : Hid (ss.any p = false) := by
        have := HN.out
        rwa [List.take_of_length_le (by omega)] at this
      go_wp2
      go_ret
      exact ⟨hB, -1, rfl, by omega, fun h => by omega, fun h => by rw [HE.out] at h; cases h⟩

set_option maxRecDepth 100000 in
set_option maxHeartbeats 800000 in
theorem containsfunc_any (x : Value) (A : Option Addr) (c : Nat) (ss : List ByteArray) (p : ByteArray → Bool) (w : World) (hm : ss.length ≤ 4000000) (h : Rd w w.heap.size A (strs ss))
    (hf : ∀ W s, s ∈ ss → Below w.heap.size w W → Calls Tryz.prog 68 #[.string s, x] W fun e w' => Below W.heap.size W w' ∧ e = .returned (.bool (p s))) :
    Calls Tryz.prog 67 #[.slice A ss.length c, .func (.func 68) #[] #[x]] w fun e w' => Below w.heap.size w w' ∧ e = .returned (.bool (ss.any p)) := by
  have HI := Lib.hid (indexfunc_any x A c ss p w hm h hf)
  clear hf
  go_enter Tryz.func67, Tryz.ntmps67
  go_wp2_with fail
  refine HI.out.mono ?_
  rintro e w1 ⟨hb1, k, rfl, h1, h2⟩
  have HE : Hid (decide (0 ≤ k) = ss.any p) := by
    show _ = _
    rw [Bool.eq_iff_iff, decide_eq_true_eq]; exact h2
  clear h2
  go_wp2
  go_ret
  exact ⟨hb1, by rw [← HE.out]; rfl⟩
end Go.Proofs.YtpkhgdnkkdhlcaaGreatDoor

namespace Go.Proofs.YtpkhgdnkkdhlcaaGreatDoor
open Go.RowKit Ar

/-- A text of an integer of 16 bits, or nothing. -/
structure Fit16 (s : ByteArray) : Prop where
  small : s.size ≤ 4000000
  text : s.size ≠ 0 → IntText s.data.toList ∧ (unsign s.data.toList).length ≤ 40 ∧ ∃ v, Lib.parseIntB 16 s.data.toList = .ok v

set_option maxRecDepth 100000 in
set_option maxHeartbeats 1600000 in
theorem fits16 (s : ByteArray) (w : World) (h : Fit16 s) (he : Env w) :
    Calls Tryz.prog 45 #[.int .i64 2, .string s] w fun e w' => Below w.heap.size w w' ∧ e = .returned (.bool true) := by
  have hsm := h.small
  by_cases h0 : s.size = 0
  · have hn : s.toList = [] := by rw [bs_toList]; exact List.eq_nil_of_length_eq_zero (by rw [size_list]; exact h0)
    clear h h0 he
    go_enter Tryz.func45, Tryz.ntmps45
    go_wp2
    go_ret
    exact ⟨Below.refl _ _, rfl⟩
  · obtain ⟨hT, h40, v, hv⟩ := h.text h0
    have hn : s.toList ≠ [] := by rw [bs_toList]; intro e; have := size_list s; rw [e] at this; exact h0 this.symm
    have hnb : s.toList.isEmpty = false := by rw [List.isEmpty_eq_false_iff]; exact hn
    have HV := Lib.hid (valid_int s w hsm hT h40 he)
    have HP := Lib.hid (fun W => Tryz.strconv_ParseInt_10_at16_ok s (by omega) v hv W)
    clear h hT h40 hv he h0
    go_enter Tryz.func45, Tryz.ntmps45
    go_wp2_with (go_at_call 84; go_in)
    refine HV.out.mono ?_
    rintro e w1 ⟨hb1, rfl⟩
    go_wp2_with fail
    refine (HP.out w1).mono ?_
    rintro e w2 ⟨rfl, hw⟩
    have hb2 : Below w1.heap.size w1 w2 := by
      rcases hw with rfl | ⟨t, rfl⟩
      · exact Below.refl _ _
      · exact Lib.bytesWorld_below _ _ _
    clear hw
    go_wp2
    go_ret
    exact ⟨hb1.trans (hb2.mono hb1.size), rfl⟩

set_option maxHeartbeats 800000 in
theorem accepted1_16 (s : ByteArray) (B : Nat) (w : World) (h : Fit16 s) (he : Env w) (hc : w.cell? ⟨B, 0, none⟩ = some (.int .i64 2)) :
    Calls Tryz.prog 68 #[.string s, .pointer (some ⟨B, 0, none⟩)] w fun e w' => Below w.heap.size w w' ∧ e = .returned (.bool false) := by
  go_enter Tryz.func68, Tryz.ntmps68
  go_wp2_with fail
  refine (fits16 s w h he).mono ?_
  rintro e w1 ⟨hb1, rfl⟩
  go_wp2
  go_ret
  exact ⟨hb1, rfl⟩

set_option maxRecDepth 100000 in
set_option maxHeartbeats 800000 in
theorem accepted_16 (A : Option Addr) (c : Nat) (ss : List ByteArray) (w : World) (hm : ss.length ≤ 4096) (h : Rd w w.heap.size A (strs ss)) (hf : ∀ s ∈ ss, Fit16 s) (he : Env w) :
    Calls Tryz.prog 32 #[.int .i64 2, .slice A ss.length c] w fun e w' => Below w.heap.size w w' ∧ e = .returned (.int .i64 0) := by
  have HC : Hid (Calls Tryz.prog 67 #[.slice A ss.length c, .func (.func 68) #[] #[.pointer (some ⟨w.heap.size, 0, none⟩)]] (w.alloc (.cells #[.int .i64 2] 3)) fun e w' => Below (w.alloc (.cells #[.int .i64 2] 3)).heap.size (w.alloc (.cells #[.int .i64 2] 3)) w' ∧ e = .returned (.bool false)) := by
    have e : ss.any (fun _ => false) = false := by simp
    have hk := Bk.new w 3 #[.int .i64 2]
    have := containsfunc_any (.pointer (some ⟨w.heap.size, 0, none⟩)) A c ss (fun _ => false) (w.alloc (.cells #[.int .i64 2] 3)) (by omega) ((h.alloc (Nat.le_refl _) _).more (by simp)) (fun W s hs hW =>
      accepted1_16 s w.heap.size W (hf s hs) ((he.alloc _).next hW) ((hk.below hW hk.lt).cell 0))
    rw [e] at this
    exact this
  clear h hf he
  go_enter Tryz.func32, Tryz.ntmps32
  go_wp2_with (go_at_call 36; go_in)
  refine HC.out.mono ?_
  rintro e w1 ⟨hb1, rfl⟩
  have hB := (below_alloc w (.cells #[.int .i64 2] 3)).trans (hb1.mono (by simp))
  go_wp2
  go_ret
  exact ⟨hB, rfl⟩
end Go.Proofs.YtpkhgdnkkdhlcaaGreatDoor

namespace Go.Proofs.YtpkhgdnkkdhlcaaGreatDoor
open Go.RowKit By

set_option maxHeartbeats 400000 in
theorem width_any (k : Nat) (w : World) (h1 : 1 ≤ k) (h4 : k ≤ 4) : Calls Tryz.prog 23 #[.int .i64 (k : Int)] w fun e w' => w = w' ∧ e = .returned (.int .i64 ((2 ^ (k - 1) : Nat) : Int)) := by
  obtain rfl | rfl | rfl | rfl : k = 1 ∨ k = 2 ∨ k = 3 ∨ k = 4 := by omega
  all_goals
    go_enter Tryz.func23, Tryz.ntmps23
    go_wp2
    go_ret
    exact ⟨rfl, rfl⟩

theorem own_put {w : World} {base g n cap : Nat} {T : TypeId} {k : IntKind} {l : List Nat} (h : w.ownsRow base T 1 (.slice (some ⟨g, 0, none⟩) n cap) n (ints k l)) (i x : Nat) :
    (w.setCell ⟨g, i, none⟩ (.int k (x : Int))).ownsRow base T 1 (.slice (some ⟨g, 0, none⟩) n cap) n (ints k (l.set i x)) := by
  have := (h.stored i (.int k (x : Int))).1
  have e : (ints k l).set i (.int k (x : Int)) = ints k (l.set i x) := by simp [ints, List.map_set]
  rwa [e] at this
/-- What the reading of a text as a number of 64 bits gives. -/
def Parses (s : ByteArray) (n : Int) : Prop := ∀ W, Env W → Calls Tryz.prog 33 #[.string s, .int .i64 10, .int .i64 64] W fun e w' => Below W.heap.size W w' ∧ ∃ x, e = .returned (.tuple #[.int .i64 n, x])

set_option maxRecDepth 100000 in
set_option maxHeartbeats 3200000 in
theorem puti_any (A : Option Addr) (c k : Nat) (ss : List ByteArray) (fl : List Bool) (ns : List Int) (w : World) (h1 : 1 ≤ k) (h4 : k ≤ 4) (hm : ss.length ≤ 4096) (hfl : fl.length = ss.length) (h : Rd w w.heap.size A (strs ss)) (he : Env w)
    (hacc : Calls Tryz.prog 32 #[.int .i64 (k : Int), .slice A ss.length c] w fun e w' => Below w.heap.size w w' ∧ e = .returned (.int .i64 0))
    (hf : ∀ i (hi : i < ss.length), fl.getD i false = !ss[i].toList.isEmpty) (hp : ∀ i (hi : i < ss.length), Parses ss[i] (ns.getD i 0)) :
    Calls Tryz.prog 12 #[.int .i64 (k : Int), .slice A ss.length c] w fun e w' => Below w.heap.size w w' ∧ ∃ v, e = .returned (.tuple #[v, .int .i64 0]) ∧ IsL w' w'.heap.size .u8 v (putI (2 ^ (k - 1)) fl ns ss.length) := by
  obtain ⟨i0, hi0, hz0, hz1, hz2⟩ := info_parts Tryz.u8c_info
  have HA := Lib.hid hacc
  have HF := Lib.hid hf
  have HPP := Lib.hid hp
  clear hacc hf hp
  have hW8 : 2 ^ (k - 1) ≤ 8 := by
    have : 2 ^ (k - 1) ≤ 2 ^ 3 := Nat.pow_le_pow_right (by decide) (by omega)
    omega
  have hW1 : 0 < 2 ^ (k - 1) := Nat.pow_pos (by decide)
  have HWA := Lib.hid (fun W => width_any k W h1 h4)
  generalize 2 ^ (k - 1) = WW at *
  obtain ⟨m, hm8⟩ : ∃ m, m = (ss.length + 7) / 8 := ⟨_, rfl⟩
  have hmk := make_ints (P := Tryz.prog) 25 5 i0 .u8 Tryz.underlying25 hi0 hz0 hz1 (by omega) .i64 .i64 m (((ss.length : Int) + 7) / 8) (by omega) (by omega)
  have HM := Lib.hid hm8
  have hm512 : m ≤ 512 := by omega
  clear hm8
  go_enter Tryz.func12, Tryz.ntmps12
  go_wp2_with fail
  refine HA.out.mono ?_
  rintro e w1 ⟨hb1, rfl⟩
  go_wp2_with fail
  refine (HWA.out _).mono ?_
  rintro e w2 ⟨rfl, rfl⟩
  have hB0 : Below w.heap.size w (w1.alloc (.cells (ints .u8 (List.replicate m 0)).toArray 5)) := hb1.alloc hb1.size _
  have hown0 : (w1.alloc (.cells (ints .u8 (List.replicate m 0)).toArray 5)).ownsRow w.heap.size 5 1 (.slice (some ⟨w1.heap.size, 0, none⟩) m m) m (ints .u8 (List.replicate m 0)) := by
    have := (Bk.new w1 5 (ints .u8 (List.replicate m 0)).toArray).own (base := w.heap.size) (size := 1) (n := m) (cap := m) hb1.size (Nat.le_refl _) (by unfold maxLen; omega) (by simp [ints_length])
    rw [Nat.mul_one, List.toList_toArray, List.take_of_length_le (by simp [ints_length])] at this
    exact this
  clear hmk HA HWA
  go_wp2
  go_loopw [7, 29] (fun v i wr => ∃ j N : Nat, j ≤ ss.length ∧ Hid (N = m + j * WW) ∧ i = .int .i64 j ∧ wr.ownsRow w.heap.size 5 1 v N (ints .u8 (putI WW fl ns j)) ∧ Below w.heap.size w wr) (fun _ i _ => ss.length - (intOf i).toNat)
  case atStart =>
    refine ⟨0, m, Nat.zero_le _, (show m = m + 0 * WW by omega), rfl, ?_, hB0⟩
    have : putI WW fl ns 0 = List.replicate m 0 := by unfold putI; rw [bm, pv, List.append_nil, hfl, HM.out]
    rw [this]
    exact hown0
  case round =>
    clear hown0 hB0
    obtain ⟨j, N, hj, HN, rfl, hown, hB⟩ := hrel
    by_cases hlt : j < ss.length
    · obtain ⟨ad, rfl, hab, hcell⟩ := (h.below hB).str hlt
      have hjW : j * WW ≤ 4096 * 8 := Nat.mul_le_mul (by omega) hW8
      have hN1 : N ≤ 40000 := by have := HN.out; have := HM.out; omega
      have hjN : j / 8 < N := by have := HN.out; have := HM.out; omega
      clear hjW
      have HPJ := Lib.hid (HPP.out j hlt)
      have hfj := HF.out j hlt
      have HPI := putI_flag (W := WW) (ns := ns) (i := j) (show j < fl.length by omega)
      generalize ss[j] = s at *
      cases hs : s.toList.isEmpty
      · rw [hs, Bool.not_false] at hfj
        rw [if_pos hfj] at HPI
        obtain ⟨g, cap, rfl, hg, hcap, hcm, hrow⟩ := Row.of_own hown (by omega)
        have hc0 := hrow.cell (i := j / 8) (by rw [putI_len]; have := HM.out; omega)
        have hf0 := hrow.frozen (j / 8)
        clear hrow
        generalize hold : (putI WW fl ns j).getD (j / 8) 0 = old at *
        have HOL := Lib.hid hold
        clear hold
        go_wp2
        have x1 : IntKind.i64.wrap ((j : Int) / 8) = (j : Int) / 8 := IntWalk.i64_in _ (by omega)
        have x2 : ((j : Int) / 8).toNat = j / 8 := by omega
        have x3 : 0 ≤ (j : Int) / 8 := by omega
        have x4 : (j : Int) / 8 < N := by omega
        obtain ⟨t, ht⟩ : ∃ t, t = j % 8 := ⟨_, rfl⟩
        obtain ⟨P, hP⟩ : ∃ P, P = 2 ^ (j % 8) := ⟨_, rfl⟩
        obtain ⟨Q, hQ⟩ : ∃ Q, Q = old ||| P := ⟨_, rfl⟩
        have hPb : P < 256 := by rw [hP]; exact pow_bit j
        have hob : old < 256 := by rw [← HOL.out]; exact (putI_bytes WW fl ns j).at_ _
        have x5 : (j : Int).tmod 8 = (t : Int) := by rw [Int.tmod_eq_emod_of_nonneg (by omega)]; omega
        have x6 : (t : Int) ≤ 8 := by omega
        have x7 : 0 ≤ (t : Int) := by omega
        have x9 : IntKind.u8.wrap ((2 : Int) ^ t) = (P : Int) := by
          have e1 : ((2 ^ t : Nat) : Int) = (2 : Int) ^ t := by simp
          rw [← e1, ht, ← hP]; exact wrap_u8 hPb
        have x10 : bits .or .u8 (old : Int) (P : Int) = (Q : Int) := by rw [hQ]; exact or_u8 hob hPb
        have HPB : Hid ((putI WW fl ns j).set (j / 8) Q = putbit (putI WW fl ns j) j) := by show _ = _; unfold putbit; rw [HOL.out, hQ, hP]
        clear ht hP hQ hPb hob
        go_still_tail 10, (by kernel_rfl)
        have hown1 := own_put hown (j / 8) Q
        rw [HPB.out] at hown1
        have hB1 : Below w.heap.size w (wr.setCell ⟨g, j / 8, none⟩ (.int .u8 (Q : Int))) := hB.setCell (by exact hg) _
        clear x1 x2 x3 x4 x5 x6 x7 x9 x10 HOL
        go_wp2_with fail
        clear hc0 hf0
        generalize wr.setCell ⟨g, j / 8, none⟩ (.int .u8 (Q : Int)) = wq at *
        have hE2 : Env wq.drew := (he.next hB1).drewN 1
        have hownL : wq.drew.ownsRow w.heap.size 5 1 _ N _ := hown1.drew
        have hBL : Below w.heap.size w wq.drew := hB1.drew
        clear hown1 hB1 hown hB
        refine (HPJ.out _ hE2).mono ?_
        rintro e w2 ⟨hb2, x, rfl⟩
        have hown2 := own_next hownL hb2
        have hB2 := hBL.trans (hb2.mono hBL.size)
        clear hownL hBL hE2 hb2 HPJ
        have HPI2 := Lib.hid HPI
        clear HPI
        generalize ns.getD j 0 = nv at *
        generalize putbit (putI WW fl ns j) j = L at *
        go_wp2
        go_loopw [7, 13] (fun v i wr => ∃ t : Nat, t ≤ WW ∧ ((t = 0 ∧ i = .int .i64 (-1)) ∨ (∃ s : Nat, t = s + 1 ∧ i = .int .i64 s)) ∧ wr.ownsRow w.heap.size 5 1 v (N + (WW - t)) (ints .u8 (L ++ (gb WW (nv % 18446744073709551616).toNat).take (WW - t))) ∧ Below w.heap.size w wr) (fun _ i _ => (intOf i + 1).toNat)
        case atStart =>
          refine ⟨WW, Nat.le_refl _, .inr ⟨WW - 1, by omega, by congr 1; omega⟩, ?_, hB2⟩
          rw [Nat.sub_self, List.take_zero, List.append_nil]; exact hown2
        case round =>
          clear hown2 hB2
          obtain ⟨t, ht, hi, hown3, hB3⟩ := hrel
          rcases hi with ⟨rfl, rfl⟩ | ⟨s, rfl, rfl⟩
          · have HE : Hid (L ++ (gb WW (nv % 18446744073709551616).toNat).take (WW - 0) = putI WW fl ns (j + 1)) := by
              show _ = _
              rw [Nat.sub_zero, List.take_of_length_le (by rw [gb_len]; exact Nat.le_refl _)]; exact HPI2.out
            go_wp2
            go_roundw
            case rel =>
              refine ⟨j + 1, N + WW, by omega, ?_, by go_num, ?_, hB3⟩
              · have := HN.out
                show N + WW = m + (j + 1) * WW
                rw [Nat.succ_mul]; omega
              · rw [HE.out] at hown3; exact hown3
            case measure => simp [intOf]; omega
          · have HG := Lib.hid (gb_head (X := (nv % 18446744073709551616).toNat) ht)
            have HE : Hid (Value.int .u8 (nv / 2 ^ (8 * s) % 256) = .int .u8 (((nv % 18446744073709551616).toNat / 256 ^ s % 256 : Nat) : Int)) := by
              show _ = _
              rw [byte_of nv (by omega)]
            generalize (nv % 18446744073709551616).toNat = X at *
            go_wp2_with (at_builtin; refine wpL_append _ rfl (.tmp 59) (.tmp 65) _ rfl w.heap.size 5 i0 _ 1 1 Tryz.underlying25 hi0 hz0 hz1 hz2 rfl (by omega) _ (N + (WW - (s + 1))) (ints .u8 (L ++ (gb WW X).take (WW - (s + 1)))) rfl (hown3.alloc _) (some ⟨wr.heap.size, 0, none⟩) 1 1 [.int .u8 (nv / 2 ^ (8 * s) % 256)] rfl rfl (Rd.of_new wr [.int .u8 (nv / 2 ^ (8 * s) % 256)] 5) (by intro u hu; simp at hu; subst hu; rfl) (by unfold maxLen; omega) (by omega) (by have := hB3.size; simp; omega) ?_; intro v1 w4 hown4 hg4 hat4)
            have HO : Hid (w4.ownsRow w.heap.size 5 1 v1 (N + (WW - s)) (ints .u8 (L ++ (gb WW X).take (WW - s)))) := by
              show World.ownsRow _ _ _ _ _ _ _
              rw [HG.out, ← List.append_assoc, ints_append]
              rw [HE.out] at hown4
              have e : N + (WW - (s + 1)) + 1 = N + (WW - s) := by omega
              rw [e] at hown4
              exact hown4
            have hB4 : Below w.heap.size w w4 := below_app (hB3.alloc hB3.size _) hg4 (by have := hB3.size; simp; omega) (hown3.alloc _) (Nat.le_refl _)
            clear hown3 hown4 HG HE
            go_wp2
            go_roundw
            case rel =>
              refine ⟨s, by omega, ?_, HO.out, hB4⟩
              rcases s with _ | y
              · exact .inl ⟨rfl, rfl⟩
              · exact .inr ⟨y, rfl, by go_num⟩
            case measure => simp [intOf]
      · rw [hs, Bool.not_true] at hfj
        rw [if_neg (by rw [hfj]; decide)] at HPI
        obtain ⟨A', cap, rfl, hcap⟩ := own_slice hown
        have hE2 : Env wr := he.next hB
        have hownL := hown
        have hBL := hB
        clear hown hB
        go_wp2_with fail
        refine (HPJ.out _ hE2).mono ?_
        rintro e w2 ⟨hb2, x, rfl⟩
        have hown2 := own_next hownL hb2
        have hB2 := hBL.trans (hb2.mono hBL.size)
        clear hownL hBL hE2 hb2 HPJ
        have HPI2 := Lib.hid HPI
        clear HPI
        generalize ns.getD j 0 = nv at *
        generalize putI WW fl ns j = L at *
        go_wp2
        go_loopw [7, 13] (fun v i wr => ∃ t : Nat, t ≤ WW ∧ ((t = 0 ∧ i = .int .i64 (-1)) ∨ (∃ s : Nat, t = s + 1 ∧ i = .int .i64 s)) ∧ wr.ownsRow w.heap.size 5 1 v (N + (WW - t)) (ints .u8 (L ++ (gb WW (nv % 18446744073709551616).toNat).take (WW - t))) ∧ Below w.heap.size w wr) (fun _ i _ => (intOf i + 1).toNat)
        case atStart =>
          refine ⟨WW, Nat.le_refl _, .inr ⟨WW - 1, by omega, by congr 1; omega⟩, ?_, hB2⟩
          rw [Nat.sub_self, List.take_zero, List.append_nil]; exact hown2
        case round =>
          clear hown2 hB2
          obtain ⟨t, ht, hi, hown3, hB3⟩ := hrel
          rcases hi with ⟨rfl, rfl⟩ | ⟨s, rfl, rfl⟩
          · have HE : Hid (L ++ (gb WW (nv % 18446744073709551616).toNat).take (WW - 0) = putI WW fl ns (j + 1)) := by
              show _ = _
              rw [Nat.sub_zero, List.take_of_length_le (by rw [gb_len]; exact Nat.le_refl _)]; exact HPI2.out
            go_wp2
            go_roundw
            case rel =>
              refine ⟨j + 1, N + WW, by omega, ?_, by go_num, ?_, hB3⟩
              · have := HN.out
                show N + WW = m + (j + 1) * WW
                rw [Nat.succ_mul]; omega
              · rw [HE.out] at hown3; exact hown3
            case measure => simp [intOf]; omega
          · have HG := Lib.hid (gb_head (X := (nv % 18446744073709551616).toNat) ht)
            have HE : Hid (Value.int .u8 (nv / 2 ^ (8 * s) % 256) = .int .u8 (((nv % 18446744073709551616).toNat / 256 ^ s % 256 : Nat) : Int)) := by
              show _ = _
              rw [byte_of nv (by omega)]
            generalize (nv % 18446744073709551616).toNat = X at *
            go_wp2_with (at_builtin; refine wpL_append _ rfl (.tmp 59) (.tmp 65) _ rfl w.heap.size 5 i0 _ 1 1 Tryz.underlying25 hi0 hz0 hz1 hz2 rfl (by omega) _ (N + (WW - (s + 1))) (ints .u8 (L ++ (gb WW X).take (WW - (s + 1)))) rfl (hown3.alloc _) (some ⟨wr.heap.size, 0, none⟩) 1 1 [.int .u8 (nv / 2 ^ (8 * s) % 256)] rfl rfl (Rd.of_new wr [.int .u8 (nv / 2 ^ (8 * s) % 256)] 5) (by intro u hu; simp at hu; subst hu; rfl) (by unfold maxLen; omega) (by omega) (by have := hB3.size; simp; omega) ?_; intro v1 w4 hown4 hg4 hat4)
            have HO : Hid (w4.ownsRow w.heap.size 5 1 v1 (N + (WW - s)) (ints .u8 (L ++ (gb WW X).take (WW - s)))) := by
              show World.ownsRow _ _ _ _ _ _ _
              rw [HG.out, ← List.append_assoc, ints_append]
              rw [HE.out] at hown4
              have e : N + (WW - (s + 1)) + 1 = N + (WW - s) := by omega
              rw [e] at hown4
              exact hown4
            have hB4 : Below w.heap.size w w4 := below_app (hB3.alloc hB3.size _) hg4 (by have := hB3.size; simp; omega) (hown3.alloc _) (Nat.le_refl _)
            clear hown3 hown4 HG HE
            go_wp2
            go_roundw
            case rel =>
              refine ⟨s, by omega, ?_, HO.out, hB4⟩
              rcases s with _ | y
              · exact .inl ⟨rfl, rfl⟩
              · exact .inr ⟨y, rfl, by go_num⟩
            case measure => simp [intOf]
    · obtain rfl : j = ss.length := by omega
      have HN2 : Hid ((putI WW fl ns ss.length).length = N) := by
        show _ = _
        rw [putI_len, hfl, HN.out, ← HM.out]
      obtain ⟨A', cap, rfl, hcap⟩ := own_slice hown
      have HL := Lib.hid (IsL.of_own hown)
      clear hown
      go_wp2
      go_ret2
      exact ⟨hB, _, rfl, HL.out⟩
end Go.Proofs.YtpkhgdnkkdhlcaaGreatDoor

namespace Go.Proofs.YtpkhgdnkkdhlcaaGreatDoor
open Go.RowKit By

theorem parses_ok {s : ByteArray} {n : Int} (hs : s.size ≤ 4000000) (h : Lib.parseIntB 64 s.data.toList = .ok n) : Parses s n := fun W _ =>
  (Tryz.strconv_ParseInt_10_at64_ok s (by omega) n h W).mono fun e w' ⟨he, hw⟩ => by
    refine ⟨?_, _, he⟩
    rcases hw with rfl | ⟨t, rfl⟩
    · exact Below.refl _ _
    · exact Lib.bytesWorld_below _ _ _
theorem parses_none : Parses ⟨#[]⟩ 0 := fun W hW => by
  obtain ⟨_, ⟨ev, hv, he⟩, _⟩ := hW
  refine (Any.strconv_ParseInt_10_at64_syntax Tryz.laysC174 ⟨#[]⟩ (by decide) rfl ev W hv he).mono fun e w' ⟨N, he, _, _, hb⟩ => ⟨hb, _, he⟩

theorem fit1 : Fit16 ⟨#[49]⟩ := ⟨by decide, fun _ => ⟨⟨⟨fun b hb => by simp [Ar.unsign, Ar.isNeg] at hb; subst hb; decide, by decide, by decide⟩, by decide⟩, by decide, 1, by rfl⟩⟩
theorem fit2 : Fit16 ⟨#[]⟩ := ⟨by decide, fun h => absurd rfl h⟩
theorem fit3 : Fit16 ⟨#[45, 50]⟩ := ⟨by decide, fun _ => ⟨⟨⟨fun b hb => by simp [Ar.unsign, Ar.isNeg] at hb; subst hb; decide, by decide, by decide⟩, by decide⟩, by decide, -2, by rfl⟩⟩
def sane3 : List ByteArray := [⟨#[49]⟩, ⟨#[]⟩, ⟨#[45, 50]⟩]
theorem sane_bytes : putI 2 [true, false, true] [1, 0, -2] 3 = [5, 0, 1, 0, 0, 255, 254] := by decide +kernel

set_option maxRecDepth 100000 in
set_option maxHeartbeats 1600000 in
theorem sane_any (w : World) (he : Env w) :
    Calls Tryz.prog 11 #[] w fun e w' => Below w.heap.size w w' ∧ e = .returned (.bool true) := by
  have hr : Rd (w.alloc (.cells (strs sane3).toArray 9)) (w.heap.size + 1) (some ⟨w.heap.size, 0, none⟩) (strs sane3) := Rd.of_new w (strs sane3) 9
  have hfit : ∀ s ∈ sane3, Fit16 s := fun s hs => by
    simp only [sane3, List.mem_cons, List.not_mem_nil, or_false] at hs
    rcases hs with rfl | rfl | rfl
    · exact fit1
    · exact fit2
    · exact fit3
  have hacc := accepted_16 (some ⟨w.heap.size, 0, none⟩) 3 sane3 (w.alloc (.cells (strs sane3).toArray 9)) (by decide) (by simpa using hr) hfit (he.alloc _)
  have hput := puti_any (some ⟨w.heap.size, 0, none⟩) 3 2 sane3 [true, false, true] [1, 0, -2] (w.alloc (.cells (strs sane3).toArray 9)) (by decide) (by decide) (by decide) rfl (by simpa using hr) (he.alloc _) hacc
    (fun i hi => by
      obtain rfl | rfl | rfl : i = 0 ∨ i = 1 ∨ i = 2 := by simp [sane3] at hi; omega
      all_goals (rw [bs_toList]; rfl))
    (fun i hi => by
      obtain rfl | rfl | rfl : i = 0 ∨ i = 1 ∨ i = 2 := by simp [sane3] at hi; omega
      · exact parses_ok (s := ⟨#[49]⟩) (by decide) (by rfl)
      · exact parses_none
      · exact parses_ok (s := ⟨#[45, 50]⟩) (by decide) (by rfl))
  have HP : Hid (Calls Tryz.prog 12 #[.int .i64 2, .slice (some ⟨w.heap.size, 0, none⟩) 3 3] (w.alloc (.cells #[.string ⟨#[49]⟩, .string ⟨#[]⟩, .string ⟨#[45, 50]⟩] 9)) fun e w' => Below (w.alloc (.cells #[.string ⟨#[49]⟩, .string ⟨#[]⟩, .string ⟨#[45, 50]⟩] 9)).heap.size (w.alloc (.cells #[.string ⟨#[49]⟩, .string ⟨#[]⟩, .string ⟨#[45, 50]⟩] 9)) w' ∧ ∃ v, e = .returned (.tuple #[v, .int .i64 0]) ∧ IsL w' w'.heap.size .u8 v [5, 0, 1, 0, 0, 255, 254]) := by
    rw [show sane3.length = 3 from rfl, show 2 ^ (2 - 1) = 2 from rfl, sane_bytes] at hput
    exact hput
  clear hput hacc hr hfit
  go_enter Tryz.func11, Tryz.ntmps11
  go_wp2_with fail
  refine HP.out.mono ?_
  rintro e w1 ⟨hb1, v, rfl, hv⟩
  obtain ⟨A, c, rfl, hc, hrd⟩ := hv
  have hB := (below_alloc w (.cells #[.string ⟨#[49]⟩, .string ⟨#[]⟩, .string ⟨#[45, 50]⟩] 9)).trans (hb1.mono (by simp))
  obtain ⟨ad, rfl, _, g0⟩ := hrd.int (j := 0) (by decide)
  obtain ⟨ad2, h2, _, g2⟩ := hrd.int (j := 2) (by decide)
  obtain ⟨ad5, h5, _, g5⟩ := hrd.int (j := 5) (by decide)
  obtain ⟨ad6, h6, _, g6⟩ := hrd.int (j := 6) (by decide)
  injection h2 with h2
  injection h5 with h5
  injection h6 with h6
  subst h2 h5 h6
  rw [addr_zero] at g0
  simp only [List.getD_cons_zero, List.getD_cons_succ] at g0 g2 g5 g6
  rw [show ad.add 2 = ⟨ad.block, ad.off + 2, none⟩ from rfl] at g2
  rw [show ad.add 5 = ⟨ad.block, ad.off + 5, none⟩ from rfl] at g5
  rw [show ad.add 6 = ⟨ad.block, ad.off + 6, none⟩ from rfl] at g6
  clear hb1 HP hrd
  go_wp2
  go_ret
  exact ⟨hB, rfl⟩
end Go.Proofs.YtpkhgdnkkdhlcaaGreatDoor
