/-
  Walks: the reference's integers as bits.
  Walks: the bytes of a value (the reference's element).
  Walks: the bytes of values (the reference's Put).
  Walks: the bytes of values (Put of the program).
  Walks: the bytes of values (Put of the program, all types).
  Walks: bytes are the same (slices.Equal).
  Walks: the integer of bytes in two's complement (package codec).
  Walks: the integer in the first bytes (codec.integer).
  Plain: the values of bytes (package codec, Get), and that they are read back.
  Plain: the values of bytes, case by case; what the reference reads answers as the program's.
  Walks: the values of bytes (codec.Get).
-/
import Derived.Test.YtpkhgdnkkdhlcaaGreatDoorFtX
import Derived.Test.YtpkhgdnkkdhlcaaGreatDoorCodX
import Derived.Test.YtpkhgdnkkdhlcaaGreatDoorApS
import Derived.Test.YtpkhgdnkkdhlcaaGreatDoorRdS
import Derived.Test.YtpkhgdnkkdhlcaaGreatDoorSanX
import Derived.Test.YtpkhgdnkkdhlcaaGreatDoorCvG
import Derived.Test.YtpkhgdnkkdhlcaaGreatDoorStpA
namespace Go.Proofs.YtpkhgdnkkdhlcaaGreatDoor
open Go.RowKit Ar

def stD (n : Nat) (b : UInt8) : Nat := if b.toNat = 45 then n else 10 * n + (b.toNat - 48)
theorem wrap_u64n (z : Int) : IntKind.u64.wrap z = z % 18446744073709551616 := by
  unfold IntKind.wrap; simp [IntKind.signed, IntKind.bits]
/-- The number of a text's digits. -/
def dgN (l : List UInt8) : Nat := l.foldl stD 0
theorem stD_ge (n : Nat) (b : UInt8) : n ≤ stD n b := by unfold stD; split <;> omega
theorem fold_ge : ∀ (l : List UInt8) (n : Nat), n ≤ l.foldl stD n
  | [], _ => Nat.le_refl _
  | b :: l, n => Nat.le_trans (stD_ge n b) (fold_ge l _)
theorem dgN_take (l : List UInt8) {j : Nat} (h : j < l.length) : dgN (l.take (j + 1)) = stD (dgN (l.take j)) l[j] := by
  unfold dgN
  rw [List.take_succ_eq_append_getElem h, List.foldl_append]; rfl
theorem dgN_le (l : List UInt8) (j : Nat) : dgN (l.take j) ≤ dgN l := by
  have h : dgN l = (l.drop j).foldl stD (dgN (l.take j)) := by
    unfold dgN
    rw [← List.foldl_append, List.take_append_drop]
  rw [h]
  exact fold_ge _ _
theorem fold_digs : ∀ (D : List UInt8) (acc n : Nat), Lib.decFrom acc D = some n → D.foldl stD acc = n
  | [], acc, n, h => by simp [Lib.decFrom] at h; exact h
  | b :: D, acc, n, h => by
    unfold Lib.decFrom Lib.digitVal at h
    by_cases hd : 48 ≤ b.toNat ∧ b.toNat ≤ 57
    · rw [if_pos hd] at h
      simp only at h
      have := fold_digs D _ _ h
      show D.foldl stD (stD acc b) = n
      rw [← this]
      congr 1
      unfold stD
      rw [if_neg (by omega), Nat.mul_comm]
    · rw [if_neg hd] at h; cases h
theorem dgN_rat {q : Rat} (hd : q.den = 1) : dgN (ratText q) = q.num.natAbs := by
  unfold ratText
  rw [if_pos hd, List.append_nil]
  have h := fold_digs (Lib.decDigits q.num.natAbs) 0 _ (decFrom_decDigits _)
  split
  · exact h
  · exact h
theorem rat_chars {q : Rat} (hd : q.den = 1) : ∀ b ∈ ratText q, b.toNat = 45 ∨ (48 ≤ b.toNat ∧ b.toNat ≤ 57) := by
  intro b hb
  unfold ratText at hb
  rw [if_pos hd, List.append_nil] at hb
  rcases List.mem_append.1 hb with h | h
  · split at h
    · rw [List.mem_singleton] at h; subst h; exact .inl rfl
    · cases h
  · exact .inr (digs_decDigits _ b h)
theorem rat_first {q : Rat} (hd : q.den = 1) (h : 0 < (ratText q).length) : ((ratText q)[0].toNat = 45 ↔ q < 0) := by
  obtain ⟨c, r, hcr, c1, c2⟩ := decDigits_head q.num.natAbs
  by_cases hs : q < 0
  · have e : ratText q = 45 :: Lib.decDigits q.num.natAbs := by unfold ratText; rw [if_pos hs, if_pos hd, List.append_nil]; rfl
    simp only [e, List.getElem_cons_zero]
    exact ⟨fun _ => hs, fun _ => rfl⟩
  · have e : ratText q = c :: r := by unfold ratText; rw [if_neg hs, if_pos hd, List.append_nil, List.nil_append, hcr]
    simp only [e, List.getElem_cons_zero]
    exact ⟨fun h => by omega, fun h => absurd h hs⟩

set_option maxRecDepth 100000 in
set_option maxHeartbeats 1600000 in
theorem rint64_any (s : ByteArray) (q : Rat) (w : World) (hs : s.data.toList = ratText q) (hd : q.den = 1) (hb : q.num.natAbs ≤ 9223372036854775808) (hz : s.size ≤ 1000) :
    Calls Tryz.prog 71 #[.string s] w fun e w' => w = w' ∧ e = .returned (.int .u64 (q.num % 18446744073709551616)) := by
  have hlen : s.size = (ratText q).length := by rw [← hs, size_list']
  have hpos : 0 < (ratText q).length := by
    refine List.length_pos_iff.2 fun e => ?_
    unfold ratText at e
    exact decDigits_ne _ (List.append_eq_nil_iff.1 (List.append_eq_nil_iff.1 e).2).1
  have hs0 : 0 < s.size := by omega
  have HC : Hid (∀ (i : Nat) (hi : i < s.size), s[i].toNat = 45 ∨ (48 ≤ s[i].toNat ∧ s[i].toNat ≤ 57)) := fun i hi => by
    refine rat_chars hd s[i] ?_
    rw [← hs]
    exact bytes_at' s i hi
  have HT : Hid (∀ (i : Nat) (hi : i < s.size), dgN (s.data.toList.take (i + 1)) = stD (dgN (s.data.toList.take i)) s[i]) := fun i hi => dgN_take _ (by rw [size_list']; exact hi)
  have HL : Hid (∀ i, dgN (s.data.toList.take i) ≤ 9223372036854775808) := fun i => by
    have h1 := dgN_le s.data.toList i
    rw [hs, dgN_rat hd] at h1
    rw [hs]
    omega
  have HE : Hid (dgN (s.data.toList.take s.size) = q.num.natAbs) := by
    show _ = _
    rw [List.take_of_length_le (by rw [size_list']; exact Nat.le_refl _), hs, dgN_rat hd]
  have hf : s[0].toNat = 45 ↔ q < 0 := by
    have h := rat_first hd hpos
    have e : s[0] = (ratText q)[0] := by
      have e1 : s[0] = s.data.toList[0]'(by rw [size_list']; exact hs0) := rfl
      rw [e1]
      simp only [hs]
    rw [e]; exact h
  obtain ⟨R, hR⟩ : ∃ R, R = q.num % 18446744073709551616 := ⟨_, rfl⟩
  rw [← hR]
  have HR := Lib.hid hR
  have HB := Lib.hid hb
  have hq := num_neg_iff (q := q)
  clear hR hs hlen hpos hb
  by_cases hn : q < 0
  · have f1 := hf.2 hn
    have f2 := hq.2 hn
    go_enter Tryz.func71, Tryz.ntmps71
    go_wp2_with fail
    go_loop [4, 5] (fun nv iv => ∃ j : Nat, j ≤ s.size ∧ iv = .int .i64 j ∧ nv = .int .u64 (dgN (s.data.toList.take j) : Nat)) (fun _ iv => s.size - (intOf iv).toNat)
    case atStart => exact ⟨0, Nat.zero_le _, rfl, rfl⟩
    case round =>
      obtain ⟨j, hj, rfl, rfl⟩ := hrel
      rcases Nat.lt_or_ge j s.size with hlt | hge
      · have hc := HC.out j hlt
        have ht := HT.out j hlt
        have hl := HL.out (j + 1)
        rcases hc with hc | ⟨hc1, hc2⟩
        · have ht' : dgN (s.data.toList.take (j + 1)) = dgN (s.data.toList.take j) := by rw [ht]; unfold stD; rw [if_pos hc]
          have HTT := Lib.hid ht'
          clear ht ht' hl
          generalize dgN (s.data.toList.take j) = d at *
          go_wp2
          go_round
          case rel => exact ⟨j + 1, by omega, by go_num, by rw [HTT.out]⟩
          case measure => simp [intOf]; omega
        · have hcn : ¬ s[j].toNat = 45 := by omega
          have ht' : dgN (s.data.toList.take (j + 1)) = 10 * dgN (s.data.toList.take j) + (s[j].toNat - 48) := by rw [ht]; unfold stD; rw [if_neg hcn]
          rw [ht'] at hl
          have HTT := Lib.hid ht'
          clear ht ht'
          generalize dgN (s.data.toList.take j) = d at *
          go_wp2
          go_round
          case rel => exact ⟨j + 1, by omega, by go_num, by rw [HTT.out]; congr 1; omega⟩
          case measure => simp [intOf]; omega
      · obtain rfl : j = s.size := by omega
        have hN := HE.out
        have hzn : q.num = -(q.num.natAbs : Int) := by omega
        have hRR : IntKind.u64.wrap (-(q.num.natAbs : Int)) = R := by rw [wrap_u64n, HR.out, ← hzn]
        have HW := Lib.hid hRR
        have hBB := HB.out
        rw [hN]
        clear hzn hRR HR HE HL hN hq hf f2 hn
        generalize q.num.natAbs = n at *
        go_wp2
        go_ret
        exact ⟨rfl, by rw [← HW.out]; rfl⟩
  · have f1 : ¬ s[0].toNat = 45 := fun h => hn (hf.1 h)
    have f2 : ¬ q.num < 0 := fun h => hn (hq.1 h)
    go_enter Tryz.func71, Tryz.ntmps71
    go_wp2_with fail
    go_loop [4, 5] (fun nv iv => ∃ j : Nat, j ≤ s.size ∧ iv = .int .i64 j ∧ nv = .int .u64 (dgN (s.data.toList.take j) : Nat)) (fun _ iv => s.size - (intOf iv).toNat)
    case atStart => exact ⟨0, Nat.zero_le _, rfl, rfl⟩
    case round =>
      obtain ⟨j, hj, rfl, rfl⟩ := hrel
      rcases Nat.lt_or_ge j s.size with hlt | hge
      · have hc := HC.out j hlt
        have ht := HT.out j hlt
        have hl := HL.out (j + 1)
        rcases hc with hc | ⟨hc1, hc2⟩
        · have ht' : dgN (s.data.toList.take (j + 1)) = dgN (s.data.toList.take j) := by rw [ht]; unfold stD; rw [if_pos hc]
          have HTT := Lib.hid ht'
          clear ht ht' hl
          generalize dgN (s.data.toList.take j) = d at *
          go_wp2
          go_round
          case rel => exact ⟨j + 1, by omega, by go_num, by rw [HTT.out]⟩
          case measure => simp [intOf]; omega
        · have hcn : ¬ s[j].toNat = 45 := by omega
          have ht' : dgN (s.data.toList.take (j + 1)) = 10 * dgN (s.data.toList.take j) + (s[j].toNat - 48) := by rw [ht]; unfold stD; rw [if_neg hcn]
          rw [ht'] at hl
          have HTT := Lib.hid ht'
          clear ht ht'
          generalize dgN (s.data.toList.take j) = d at *
          go_wp2
          go_round
          case rel => exact ⟨j + 1, by omega, by go_num, by rw [HTT.out]; congr 1; omega⟩
          case measure => simp [intOf]; omega
      · obtain rfl : j = s.size := by omega
        have hN := HE.out
        have hzn : q.num = (q.num.natAbs : Int) := by omega
        have hRR : (q.num.natAbs : Int) = R := by rw [HR.out, ← hzn]; have := HB.out; omega
        have HW := Lib.hid hRR
        have hBB := HB.out
        rw [hN]
        clear hzn hRR HR HE HL hN hq hf f2 hn
        generalize q.num.natAbs = n at *
        go_wp2
        go_ret
        exact ⟨rfl, by rw [← HW.out]; rfl⟩
end Go.Proofs.YtpkhgdnkkdhlcaaGreatDoor

namespace Go.Proofs.YtpkhgdnkkdhlcaaGreatDoor
open Go.RowKit Ar By

theorem Tryz.pub_info : (Tryz.prog.info? 5).map (fun i => (i.zero, i.size, i.bytes)) = some (some (.int .u8 0), 1, 1) := by kernel_rfl
def byN (s : ByteArray) : List Nat := s.data.toList.map UInt8.toNat
theorem byN_len (s : ByteArray) : (byN s).length = s.size := by unfold byN; rw [List.length_map]; rfl
theorem byc_ints (s : ByteArray) : byc s = ints .u8 (byN s) := by unfold byc byN ints; rw [List.map_map]; rfl
/-- A value's bytes. -/
noncomputable def elB (k : Int) (s : ByteArray) : List Nat :=
  if k = 5 then (if s.toList.isEmpty = true then [] else s.size :: byN s) else gb (2 ^ (k - 1).toNat) (if s.toList.isEmpty = true then 0 else ((textRat s.data.toList).num % 18446744073709551616).toNat)
theorem elB_len {k : Int} {s : ByteArray} (hk : typB k = true) (hf : fitK k s = true) : (elB k s).length ≤ 83 := by
  unfold elB
  split
  · split
    · exact Nat.zero_le _
    · rename_i h
      have he : s.toList.isEmpty = false := by simpa using h
      have hn : numB s = true := by
        cases hb : numB s with
        | true => rfl
        | false => rw [fitK_num he hb] at hf; cases hf
      have := isNum_len ((numB_iff s).1 hn)
      rw [size_list'] at this
      rw [List.length_cons, byN_len]
      omega
  · rw [gb_len]
    rcases typB_true hk with rfl | rfl | rfl | rfl | rfl <;> decide

set_option maxRecDepth 100000 in
set_option maxHeartbeats 3200000 in
theorem relem_any (k : Int) (s : ByteArray) (w : World) (hk : typB k = true) (hf : fitK k s = true) :
    Calls Tryz.prog 35 #[.int .i64 k, .string s] w fun e w' => Below w.heap.size w w' ∧ ∃ A c, e = .returned (.slice A (elB k s).length c) ∧ Rd w' w'.heap.size A (ints .u8 (elB k s)) := by
  obtain ⟨i0, hi0, hz0, hz1, hz2⟩ := info_parts Tryz.pub_info
  by_cases h5 : k = 5
  · subst h5
    cases hE : s.toList.isEmpty
    · have hn : s.toList ≠ [] := fun e => by rw [e] at hE; cases hE
      have hnum : numB s = true := by
        cases hb : numB s with
        | true => rfl
        | false => rw [fitK_num hE hb] at hf; cases hf
      have hsz : s.size ≤ 82 := by
        have := isNum_len ((numB_iff s).1 hnum)
        rw [size_list'] at this
        omega
      have e : elB 5 s = s.size :: byN s := by unfold elB; rw [if_pos rfl, if_neg (by rw [hE]; decide)]
      have HR : Hid (ints .u8 (elB 5 s) = [.int .u8 (s.size : Int)] ++ byc s) := by show _ = _; rw [e, byc_ints]; rfl
      have HLen : Hid ((elB 5 s).length = 1 + s.size) := by show _ = _; rw [e, List.length_cons, byN_len, Nat.add_comm]
      clear hf hnum hk e
      have hw8 : IntKind.u8.wrap (s.size : Int) = (s.size : Int) := wrap_u8 (by omega)
      go_enter Tryz.func35, Tryz.ntmps35
      have hown0 : (w.alloc (.cells #[.int .u8 (s.size : Int)] 5)).ownsRow w.heap.size 5 1 (.slice (some ⟨w.heap.size, 0, none⟩) 1 1) 1 [.int .u8 (s.size : Int)] := by
        have := (Bk.new w 5 #[.int .u8 (s.size : Int)]).own (base := w.heap.size) (size := 1) (n := 1) (cap := 1) (Nat.le_refl _) (Nat.le_refl _) (by unfold maxLen; omega) (by simp)
        simpa using this
      go_wp2_with (at_builtin; refine wpL_append_str _ rfl (.tmp 13) (.tmp 14) _ _ rfl w.heap.size 5 i0 _ 1 Tryz.underlying25 Tryz.underlying9 hi0 hz0 hz1 hz2 rfl _ 1 _ rfl hown0 s rfl (by unfold maxLen; omega) (by omega) (by simp) ?_; intro v1 w1 hown1 hg1)
      obtain ⟨A, c, rfl, -⟩ := own_slice hown1
      have hB := below_app ((Below.refl w.heap.size w).alloc (Nat.le_refl _) (.cells #[.int .u8 (s.size : Int)] 5)) hg1 (by simp) hown0 (Nat.le_refl _)
      go_ret
      refine ⟨hB, A, c, by rw [HLen.out]; rfl, ?_⟩
      rw [HR.out]
      exact Rd.of_own hown1
    · have hn : s.toList = [] := List.isEmpty_iff.1 hE
      have e : elB 5 s = [] := by unfold elB; rw [if_pos rfl, if_pos hE]
      rw [e]
      clear hf hk e
      go_enter Tryz.func35, Tryz.ntmps35
      go_wp2
      go_ret
      exact ⟨Below.refl _ _, none, 0, rfl, fun hn => absurd rfl hn⟩
  have hk4 : k = 1 ∨ k = 2 ∨ k = 3 ∨ k = 4 := by
    rcases typB_true hk with h | h | h | h | h
    · exact .inl h
    · exact .inr (.inl h)
    · exact .inr (.inr (.inl h))
    · exact .inr (.inr (.inr h))
    · exact absurd h h5
  obtain ⟨W, hW⟩ : ∃ W : Nat, W = 2 ^ (k - 1).toNat := ⟨_, rfl⟩
  have hwid : widR k = (W : Int) := by
    rw [hW]
    rcases hk4 with rfl | rfl | rfl | rfl <;> rfl
  have hW8 : W ≤ 8 := by
    rw [hW]
    rcases hk4 with rfl | rfl | rfl | rfl <;> decide
  have WD := Lib.hid (fun W => rwid_any k W)
  rw [hwid] at WD
  cases hE : s.toList.isEmpty
  · have hn : s.toList ≠ [] := fun e => by rw [e] at hE; cases hE
    have hnum : numB s = true := by
      cases hb : numB s with
      | true => rfl
      | false => rw [fitK_num hE hb] at hf; cases hf
    have hfz := (intB_iff k s).1 ((fitK_int hk h5 hE hnum).symm.trans hf)
    obtain ⟨q1, q2, q3⟩ := hfz
    have hH : ((2 ^ (bitN k - 1) : Nat) : Int) ≤ 9223372036854775808 := by
      rcases hk4 with rfl | rfl | rfl | rfl <;> decide
    have hsz : s.size ≤ 82 := by
      have := isNum_len ((numB_iff s).1 hnum)
      rw [size_list'] at this
      omega
    obtain ⟨X, hX⟩ : ∃ X : Nat, X = ((textRat s.data.toList).num % 18446744073709551616).toNat := ⟨_, rfl⟩
    have hXi : (textRat s.data.toList).num % 18446744073709551616 = (X : Int) := by omega
    have hXl : X < 2 ^ 64 := by
      have : (2 : Nat) ^ 64 = 18446744073709551616 := by decide
      omega
    have I64 := Lib.hid (fun W => rint64_any s (textRat s.data.toList) W (num_text hnum).symm q1 (by omega) (by omega))
    rw [hXi] at I64
    have e : elB k s = gb W X := by unfold elB; rw [if_neg h5, if_neg (by rw [hE]; decide), ← hW, ← hX]
    rw [e]
    have NB := Lib.hid (fun V => rnumber_any W X V hW8 hXl)
    have hgl := gb_len W X
    have h5' : ¬ k = 5 := h5
    clear hf hnum hk e hk4 hwid hW q1 q2 q3 hH hX hXi
    go_enter Tryz.func35, Tryz.ntmps35
    go_wp2_with fail
    refine (I64.out w).mono ?_
    rintro e w1 ⟨rfl, rfl⟩
    go_wp2_with fail
    refine (WD.out w).mono ?_
    rintro e w1 ⟨rfl, rfl⟩
    go_wp2_with fail
    refine (NB.out w).mono ?_
    rintro e w1 ⟨hb1, v, rfl, hown⟩
    obtain ⟨A, c, rfl, -⟩ := own_slice hown
    have hrd := Rd.of_own hown
    clear hown
    go_wp2
    go_ret
    exact ⟨hb1, A, c, by rw [hgl]; rfl, hrd⟩
  · have hn : s.toList = [] := List.isEmpty_iff.1 hE
    have e : elB k s = gb W 0 := by unfold elB; rw [if_neg h5, if_pos hE, ← hW]
    rw [e]
    have NB := Lib.hid (fun V => rnumber_any W 0 V hW8 (by decide))
    have hgl := gb_len W 0
    have h5' : ¬ k = 5 := h5
    clear hf hk e hk4 hwid hW
    go_enter Tryz.func35, Tryz.ntmps35
    go_wp2_with fail
    refine (WD.out w).mono ?_
    rintro e w1 ⟨rfl, rfl⟩
    go_wp2_with fail
    refine (NB.out w).mono ?_
    rintro e w1 ⟨hb1, v, rfl, hown⟩
    obtain ⟨A, c, rfl, -⟩ := own_slice hown
    have hrd := Rd.of_own hown
    clear hown
    go_wp2
    go_ret
    exact ⟨hb1, A, c, by rw [hgl]; rfl, hrd⟩
end Go.Proofs.YtpkhgdnkkdhlcaaGreatDoor

namespace Go.Proofs.YtpkhgdnkkdhlcaaGreatDoor
open Go.RowKit Ar By

def flg (L : List ByteArray) : List Bool := L.map fun s => !s.toList.isEmpty
theorem flg_len (L : List ByteArray) : (flg L).length = L.length := List.length_map _
theorem flg_at {L : List ByteArray} {i : Nat} (h : i < L.length) : (flg L).getD i false = !L[i].toList.isEmpty := by
  unfold flg
  rw [List.getD_eq_getElem?_getD, List.getElem?_map, List.getElem?_eq_getElem h]; rfl
/-- The bytes of values. -/
noncomputable def putB (k : Int) (L : List ByteArray) : List Nat := bm (flg L) L.length ++ L.flatMap (elB k)
theorem flat_len {f : ByteArray → List Nat} : ∀ L : List ByteArray, (∀ s ∈ L, (f s).length ≤ 83) → (L.flatMap f).length ≤ L.length * 83
  | [], _ => Nat.zero_le _
  | s :: L, h => by
    rw [List.flatMap_cons, List.length_append, List.length_cons]
    have h1 := h s List.mem_cons_self
    have h2 := flat_len L fun x hx => h x (List.mem_cons_of_mem _ hx)
    omega

set_option maxRecDepth 100000 in
set_option maxHeartbeats 3200000 in
theorem rcput_any (k : Int) (A : Option Addr) (c : Nat) (L : List ByteArray) (w : World) (h : Rd w w.heap.size A (strs L)) (hL : L.length ≤ 1000000) (hs : ∀ s ∈ L, s.size ≤ 4000000) :
    Calls Tryz.prog 13 #[.int .i64 k, .slice A L.length c] w fun e w' => Below w.heap.size w w' ∧ ∃ v, e = .returned (.tuple #[v, .int .i64 (accE k L)]) ∧ IsL w' w'.heap.size .u8 v (if accE k L = 0 then putB k L else []) := by
  obtain ⟨i0, hi0, hz0, hz1, hz2⟩ := info_parts Tryz.pub_info
  have UW := Lib.hid (unwell_any k A c L w h hL hs)
  by_cases ha : accE k L = 0
  rotate_left
  · rw [if_neg ha]
    generalize accE k L = g at *
    have hg' : (g != 0) = true := by simp [ha]
    clear h hs
    go_enter Tryz.func13, Tryz.ntmps13
    go_wp2_with fail
    refine UW.out.mono ?_
    rintro e w1 ⟨hb1, rfl⟩
    go_wp2
    go_ret2
    exact ⟨hb1, _, rfl, none, 0, rfl, Nat.le_refl _, fun hn => absurd rfl hn⟩
  rw [if_pos ha]
  obtain ⟨hty, hl4, hall⟩ := accE_zero ha
  have EL := Lib.hid (fun s (hm : s ∈ L) W => relem_any k s W hty (List.all_eq_true.1 hall s hm))
  have HEL : Hid (∀ s ∈ L, (elB k s).length ≤ 83) := fun s hm => elB_len hty (List.all_eq_true.1 hall s hm)
  have HFL : Hid (∀ j, ((L.take j).flatMap (elB k)).length ≤ j * 83) := fun j => by
    refine Nat.le_trans (flat_len (L.take j) fun s hm => HEL.out s (List.mem_of_mem_take hm)) ?_
    have : (L.take j).length ≤ j := by rw [List.length_take]; omega
    exact Nat.mul_le_mul_right _ this
  have HFG := Lib.hid (fun i (hi : i < L.length) => flg_at hi)
  have hfl := flg_len L
  obtain ⟨fl, hfle⟩ : ∃ f, f = flg L := ⟨_, rfl⟩
  rw [← hfle] at HFG hfl
  obtain ⟨PB, hPB⟩ : ∃ P, P = putB k L := ⟨_, rfl⟩
  rw [← hPB]
  have HPB : Hid (PB = bm fl L.length ++ (L.take L.length).flatMap (elB k)) := by show _ = _; rw [hPB, List.take_length, hfle]; rfl
  rw [ha] at UW ⊢
  obtain ⟨m, hm8⟩ : ∃ m, m = (L.length + 7) / 8 := ⟨_, rfl⟩
  have hmk := make_ints (P := Tryz.prog) 25 5 i0 .u8 Tryz.underlying25 hi0 hz0 hz1 (by omega) .i64 .i64 m (((L.length : Int) + 7) / 8) (by omega) (by omega)
  have HM := Lib.hid hm8
  have hm512 : m ≤ 512 := by omega
  clear hm8 ha hty hall hs hPB hfle
  go_enter Tryz.func13, Tryz.ntmps13
  go_wp2_with fail
  refine UW.out.mono ?_
  rintro e w1 ⟨hb1, rfl⟩
  have hB0 : Below w.heap.size w (w1.alloc (.cells (ints .u8 (List.replicate m 0)).toArray 5)) := hb1.alloc hb1.size _
  have hown0 : (w1.alloc (.cells (ints .u8 (List.replicate m 0)).toArray 5)).ownsRow w.heap.size 5 1 (.slice (some ⟨w1.heap.size, 0, none⟩) m m) m (ints .u8 (List.replicate m 0)) := by
    have := (Bk.new w1 5 (ints .u8 (List.replicate m 0)).toArray).own (base := w.heap.size) (size := 1) (n := m) (cap := m) hb1.size (Nat.le_refl _) (by unfold maxLen; omega) (by simp [ints_length])
    rw [Nat.mul_one, List.toList_toArray, List.take_of_length_le (by simp [ints_length])] at this
    exact this
  have hbm0 : bm fl 0 = List.replicate m 0 := by rw [bm, hfl, HM.out]
  rw [← hbm0] at hown0
  rw [hbm0] at hown0
  clear UW hb1
  go_wp2_with fail
  generalize w1.alloc (.cells (ints .u8 (List.replicate m 0)).toArray 5) = w2 at *
  generalize w1.heap.size = g0 at *
  rw [← hbm0] at hown0
  clear hmk hbm0
  go_loopw [8] (fun i wr => ∃ j : Nat, j ≤ L.length ∧ i = .int .i64 j ∧ wr.ownsRow w.heap.size 5 1 (.slice (some ⟨g0, 0, none⟩) m m) m (ints .u8 (bm fl j)) ∧ Below w.heap.size w wr) (fun i _ => L.length - (intOf i).toNat)
  case atStart => exact ⟨0, Nat.zero_le _, rfl, hown0, hB0⟩
  case round =>
    clear hown0 hB0
    obtain ⟨j, hj, rfl, hown, hB⟩ := hrel
    by_cases hlt : j < L.length
    · obtain ⟨ad, rfl, hab, hcell⟩ := (h.below hB).str hlt
      have hjm : j / 8 < m := by have := HM.out; omega
      have hfj := HFG.out j hlt
      have HBM : Hid (bm fl (j + 1) = if fl.getD j false = true then putbit (bm fl j) j else bm fl j) := rfl
      have b1 : (0 : Int) ≤ (j : Int) := by omega
      have b2 : (j : Int) < (L.length : Int) := by omega
      generalize L[j] = s at *
      cases hs : s.toList.isEmpty
      · have hn : s.toList ≠ [] := fun e => by rw [e] at hs; cases hs
        rw [hs, Bool.not_false] at hfj
        have HB1 : Hid (bm fl (j + 1) = putbit (bm fl j) j) := by show _ = _; rw [HBM.out, if_pos hfj]
        obtain ⟨g, cap, hv, hg, hcap, hcm, hrow⟩ := Row.of_own hown (by omega)
        cases hv
        have hc0 := hrow.cell (i := j / 8) (by rw [bm_len, hfl]; have := HM.out; omega)
        have hf0 := hrow.frozen (j / 8)
        clear hrow
        have hob0 := (bm_bytes fl j).at_ (j / 8)
        generalize hold : (bm fl j).getD (j / 8) 0 = old at *
        have HOL := Lib.hid hold
        clear hold
        go_wp2
        have x1 : IntKind.i64.wrap ((j : Int) / 8) = (j : Int) / 8 := IntWalk.i64_in _ (by omega)
        have x2 : ((j : Int) / 8).toNat = j / 8 := by omega
        have x3 : 0 ≤ (j : Int) / 8 := by omega
        have x4 : (j : Int) / 8 < m := by omega
        obtain ⟨t, ht⟩ : ∃ t, t = j % 8 := ⟨_, rfl⟩
        obtain ⟨P, hP⟩ : ∃ P, P = 2 ^ (j % 8) := ⟨_, rfl⟩
        obtain ⟨Q, hQ⟩ : ∃ Q, Q = old ||| P := ⟨_, rfl⟩
        have hPb : P < 256 := by rw [hP]; exact pow_bit j
        have x5 : (j : Int).tmod 8 = (t : Int) := by rw [Int.tmod_eq_emod_of_nonneg (by omega)]; omega
        have x6 : (t : Int) ≤ 8 := by omega
        have x7 : 0 ≤ (t : Int) := by omega
        have x9 : IntKind.u8.wrap ((2 : Int) ^ t) = (P : Int) := by
          have e1 : ((2 ^ t : Nat) : Int) = (2 : Int) ^ t := by simp
          rw [← e1, ht, ← hP]; exact wrap_u8 hPb
        have x10 : bits .or .u8 (old : Int) (P : Int) = (Q : Int) := by rw [hQ]; exact or_u8 hob0 hPb
        have HPB2 : Hid ((bm fl j).set (j / 8) Q = putbit (bm fl j) j) := by show _ = _; unfold putbit; rw [HOL.out, hQ, hP]
        clear ht hP hQ hPb hob0
        go_still_tail 13, (by kernel_rfl)
        have hown1 := own_put hown (j / 8) Q
        rw [HPB2.out, ← HB1.out] at hown1
        have hB1 : Below w.heap.size w (wr.setCell ⟨g0, j / 8, none⟩ (.int .u8 (Q : Int))) := hB.setCell (by exact hg) _
        clear x1 x2 x3 x4 x5 x6 x7 x9 x10 HOL HB1 HBM HPB2 hown hB
        go_wp2
        go_roundw
        case rel => exact ⟨j + 1, by omega, by go_num, hown1.drew, hB1.drew⟩
        case measure => simp [intOf]; omega
      · have hn : s.toList = [] := List.isEmpty_iff.1 hs
        rw [hs, Bool.not_true] at hfj
        have HB1 : Hid (bm fl (j + 1) = bm fl j) := by show _ = _; rw [HBM.out, if_neg (by rw [hfj]; decide)]
        clear HBM
        go_wp2
        go_roundw
        case rel => exact ⟨j + 1, by omega, by go_num, by rw [HB1.out]; exact hown, hB⟩
        case measure => simp [intOf]; omega
    · obtain rfl : j = L.length := by omega
      clear HFG
      generalize bm fl L.length = BM at *
      go_wp2_with fail
      go_loopw [7, 9] (fun v i wr => ∃ j N : Nat, j ≤ L.length ∧ Hid (N = m + ((L.take j).flatMap (elB k)).length) ∧ i = .int .i64 j ∧ wr.ownsRow w.heap.size 5 1 v N (ints .u8 (BM ++ (L.take j).flatMap (elB k))) ∧ Below w.heap.size w wr) (fun _ i _ => L.length - (intOf i).toNat)
      case atStart => exact ⟨0, m, Nat.zero_le _, rfl, rfl, by simpa using hown, hB⟩
      case round =>
        clear hown hB
        obtain ⟨j, N, hj, HN, rfl, hown, hB⟩ := hrel
        by_cases hlt : j < L.length
        · obtain ⟨ad, rfl, hab, hcell⟩ := (h.below hB).str hlt
          have hmem : L[j] ∈ L := List.getElem_mem _
          have HX : Hid ((L.take (j + 1)).flatMap (elB k) = (L.take j).flatMap (elB k) ++ elB k L[j]) := by
            show _ = _
            rw [List.take_succ_eq_append_getElem hlt, List.flatMap_append]; simp
          have EJ := Lib.hid (EL.out L[j] hmem)
          have hel := HEL.out L[j] hmem
          have hN := HN.out
          have hfn := HFL.out j
          have hN6 : N ≤ 400000 := by omega
          have b1 : (0 : Int) ≤ (j : Int) := by omega
          have b2 : (j : Int) < (L.length : Int) := by omega
          clear hN hfn hmem EL HEL
          generalize L[j] = s at *
          generalize elB k s = eb at *
          obtain ⟨uA, uc, rfl, -⟩ := own_slice hown
          go_wp2_with fail
          refine (EJ.out wr).mono ?_
          rintro e w5 ⟨hb5, A5, c5, rfl, hrd⟩
          have hown5 := own_next hown hb5
          have hB5 := hB.trans (hb5.mono hB.size)
          have hone : ∀ u ∈ ints .u8 eb, u.oneCell' = true := by
            intro u hu; simp [ints] at hu; obtain ⟨x, _, rfl⟩ := hu; rfl
          clear hown hB hb5
          go_wp2_with (at_builtin; refine wpL_append _ rfl (.tmp 51) (.tmp 57) _ rfl w.heap.size 5 i0 _ 1 1 Tryz.underlying25 hi0 hz0 hz1 hz2 rfl (by omega) _ N _ rfl hown5 A5 eb.length c5 (ints .u8 eb) rfl (by rw [ints_length, Nat.mul_one]) hrd hone (by unfold maxLen; omega) (by omega) hB5.size ?_; intro v7 w7 hown7 hg7 hat7)
          have hB7 := below_app hB5 hg7 hB5.size hown5 (Nat.le_refl _)
          have HO : Hid (w7.ownsRow w.heap.size 5 1 v7 (N + eb.length) (ints .u8 (BM ++ (L.take (j + 1)).flatMap (elB k)))) := by
            show World.ownsRow _ _ _ _ _ _ _
            rw [HX.out, ← List.append_assoc, ints_append]
            exact hown7
          have HN2 : Hid (N + eb.length = m + ((L.take (j + 1)).flatMap (elB k)).length) := by
            show _ = _
            rw [HX.out, List.length_append, HN.out]; omega
          clear hown5 hown7 hg7 hat7 HX HN hrd hone
          go_wp2
          go_roundw
          case rel => exact ⟨j + 1, _, by omega, HN2.out, by go_num, HO.out, hB7⟩
          case measure => simp [intOf]; omega
        · obtain rfl : j = L.length := by omega
          obtain ⟨uA, uc, rfl, huc⟩ := own_slice hown
          have hlen : (BM ++ (L.take L.length).flatMap (elB k)).length = N := by
            have := hown.1
            rw [ints_length, Nat.mul_one] at this
            exact this
          have hrd := Rd.of_own hown
          rw [← HPB.out] at hlen hrd
          clear hown HN EL HEL HFL HPB
          go_wp2
          go_ret2
          exact ⟨hB, _, rfl, uA, uc, by rw [hlen]; rfl, by omega, hrd⟩
end Go.Proofs.YtpkhgdnkkdhlcaaGreatDoor

namespace Go.Proofs.YtpkhgdnkkdhlcaaGreatDoor
open Go.RowKit Ar By

theorem putbit_flag {fl : List Bool} {i m : Nat} (hm : (fl.length + 7) / 8 = m) (hi : i / 8 < m) (X : List Nat) : (if fl.getD i false = true then putbit (bm fl i ++ X) i else bm fl i ++ X) = bm fl (i + 1) ++ X := by
  rw [bm]
  by_cases h : fl.getD i false = true
  · rw [if_pos h, if_pos h, putbit_left (by rw [bm_len, hm]; exact hi)]
  · rw [if_neg h, if_neg h]

set_option maxRecDepth 100000 in
set_option maxHeartbeats 3200000 in
/-- Numbers of any length. -/
theorem pput5_any (A : Option Addr) (c : Nat) (L : List ByteArray) (w : World) (h : Rd w w.heap.size A (strs L)) (hL : L.length ≤ 4096) (hsz : ∀ s ∈ L, s.size ≤ 82) (PB : List Nat) (hPB : PB = putB 5 L)
    (hacc : Calls Tryz.prog 32 #[.int .i64 5, .slice A L.length c] w fun e w' => Below w.heap.size w w' ∧ e = .returned (.int .i64 0)) :
    Calls Tryz.prog 12 #[.int .i64 5, .slice A L.length c] w fun e w' => Below w.heap.size w w' ∧ ∃ v, e = .returned (.tuple #[v, .int .i64 0]) ∧ IsL w' w'.heap.size .u8 v PB := by
  obtain ⟨i0, hi0, hz0, hz1, hz2⟩ := info_parts Tryz.pub_info
  have HA := Lib.hid hacc
  clear hacc
  have HEE : Hid (∀ s : ByteArray, s.toList.isEmpty = true → elB 5 s = []) := fun s hE => by unfold elB; rw [if_pos rfl, if_pos hE]
  have HEN : Hid (∀ s : ByteArray, s.toList.isEmpty = false → elB 5 s = s.size :: byN s) := fun s hE => by unfold elB; rw [if_pos rfl, if_neg (by rw [hE]; decide)]
  have HS := Lib.hid hsz
  have HFL : Hid (∀ j, ((L.take j).flatMap (elB 5)).length ≤ j * 83) := fun j => by
    refine Nat.le_trans (flat_len (L.take j) fun s hm => ?_) ?_
    · have h1 := HS.out s (List.mem_of_mem_take hm)
      cases hE : s.toList.isEmpty with
      | true => rw [HEE.out s hE]; exact Nat.zero_le _
      | false => rw [HEN.out s hE, List.length_cons, byN_len]; omega
    · have : (L.take j).length ≤ j := by rw [List.length_take]; omega
      exact Nat.mul_le_mul_right _ this
  have HFG := Lib.hid (fun i (hi : i < L.length) => flg_at hi)
  have hfl := flg_len L
  obtain ⟨fl, hfle⟩ : ∃ f, f = flg L := ⟨_, rfl⟩
  rw [← hfle] at HFG hfl
  have HPB : Hid (PB = bm fl L.length ++ (L.take L.length).flatMap (elB 5)) := by show _ = _; rw [hPB, List.take_length, hfle]; rfl
  obtain ⟨m, hm8⟩ : ∃ m, m = (L.length + 7) / 8 := ⟨_, rfl⟩
  have hmk := make_ints (P := Tryz.prog) 25 5 i0 .u8 Tryz.underlying25 hi0 hz0 hz1 (by omega) .i64 .i64 m (((L.length : Int) + 7) / 8) (by omega) (by omega)
  have HM := Lib.hid hm8
  have hm512 : m ≤ 512 := by omega
  have HFM : Hid ((fl.length + 7) / 8 = m) := by show _ = _; rw [hfl, hm8]
  have HWA := Lib.hid (fun W => pwid_any 5 W)
  rw [show widR 5 = 0 from rfl] at HWA
  clear hm8 hsz hPB hfle
  go_enter Tryz.func12, Tryz.ntmps12
  go_wp2_with fail
  refine HA.out.mono ?_
  rintro e w1 ⟨hb1, rfl⟩
  go_wp2_with fail
  refine (HWA.out _).mono ?_
  rintro e w2 ⟨rfl, rfl⟩
  have hB0 : Below w.heap.size w (w1.alloc (.cells (ints .u8 (List.replicate m 0)).toArray 5)) := hb1.alloc hb1.size _
  have hown0 : (w1.alloc (.cells (ints .u8 (List.replicate m 0)).toArray 5)).ownsRow w.heap.size 5 1 (.slice (some ⟨w1.heap.size, 0, none⟩) m m) m (ints .u8 (List.replicate m 0)) := by
    have := (Bk.new w1 5 (ints .u8 (List.replicate m 0)).toArray).own (base := w.heap.size) (size := 1) (n := m) (cap := m) hb1.size (Nat.le_refl _) (by unfold maxLen; omega) (by simp [ints_length])
    rw [Nat.mul_one, List.toList_toArray, List.take_of_length_le (by simp [ints_length])] at this
    exact this
  clear hmk HA HWA
  go_wp2
  go_loopw [7, 29] (fun v i wr => ∃ j N : Nat, j ≤ L.length ∧ Hid (N = m + ((L.take j).flatMap (elB 5)).length) ∧ i = .int .i64 j ∧ wr.ownsRow w.heap.size 5 1 v N (ints .u8 (bm fl j ++ (L.take j).flatMap (elB 5))) ∧ Below w.heap.size w wr) (fun _ i _ => L.length - (intOf i).toNat)
  case atStart =>
    refine ⟨0, m, Nat.zero_le _, rfl, rfl, ?_, hB0⟩
    have : bm fl 0 ++ (L.take 0).flatMap (elB 5) = List.replicate m 0 := by rw [bm, hfl, HM.out]; simp
    rw [this]
    exact hown0
  case round =>
    clear hown0 hB0
    obtain ⟨j, N, hj, HN, rfl, hown, hB⟩ := hrel
    by_cases hlt : j < L.length
    · obtain ⟨ad, rfl, hab, hcell⟩ := (h.below hB).str hlt
      have hjm : j / 8 < m := by have := HM.out; omega
      have hfn := HFL.out j
      have hN1 : N ≤ 400000 := by have := HN.out; omega
      have hjN : j / 8 < N := by have := HN.out; omega
      have hfj := HFG.out j hlt
      have hs82 := HS.out L[j] (List.getElem_mem hlt)
      have HPF := Lib.hid (putbit_flag (i := j) HFM.out hjm ((L.take j).flatMap (elB 5)))
      have HX : Hid ((L.take (j + 1)).flatMap (elB 5) = (L.take j).flatMap (elB 5) ++ elB 5 L[j]) := by
        show _ = _
        rw [List.take_succ_eq_append_getElem hlt, List.flatMap_append]; simp
      have EE := Lib.hid (HEE.out L[j])
      have EN := Lib.hid (HEN.out L[j])
      have b1 : (0 : Int) ≤ (j : Int) := by omega
      have b2 : (j : Int) < (L.length : Int) := by omega
      have hpl : (bm fl j ++ (L.take j).flatMap (elB 5)).length = N := by
        rw [List.length_append, bm_len, HFM.out, HN.out]
      have hpb : Bytes (bm fl j ++ (L.take j).flatMap (elB 5)) ∨ True := .inr trivial
      have hob0 := (bm_bytes fl j).at_ (j / 8)
      have hget : (bm fl j ++ (L.take j).flatMap (elB 5)).getD (j / 8) 0 = (bm fl j).getD (j / 8) 0 := by
        simp [List.getD_eq_getElem?_getD, List.getElem?_append_left (show j / 8 < (bm fl j).length by rw [bm_len, HFM.out]; exact hjm)]
      clear hfn HFG HFL HEE HEN HS hpb
      generalize L[j] = s at *
      generalize (L.take j).flatMap (elB 5) = X at *
      obtain ⟨X1, hX1⟩ : ∃ X1, X1 = (L.take (j + 1)).flatMap (elB 5) := ⟨_, rfl⟩
      rw [← hX1] at HX
      have HXX := Lib.hid hX1
      clear hX1
      cases hs : s.toList.isEmpty
      · have hn : s.toList ≠ [] := fun e => by rw [e] at hs; cases hs
        rw [hs, Bool.not_false] at hfj
        have HPF1 : Hid (putbit (bm fl j ++ X) j = bm fl (j + 1) ++ X) := by show _ = _; rw [← HPF.out, if_pos hfj]
        have hen := EN.out hs
        obtain ⟨g, cap, rfl, hg, hcap, hcm, hrow⟩ := Row.of_own hown (by omega)
        have hc0 := hrow.cell (i := j / 8) (by rw [hpl]; exact hjN)
        have hf0 := hrow.frozen (j / 8)
        clear hrow
        rw [hget] at hc0
        rw [← hget] at hob0
        generalize hold : (bm fl j).getD (j / 8) 0 = old at *
        rw [hget] at hob0
        have HOL := Lib.hid hget
        clear hold hget
        go_wp2
        have x1 : IntKind.i64.wrap ((j : Int) / 8) = (j : Int) / 8 := IntWalk.i64_in _ (by omega)
        have x2 : ((j : Int) / 8).toNat = j / 8 := by omega
        have x3 : 0 ≤ (j : Int) / 8 := by omega
        have x4 : (j : Int) / 8 < N := by omega
        obtain ⟨t, ht⟩ : ∃ t, t = j % 8 := ⟨_, rfl⟩
        obtain ⟨P, hP⟩ : ∃ P, P = 2 ^ (j % 8) := ⟨_, rfl⟩
        obtain ⟨Q, hQ⟩ : ∃ Q, Q = old ||| P := ⟨_, rfl⟩
        have hPb : P < 256 := by rw [hP]; exact pow_bit j
        have x5 : (j : Int).tmod 8 = (t : Int) := by rw [Int.tmod_eq_emod_of_nonneg (by omega)]; omega
        have x6 : (t : Int) ≤ 8 := by omega
        have x7 : 0 ≤ (t : Int) := by omega
        have x9 : IntKind.u8.wrap ((2 : Int) ^ t) = (P : Int) := by
          have e1 : ((2 ^ t : Nat) : Int) = (2 : Int) ^ t := by simp
          rw [← e1, ht, ← hP]; exact wrap_u8 hPb
        have x10 : bits .or .u8 (old : Int) (P : Int) = (Q : Int) := by rw [hQ]; exact or_u8 hob0 hPb
        have HPB2 : Hid ((bm fl j ++ X).set (j / 8) Q = bm fl (j + 1) ++ X) := by show _ = _; rw [← HPF1.out]; unfold putbit; rw [HOL.out, hQ, hP]
        clear ht hP hQ hPb hob0
        go_still_tail 10, (by kernel_rfl)
        have hown1 := own_put hown (j / 8) Q
        rw [HPB2.out] at hown1
        have hB1 : Below w.heap.size w (wr.setCell ⟨g, j / 8, none⟩ (.int .u8 (Q : Int))) := hB.setCell (by exact hg) _
        clear x1 x2 x3 x4 x5 x6 x7 x9 x10 HOL HPF HPF1 HPB2
        have hw8 : IntKind.u8.wrap (s.size : Int) = (s.size : Int) := wrap_u8 (by omega)
        have HXE : Hid (X1 = X ++ s.size :: byN s) := by show _ = _; rw [HX.out, hen]
        clear hen EN EE HX
        have hownL : ((wr.setCell ⟨g, j / 8, none⟩ (.int .u8 (Q : Int))).alloc (.cells #[.int .u8 (s.size : Int)] 5)).drew.ownsRow w.heap.size 5 1 (.slice (some ⟨g, 0, none⟩) N cap) N _ := hown1.alloc (.cells #[.int .u8 (s.size : Int)] 5)
        have hBL : Below w.heap.size w ((wr.setCell ⟨g, j / 8, none⟩ (.int .u8 (Q : Int))).alloc (.cells #[.int .u8 (s.size : Int)] 5)).drew := (hB1.alloc hB1.size _).drew
        have hRd : Rd ((wr.setCell ⟨g, j / 8, none⟩ (.int .u8 (Q : Int))).alloc (.cells #[.int .u8 (s.size : Int)] 5)).drew (wr.heap.size + 1) (some ⟨wr.heap.size, 0, none⟩) [.int .u8 (s.size : Int)] := by
          have h1 := Rd.of_new (wr.setCell ⟨g, j / 8, none⟩ (.int .u8 (Q : Int))) [.int .u8 (s.size : Int)] 5
          rw [show (wr.setCell ⟨g, j / 8, none⟩ (.int .u8 (Q : Int))).heap.size = wr.heap.size by simp [World.setCell]] at h1
          exact h1
        clear hown hB
        go_wp2_with (first | (at_builtin; (refine wpL_append _ rfl (.tmp 69) (.tmp 73) _ rfl w.heap.size 5 i0 _ 1 1 Tryz.underlying25 hi0 hz0 hz1 hz2 rfl (by omega) _ N _ rfl hownL _ 1 1 [.int .u8 (s.size : Int)] rfl rfl hRd (by intro u hu; simp at hu; subst hu; rfl) (by unfold maxLen; omega) (by omega) hBL.size ?_; intro v7 w7 hown7 hg7 hat7; have hB7 := below_app hBL hg7 hBL.size hownL (Nat.le_refl _))) | (at_builtin; (refine wpL_append_str _ rfl (.tmp 75) (.tmp 76) _ _ rfl w.heap.size 5 i0 _ 1 Tryz.underlying25 Tryz.underlying9 hi0 hz0 hz1 hz2 rfl _ (N + 1) _ rfl hown7 s rfl (by unfold maxLen; omega) (by omega) hB7.size ?_; intro v8 w8 hown8 hg8; have hB8 := below_app hB7 hg8 hB7.size hown7 (Nat.le_refl _))))
        have HO : Hid (w8.ownsRow w.heap.size 5 1 v8 (N + 1 + s.size) (ints .u8 (bm fl (j + 1) ++ X1))) := by
          show World.ownsRow _ _ _ _ _ _ _
          have e : ints .u8 (bm fl (j + 1) ++ X1) = ints .u8 (bm fl (j + 1) ++ X) ++ [.int .u8 (s.size : Int)] ++ byc s := by
            rw [HXE.out, byc_ints, ← List.append_assoc, ints_append, List.append_assoc]; rfl
          rw [e]
          exact hown8
        have HN2 : Hid (N + 1 + s.size = m + X1.length) := by
          show _ = _
          rw [HXE.out, List.length_append, List.length_cons, byN_len, HN.out]; omega
        clear hown7 hown8 hownL HXE HN
        go_roundw
        case rel => exact ⟨j + 1, _, by omega, by rw [← HXX.out]; exact HN2, by go_num, by rw [← HXX.out]; exact HO.out, hB8⟩
        case measure => simp [intOf]; omega
      · have hn : s.toList = [] := List.isEmpty_iff.1 hs
        rw [hs, Bool.not_true] at hfj
        have HPF1 : Hid (bm fl (j + 1) ++ X = bm fl j ++ X) := by show _ = _; rw [← HPF.out, if_neg (by rw [hfj]; decide)]
        have HXE : Hid (X1 = X) := by show _ = _; rw [HX.out, EE.out hs, List.append_nil]
        clear HPF HX EE EN hget hob0
        go_wp2
        go_roundw
        case rel => exact ⟨j + 1, N, by omega, by show N = m + _; rw [← HXX.out, HXE.out]; exact HN.out, by go_num, by rw [← HXX.out, HXE.out, HPF1.out]; exact hown, hB⟩
        case measure => simp [intOf]; omega
    · obtain rfl : j = L.length := by omega
      obtain ⟨uA, uc, rfl, huc⟩ := own_slice hown
      have hlen : (bm fl L.length ++ (L.take L.length).flatMap (elB 5)).length = N := by
        have := hown.1
        rw [ints_length, Nat.mul_one] at this
        exact this
      have hrd := Rd.of_own hown
      rw [← HPB.out] at hlen hrd
      clear hown HN HFL HFG HPB HEE HEN HS
      go_wp2
      go_ret2
      exact ⟨hB, _, rfl, uA, uc, by rw [hlen]; rfl, by omega, hrd⟩
end Go.Proofs.YtpkhgdnkkdhlcaaGreatDoor

namespace Go.Proofs.YtpkhgdnkkdhlcaaGreatDoor
open Go.RowKit Ar By

def numI (s : ByteArray) : Int := if s.toList.isEmpty = true then 0 else (textRat s.data.toList).num
theorem ba_nil {s : ByteArray} (h : s.toList.isEmpty = true) : s = ⟨#[]⟩ := by
  have h1 := List.isEmpty_iff.1 h
  rw [bs_toList] at h1
  exact ba_list h1
theorem elB_int {k : Int} (h : k ≠ 5) (s : ByteArray) : elB k s = gb (2 ^ (k - 1).toNat) (numI s % 18446744073709551616).toNat := by
  unfold elB numI
  rw [if_neg h]
  split <;> rfl
theorem pv_flat {k : Int} (h : k ≠ 5) (L : List ByteArray) : ∀ j, j ≤ L.length → pv (2 ^ (k - 1).toNat) (L.map numI) j = (L.take j).flatMap (elB k)
  | 0, _ => by simp [pv]
  | j + 1, hj => by
    rw [pv, pv_flat h L j (by omega), List.take_succ_eq_append_getElem (show j < L.length by omega), List.flatMap_append]
    congr 1
    have e : (L.map numI).getD j 0 = numI L[j] := by
      rw [List.getD_eq_getElem?_getD, List.getElem?_map, List.getElem?_eq_getElem (show j < L.length by omega)]; rfl
    rw [e, List.flatMap_cons, List.flatMap_nil, List.append_nil, elB_int h]
theorem putI_putB {k : Int} (h : k ≠ 5) (L : List ByteArray) : putI (2 ^ (k - 1).toNat) (flg L) (L.map numI) L.length = putB k L := by
  unfold putI putB
  rw [pv_flat h L _ (Nat.le_refl _), List.take_length]

set_option maxRecDepth 100000 in
set_option maxHeartbeats 1600000 in
theorem pput_any (k : Int) (A : Option Addr) (c : Nat) (L : List ByteArray) (w : World) (h : Rd w w.heap.size A (strs L)) (hL : L.length ≤ 1000000) (hs : ∀ s ∈ L, s.size ≤ 4000000) (he : Env w) (hg : EnvG w) :
    Calls Tryz.prog 12 #[.int .i64 k, .slice A L.length c] w fun e w' => Below w.heap.size w w' ∧ ∃ v, e = .returned (.tuple #[v, .int .i64 (accE k L)]) ∧ IsL w' w'.heap.size .u8 v (if accE k L = 0 then putB k L else []) := by
  have AC := accepted_any k A c L w h hL hs he hg
  by_cases ha : accE k L = 0
  rotate_left
  · rw [if_neg ha]
    have UW := Lib.hid AC
    clear AC
    generalize accE k L = g at *
    have hg' : (g != 0) = true := by simp [ha]
    clear h hs he hg
    go_enter Tryz.func12, Tryz.ntmps12
    go_wp2_with fail
    refine UW.out.mono ?_
    rintro e w1 ⟨hb1, rfl⟩
    go_wp2
    go_ret2
    exact ⟨hb1, _, rfl, none, 0, rfl, Nat.le_refl _, fun hn => absurd rfl hn⟩
  rw [if_pos ha]
  obtain ⟨hty, hl4, hall⟩ := accE_zero ha
  rw [ha] at AC ⊢
  have h82 : ∀ s ∈ L, s.size ≤ 82 := fun s hm => by
    cases hE : s.toList.isEmpty with
    | true => rw [ba_nil hE]; decide
    | false =>
      have hn : numB s = true := by
        cases hb : numB s with
        | true => rfl
        | false => have := List.all_eq_true.1 hall s hm; rw [fitK_num hE hb] at this; cases this
      have := isNum_len ((numB_iff s).1 hn)
      rw [size_list'] at this
      omega
  by_cases h5 : k = 5
  · subst h5
    exact pput5_any A c L w h hl4 h82 _ rfl AC
  have hk4 : 1 ≤ k ∧ k ≤ 4 := by
    rcases typB_true hty with h | h | h | h | h <;> omega
  obtain ⟨n, rfl⟩ : ∃ n : Nat, k = (n : Int) := ⟨k.toNat, by omega⟩
  have hr := puti_any A c n L (flg L) (L.map numI) w (by omega) (by omega) hl4 (flg_len L) h he AC (fun i hi => flg_at hi) (fun i hi => by
    have e : (L.map numI).getD i 0 = numI L[i] := by
      rw [List.getD_eq_getElem?_getD, List.getElem?_map, List.getElem?_eq_getElem hi]; rfl
    rw [e]
    have hm : L[i] ∈ L := List.getElem_mem hi
    have hfit := List.all_eq_true.1 hall _ hm
    have hsz := h82 _ hm
    generalize L[i] = s at *
    intro W hW
    cases hE : s.toList.isEmpty with
    | true =>
      have e0 : numI s = 0 := by unfold numI; rw [if_pos hE]
      rw [e0]
      obtain ⟨-, ⟨ev, hv, hev⟩, -, -⟩ := hW
      have hx : Lib.parseIntB 64 s.data.toList = .«syntax» := by rw [ba_nil hE]; rfl
      refine (Tryz.strconv_ParseInt_10_at64_syntax s (by omega) hx ev W hv hev).mono ?_
      rintro e w2 ⟨N, rfl, -, -, hb⟩
      exact ⟨hb, _, rfl⟩
    | false =>
      have hn : numB s = true := by
        cases hb : numB s with
        | true => rfl
        | false => rw [fitK_num hE hb] at hfit; cases hfit
      have hfz := (intB_iff n s).1 ((fitK_int hty h5 hE hn).symm.trans hfit)
      obtain ⟨q1, q2, q3⟩ := hfz
      have hH : ((2 ^ (bitN n - 1) : Nat) : Int) ≤ 9223372036854775808 := by
        have : (n : Int) = 1 ∨ (n : Int) = 2 ∨ (n : Int) = 3 ∨ (n : Int) = 4 := by omega
        rcases this with h | h | h | h <;> rw [h] <;> decide
      have e0 : numI s = (textRat s.data.toList).num := by unfold numI; rw [if_neg (by rw [hE]; decide)]
      rw [e0]
      have h64 : ((2 ^ (64 - 1) : Nat) : Int) = 9223372036854775808 := by decide
      have hz : FitZ 64 (textRat s.data.toList) := ⟨q1, by rw [h64]; omega, by rw [h64]; omega⟩
      have hp := (parse_rat (B := 64) (by decide) (by decide) (textRat s.data.toList)).1 hz
      rw [num_text hn] at hp
      refine (pint_ok 64 (by decide) s W (by omega) hp).mono ?_
      rintro e w2 ⟨hb, rfl⟩
      exact ⟨hb, _, rfl⟩)
  have e2 : (2 : Nat) ^ (n - 1) = 2 ^ (((n : Int) - 1).toNat) := by congr 1; omega
  rw [e2, putI_putB h5] at hr
  exact hr
end Go.Proofs.YtpkhgdnkkdhlcaaGreatDoor

namespace Go.Proofs.YtpkhgdnkkdhlcaaGreatDoor
open Go.RowKit Ar By

theorem no_of {q : Bool} {p : Prop} (h : q = true ↔ p) (n : ¬ p) : q = false := by
  cases hh : q with
  | false => rfl
  | true => exact absurd (h.1 hh) n
set_option maxRecDepth 100000 in
set_option maxHeartbeats 1600000 in
theorem bequal_any (S T : List Nat) (A A' : Option Addr) (c c' B B' : Nat) (w : World) (hr : Rd w B A (ints .u8 S)) (hr' : Rd w B' A' (ints .u8 T)) (hB : B ≤ w.heap.size) (hB' : B' ≤ w.heap.size) (hL : S.length ≤ 4000000) (_ : T.length ≤ 4000000) (q : Bool) (hq : q = true ↔ S = T) :
    Calls Tryz.prog 38 #[.slice A S.length c, .slice A' T.length c'] w fun e w' => Below w.heap.size w w' ∧ e = .returned (.bool q) := by
  by_cases hlen : S.length = T.length
  rotate_left
  · have hqf : q = false := no_of hq fun h => hlen (congrArg List.length h)
    have hne : ((S.length : Int) != (T.length : Int)) = true := by simp; omega
    subst hqf
    clear hq hlen
    go_enter Tryz.func38, Tryz.ntmps38
    go_wp2
    go_ret
    exact ⟨Below.refl _ _, rfl⟩
  have HQ := Lib.hid hq
  have HL := Lib.hid hlen
  rw [← hlen]
  clear hq hlen
  go_enter Tryz.func38, Tryz.ntmps38
  go_wp2_with fail
  go_loopw [13] (fun i wr => ∃ k : Nat, k ≤ S.length ∧ i = .int .i64 k ∧ Hid (∀ j, j < k → S.getD j 0 = T.getD j 0) ∧ Below w.heap.size w wr) (fun i _ => S.length - (intOf i).toNat)
  case atStart => exact ⟨0, Nat.zero_le _, rfl, (fun j hj => absurd hj (Nat.not_lt_zero _)), Below.refl _ _⟩
  case round =>
    obtain ⟨k, hk, rfl, HT, hb⟩ := hrel
    by_cases hlt : k < S.length
    · obtain ⟨ad, rfl, hab, hx⟩ := (hr.below (hb.mono hB)).int (j := k) hlt
      obtain ⟨ad', rfl, hab', hy⟩ := (hr'.below (hb.mono hB')).int (j := k) (by rw [← HL.out]; exact hlt)
      have HN : Hid (S.getD k 0 = T.getD k 0 → ∀ j, j < k + 1 → S.getD j 0 = T.getD j 0) := fun h j hj => by
        rcases Nat.lt_or_ge j k with h1 | h1
        · exact HT.out j h1
        · obtain rfl : j = k := by omega
          exact h
      have HE : Hid (S.getD k 0 ≠ T.getD k 0 → q = false) := fun h => no_of HQ.out fun e => h (by rw [e])
      have b1 : (0 : Int) ≤ (k : Int) := by omega
      have b2 : (k : Int) < (S.length : Int) := by omega
      generalize S.getD k 0 = x at *
      generalize T.getD k 0 = y at *
      by_cases hxy : x = y
      · subst hxy
        have y1 : ((x : Int) != (x : Int)) = false := by simp
        have HOK := Lib.hid (HN.out rfl)
        clear HN HE
        go_wp2_with fail
        go_quiet (fail)
        have hb2 := below_drewN hb nq
        go_wp2
        go_roundw
        case rel => exact ⟨k + 1, by omega, by go_num, HOK.out, hb2⟩
        case measure => simp [intOf]; omega
      · have y1 : ((x : Int) != (y : Int)) = true := by simp; omega
        have hqf := HE.out hxy
        subst hqf
        clear HN HE
        go_wp2_with fail
        go_quiet (fail)
        go_wp2
        go_ret
        exact ⟨below_drewN hb _, rfl⟩
    · have hqt : q = true := HQ.out.2 (by
        refine List.ext_getElem HL.out fun j h1 h2 => ?_
        have := HT.out j (by omega)
        rw [List.getD_eq_getElem?_getD, List.getElem?_eq_getElem h1, List.getD_eq_getElem?_getD, List.getElem?_eq_getElem h2] at this
        exact this)
      subst hqt
      clear HQ HT
      go_wp2
      go_ret
      exact ⟨hb, rfl⟩
end Go.Proofs.YtpkhgdnkkdhlcaaGreatDoor

namespace Go.Proofs.YtpkhgdnkkdhlcaaGreatDoor
open Go.RowKit Ar By

theorem or_byteI {g : Int} {x : Nat} (h1 : -36028797018963968 ≤ g) (h2 : g < 36028797018963968) (hx : x < 256) : bits .or .i64 (IntKind.i64.wrap (g * 256)) (x : Int) = g * 256 + x := by
  have hw : IntKind.i64.wrap (g * 256) = g * 256 := IntWalk.i64_in _ (by omega)
  rw [hw]
  show IntKind.i64.wrap ((BitVec.ofInt 64 (g * 256) ||| BitVec.ofInt 64 (x : Int)).toNat : Int) = _
  have hm : x % 2 ^ 64 = x := Nat.mod_eq_of_lt (by have : (2 : Nat) ^ 64 = 18446744073709551616 := by decide
                                                   omega)
  have hp : ((2 ^ 64 : Nat) : Int) = 18446744073709551616 := by decide
  obtain ⟨h, hh⟩ : ∃ h : Nat, (g * 256 % 18446744073709551616).toNat = h * 256 := ⟨(g % 72057594037927936).toNat, by omega⟩
  have h3 := Nat.shiftLeft_add_eq_or_of_lt (i := 8) (show x < 2 ^ 8 from hx) h
  rw [Nat.shiftLeft_eq] at h3
  have h4 : h * 256 ||| x = h * 256 + x := h3.symm
  have hb : (BitVec.ofInt 64 (g * 256) ||| BitVec.ofInt 64 (x : Int)).toNat = h * 256 + x := by
    rw [BitVec.ofInt_natCast, BitVec.toNat_or, BitVec.toNat_ofInt, BitVec.toNat_ofNat, hm, hp, hh, h4]
  rw [hb]
  unfold IntKind.wrap
  simp [IntKind.signed, IntKind.bits]
  split <;> omega
def sv8 (x : Nat) : Int := if x < 128 then (x : Int) else (x : Int) - 256
/-- The number of bytes in two's complement. -/
def svl : List Nat → Int
  | [] => 0
  | x :: r => r.foldl (fun (n : Int) (y : Nat) => n * 256 + (y : Int)) (sv8 x)
theorem svl_snoc {l : List Nat} (h : l ≠ []) (y : Nat) : svl (l ++ [y]) = svl l * 256 + y := by
  cases l with
  | nil => exact absurd rfl h
  | cons x r => show (r ++ [y]).foldl _ _ = _; rw [List.foldl_append]; rfl
theorem svl_bound : ∀ (n : Nat) {l : List Nat}, l.length = n + 1 → Bytes l → -((128 : Int) * 256 ^ n) ≤ svl l ∧ svl l < 128 * 256 ^ n
  | 0, l, hl, hb => by
    match l, hl with
    | [x], _ =>
      have hx := hb x List.mem_cons_self
      show -((128 : Int) * 1) ≤ sv8 x ∧ sv8 x < 128 * 1
      unfold sv8
      split <;> omega
  | n + 1, l, hl, hb => by
    obtain ⟨m, y, rfl⟩ : ∃ m y, l = m ++ [y] := ⟨l.dropLast, l.getLast (by intro e; rw [e] at hl; cases hl), (List.dropLast_concat_getLast _).symm⟩
    rw [List.length_append, List.length_singleton] at hl
    have h1 := svl_bound n (l := m) (by omega) (fun x hx => hb x (List.mem_append_left _ hx))
    have hy := hb y (List.mem_append_right _ List.mem_cons_self)
    rw [svl_snoc (by intro e; rw [e] at hl; simp at hl) y, Int.pow_succ]
    generalize (256 : Int) ^ n = P at *
    omega
theorem svl_56 {l : List Nat} (h7 : l.length ≤ 7) (hb : Bytes l) : -36028797018963968 ≤ svl l ∧ svl l < 36028797018963968 := by
  rcases Nat.eq_zero_or_pos l.length with h0 | h0
  · rw [List.eq_nil_of_length_eq_zero h0]; decide
  · obtain ⟨n, hn⟩ : ∃ n, l.length = n + 1 := ⟨l.length - 1, by omega⟩
    have h := svl_bound n hn hb
    have hp : (256 : Int) ^ n ≤ 256 ^ 6 := by
      have : n = 0 ∨ n = 1 ∨ n = 2 ∨ n = 3 ∨ n = 4 ∨ n = 5 ∨ n = 6 := by omega
      rcases this with rfl | rfl | rfl | rfl | rfl | rfl | rfl <;> decide
    have e6 : (256 : Int) ^ 6 = 281474976710656 := by decide
    rw [e6] at hp
    omega
theorem svl_64 {l : List Nat} (h8 : l.length ≤ 8) (hb : Bytes l) : -9223372036854775808 ≤ svl l ∧ svl l ≤ 9223372036854775807 := by
  rcases Nat.eq_zero_or_pos l.length with h0 | h0
  · rw [List.eq_nil_of_length_eq_zero h0]; decide
  · obtain ⟨n, hn⟩ : ∃ n, l.length = n + 1 := ⟨l.length - 1, by omega⟩
    have h := svl_bound n hn hb
    have hp : (256 : Int) ^ n ≤ 256 ^ 7 := by
      have : n = 0 ∨ n = 1 ∨ n = 2 ∨ n = 3 ∨ n = 4 ∨ n = 5 ∨ n = 6 ∨ n = 7 := by omega
      rcases this with rfl | rfl | rfl | rfl | rfl | rfl | rfl | rfl <;> decide
    have e7 : (256 : Int) ^ 7 = 72057594037927936 := by decide
    rw [e7] at hp
    omega
end Go.Proofs.YtpkhgdnkkdhlcaaGreatDoor

namespace Go.Proofs.YtpkhgdnkkdhlcaaGreatDoor
open Go.RowKit Ar By

theorem wrap_i8 {x : Nat} (h : x < 256) : IntKind.i8.wrap (x : Int) = sv8 x := by
  unfold IntKind.wrap sv8
  simp [IntKind.signed, IntKind.bits]
  split <;> split <;> omega
theorem svl_take {l : List Nat} {j : Nat} (h : j < l.length) (h0 : j ≠ 0) : svl (l.take (j + 1)) = svl (l.take j) * 256 + (l.getD j 0 : Nat) := by
  rw [List.take_succ_eq_append_getElem h, svl_snoc, List.getD_eq_getElem?_getD, List.getElem?_eq_getElem h]
  · rfl
  · intro e
    have := congrArg List.length e
    rw [List.length_take, List.length_nil] at this
    omega
theorem svl_take1 {l : List Nat} (h : 0 < l.length) : svl (l.take 1) = sv8 (l.getD 0 0) := by
  cases l with
  | nil => cases h
  | cons x r => rfl

set_option maxRecDepth 100000 in
set_option maxHeartbeats 1600000 in
theorem pinteger_any (A : Option Addr) (c W : Nat) (l : List Nat) (w : World) (h : Rd w w.heap.size A (ints .u8 l)) (hl : Bytes l) (hL : l.length ≤ 4000000) (hc : l.length ≤ c) (h8 : W ≤ 8) (her : EnvR w) :
    Calls Tryz.prog 37 #[.slice A l.length c, .int .i64 W] w fun e w' => Below w.heap.size w w' ∧ e = .returned (.string ⟨(Lib.itoa (svl (l.take W))).toArray⟩) := by
  obtain ⟨m, hm⟩ : ∃ m, m = min W l.length := ⟨_, rfl⟩
  have hmi : min (W : Int) (l.length : Int) = (m : Int) := by omega
  have hmt : (m : Int).toNat = m := by omega
  have hmx : max (m : Int) 0 = (m : Int) := by omega
  have hm8 : m ≤ 8 := by omega
  have hml : m ≤ l.length := by omega
  obtain ⟨G, hG⟩ : ∃ G, G = svl (l.take W) := ⟨_, rfl⟩
  rw [← hG]
  have HT : Hid (svl (l.take m) = G) := by
    show _ = _
    rw [hG]
    refine congrArg svl (Eq.symm ?_)
    rcases Nat.le_total W l.length with h1 | h1
    · rw [hm, Nat.min_eq_left h1]
    · rw [hm, Nat.min_eq_right h1, List.take_of_length_le h1, List.take_length]
  have HM := Lib.hid hm
  clear hm hG
  go_enter Tryz.func37, Tryz.ntmps37
  go_wp2_with fail
  go_loopw [5, 15] (fun nv iv wr => ∃ j : Nat, j ≤ m ∧ iv = .int .i64 j ∧ nv = .int .i64 (svl (l.take j)) ∧ Below w.heap.size w wr) (fun _ iv _ => m - (intOf iv).toNat)
  case atStart => exact ⟨0, Nat.zero_le _, rfl, rfl, Below.refl _ _⟩
  case round =>
    obtain ⟨j, hj, rfl, rfl, hB⟩ := hrel
    rcases Nat.lt_or_ge j m with hlt | hge
    · obtain ⟨ad, rfl, hab, hcell⟩ := (h.below hB).int (j := j) (by omega)
      have hx : l.getD j 0 < 256 := hl.at_ j
      have b1 : (0 : Int) ≤ (j : Int) := by omega
      have b2 : (j : Int) < (m : Int) := by omega
      by_cases h0 : j = 0
      · have HS : Hid (svl (l.take (j + 1)) = sv8 (l.getD j 0)) := by
          show _ = _
          rw [h0]; exact svl_take1 (l := l) (by omega)
        have j0 : ((j : Int) == 0) = true := by simp; omega
        clear h0 HT HM
        generalize l.getD j 0 = x at *
        have x1 := wrap_i8 hx
        have x2 : IntKind.i64.wrap (sv8 x) = sv8 x := IntWalk.i64_in _ (by unfold sv8; split <;> omega)
        go_wp2
        go_roundw
        case rel => exact ⟨j + 1, by omega, by go_num, by rw [HS.out], hB⟩
        case measure => simp [intOf]; omega
      · have HS := Lib.hid (svl_take (l := l) (j := j) (by omega) h0)
        have h56 := svl_56 (l := l.take j) (by rw [List.length_take]; omega) (hl.take _)
        have HO : Hid (bits .or .i64 (wrap64 (svl (l.take j) * 256)) (l.getD j 0 : Nat) = svl (l.take j) * 256 + (l.getD j 0 : Nat)) := by
          show _ = _
          rw [← IntWalk.i64_left]
          exact or_byteI h56.1 h56.2 hx
        have j0 : ((j : Int) == 0) = false := by simp; omega
        clear h56
        generalize l.getD j 0 = x at *
        generalize svl (l.take j) = g at *
        go_wp2
        go_roundw
        case rel => exact ⟨j + 1, by omega, by go_num, by rw [HO.out, HS.out], hB⟩
        case measure => simp [intOf]; omega
    · obtain rfl : j = m := by omega
      have h64 := svl_64 (l := l.take j) (by rw [List.length_take]; omega) (hl.take _)
      have hT := HT.out
      rw [hT] at h64 ⊢
      clear hT
      have FI := Lib.hid (fun W (hW : EnvR W) => Tryz.strconv_FormatInt_10 G h64.1 h64.2 W hW.1)
      have HE := Lib.hid (her.next hB)
      go_wp2_with fail
      refine (FI.out _ HE.out).mono ?_
      rintro e w1 ⟨rfl, k, os, rfl⟩
      have hB1 := hB.trans (Lib.below_grow _ _ hB.size k os)
      go_wp2
      go_ret
      exact ⟨hB1, rfl⟩
end Go.Proofs.YtpkhgdnkkdhlcaaGreatDoor

namespace Go.Proofs.YtpkhgdnkkdhlcaaGreatDoor
open Go.RowKit Ar By

/-- Whether a value is there. -/
def bitB (b : List Nat) (i : Nat) : Bool := (b.getD (i / 8) 0).testBit (i % 8)
/-- The bytes that a value takes. -/
def szG (k : Int) (t : Bool) (r : List Nat) : Nat := if k = 5 then (if t = true then 1 + r.headD 0 else 0) else 2 ^ (k - 1).toNat
def vlG (k : Int) (t : Bool) (r : List Nat) : ByteArray :=
  if t = true then (if k = 5 then bstr ((r.take (1 + r.headD 0)).drop 1) else ⟨(Lib.itoa (svl (r.take (2 ^ (k - 1).toNat)))).toArray⟩) else ⟨#[]⟩
/-- The values that are read, and the bytes that are left. -/
def loopG (k : Int) (b : List Nat) (m : Nat) : Nat → Option (List ByteArray × List Nat)
  | 0 => some ([], b.drop m)
  | i + 1 => match loopG k b m i with
    | none => none
    | some x => if szG k (bitB b i) x.2 ≤ x.2.length then some (x.1 ++ [vlG k (bitB b i) x.2], x.2.drop (szG k (bitB b i) x.2)) else none
theorem loopG_next {k : Int} {b : List Nat} {m i : Nat} {o : List ByteArray} {r : List Nat} (h : loopG k b m i = some (o, r)) (hs : szG k (bitB b i) r ≤ r.length) :
    loopG k b m (i + 1) = some (o ++ [vlG k (bitB b i) r], r.drop (szG k (bitB b i) r)) := by
  rw [loopG, h]; exact if_pos hs
theorem loopG_stop {k : Int} {b : List Nat} {m i : Nat} {o : List ByteArray} {r : List Nat} (h : loopG k b m i = some (o, r)) (hs : ¬ szG k (bitB b i) r ≤ r.length) : loopG k b m (i + 1) = none := by
  rw [loopG, h]; exact if_neg hs
theorem loopG_none {k : Int} {b : List Nat} {m i : Nat} (h : loopG k b m i = none) : ∀ j, loopG k b m (i + j) = none
  | 0 => h
  | j + 1 => by rw [← Nat.add_assoc, loopG, loopG_none h j]
theorem loopG_len {k : Int} {b : List Nat} {m : Nat} : ∀ {i : Nat} {x : List ByteArray × List Nat}, loopG k b m i = some x → x.1.length = i
  | 0, x, h => by rw [loopG] at h; injection h with h; rw [← h]; rfl
  | i + 1, x, h => by
    rw [loopG] at h
    cases hl : loopG k b m i with
    | none => rw [hl] at h; cases h
    | some y =>
      rw [hl] at h
      simp only at h
      split at h
      · injection h with h
        rw [← h, List.length_append, loopG_len hl]; rfl
      · cases h
open Classical in
/-- What Get returns. -/
noncomputable def getG (k n : Int) (b : List Nat) : List ByteArray × Int :=
  if typB k = true ∧ 0 ≤ n ∧ n ≤ 4096 then
    (if b.length < (n.toNat + 7) / 8 then ([], 5) else
    match loopG k b ((n.toNat + 7) / 8) n.toNat with
    | none => ([], 5)
    | some x => if accE k x.1 = 0 ∧ putB k x.1 = b then (x.1, 0) else ([], 5))
  else ([], 2)

theorem bm_bit (fl : List Bool) (i : Nat) (hi : i < fl.length) : ∀ n, ((bm fl n).getD (i / 8) 0).testBit (i % 8) = (decide (i < n) && fl.getD i false)
  | 0 => by
    rw [bm, List.getD_eq_getElem?_getD, List.getElem?_replicate]
    rw [if_pos (by omega)]
    simp
  | n + 1 => by
    have ih := bm_bit fl i hi n
    rw [bm]
    by_cases hn : fl.getD n false = true
    · rw [if_pos hn]
      unfold putbit
      by_cases hd : i / 8 = n / 8
      · rw [← hd, List.getD_eq_getElem?_getD, List.getElem?_set_self (by rw [bm_len]; omega)]
        show (_ ||| _ : Nat).testBit _ = _
        rw [Nat.testBit_or, ih, Nat.testBit_two_pow]
        by_cases he : i = n
        · subst he; rw [hn]; simp
        · have h1 : ¬ n % 8 = i % 8 := by omega
          have h2 : decide (i < n + 1) = decide (i < n) := by
            apply decide_eq_decide.2; omega
          rw [decide_eq_false h1, h2, Bool.or_false]
      · rw [List.getD_eq_getElem?_getD, List.getElem?_set_ne (fun e => hd e.symm), ← List.getD_eq_getElem?_getD, ih]
        have h2 : decide (i < n + 1) = decide (i < n) := by
          apply decide_eq_decide.2
          constructor
          · intro h; rcases Nat.lt_or_ge i n with h3 | h3
            · exact h3
            · exact absurd (by rw [show i = n by omega]) hd
          · omega
        rw [h2]
    · rw [if_neg hn, ih]
      by_cases he : i = n
      · subst he
        have : fl.getD i false = false := by simpa using hn
        rw [this, Bool.and_false, Bool.and_false]
      · have h2 : decide (i < n + 1) = decide (i < n) := by
          apply decide_eq_decide.2; omega
        rw [h2]
theorem bitB_put (k : Int) (L : List ByteArray) {i : Nat} (hi : i < L.length) : bitB (putB k L) i = !L[i].toList.isEmpty := by
  unfold bitB putB
  rw [List.getD_eq_getElem?_getD, List.getElem?_append_left (by rw [bm_len, flg_len]; omega), ← List.getD_eq_getElem?_getD, bm_bit (flg L) i (by rw [flg_len]; exact hi), decide_eq_true hi, flg_at hi]
  rfl
theorem svl_gv : ∀ (n : Nat) {l : List Nat}, l.length = n + 1 → Bytes l → (128 * 256 ^ n > gv l → svl l = gv l) ∧ (128 * 256 ^ n ≤ gv l → svl l = (gv l : Int) - 256 * ((256 ^ n : Nat) : Int))
  | 0, l, hl, hb => by
    match l, hl with
    | [x], _ =>
      have e1 : gv [x] = x := by simp [gv]
      have e2 : svl [x] = sv8 x := rfl
      rw [e1, e2]
      unfold sv8
      refine ⟨fun h => ?_, fun h => ?_⟩
      · rw [if_pos (by simpa using h)]
      · rw [if_neg (by simp at h; omega)]; rfl
  | n + 1, l, hl, hb => by
    obtain ⟨m, y, rfl⟩ : ∃ m y, l = m ++ [y] := ⟨l.dropLast, l.getLast (by intro e; rw [e] at hl; cases hl), (List.dropLast_concat_getLast _).symm⟩
    rw [List.length_append, List.length_singleton] at hl
    obtain ⟨h1, h2⟩ := svl_gv n (l := m) (by omega) (fun x hx => hb x (List.mem_append_left _ hx))
    have hy := hb y (List.mem_append_right _ List.mem_cons_self)
    rw [svl_snoc (by intro e; rw [e] at hl; simp at hl) y, gv_snoc, Nat.pow_succ]
    generalize (256 : Nat) ^ n = P at *
    refine ⟨fun h => ?_, fun h => ?_⟩
    · rw [h1 (by omega)]; omega
    · rw [h2 (by omega)]; omega
theorem rat_itoa {q : Rat} (h : q.den = 1) : ratText q = Lib.itoa q.num := by
  unfold ratText Lib.itoa
  rw [if_pos h, List.append_nil]
  by_cases hs : q < 0
  · rw [if_pos hs, if_pos (num_neg_iff.2 hs)]; rfl
  · have hn : ¬ q.num < 0 := fun h => hs (num_neg_iff.1 h)
    rw [if_neg hs, if_neg hn, List.nil_append]
    congr 1
    omega
end Go.Proofs.YtpkhgdnkkdhlcaaGreatDoor

namespace Go.Proofs.YtpkhgdnkkdhlcaaGreatDoor
open Go.RowKit Ar By

theorem getG_bad {k n : Int} {b : List Nat} (h : ¬ (typB k = true ∧ 0 ≤ n ∧ n ≤ 4096)) : getG k n b = ([], 2) := by
  unfold getG; rw [if_neg h]
theorem getG_short {k n : Int} {b : List Nat} (h : typB k = true ∧ 0 ≤ n ∧ n ≤ 4096) (hl : b.length < (n.toNat + 7) / 8) : getG k n b = ([], 5) := by
  unfold getG; rw [if_pos h, if_pos hl]
theorem getG_stop {k n : Int} {b : List Nat} (h : typB k = true ∧ 0 ≤ n ∧ n ≤ 4096) (hl : ¬ b.length < (n.toNat + 7) / 8) (hs : loopG k b ((n.toNat + 7) / 8) n.toNat = none) : getG k n b = ([], 5) := by
  unfold getG; rw [if_pos h, if_neg hl, hs]
theorem getG_bytes {k n : Int} {b : List Nat} {x : List ByteArray × List Nat} (h : typB k = true ∧ 0 ≤ n ∧ n ≤ 4096) (hl : ¬ b.length < (n.toNat + 7) / 8) (hs : loopG k b ((n.toNat + 7) / 8) n.toNat = some x) (hb : ¬ (accE k x.1 = 0 ∧ putB k x.1 = b)) : getG k n b = ([], 5) := by
  unfold getG; rw [if_pos h, if_neg hl, hs]; exact if_neg hb
theorem getG_ok {k n : Int} {b : List Nat} {x : List ByteArray × List Nat} (h : typB k = true ∧ 0 ≤ n ∧ n ≤ 4096) (hl : ¬ b.length < (n.toNat + 7) / 8) (hs : loopG k b ((n.toNat + 7) / 8) n.toNat = some x) (hb : accE k x.1 = 0 ∧ putB k x.1 = b) : getG k n b = (x.1, 0) := by
  unfold getG; rw [if_pos h, if_neg hl, hs]; exact if_pos hb

theorem itoa_len {z : Int} (h : -9223372036854775808 ≤ z ∧ z ≤ 9223372036854775807) : (Lib.itoa z).length ≤ 20 := by
  unfold Lib.itoa
  split
  · have h1 : (Lib.decDigits z.natAbs).length ≤ 19 := decDigits_len_le (by decide) (by omega)
    rw [List.length_cons]; omega
  · have h1 : (Lib.decDigits z.toNat).length ≤ 19 := decDigits_len_le (by decide) (by omega)
    omega
theorem vlG_size {k : Int} {t : Bool} {r : List Nat} (hr : Bytes r) (hk : typB k = true) : (vlG k t r).size ≤ r.length + 20 := by
  unfold vlG
  split
  · split
    · show (bstr _).size ≤ _
      unfold bstr
      show (Array.size _) ≤ _
      rw [List.size_toArray, List.length_map, List.length_drop, List.length_take]
      omega
    · have h8 : (r.take (2 ^ (k - 1).toNat)).length ≤ 8 := by
        rw [List.length_take]
        rcases typB_true hk with rfl | rfl | rfl | rfl | rfl
        · exact Nat.le_trans (Nat.min_le_left _ _) (by decide)
        · exact Nat.le_trans (Nat.min_le_left _ _) (by decide)
        · exact Nat.le_trans (Nat.min_le_left _ _) (by decide)
        · exact Nat.le_trans (Nat.min_le_left _ _) (by decide)
        · contradiction
      have := itoa_len (svl_64 h8 (hr.take _))
      show (Array.size _) ≤ _
      rw [List.size_toArray]
      omega
  · exact Nat.zero_le _

theorem loopG_facts {k : Int} {b : List Nat} {m : Nat} (hb : Bytes b) (hk : typB k = true) : ∀ {i : Nat} {x : List ByteArray × List Nat}, loopG k b m i = some x → Bytes x.2 ∧ x.2.length ≤ b.length ∧ ∀ s ∈ x.1, s.size ≤ b.length + 20
  | 0, x, h => by
    rw [loopG] at h
    injection h with h
    rw [← h]
    exact ⟨hb.drop _, by rw [List.length_drop]; omega, fun s hs => by cases hs⟩
  | i + 1, x, h => by
    rw [loopG] at h
    cases hl : loopG k b m i with
    | none => rw [hl] at h; cases h
    | some y =>
      rw [hl] at h
      simp only at h
      obtain ⟨h1, h2, h3⟩ := loopG_facts hb hk hl
      split at h
      · injection h with h
        rw [← h]
        refine ⟨h1.drop _, by rw [List.length_drop]; omega, fun s hs => ?_⟩
        rcases List.mem_append.1 hs with hs | hs
        · exact h3 s hs
        · rw [List.mem_singleton] at hs
          subst hs
          exact Nat.le_trans (vlG_size h1 hk) (by omega)
      · cases h

/-- The values that the reference reads, and the bytes that are left. -/
noncomputable def loopR (k : Int) (b : List Nat) (m : Nat) : Nat → Option (List ByteArray × List Nat)
  | 0 => some ([], b.drop m)
  | i + 1 => match loopR k b m i with
    | none => none
    | some x => if szG k (bitB b i) x.2 ≤ x.2.length ∧ (k = 5 → bitB b i = true → numB (vlG k (bitB b i) x.2) = true) then some (x.1 ++ [vlG k (bitB b i) x.2], x.2.drop (szG k (bitB b i) x.2)) else none
theorem loopR_next {k : Int} {b : List Nat} {m i : Nat} {o : List ByteArray} {r : List Nat} (h : loopR k b m i = some (o, r)) (hs : szG k (bitB b i) r ≤ r.length) (hn : k = 5 → bitB b i = true → numB (vlG k (bitB b i) r) = true) :
    loopR k b m (i + 1) = some (o ++ [vlG k (bitB b i) r], r.drop (szG k (bitB b i) r)) := by
  rw [loopR, h]; exact if_pos ⟨hs, hn⟩
theorem loopR_stop {k : Int} {b : List Nat} {m i : Nat} {o : List ByteArray} {r : List Nat} (h : loopR k b m i = some (o, r)) (hs : ¬ (szG k (bitB b i) r ≤ r.length ∧ (k = 5 → bitB b i = true → numB (vlG k (bitB b i) r) = true))) : loopR k b m (i + 1) = none := by
  rw [loopR, h]; exact if_neg hs
theorem loopR_none {k : Int} {b : List Nat} {m i : Nat} (h : loopR k b m i = none) : ∀ j, loopR k b m (i + j) = none
  | 0 => h
  | j + 1 => by rw [← Nat.add_assoc, loopR, loopR_none h j]
theorem loopR_G {k : Int} {b : List Nat} {m : Nat} : ∀ {i : Nat} {x : List ByteArray × List Nat}, loopR k b m i = some x → loopG k b m i = some x
  | 0, x, h => h
  | i + 1, x, h => by
    rw [loopR] at h
    cases hl : loopR k b m i with
    | none => rw [hl] at h; cases h
    | some y =>
      rw [hl] at h
      simp only at h
      have ih := loopR_G hl
      split at h
      · rename_i hc
        injection h with h
        rw [← h]
        exact loopG_next (o := y.1) (r := y.2) ih hc.1
      · cases h
theorem loopG_R {k : Int} {b : List Nat} {m : Nat} {L : List ByteArray} (ha : accE k L = 0) (hb : putB k L = b) : ∀ {i : Nat} {y : List ByteArray × List Nat}, i ≤ L.length → loopG k b m i = some y → y.1 = L.take i → loopR k b m i = some y
  | 0, y, _, h, _ => h
  | i + 1, y, hi, h, ht => by
    rw [loopG] at h
    cases hl : loopG k b m i with
    | none => rw [hl] at h; cases h
    | some z =>
      rw [hl] at h
      simp only at h
      split at h
      · rename_i hc
        injection h with h
        rw [← h] at ht
        have hz := loopG_len hl
        rw [List.take_succ_eq_append_getElem (show i < L.length from hi)] at ht
        obtain ⟨h1, h2⟩ := List.append_inj ht (by rw [hz, List.length_take]; omega)
        have ih := loopG_R ha hb (show i ≤ L.length by omega) hl h1
        rw [← h]
        refine loopR_next (o := z.1) (r := z.2) ih hc fun h5 ht => ?_
        simp only [List.cons.injEq, and_true] at h2
        rw [← hb, bitB_put k L hi] at ht
        rw [h2]
        have hf := List.all_eq_true.1 (accE_zero ha).2.2 L[i] (List.getElem_mem hi)
        cases hn : numB L[i] with
        | true => rfl
        | false =>
          have he : L[i].toList.isEmpty = false := by simpa using ht
          rw [fitK_num he hn] at hf; cases hf
      · cases h
theorem getG_stopR {k n : Int} {b : List Nat} (h : typB k = true ∧ 0 ≤ n ∧ n ≤ 4096) (hl : ¬ b.length < (n.toNat + 7) / 8) (hs : loopR k b ((n.toNat + 7) / 8) n.toNat = none) : getG k n b = ([], 5) := by
  cases hg : loopG k b ((n.toNat + 7) / 8) n.toNat with
  | none => exact getG_stop h hl hg
  | some x =>
    refine getG_bytes h hl hg fun hc => ?_
    have hx := loopG_len hg
    rw [loopG_R (L := x.1) hc.1 hc.2 (by omega) hg (by rw [List.take_of_length_le (by omega)])] at hs
    cases hs
theorem elB_bytes {k : Int} {s : ByteArray} (hf : fitK k s = true) : Bytes (elB k s) ∧ (elB k s).length ≤ 2 ^ (k - 1).toNat + 83 := by
  by_cases h5 : k = 5
  · subst h5
    cases hE : s.toList.isEmpty
    · have hn : numB s = true := by
        cases hb : numB s with
        | true => rfl
        | false => rw [fitK_num hE hb] at hf; cases hf
      have h82 := isNum_len ((numB_iff s).1 hn)
      rw [size_list'] at h82
      have e : elB 5 s = s.size :: byN s := by unfold elB; rw [if_pos rfl, if_neg (by rw [hE]; decide)]
      rw [e]
      refine ⟨fun x hx => ?_, by rw [List.length_cons, byN_len, show 2 ^ ((5 : Int) - 1).toNat = 16 from rfl]; omega⟩
      rcases List.mem_cons.1 hx with rfl | hx
      · omega
      · obtain ⟨u, -, rfl⟩ := List.mem_map.1 hx
        exact u.toNat_lt
    · have e : elB 5 s = [] := by unfold elB; rw [if_pos rfl, if_pos hE]
      rw [e]
      exact ⟨bytes_nil, Nat.zero_le _⟩
  · rw [elB_int h5]
    exact ⟨gb_bytes _ _, by rw [gb_len]; omega⟩
theorem putB_facts {k : Int} {L : List ByteArray} (h : accE k L = 0) : Bytes (putB k L) ∧ (putB k L).length ≤ L.length * 100 + 1 := by
  obtain ⟨hty, -, hall⟩ := accE_zero h
  have h8 : 2 ^ (k - 1).toNat ≤ 16 := by
    rcases typB_true hty with h | h | h | h | h <;> rw [h] <;> decide
  have hf : ∀ M : List ByteArray, (∀ s ∈ M, s ∈ L) → Bytes (M.flatMap (elB k)) ∧ (M.flatMap (elB k)).length ≤ M.length * 99 := by
    intro M
    induction M with
    | nil => exact fun _ => ⟨bytes_nil, Nat.zero_le _⟩
    | cons s M ih =>
      intro hm
      obtain ⟨i1, i2⟩ := ih fun s hs => hm s (List.mem_cons_of_mem _ hs)
      obtain ⟨j1, j2⟩ := elB_bytes (List.all_eq_true.1 hall s (hm s List.mem_cons_self))
      rw [List.flatMap_cons]
      refine ⟨j1.app i1, ?_⟩
      rw [List.length_append, List.length_cons]; omega
  obtain ⟨f1, f2⟩ := hf L fun _ hs => hs
  unfold putB
  refine ⟨(bm_bytes _ _).app f1, ?_⟩
  rw [List.length_append, bm_len, flg_len]
  omega
/-- A number in two's complement, by its value: what shifting out and in again makes. -/
theorem shift_svl {W : Nat} {l : List Nat} (hW : W = 1 ∨ W = 2 ∨ W = 4 ∨ W = 8) (hl : l.length = W) (hb : Bytes l) :
    svl l = (if (gv l : Nat) < 128 * 256 ^ (W - 1) then ((gv l : Nat) : Int) else ((gv l : Nat) : Int) - 256 * ((256 ^ (W - 1) : Nat) : Int)) := by
  obtain ⟨h1, h2⟩ := svl_gv (W - 1) (l := l) (by omega) hb
  split
  · exact h1 (by omega)
  · exact h2 (by omega)
end Go.Proofs.YtpkhgdnkkdhlcaaGreatDoor

namespace Go.Proofs.YtpkhgdnkkdhlcaaGreatDoor
open Go.RowKit Ar By

theorem and1b {y : Nat} (hy : y < 256) : bits .and .u8 (y : Int) 1 = ((y % 2 : Nat) : Int) := by
  show IntKind.u8.wrap ((BitVec.ofInt 8 (y : Int) &&& BitVec.ofInt 8 ((1 : Nat) : Int)).toNat : Int) = _
  rw [BitVec.ofInt_natCast, BitVec.ofInt_natCast, BitVec.toNat_and, BitVec.toNat_ofNat, BitVec.toNat_ofNat, Nat.mod_eq_of_lt (show y < 2 ^ 8 from hy), Nat.mod_eq_of_lt (show 1 < 2 ^ 8 by decide), Nat.and_one_is_mod]
  exact wrap_u8 (by omega)
theorem bit_and {x t : Nat} (hx : x < 256) : bits .and .u8 ((x : Int) / 2 ^ t) 1 = ((x / 2 ^ t % 2 : Nat) : Int) := by
  have e : ((x / 2 ^ t : Nat) : Int) = (x : Int) / 2 ^ t := by simp
  rw [← e]
  have hy := Nat.lt_of_le_of_lt (Nat.div_le_self x (2 ^ t)) hx
  exact and1b hy
theorem bit_eq {x t : Nat} : ((x / 2 ^ t % 2 : Nat) : Int) = 1 ↔ x.testBit t = true := by
  rw [Nat.testBit_eq_decide_div_mod_eq, decide_eq_true_eq]; omega

theorem widR_nn (k : Int) : 0 ≤ widR k := by
  unfold widR
  split
  · exact Int.pow_nonneg (by decide)
  · exact Int.le_refl _
theorem wid_n {k : Int} {W : Nat} (hty : typB k = true) (h : k ≠ 5) (hW : widR k = (W : Int)) : 0 < W ∧ W ≤ 8 ∧ W = 2 ^ (k - 1).toNat := by
  rcases typB_true hty with rfl | rfl | rfl | rfl | rfl
  · have e : widR 1 = 1 := rfl
    obtain rfl : W = 1 := by omega
    decide
  · have e : widR 2 = 2 := rfl
    obtain rfl : W = 2 := by omega
    decide
  · have e : widR 3 = 4 := rfl
    obtain rfl : W = 4 := by omega
    decide
  · have e : widR 4 = 8 := rfl
    obtain rfl : W = 8 := by omega
    decide
  · exact absurd rfl h
set_option maxRecDepth 100000 in
set_option maxHeartbeats 6400000 in
theorem pget_any (k n : Int) (A : Option Addr) (c : Nat) (b : List Nat) (w : World) (h : Rd w w.heap.size A (ints .u8 b)) (hb : Bytes b) (hL : b.length ≤ 1048576) (hc : b.length ≤ c) (he : Env w) (her : EnvR w) (hg : EnvG w) :
    Calls Tryz.prog 14 #[.int .i64 k, .int .i64 n, .slice A b.length c] w fun e w' => Below w.heap.size w w' ∧ ∃ v, e = .returned (.tuple #[v, .int .i64 (getG k n b).2]) ∧ IsT w' w'.heap.size v (getG k n b).1 := by
  obtain ⟨i0, hi0, hz0, hz1, hz2⟩ := info_parts Tryz.rstr_info
  have TY := Lib.hid (ptyped_any k)
  by_cases hA : typB k = true ∧ 0 ≤ n ∧ n ≤ 4096
  rotate_left
  · rw [getG_bad hA]
    cases ht : typB k with
    | false =>
      rw [ht] at TY
      clear hA
      go_enter Tryz.func14, Tryz.ntmps14
      go_wp2_with fail
      refine (TY.out _).mono ?_
      rintro e w1 ⟨rfl, rfl⟩
      go_wp2
      go_ret2
      exact ⟨Below.refl _ _, _, rfl, IsT.nil _ _⟩
    | true =>
      rw [ht] at TY
      rcases Int.lt_or_le n 0 with h0 | h0
      · clear hA
        go_enter Tryz.func14, Tryz.ntmps14
        go_wp2_with fail
        refine (TY.out _).mono ?_
        rintro e w1 ⟨rfl, rfl⟩
        go_wp2
        go_ret2
        exact ⟨Below.refl _ _, _, rfl, IsT.nil _ _⟩
      · have h4 : 4096 < n := by
          rcases Int.lt_or_le 4096 n with h | h
          · exact h
          · exact absurd ⟨ht, h0, h⟩ hA
        clear hA
        go_enter Tryz.func14, Tryz.ntmps14
        go_wp2_with fail
        refine (TY.out _).mono ?_
        rintro e w1 ⟨rfl, rfl⟩
        go_wp2
        go_ret2
        exact ⟨Below.refl _ _, _, rfl, IsT.nil _ _⟩
  obtain ⟨hty, hn0, hn4⟩ := hA
  rw [hty] at TY
  obtain ⟨N, rfl⟩ : ∃ N : Nat, n = (N : Int) := ⟨n.toNat, by omega⟩
  obtain ⟨m, hm⟩ : ∃ m, m = (N + 7) / 8 := ⟨_, rfl⟩
  have hNt : (N : Int).toNat = N := by omega
  by_cases hsh : b.length < m
  · rw [getG_short ⟨hty, hn0, hn4⟩ (by rw [hNt]; omega)]
    have m1 : ((N : Int) + 7) / 8 = (m : Int) := by omega
    have m2 : (b.length : Int) < (m : Int) := by omega
    clear hm hsh
    go_enter Tryz.func14, Tryz.ntmps14
    go_wp2_with fail
    refine (TY.out _).mono ?_
    rintro e w1 ⟨rfl, rfl⟩
    go_wp2
    go_ret2
    exact ⟨Below.refl _ _, _, rfl, IsT.nil _ _⟩
  obtain ⟨RE, hRE⟩ : ∃ r, getG k N b = r := ⟨_, rfl⟩
  have hsh' : ¬ b.length < ((N : Int).toNat + 7) / 8 := by rw [hNt]; omega
  have HSTOP := Lib.hid (fun (hs : loopG k b m N = none) => show RE = ([], 5) from by
    rw [← hRE]; exact getG_stop ⟨hty, hn0, hn4⟩ hsh' (by rw [hNt, ← hm]; exact hs))
  have HBYT := Lib.hid (fun (x : List ByteArray × List Nat) (hs : loopG k b m N = some x) (hx : ¬ (accE k x.1 = 0 ∧ putB k x.1 = b)) => show RE = ([], 5) from by
    rw [← hRE]; exact getG_bytes ⟨hty, hn0, hn4⟩ hsh' (by rw [hNt, ← hm]; exact hs) hx)
  have HOK := Lib.hid (fun (x : List ByteArray × List Nat) (hs : loopG k b m N = some x) (hx : accE k x.1 = 0 ∧ putB k x.1 = b) => show RE = (x.1, 0) from by
    rw [← hRE]; exact getG_ok ⟨hty, hn0, hn4⟩ hsh' (by rw [hNt, ← hm]; exact hs) hx)
  rw [hRE]
  clear hRE hsh'
  obtain ⟨WW, hWW⟩ : ∃ W : Nat, widR k = (W : Int) := ⟨(widR k).toNat, by have := widR_nn k; omega⟩
  have WI := Lib.hid (fun W => pwid_any k W)
  rw [hWW] at WI
  have HW5 : Hid (k = 5 → WW = 0) := fun h => by rw [h] at hWW; have e : widR 5 = 0 := rfl; omega
  have HWN : Hid (k ≠ 5 → 0 < WW ∧ WW ≤ 8 ∧ WW = 2 ^ (k - 1).toNat) := fun h => wid_n hty h hWW
  clear hWW
  have HTY := Lib.hid hty
  have FB := Lib.hid (fun (i : Nat) (x : List ByteArray × List Nat) (hx : loopG k b m i = some x) => loopG_facts hb hty hx)
  have m1 : ((N : Int) + 7) / 8 = (m : Int) := by omega
  have m2 : (m : Int) ≤ (b.length : Int) := by omega
  have m3 : (m : Int) ≤ (c : Int) := by omega
  have m4 : m ≤ b.length := by omega
  have HM := Lib.hid hm
  have hdl : ((b.length : Int) - (m : Int)) = ((b.drop m).length : Nat) := by rw [List.length_drop]; omega
  have hdc : ((c : Int) - (m : Int)) = ((c - m : Nat) : Int) := by omega
  clear hm hsh hty
  go_enter Tryz.func14, Tryz.ntmps14
  go_wp2_with fail
  refine (TY.out _).mono ?_
  rintro e w1 ⟨rfl, rfl⟩
  go_wp2_with fail
  refine wp_region_held_drew (S := fun W => Below w.heap.size w W) (by kernel_rfl) (below_drewN (Below.refl _ _) 1) (fun hS => ?_)
  generalize w.drew = wd at *
  refine takeA (i := 0) (v := ?_) rfl (by kernel_rfl) (by kernel_rfl) (by kernel_rfl) (fun _ _ _ h => h) (by rfl) (by assumption) ?_ ?_
  rotate_left
  · intro w hSw; (try dsimp only at hSw); go_simp <;> with_reducible rfl
  try simp only [Act.put, List.setIfInBounds_toArray, List.set_cons_zero, List.set_cons_succ]
  refine takeA (i := 1) (v := ?_) rfl (by kernel_rfl) (by kernel_rfl) (by kernel_rfl) (fun _ _ _ h => h) (by rfl) (by assumption) ?_ ?_
  rotate_left
  · intro w hSw; (try dsimp only at hSw); go_simp <;> with_reducible rfl
  try simp only [Act.put, List.setIfInBounds_toArray, List.set_cons_zero, List.set_cons_succ]
  refine takeA (i := 2) (v := ?_) rfl (by kernel_rfl) (by kernel_rfl) (by kernel_rfl) (fun _ _ _ h => h) (by rfl) (by assumption) ?_ ?_
  rotate_left
  · intro w hSw; (try dsimp only at hSw); go_simp <;> with_reducible rfl
  try simp only [Act.put, List.setIfInBounds_toArray, List.set_cons_zero, List.set_cons_succ]
  refine takeA (i := 3) (v := ?_) rfl (by kernel_rfl) (by kernel_rfl) (by kernel_rfl) (fun _ _ _ h => h) (by rfl) (by assumption) ?_ ?_
  rotate_left
  · intro w hSw; (try dsimp only at hSw); go_simp <;> with_reducible rfl
  try simp only [Act.put, List.setIfInBounds_toArray, List.set_cons_zero, List.set_cons_succ]
  refine stepA (i := 4) rfl (by kernel_rfl) (fun K0 hK0 => ?_)
  go_simp
  refine (WI.out wd).mono ?_
  rintro e w1 ⟨rfl, rfl⟩
  dsimp only
  refine hK0.out _ _ hS (fun _ => ?_)
  clear hK0 K0
  try simp only [Act.put, List.setIfInBounds_toArray, List.set_cons_zero, List.set_cons_succ]
  refine takeA (i := 5) (v := ?_) rfl (by kernel_rfl) (by kernel_rfl) (by kernel_rfl) (fun _ _ _ h => h) (by rfl) (by assumption) ?_ ?_
  rotate_left
  · intro w hSw; (try dsimp only at hSw); go_simp <;> with_reducible rfl
  try simp only [Act.put, List.setIfInBounds_toArray, List.set_cons_zero, List.set_cons_succ]
  refine takeA (i := 6) (v := ?_) rfl (by kernel_rfl) (by kernel_rfl) (by kernel_rfl) (fun _ _ _ h => h) (by rfl) (by assumption) ?_ ?_
  rotate_left
  · intro w hSw; (try dsimp only at hSw); go_simp <;> with_reducible rfl
  try simp only [Act.put, List.setIfInBounds_toArray, List.set_cons_zero, List.set_cons_succ]
  refine wpAnyH_done (by kernel_rfl) ?_ _
  have hd := h.cut (k := m) (cap := c) (by rw [ints_length]; exact hc)
  rw [← ints_drop] at hd
  generalize (if c = m then A else A.map (·.add m)) = A0 at *
  go_wp2_with fail
  go_loopw [9, 11, 42] (fun rv ov iv wr => ∃ (j : Nat) (o : List ByteArray) (r : List Nat) (A' : Option Addr) (c' : Nat), j ≤ N ∧ iv = .int .i64 j ∧ rv = .slice A' r.length c' ∧ Hid (loopG k b m j = some (o, r)) ∧ Rd w w.heap.size A' (ints .u8 r) ∧ r.length ≤ c' ∧ wr.ownsRow w.heap.size 9 1 ov j (strs o) ∧ Below w.heap.size w wr) (fun _ _ iv _ => N - (intOf iv).toNat)
  case atStart =>
    refine ⟨0, [], b.drop m, A0, c - m, Nat.zero_le _, rfl, ?_, rfl, hd, by rw [List.length_drop]; omega, World.ownsRow_nil _ _ _ _, hS⟩
    rw [List.length_drop]
  case round =>
    obtain ⟨j, o, r, A', c', hj, rfl, rfl, HG, hr, hrc, hO, hB⟩ := hrel
    obtain ⟨f1, f2, f3⟩ := FB.out j (o, r) HG.out
    dsimp only at f1 f2 f3
    have hol : o.length = j := loopG_len HG.out
    by_cases hlt : j < N
    · obtain ⟨ad, rfl, hab, hcell⟩ := (h.below hB).int (j := j / 8) (by omega)
      have hx := hb.at_ (j / 8)
      have HBT : Hid (bitB b j = (b.getD (j / 8) 0).testBit (j % 8)) := rfl
      generalize b.getD (j / 8) 0 = x at *
      have y1 : IntKind.i64.wrap ((j : Int) / 8) = (j : Int) / 8 := IntWalk.i64_in _ (by omega)
      have y2 : ((j : Int) / 8).toNat = j / 8 := by omega
      have y3 : 0 ≤ (j : Int) / 8 := by omega
      have y4 : (j : Int) / 8 < b.length := by omega
      obtain ⟨t, ht⟩ : ∃ t, t = j % 8 := ⟨_, rfl⟩
      have y5 : (j : Int).tmod 8 = (t : Int) := by rw [Int.tmod_eq_emod_of_nonneg (by omega)]; omega
      have y6 : (t : Int) ≤ 8 := by omega
      have y7 : 0 ≤ (t : Int) := by omega
      have y8 : (j : Int) < (N : Int) := by omega
      rw [← ht] at HBT
      obtain ⟨T, hT⟩ : ∃ T, bitB b j = T := ⟨_, rfl⟩
      have q1 : (bits .and .u8 ((x : Int) / 2 ^ t) 1 == 1) = T := by
        rw [bit_and hx, ← hT, HBT.out]
        cases hb' : x.testBit t with
        | true => exact beq_iff_eq.2 (bit_eq.2 hb')
        | false => exact beq_eq_false_iff_ne.2 fun e => by rw [bit_eq.1 e] at hb'; cases hb'
      have HNX : Hid (szG k T r ≤ r.length → loopG k b m (j + 1) = some (o ++ [vlG k T r], r.drop (szG k T r))) := fun hs => by
        rw [← hT]; exact loopG_next HG.out (by rw [hT]; exact hs)
      have HST : Hid (¬ szG k T r ≤ r.length → loopG k b m N = none) := fun hs => by
        have := loopG_none (loopG_stop HG.out (by rw [hT]; exact hs)) (N - (j + 1))
        rwa [show j + 1 + (N - (j + 1)) = N by omega] at this
      clear hT HBT HG ht
      go_upto_block 2 with fail
      try rw [q1]
      clear q1 y1 y2 y3 y4 y5 y6 y7 hcell hx
      obtain ⟨S0, hS0⟩ : ∃ s, s = szG k T r := ⟨_, rfl⟩
      obtain ⟨V0, hV0⟩ : ∃ v, v = vlG k T r := ⟨_, rfl⟩
      rw [← hS0, ← hV0] at HNX
      rw [← hS0] at HST
      have HS0 := Lib.hid hS0
      have HV0 := Lib.hid hV0
      clear hS0 hV0
      go_cut [13, 14] from 55 to 82 (fun v s wx => (∃ V, v = .string V ∧ (T = true → S0 ≤ r.length → V = V0)) ∧ s = .int .i64 (S0 : Nat) ∧ Below w.heap.size w wx ∧ Below wr.heap.size wr wx)
      case first =>
        clear HNX HST HSTOP HBYT HOK TY
        by_cases h5 : k = 5
        · obtain rfl := HW5.out h5
          subst h5
          cases T
          · obtain rfl : S0 = 0 := HS0.out
            clear HS0 HV0
            go_wp2
            go_meet
            exact ⟨⟨_, rfl, fun h => by cases h⟩, rfl, hB, Below.refl _ _⟩
          · cases r with
            | nil =>
              obtain rfl : S0 = 1 := HS0.out
              clear HS0 HV0
              go_wp2
              go_meet
              exact ⟨⟨_, rfl, fun _ h => by simp at h⟩, rfl, hB, Below.refl _ _⟩
            | cons y r =>
              obtain rfl : S0 = 1 + y := HS0.out
              have hV : V0 = bstr (r.take y) := by
                have e : V0 = bstr (((y :: r).take (1 + y)).drop 1) := HV0.out
                rw [e, Nat.add_comm 1 y, List.take_succ_cons, List.drop_succ_cons, List.drop_zero]
              have HV := Lib.hid hV
              clear HS0 HV0 hV
              obtain ⟨ad', rfl, hab', hcell'⟩ := (hr.below hB).int (j := 0) (by simp)
              rw [addr_zero, List.getD_cons_zero] at hcell'
              have hy : y < 256 := f1 y List.mem_cons_self
              have hrl : (y :: r).length = r.length + 1 := rfl
              have hsub := ((hr.below hB).sub 1 y).more hB.size
              rw [List.drop_succ_cons, List.drop_zero] at hsub
              rw [hrl] at hrc f2 ⊢
              by_cases hq : c' = 1
              · have hr0 : r = [] := List.eq_nil_of_length_eq_zero (by omega)
                subst hr0
                subst hq
                have s1 := run_to_string (P := Tryz.prog) (w := wr) (B := 0) (A := some ad') (l := []) Rd.nil 25 5 9 Tryz.underlying25 Tryz.underlying5 Tryz.underlying9 ((min (1 + (y : Int)) 1).toNat - 1) 0 (by simp; omega)
                clear hsub
                go_wp2
                go_meet
                exact ⟨⟨_, rfl, fun _ _ => by rw [HV.out, List.take_nil]⟩, by go_num, hB, Below.refl _ _⟩
              · have s1 := run_to_string (P := Tryz.prog) (A := some ⟨ad'.block, ad'.off + 1, none⟩) hsub 25 5 9 Tryz.underlying25 Tryz.underlying5 Tryz.underlying9 ((min (1 + (y : Int)) ((r.length : Int) + 1)).toNat - 1) (c' - 1) (by rw [List.length_take]; omega)
                clear hsub
                go_wp2
                go_meet
                exact ⟨⟨_, rfl, fun _ _ => HV.out.symm⟩, by go_num, hB, Below.refl _ _⟩
        · obtain ⟨hw0, hw8, hwe⟩ := HWN.out h5
          have hS : S0 = WW := by rw [hwe]; exact HS0.out.trans (if_neg h5)
          have HV : Hid (T = true → (⟨(Lib.itoa (svl (r.take WW))).toArray⟩ : ByteArray) = V0) := fun hT => by
            have e := HV0.out
            rw [e, hwe]
            unfold vlG
            rw [if_pos hT, if_neg h5]
          have PI := Lib.hid (pinteger_any A' c' WW r wr ((hr.below hB).more hB.size) f1 (by omega) hrc hw8 (her.next hB))
          subst hS
          clear HS0 HV0 hwe hw8
          have hw0' : (0 : Int) < (S0 : Int) := by omega
          go_wp2_with fail
          refine PI.out.mono ?_
          rintro e w5 ⟨hb5, rfl⟩
          go_wp2
          go_meet
          exact ⟨⟨_, rfl, fun hT _ => HV.out hT⟩, rfl, hB.trans (hb5.mono hB.size), hb5⟩
      case rest =>
        obtain ⟨⟨V, rfl, HV⟩, rfl, hBc, hbrc⟩ := hcut
        have hOc := own_next hO hbrc
        clear hO hbrc hB
        by_cases hs : S0 ≤ r.length
        rotate_left
        · have hRE := HSTOP.out (HST.out hs)
          subst hRE
          clear HV HNX HST HSTOP HBYT HOK hOc hr
          go_wp2
          go_ret2
          exact ⟨hBc, _, rfl, IsT.nil _ _⟩
        · have HX := Lib.hid (HNX.out hs)
          have hsI : ¬ (r.length : Int) < (S0 : Int) := by omega
          clear HNX HST HSTOP HBYT HOK
          go_upto_if 88 with (fail)
          go_cut [13] from 43 to 96 (fun v wx => v = .string V0 ∧ wc = wx)
          case first =>
            cases T
            · obtain rfl : V0 = ⟨#[]⟩ := HV0.out
              go_wp2
              go_meet
              exact ⟨rfl, rfl⟩
            · obtain rfl := HV rfl hs
              go_wp2
              go_meet
              exact ⟨rfl, rfl⟩
          case rest =>
            obtain ⟨rfl, rfl⟩ := hcut
            clear HV HV0 HS0
            obtain ⟨uA, uc, rfl, -⟩ := own_slice hOc
            have hrs := hr.cut (k := S0) (cap := c') (by rw [ints_length]; exact hrc)
            rw [← ints_drop] at hrs
            have hj4 : j ≤ 4096 := by omega
            go_wp2_with fail
            refine wp_region_held_drew (S := fun W => Below w.heap.size w W) (by kernel_rfl) (hBc.drew) (fun hS0 => ?_)
            try simp only [Act.put, List.setIfInBounds_toArray, List.set_cons_zero, List.set_cons_succ]
            refine takeA (i := 0) (v := ?_) rfl (by kernel_rfl) (by kernel_rfl) (by kernel_rfl) (fun _ _ _ h => h) (by rfl) (by assumption) ?_ ?_
            rotate_left
            · intro w hSw; (try dsimp only at hSw); go_simp <;> with_reducible rfl
            try simp only [Act.put, List.setIfInBounds_toArray, List.set_cons_zero, List.set_cons_succ]
            refine takeA (i := 1) (v := ?_) rfl (by kernel_rfl) (by kernel_rfl) (by kernel_rfl) (fun _ _ _ h => h) (by rfl) (by assumption) ?_ ?_
            rotate_left
            · intro w hSw; (try dsimp only at hSw); go_simp <;> with_reducible rfl
            try simp only [Act.put, List.setIfInBounds_toArray, List.set_cons_zero, List.set_cons_succ]
            refine takeA (i := 4) (v := ?_) rfl (by kernel_rfl) (by kernel_rfl) (by kernel_rfl) (fun _ _ _ h => h) (by rfl) (by assumption) ?_ ?_
            rotate_left
            · intro w hSw; (try dsimp only at hSw); go_simp <;> with_reducible rfl
            try simp only [Act.put, List.setIfInBounds_toArray, List.set_cons_zero, List.set_cons_succ]
            refine takeA (i := 5) (v := ?_) rfl (by kernel_rfl) (by kernel_rfl) (by kernel_rfl) (fun _ _ _ h => h) (by rfl) (by assumption) ?_ ?_
            rotate_left
            · intro w hSw; (try dsimp only at hSw); go_simp <;> with_reducible rfl
            try simp only [Act.put, List.setIfInBounds_toArray, List.set_cons_zero, List.set_cons_succ]
            refine takeA (i := 6) (v := ?_) rfl (by kernel_rfl) (by kernel_rfl) (by kernel_rfl) (fun _ _ _ h => h) (by rfl) (by assumption) ?_ ?_
            rotate_left
            · intro w hSw; (try dsimp only at hSw); go_simp <;> with_reducible rfl
            try simp only [Act.put, List.setIfInBounds_toArray, List.set_cons_zero, List.set_cons_succ]
            generalize (if c' = S0 then A' else A'.map (·.add S0)) = A1 at *
            have HOA := Lib.hid (hOc.drew.alloc (.cells #[.string V0] 9))
            have hCA := hBc.drew.alloc (by exact hBc.size) (.cells #[.string V0] 9)
            have hzA : w.heap.size ≤ (wc.drew.alloc (.cells #[.string V0] 9)).heap.size := hCA.size
            clear hBc hOc hS0
            refine stepA (i := 2) rfl (by kernel_rfl) (fun K0 hK0 => ?_)
            go_simp
            refine hK0.out _ _ hCA (fun _ => ?_)
            clear hK0 K0
            try simp only [Act.put, List.setIfInBounds_toArray, List.set_cons_zero, List.set_cons_succ]
            refine stepA (i := 3) rfl (by kernel_rfl) (fun K0 hK0 => ?_)
            rw [if_pos (by rfl)]
            refine step_append_own (.tmp 89) (.tmp 91) 22 rfl w.heap.size 9 i0 (.string ⟨#[]⟩) 1 16 Tryz.underlying22 hi0 hz0 hz1 hz2 rfl (by omega) (.slice uA j uc) j _ (by rfl) HOA.out ⟨wc.heap.size, 0, none⟩ 1 1 [.string V0] (by rfl) (by rfl) (new_str wc.drew _ V0) (strs_one [V0]) (by unfold maxLen; omega) (by omega) hzA ?_
            intro v1 w8 hown1 hg1
            have hC8 := below_app hCA hg1 hzA HOA.out (Nat.le_refl _)
            have HO2 : Hid (w8.ownsRow w.heap.size 9 1 v1 (j + 1) (strs (o ++ [V0]))) := by
              show w8.ownsRow _ _ _ _ _ _
              rw [strs_app]; exact hown1
            clear hown1 hg1 HOA hCA hzA
            dsimp only
            refine hK0.out _ _ hC8 (fun hS9 => ?_)
            clear hK0 K0
            try simp only [Act.put, List.setIfInBounds_toArray, List.set_cons_zero, List.set_cons_succ]
            refine takeA (i := 7) (v := ?_) rfl (by kernel_rfl) (by kernel_rfl) (by kernel_rfl) (fun _ _ _ h => h) (by rfl) (by assumption) ?_ ?_
            rotate_left
            · intro w hSw; (try dsimp only at hSw); go_simp <;> with_reducible rfl
            try simp only [Act.put, List.setIfInBounds_toArray, List.set_cons_zero, List.set_cons_succ]
            refine takeA (i := 8) (v := ?_) rfl (by kernel_rfl) (by kernel_rfl) (by kernel_rfl) (fun _ _ _ h => h) (by rfl) (by assumption) ?_ ?_
            rotate_left
            · intro w hSw; (try dsimp only at hSw); go_simp <;> with_reducible rfl
            try simp only [Act.put, List.setIfInBounds_toArray, List.set_cons_zero, List.set_cons_succ]
            refine wpAnyH_done (by kernel_rfl) ?_ _
            have HD : Hid ((r.drop S0).length = r.length - S0) := List.length_drop
            go_wp2
            go_roundw
            case rel => exact ⟨j + 1, o ++ [V0], r.drop S0, A1, c' - S0, by omega, by go_num, by rw [HD.out], HX.out, hrs, by rw [HD.out]; omega, HO2.out, hS9⟩
            case measure => simp [intOf]; omega
    · obtain rfl : j = N := by omega
      have hLL : o.length ≤ 4096 := by omega
      have hpu := Lib.hid (fun W (hW : Below w.heap.size w W) A' c' (h : Rd W W.heap.size A' (strs o)) => pput_any k A' c' o W h (by omega) (fun s hs => by have := f3 s hs; omega) (he.next hW) (hg.next hW))
      have hT := IsT.of_own hO
      obtain ⟨uA, uc, rfl, -⟩ := own_slice hO
      have hrT := hT.rd
      have HE := Lib.hid (fun hx => HBYT.out (o, r) HG.out hx)
      have HE2 := Lib.hid (fun hx => HOK.out (o, r) HG.out hx)
      clear hO HBYT HOK HSTOP FB f1 f2 f3 hr HG TY WI HW5 HWN
      subst hol
      by_cases ha : accE k o = 0
      rotate_left
      · have hRE := HE.out (fun hx => ha hx.1)
        subst hRE
        have P := Lib.hid (hpu.out wr hB uA uc hrT)
        have ha' : (accE k o != 0) = true := by simp [ha]
        clear HE HE2 hpu hT hrT
        generalize accE k o = g at *
        go_wp2_with fail
        refine P.out.mono ?_
        rintro e w5 ⟨hb5, u, rfl, -⟩
        go_wp2
        go_ret2
        exact ⟨hB.trans (hb5.mono hB.size), _, rfl, IsT.nil _ _⟩
      · have P := hpu.out wr hB uA uc hrT
        rw [ha, if_pos rfl] at P
        have HP := Lib.hid P
        obtain ⟨q, hq⟩ : ∃ q : Bool, q = true ↔ putB k o = b := by classical exact ⟨decide _, decide_eq_true_iff⟩
        have HQ := Lib.hid hq
        have hlp := (putB_facts ha).2
        clear hpu P hq
        generalize hPB : putB k o = PB at *
        clear hPB
        go_wp2_with fail
        refine HP.out.mono ?_
        rintro e w5 ⟨hb5, u, rfl, A5, c5, rfl, hc5, hr5⟩
        have hB5 := hB.trans (hb5.mono hB.size)
        have hT5 := hT.next hb5
        have BE := Lib.hid (bequal_any PB b A5 A c5 c w5.heap.size w.heap.size w5 hr5 (h.below hB5) (Nat.le_refl _) hB5.size (by omega) (by omega) q HQ.out)
        go_wp2_with fail
        refine BE.out.mono ?_
        rintro e w6 ⟨hb6, rfl⟩
        have hB6 := hB5.trans (hb6.mono hB5.size)
        have hT6 := Lib.hid (hT5.next hb6)
        clear BE HP hT hT5 hr5 hrT hb5 hb6 hB5
        cases q with
        | false =>
          have hRE := HE.out (fun hx => by have := HQ.out.2 hx.2; cases this)
          subst hRE
          clear HE HE2 HQ
          go_wp2
          go_ret2
          exact ⟨hB6, _, rfl, IsT.nil _ _⟩
        | true =>
          have hRE := HE2.out ⟨ha, HQ.out.1 rfl⟩
          subst hRE
          clear HE HE2 HQ
          go_wp2
          go_ret2
          exact ⟨hB6, _, rfl, hT6.out⟩
end Go.Proofs.YtpkhgdnkkdhlcaaGreatDoor
