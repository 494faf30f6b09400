/-
  Walk: the reference's texts of numbers: NatRead.
-/
import Derived.Test.YtpkhgdnkkdhlcaaGreatDoorQqV
import Derived.Test.YtpkhgdnkkdhlcaaGreatDoorQdivM
import Derived.Deep.CutRange
import Derived.Deep.CutBlock
import Derived.Lib.IndexBytes
namespace Go.Proofs.YtpkhgdnkkdhlcaaGreatDoor
open Go.RowKit Ar

theorem digs_snoc' {l : List UInt8} {b : UInt8} (h : Digs l) (h1 : ¬ b.toNat < 48) (h2 : ¬ 57 < b.toNat) : Digs (l ++ [b]) := fun c hc => by
  rcases List.mem_append.1 hc with h3 | h3
  · exact h c h3
  · simp at h3; subst h3; omega
theorem take_snoc' (s : ByteArray) (k : Nat) (h : k < s.size) : s.data.toList.take (k + 1) = s.data.toList.take k ++ [s[k]] := by
  rw [List.take_succ_eq_append_getElem (by simpa using h)]; rfl
theorem bytes_at' (s : ByteArray) (k : Nat) (h : k < s.size) : s[k] ∈ s.data.toList := by
  have : s[k] = s.data.toList[k]'(by simpa using h) := rfl
  rw [this]; exact List.getElem_mem _
theorem size_list' (s : ByteArray) : s.data.toList.length = s.size := by rw [Array.length_toList]; rfl

theorem trimmed_isN {w : World} {base n k c : Nat} {A : Option Addr} {T : TypeId} {xs : List Nat} (h : w.ownsRow base T 1 (.slice A n c) n (ints .u64 xs)) (hx : xs.length = n) (hs : Small xs) (hc : n ≤ c) (hT : Trimmed xs k) : IsN w w.heap.size .u64 (.slice A k c) (val xs) := by
  have hk := hT.len hs
  have ht := hT.eq hs
  exact ⟨_, c, by rw [← hk], by rw [← hk]; have := hT.1; omega, by rw [ht, ints_take]; exact (Rd.of_own h).take k⟩
theorem read_digit {S : List UInt8} (hd : Digs S) {a i : Nat} (hi : i < S.length) (ha : a ≤ i) : dval ((S.drop a).take (i + 1 - a)) = 10 * dval ((S.drop a).take (i - a)) + (S[i].toNat - 48) := by
  have e : (S.drop a).take (i + 1 - a) = (S.drop a).take (i - a) ++ [S[i]] := by
    rw [show i + 1 - a = (i - a) + 1 by omega, List.take_succ_eq_append_getElem (by rw [List.length_drop]; omega), List.getElem_drop]
    congr 3
    omega
  have hdd : Digs ((S.drop a).take (i - a) ++ [S[i]]) := by rw [← e]; exact (hd.drop a).take _
  rw [e, dval_snoc hdd]
  omega

set_option maxRecDepth 100000 in
set_option maxHeartbeats 3200000 in
theorem nread_any (s : ByteArray) (w : World) (hs : s.size ≤ 10000000000000) (hd : Digs s.data.toList) :
    Calls Tryz.prog 152 #[.string s] w fun e w' => Below w.heap.size w w' ∧ ∃ v, e = .returned v ∧ IsN w' w'.heap.size .u64 v (dval s.data.toList) := by
  obtain ⟨i0, hi0, hz0, hz1, hz2⟩ := info_parts u64_info
  have HDG := Lib.hid hd
  clear hd
  go_enter Tryz.func152, Tryz.ntmps152
  go_wp2_with fail
  go_loopw [3, 4] (fun out ev wr => ∃ (t : Nat) (xs : List Nat), ev = .int .i64 ((s.size : Int) - 9 * t) ∧ 9 * t ≤ s.size + 8 ∧ xs.length = t ∧ Small xs ∧ Hid (val xs = dval (s.data.toList.drop (s.size - 9 * t))) ∧
      wr.ownsRow w.heap.size 67 1 out t (ints .u64 xs) ∧ Below w.heap.size w wr) (fun _ ev _ => (intOf ev).toNat)
  case atStart => exact ⟨0, [], by go_num, by omega, rfl, Small.nil, by show val [] = _; rw [Nat.mul_zero, Nat.sub_zero, List.drop_of_length_le (by rw [size_list']; exact Nat.le_refl _)]; rfl, World.ownsRow_nil _ _ _ _, Below.refl _ _⟩
  case round =>
    obtain ⟨t, xs, rfl, ht, hxl, hxs, HV, hown, hbel⟩ := hrel
    have hs5 := hbel.size
    rcases Nat.lt_or_ge (9 * t) s.size with hlt | hge
    · obtain ⟨E, hE⟩ : ∃ E, E + 9 * t = s.size := ⟨s.size - 9 * t, by omega⟩
      have hE0 : 0 < E := by omega
      have hEs : E ≤ s.size := by omega
      rw [show (s.size : Int) - 9 * t = (E : Int) by omega]
      obtain ⟨a, ha⟩ : ∃ a, a = E - 9 := ⟨_, rfl⟩
      have ha1 : a < E := by omega
      have ha2 : E ≤ a + 9 := by omega
      have STEP : Hid (∀ d : Nat, d = dval ((s.data.toList.drop a).take (E - a)) → Small (xs ++ [d]) ∧ val (xs ++ [d]) = dval (s.data.toList.drop (s.size - 9 * (t + 1)))) := fun d e => by
        have hlen : ((s.data.toList.drop a).take (E - a)).length = E - a := by rw [List.length_take, List.length_drop, size_list']; omega
        have hb : d < B := by
          have h1 := dval_lt ((HDG.out.drop a).take (E - a))
          rw [hlen] at h1
          have h2 : 10 ^ (E - a) ≤ 10 ^ 9 := Nat.pow_le_pow_right (by omega) (by omega)
          have h3 : (10 : Nat) ^ 9 = B := rfl
          omega
        refine ⟨hxs.append (Small.cons hb Small.nil), ?_⟩
        rw [val_snoc, hxl, HV.out, show s.size - 9 * (t + 1) = a by omega, dval_part HDG.out (a := a) (e := E) (by omega), size_list', show s.size - E = 9 * t by omega, ten_nine, e, show s.size - 9 * t = E by omega]
        rw [Nat.mul_comm, Nat.add_comm]
      have HE := Lib.hid hE
      have HDB : Hid (∀ i, i ≤ E → dval ((s.data.toList.drop a).take (i - a)) < 1000000000) := fun i hi => by
        have h1 := dval_lt ((HDG.out.drop a).take (i - a))
        have h2 : 10 ^ ((s.data.toList.drop a).take (i - a)).length ≤ 10 ^ 9 := Nat.pow_le_pow_right (by omega) (by rw [List.length_take]; omega)
        have h3 : (10 : Nat) ^ 9 = 1000000000 := rfl
        omega
      have HAE := Lib.hid ha
      clear ha hE
      by_cases h9 : 9 ≤ E
      all_goals
        go_wp2_with fail
        go_loop [5, 6] (fun dv iv => ∃ i dd : Nat, a ≤ i ∧ i ≤ E ∧ iv = .int .i64 i ∧ dv = .int .u64 dd ∧ dd < 1000000000 ∧ Hid (dd = dval ((s.data.toList.drop a).take (i - a)))) (fun _ iv => E - (intOf iv).toNat)
        case atStart => exact ⟨a, 0, Nat.le_refl _, by omega, by have := HAE.out; congr 1; omega, rfl, by omega, by show 0 = _; rw [Nat.sub_self, List.take_zero]; rfl⟩
        case round =>
          obtain ⟨i, dd, hi1, hi2, rfl, rfl, hdd, HDD⟩ := hrel
          rcases Nat.lt_or_ge i E with hiE | hiE
          · have his : i < s.size := by omega
            have hbt := HDG.out _ (bytes_at' s i his)
            have hb1 := hbt.1
            have hb2 := hbt.2
            have HN : Hid (10 * dd + (s[i].toNat - 48) = dval ((s.data.toList.drop a).take (i + 1 - a)) ∧ 10 * dd + (s[i].toNat - 48) < 1000000000) := by
              have e := read_digit HDG.out (a := a) (i := i) (by rw [size_list']; exact his) hi1
              have e2 : s.data.toList[i]'(by rw [size_list']; exact his) = s[i] := rfl
              rw [e2, ← HDD.out] at e
              have := HDB.out (i + 1) hiE
              rw [e] at this
              exact ⟨e.symm, this⟩
            clear hbt
            go_wp2
            go_round
            case rel => exact ⟨i + 1, 10 * dd + (s[i].toNat - 48), by omega, by omega, by go_num, by congr 1; omega, HN.out.2, HN.out.1⟩
            case measure => simp [intOf]; omega
          · obtain rfl : i = E := by omega
            go_wp2_with (at_builtin; refine wpL_append _ rfl (.tmp 29) (.tmp 31) _ rfl w.heap.size 67 i0 _ 1 8 Tryz.underlying72 hi0 hz0 hz1 hz2 rfl (by omega) _ t (ints .u64 xs) rfl (hown.alloc _) (some ⟨wr.heap.size, 0, none⟩) 1 1 [.int .u64 (dd : Int)] rfl rfl (Rd.of_new wr [.int .u64 (dd : Int)] 67) (by intro u hu; simp at hu; subst hu; rfl) (by unfold maxLen; omega) (by omega) (by simp; omega) ?_; intro v1 w1 hown1 hg1 hat1)
            go_roundw
            case rel =>
              obtain ⟨e1, e2⟩ := STEP.out dd HDD.out
              have hEE := HE.out
              refine ⟨t + 1, xs ++ [dd], by congr 1; omega, by omega, by simp [hxl], e1, e2, ?_, below_app (hbel.alloc hbel.size _) hg1 (by simp; omega) (hown.alloc _) (Nat.le_refl _)⟩
              have e : ints .u64 (xs ++ [dd]) = ints .u64 xs ++ [.int .u64 (dd : Int)] := by simp [ints]
              rw [e]; exact hown1
            case measure => have hEE := HE.out; simp [intOf]; omega
    · have hneg : ¬ (0 : Int) < (s.size : Int) - 9 * t := by omega
      have HV2 : Hid (val xs = dval s.data.toList) := by
        have := HV.out
        rw [show s.size - 9 * t = 0 by omega, List.drop_zero] at this
        exact this
      obtain ⟨A9, c9, rfl, hc9⟩ := own_slice0 hown
      have hrd := Rd.of_own hown
      generalize (s.size : Int) - 9 * t = ee at *
      go_wp2_with fail
      refine (qtrim_any A9 c9 t xs wr hxl hc9 (by omega) hrd).mono ?_
      rintro e w2 ⟨rfl, k, hT, rfl⟩
      have HO := trimmed_isN hown hxl hxs hc9 hT
      rw [HV2.out] at HO
      clear hT
      go_wp2
      go_ret
      exact ⟨hbel, _, rfl, HO⟩
end Go.Proofs.YtpkhgdnkkdhlcaaGreatDoor

