/-
  Walks: the reference's numbers: run, plain, Text, Get, IsValue.
  Walks: the reference's numbers: Text.
  Walks: the reference's Get, Valid, IsValue.
-/
import Derived.Test.YtpkhgdnkkdhlcaaGreatDoorQqX
import Derived.Test.YtpkhgdnkkdhlcaaGreatDoorNumX
import Derived.Lib.OthersKept
import Derived.Test.YtpkhgdnkkdhlcaaGreatDoorNsX
namespace Go.Proofs.YtpkhgdnkkdhlcaaGreatDoor
open Go.RowKit Ar

theorem dig_at (s : ByteArray) (k : Nat) (h : k < s.size) (hk : k < digN s.data.toList) : 48 ≤ s[k].toNat ∧ s[k].toNat ≤ 57 := by
  have hg : s.data.toList[k]? = some s[k] := by rw [List.getElem?_eq_getElem (by rw [size_list']; exact h)]; rfl
  refine digN_take s.data.toList s[k] ?_
  rw [List.mem_iff_getElem?]
  exact ⟨k, by rw [List.getElem?_take_of_lt hk]; exact hg⟩
theorem dig_stop (s : ByteArray) (h : digN s.data.toList < s.size) : s[digN s.data.toList].toNat < 48 ∨ 57 < s[digN s.data.toList].toNat := by
  obtain ⟨c, h1, h2⟩ := digN_stop (l := s.data.toList) (by rw [size_list']; exact h)
  have hg : s.data.toList[digN s.data.toList]? = some s[digN s.data.toList] := by rw [List.getElem?_eq_getElem (by rw [size_list']; exact h)]; rfl
  rw [hg] at h1
  injection h1 with h1
  rw [← h1] at h2
  rcases Nat.lt_or_ge s[digN s.data.toList].toNat 48 with h | h
  · exact .inl h
  rcases Nat.lt_or_ge 57 s[digN s.data.toList].toNat with h' | h'
  · exact .inr h'
  · rw [(dig_iff _).2 ⟨h, h'⟩] at h2; cases h2
set_option maxRecDepth 100000 in
set_option maxHeartbeats 1600000 in
theorem rrun_any (s : ByteArray) (w : World) (hs : s.size ≤ 100000000000000) :
    Calls Tryz.prog 151 #[.string s, .int .i64 0] w fun e w' => w = w' ∧ e = .returned (.int .i64 ((digN s.data.toList : Nat) : Int)) := by
  have hm : digN s.data.toList ≤ s.size := by rw [← size_list']; exact digN_le _
  have HD : Hid (∀ (k : Nat) (h : k < s.size), k < digN s.data.toList → 48 ≤ s[k].toNat ∧ s[k].toNat ≤ 57) := dig_at s
  have HE : Hid (∀ (k : Nat) (h : k < s.size), k = digN s.data.toList → s[k].toNat < 48 ∨ 57 < s[k].toNat) := by
    rintro k h rfl; exact dig_stop s h
  generalize digN s.data.toList = m at *
  go_enter Tryz.func151, Tryz.ntmps151
  go_wp2
  go_loop [5] (fun i => ∃ k : Nat, k ≤ m ∧ i = .int .i64 k) (fun i => s.size - (intOf i).toNat)
  case atStart => exact ⟨0, Nat.zero_le _, rfl⟩
  case round =>
    obtain ⟨k, hk, rfl⟩ := hrel
    by_cases hlt : k < m
    · have hks : k < s.size := by omega
      obtain ⟨h1, h2⟩ := HD.out k hks hlt
      go_wp2
      go_round
      case rel => exact ⟨k + 1, by omega, by go_num⟩
      case measure => simp [intOf]; omega
    · obtain rfl : k = m := by omega
      by_cases hks : k < s.size
      · rcases HE.out k hks rfl with h1 | h1
        · go_wp2
          go_ret
          exact ⟨rfl, rfl⟩
        · have h2 : ¬ s[k].toNat < 48 := by omega
          go_wp2
          go_ret
          exact ⟨rfl, rfl⟩
      · go_wp2
        go_ret
        exact ⟨rfl, rfl⟩

theorem limbs_digs' {l : List UInt8} (h : Digs l) : (limbs (dval l)).length ≤ l.length :=
  limbs_len_le (Nat.lt_of_lt_of_le (dval_lt h) (Nat.pow_le_pow_left (by decide) _))
/-- Moving an iterator on turns no cell. -/
theorem iterAt_cell {w : World} {k pos pos' : Nat} {s : ByteArray} (hk : w.heap[k]? = some (.stringIter s pos)) (p : Addr) : (w.iterAt k s pos').cell? p = w.cell? p := by
  by_cases h : p.block = k
  · have h1 := Lib.iterAt_heap w k s pos pos' hk
    unfold World.cell?
    rw [h, h1, hk]
  · have h1 := Lib.iterAt_other w k p.block s pos' h
    unfold World.cell?
    rw [h1]
theorem IsN.iterAt {w : World} {k pos pos' : Nat} {s : ByteArray} {kd : IntKind} {v : Value} {n : Nat} (h : IsN w w.heap.size kd v n) (hk : w.heap[k]? = some (.stringIter s pos)) : IsN (w.iterAt k s pos') (w.iterAt k s pos').heap.size kd v n := by
  obtain ⟨A, c, e, h1, h2⟩ := h
  exact ⟨A, c, e, h1, by rw [Lib.iterAt_size]; exact h2.keep fun p _ => iterAt_cell hk p⟩
theorem rcalls_named {P : Program} {f : FuncId} {args : Array Value} {w : World} {Q : Ending → World → Prop} (F : World → Prop) (hF : F w) (h : ∀ W, F W → Calls P f args W Q) : Calls P f args w Q := h w hF
theorem le_big2 {n : Nat} (h : n ≤ 2000) : n ≤ 400000000000 := by omega
theorem le_big' {n : Nat} (h : n ≤ 1001) : n ≤ 400000000000 := by omega
theorem le_big {n : Nat} (h : n ≤ 1000) : n ≤ 400000000000 := by omega
/-- What the reference's plain answers. -/
def PlQ (l : List UInt8) (z : Bool) (q : Rat) : Prop := refPlain l = if z then some q else none
set_option maxRecDepth 100000 in
set_option maxHeartbeats 6400000 in
theorem rplain_any (s : ByteArray) (w : World) (hs : s.size ≤ 1000) :
    Calls Tryz.prog 97 #[.string s] w fun e w' => Below w.heap.size w w' ∧ ∃ v z q, e = .returned (.tuple #[v, .bool z]) ∧ IsQ w' w'.heap.size v q ∧ PlQ s.data.toList z q := by
  obtain ⟨U, hU⟩ : ∃ U : ByteArray, U.data.toList = unsign s.data.toList := ⟨⟨(unsign s.data.toList).toArray⟩, rfl⟩
  obtain ⟨ng, hng⟩ : ∃ b, b = isNeg s.data.toList := ⟨_, rfl⟩
  have HP : Hid (∀ z q, (z = false → refPlain s.data.toList = none) → (z = true → refPlain s.data.toList = some q) → PlQ s.data.toList z q) := fun z q h1 h2 => by
    unfold PlQ
    cases z
    · exact h1 rfl
    · exact h2 rfl
  have HF : Hid (refPlain s.data.toList = if digN U.data.toList = 0 then none
    else if digN U.data.toList = U.data.toList.length then some (nr ng (dval U.data.toList) 1)
    else if digN (U.data.toList.drop (digN U.data.toList + 1)) ≠ (U.data.toList.drop (digN U.data.toList + 1)).length ∨ U.data.toList.drop (digN U.data.toList + 1) = [] ∨ (U.data.toList.getD (digN U.data.toList) 0 ≠ 46 ∧ U.data.toList.getD (digN U.data.toList) 0 ≠ 47) then none
    else if U.data.toList.getD (digN U.data.toList) 0 = 47 then
      if dval (U.data.toList.drop (digN U.data.toList + 1)) = 0 then none else some (nr ng (dval (U.data.toList.take (digN U.data.toList))) (dval (U.data.toList.drop (digN U.data.toList + 1))))
    else some (nr ng (dval (U.data.toList.take (digN U.data.toList) ++ U.data.toList.drop (digN U.data.toList + 1))) (10 ^ (U.data.toList.drop (digN U.data.toList + 1)).length))) := by
    show _ = _
    rw [hU, hng]
    rfl
  have HU := Lib.hid hU
  have HNG := Lib.hid hng
  have hUsz : U.size ≤ s.size := by
    rw [← size_list' U, hU, ← size_list' s]
    unfold unsign
    split
    · rw [List.length_tail]; omega
    · exact Nat.le_refl _
  clear hU hng
  go_enter Tryz.func97, Tryz.ntmps97
  go_upto_region 1 with (fail)
  have hb0 := below_alloc w (.cells #[.bool false, .slice none 0 0, .slice none 0 0] 74)
  have k0 := Bk.new w 74 #[Value.bool false, .slice none 0 0, .slice none 0 0]
  generalize w.alloc (.cells #[.bool false, .slice none 0 0, .slice none 0 0] 74) = w1 at *
  go_cut [4] from 10 to 17 (fun v wx => v = .bool ng ∧ w1 = wx)
  case first =>
    rcases Nat.eq_zero_or_pos s.size with h0 | h0
    · have hngf : ng = false := by
        rw [HNG.out]
        have : s.data.toList = [] := List.eq_nil_of_length_eq_zero (by rw [size_list']; exact h0)
        rw [this]; rfl
      subst hngf
      go_wp2
      go_meet
      exact ⟨rfl, rfl⟩
    · have hh : s.data.toList.head? = some s[0] := by
        have e : s[0] = s.data.toList[0]'(by rw [size_list']; exact h0) := rfl
        rw [e, List.head?_eq_getElem?, List.getElem?_eq_getElem]
      have hnv : ng = ((s[0].toNat : Int) == 45) := by
        rw [HNG.out]
        unfold isNeg
        rw [hh, Bool.eq_iff_iff, beq_iff_eq, beq_iff_eq]
        constructor
        · intro h; injection h with h; rw [h]; rfl
        · intro h
          congr 1
          apply UInt8.toNat_inj.1
          show s[0].toNat = 45
          omega
      subst hnv
      clear hh
      go_wp2
      go_meet
      exact ⟨rfl, rfl⟩
  case rest =>
  obtain ⟨rfl, rfl⟩ := hcut
  go_upto_if 18 with (fail)
  go_cut [0] from 18 to 20 (fun v wx => v = .string U ∧ w1 = wx)
  case first =>
    cases hb : ng
    · have hUs : U = s := ba_ext (by rw [HU.out]; unfold unsign; rw [if_neg]; rw [← HNG.out, hb]; decide)
      subst hUs
      subst hb
      go_wp2
      go_meet
      exact ⟨rfl, rfl⟩
    · have hpos : 0 < s.size := by
        rcases Nat.eq_zero_or_pos s.size with h0 | h0
        · exfalso
          have := HNG.out
          rw [hb] at this
          have e : s.data.toList = [] := List.eq_nil_of_length_eq_zero (by rw [size_list']; exact h0)
          rw [e] at this
          cases this
        · exact h0
      have hUs : U = s.extract 1 s.size := ba_ext (by
        rw [HU.out, Lib.extract_to_end]; unfold unsign; rw [if_pos (by rw [← HNG.out, hb]), List.drop_one])
      subst hUs
      subst hb
      go_wp2
      go_meet
      exact ⟨rfl, rfl⟩
  case rest =>
  obtain ⟨rfl, rfl⟩ := hcut
  go_wp2_with fail
  refine (rrun_any U _ (by omega)).mono ?_
  rintro e w2 ⟨rfl, rfl⟩
  have hm : digN U.data.toList ≤ U.size := by rw [← size_list']; exact digN_le _
  obtain ⟨m, hme⟩ : ∃ m, m = digN U.data.toList := ⟨_, rfl⟩
  rw [← hme] at hm ⊢
  have HM := Lib.hid hme
  clear hme
  obtain ⟨d0, d1, d2⟩ := bk3 k0
  have f0 := k0.frozen 0
  have f1 := k0.frozen 1
  have f2 := k0.frozen 2
  rcases Nat.eq_zero_or_pos m with h0 | h0
  · have hno : refPlain s.data.toList = none := by rw [HF.out, ← HM.out, if_pos h0]
    have HN := Lib.hid hno
    subst h0
    clear hno
    go_wp2
    refine bodyPost_ret (v := .tuple #[.agg #[.bool false, .slice none 0 0, .slice none 0 0], .bool false]) (by simp [results, Tryz.results97, go_sem, d0, d1, d2]) rfl ?_
    exact ⟨set3_below hb0 (Nat.le_refl _), _, false, 0, rfl, IsQ.zero _ _, HP.out false 0 (fun _ => HN.out) (fun h => (by cases h))⟩
  have hw0 : ¬ m = 0 := by omega
  by_cases hall : m = U.size
  · have hyes : refPlain s.data.toList = some (nr ng (dval U.data.toList) 1) := by rw [HF.out, ← HM.out, if_neg hw0, if_pos (by rw [hall, size_list'])]
    have HY := Lib.hid hyes
    have hdg : Digs U.data.toList := digs_of_digN (by rw [← HM.out, hall, size_list'])
    have HDG := Lib.hid hdg
    clear hyes hdg d0 d1 d2 f0 f1 f2
    subst hall
    go_wp2_with fail
    refine (nread_any U _ (by omega) HDG.out).mono ?_
    rintro e w2 ⟨hb2, N, rfl, hN⟩
    obtain ⟨A, l, c, rfl⟩ := hN.form
    go_wp2_with fail
    refine (qone_any _).mono ?_
    rintro e w3 ⟨hb3, D, rfl, hD⟩
    obtain ⟨A', l', c', rfl⟩ := hD.form
    go_wp2_with fail
    refine (qmake_any ng _ 1 _ _ _ (hN.next hb3) hD (by have := limbs_digs' HDG.out; rw [size_list'] at this; omega) (by have : (limbs 1).length ≤ 1 := limbs_len_le (by decide); omega)).mono ?_
    rintro e w4 ⟨hb4, v, rfl, hv⟩
    obtain ⟨b, A2, l2, c2, A3, l3, c3, rfl⟩ := hv.form
    have hb24 := (hb2.trans (hb3.mono hb2.size)).trans (hb4.mono (Nat.le_trans hb2.size hb3.size))
    have k4 := k0.below hb24 k0.lt
    have hB := hb0.trans (hb24.mono hb0.size)
    have hv' := (hv.set3 k4 (.bool b) (.slice A2 l2 c2) (.slice A3 l3 c3)).more (B' := (set3 w4 w.heap.size (.bool b) (.slice A2 l2 c2) (.slice A3 l3 c3)).heap.size) (by rw [set3_size]; exact Nat.le_refl _)
    obtain ⟨d0, d1, d2⟩ := bk3 k4
    have f0 := k4.frozen 0
    have f1 := k4.frozen 1
    have f2 := k4.frozen 2
    have HV := Lib.hid hv'
    clear hv' hv hN hD
    go_wp2
    refine bodyPost_ret (v := .tuple #[.agg #[.bool b, .slice A2 l2 c2, .slice A3 l3 c3], .bool true]) (by simp [results, Tryz.results97, go_sem, d0, d1, d2]) rfl ?_
    exact ⟨set3_below hB (Nat.le_refl _), _, true, _, rfl, HV.out, HP.out true _ (fun h => (by cases h)) (fun _ => HY.out)⟩
  have hlt : m < U.size := by omega
  have hex : (U.extract (m + 1) U.size).data.toList = U.data.toList.drop (m + 1) := by rw [Lib.extract_to_end]
  have hxs : (U.extract (m + 1) U.size).size = U.size - (m + 1) := by rw [← size_list', hex, List.length_drop, size_list']
  have het : (U.extract 0 m).data.toList = U.data.toList.take m := by rw [Lib.extract_data]; simp
  have hgd : U.data.toList.getD m 0 = U[m] := by
    rw [List.getD_eq_getElem?_getD, List.getElem?_eq_getElem (by rw [size_list']; exact hlt)]; rfl
  have HR : Hid (refPlain s.data.toList = if digN (U.extract (m + 1) U.size).data.toList ≠ (U.extract (m + 1) U.size).size ∨ (U.extract (m + 1) U.size).data.toList = [] ∨ (U[m].toNat ≠ 46 ∧ U[m].toNat ≠ 47) then none
    else if U[m].toNat = 47 then
      if dval (U.extract (m + 1) U.size).data.toList = 0 then none else some (nr ng (dval (U.extract 0 m).data.toList) (dval (U.extract (m + 1) U.size).data.toList))
    else some (nr ng (dval ((U.extract 0 m).data.toList ++ (U.extract (m + 1) U.size).data.toList)) (10 ^ (U.extract (m + 1) U.size).size))) := by
    show _ = _
    rw [HF.out, ← HM.out, if_neg hw0, if_neg (by rw [size_list']; exact hall), ← hex, ← het, hgd, size_list']
    have e46 : (U[m] ≠ 46) = (U[m].toNat ≠ 46) := by
      rw [ne_eq, ne_eq, ← UInt8.toNat_inj]; rfl
    have e47 : (U[m] ≠ 47) = (U[m].toNat ≠ 47) := by
      rw [ne_eq, ne_eq, ← UInt8.toNat_inj]; rfl
    have e47' : (U[m] = 47) = (U[m].toNat = 47) := by
      rw [← UInt8.toNat_inj]; rfl
    simp only [e46, e47, e47']
  have HDT : Hid (Digs (U.extract 0 m).data.toList) := by
    show Digs _
    rw [het, HM.out]; exact digN_take _
  have hts : (U.extract 0 m).size = m := by rw [← size_list', het, List.length_take, size_list']; omega
  have b1 : (0 : Int) ≤ (m : Int) := by omega
  have b2 : (m : Int) < (U.size : Int) := by omega
  have b2' : (m : Int) ≤ (U.size : Int) := by omega
  have ww1 : IntKind.i64.wrap ((m : Int) + 1) = (m : Int) + 1 := IntWalk.i64_in _ (by omega)
  have b3 : (0 : Int) ≤ (m : Int) + 1 := by omega
  have b4 : (m : Int) + 1 ≤ (U.size : Int) := by omega
  have b5 : ((m : Int) + 1).toNat = m + 1 := by omega
  clear hex het hgd HF HM d0 d1 d2 f0 f1 f2
  go_wp2_with fail
  go_quiet (fail)
  go_wp2_with fail
  refine rcalls_named (fun W => Below w.heap.size w W ∧ Bk W w.heap.size 74 #[Value.bool false, .slice none 0 0, .slice none 0 0]) ⟨below_drewN hb0 _, k0.drewN _⟩ ?_
  clear hb0 k0
  rintro w1 ⟨hb0, k0⟩
  obtain ⟨d0, d1, d2⟩ := bk3 k0
  have f0 := k0.frozen 0
  have f1 := k0.frozen 1
  have f2 := k0.frozen 2
  refine (rrun_any (U.extract (m + 1) U.size) _ (by omega)).mono ?_
  rintro e w2 ⟨rfl, rfl⟩
  clear ww1 b3 b4 b5
  generalize U.extract (m + 1) U.size = M at *
  have hMs : M.size ≤ 1000 := by omega
  have hTs : (U.extract 0 m).size ≤ 1000 := by omega
  clear hxs hts
  by_cases hr : digN M.data.toList = M.size
  rotate_left
  · have HN : Hid (refPlain s.data.toList = none) := by
      show _ = _
      rw [HR.out, if_pos (.inl hr)]
    have tr : ((digN M.data.toList : Int) != (M.size : Int)) = true := by rw [bne_iff_ne]; omega
    have tr' : ((digN M.data.toList : Int) == (M.size : Int)) = false := by rw [beq_eq_false_iff_ne]; omega
    generalize digN M.data.toList = r at *
    clear HR hr
    go_wp2
    refine bodyPost_ret (v := .tuple #[.agg #[.bool false, .slice none 0 0, .slice none 0 0], .bool false]) (by simp [results, Tryz.results97, go_sem, d0, d1, d2]) rfl ?_
    exact ⟨set3_below hb0 (Nat.le_refl _), _, false, 0, rfl, IsQ.zero _ _, HP.out false 0 (fun _ => HN.out) (fun h => (by cases h))⟩
  by_cases he : M.data.toList = []
  · have HN : Hid (refPlain s.data.toList = none) := by
      show _ = _
      rw [HR.out, if_pos (.inr (.inl he))]
    have tr : ((digN M.data.toList : Int) != (M.size : Int)) = false := by rw [bne_eq_false_iff_eq]; omega
    have tr' : ((digN M.data.toList : Int) == (M.size : Int)) = true := by rw [beq_iff_eq]; omega
    have te : (M.toList == []) = true := by rw [ByteArray.toList_eq, he]; rfl
    have te' : M.toList.isEmpty = true := by rw [ByteArray.toList_eq, he]; rfl
    generalize digN M.data.toList = r at *
    clear HR hr he
    go_wp2
    refine bodyPost_ret (v := .tuple #[.agg #[.bool false, .slice none 0 0, .slice none 0 0], .bool false]) (by simp [results, Tryz.results97, go_sem, d0, d1, d2]) rfl ?_
    exact ⟨set3_below hb0 (Nat.le_refl _), _, false, 0, rfl, IsQ.zero _ _, HP.out false 0 (fun _ => HN.out) (fun h => (by cases h))⟩
  have te : (M.toList == []) = false := by rw [ByteArray.toList_eq, beq_eq_false_iff_ne]; exact he
  have te' : M.toList.isEmpty = false := by rw [ByteArray.toList_eq, List.isEmpty_eq_false_iff]; exact he
  have tr : ((digN M.data.toList : Int) != (M.size : Int)) = false := by rw [bne_eq_false_iff_eq]; omega
  have tr' : ((digN M.data.toList : Int) == (M.size : Int)) = true := by rw [beq_iff_eq]; omega
  have HDM : Hid (Digs M.data.toList) := digs_of_digN (by rw [hr, size_list'])
  have HEM := Lib.hid he
  have HHR := Lib.hid hr
  clear he hr
  generalize digN M.data.toList = r at *
  by_cases s46 : U[m].toNat = 46
  · have t46 : ((U[m].toNat : Int) == 46) = true := by rw [s46]; rfl
    have t46' : ((U[m].toNat : Int) != 46) = false := by rw [s46]; rfl
    have t47 : ((U[m].toNat : Int) == 47) = false := by rw [s46]; rfl
    have HY : Hid (refPlain s.data.toList = some (nr ng (dval ((U.extract 0 m).data.toList ++ M.data.toList)) (10 ^ M.size))) := by
      show _ = _
      rw [HR.out, if_neg, if_neg (by omega)]
      rintro (h | h | h)
      · exact h HHR.out
      · exact HEM.out h
      · exact h.1 s46
    generalize U[m].toNat = sg at *
    clear HR s46 HHR HEM
    clear d0 d1 d2 f0 f1 f2
    have hcat : (U.extract 0 m ++ M).data.toList = (U.extract 0 m).data.toList ++ M.data.toList := by rw [ByteArray.data_append, Array.toList_append]
    have HDC : Hid (Digs (U.extract 0 m ++ M).data.toList) := by
      show Digs _
      rw [hcat]
      intro b hb
      rcases List.mem_append.1 hb with h | h
      · exact HDT.out b h
      · exact HDM.out b h
    have hCs : (U.extract 0 m ++ M).size ≤ 2000 := by rw [← size_list', hcat, List.length_append, size_list', size_list']; omega
    have hCl : (limbs (dval (U.extract 0 m ++ M).data.toList)).length ≤ 2000 := Nat.le_trans (limbs_digs' HDC.out) (by rw [size_list']; exact hCs)
    rw [← hcat] at HY
    have HPW : Hid (∀ k, k ≤ 1000 → (limbs (10 ^ k)).length ≤ 1001) := fun k hk => Nat.le_trans (limbs_len_le (k := k + 1) (Nat.lt_of_lt_of_le (Nat.pow_lt_pow_right (by decide) (Nat.lt_succ_self k)) (Nat.pow_le_pow_left (by decide) _))) (by omega)
    clear hcat
    go_wp2_with fail
    refine (qone_any _).mono ?_
    rintro e w2 ⟨hb2, D, rfl, hD⟩
    obtain ⟨A', l', c', rfl⟩ := hD.form
    go_wp2_with fail
    go_loopw [9] (fun v wr => ∃ pos, pos ≤ M.size ∧ wr.heap[w2.heap.size]? = some (.stringIter M pos) ∧ Below w1.heap.size w1 wr ∧ IsN wr wr.heap.size .u64 v (10 ^ pos)) (fun _ wr => M.size - wr.iterPos w2.heap.size)
    case atStart => exact ⟨0, Nat.zero_le _, World.iter_heap w2 M 0, hb2.alloc hb2.size _, by rw [Nat.pow_zero]; exact hD.alloc _⟩
    case round =>
      obtain ⟨pos, hp, hit, hbw, hN⟩ := hrel
      have hg2 := hb2.size
      by_cases hlt : pos < M.size
      · have hasc : M[pos].toNat < 128 := by have := HDM.out M[pos] (bytes_at' M pos hlt); omega
        have hnx : ∀ ty, (Instr.next (.pointer (some ⟨w2.heap.size, 0, none⟩)) true ty).run Tryz.prog wr = _ := fun ty => Lib.run_next_ascii_at wr w2.heap.size M pos ty hit hlt hasc
        have hN2 := hN.iterAt (pos' := pos + 1) hit
        have hit2 := Lib.iterAt_heap wr w2.heap.size M pos (pos + 1) hit
        have hbw2 := Lib.below_iterAt hbw (k := w2.heap.size) hg2 M (pos + 1)
        have HIT := Lib.hid hit
        have HIT2 := Lib.hid hit2
        have HN2 := Lib.hid hN2
        have HB2 := Lib.hid hbw2
        clear hit2 hN2 hbw2 hN hbw
        go_wp2_with fail
        refine (natOf_any 10 _ (by omega)).mono ?_
        rintro e w3 ⟨hb3, T, rfl, hT⟩
        obtain ⟨A3, l3, c3, rfl⟩ := hT.form
        clear hnx
        go_wp2_with fail
        refine (nmul_any (10 ^ pos) 10 _ _ w3 (HN2.out.next hb3) hT (Nat.le_trans (HPW.out pos (by omega)) (by decide)) (Nat.le_trans (show (limbs 10).length ≤ 1 from limbs_len_le (by decide)) (by decide))).mono ?_
        rintro e w4 ⟨hb4, v4, rfl, hv4⟩
        have hlt2 := (Array.getElem?_eq_some_iff.1 HIT2.out).1
        have hb34 := hb3.trans (hb4.mono hb3.size)
        have hit4 := (hb34.block w2.heap.size hlt2).trans HIT2.out
        have hbw4 := HB2.out.trans (hb34.mono HB2.out.size)
        go_wp2
        go_roundw
        case rel => exact ⟨pos + 1, by omega, hit4, hbw4, by rw [Nat.pow_succ]; exact hv4⟩
        case measure =>
          simp only [World.iterPos, hit4, HIT.out]
          omega
      · obtain rfl : pos = M.size := by omega
        have hnx : ∀ ty, (Instr.next (.pointer (some ⟨w2.heap.size, 0, none⟩)) true ty).run Tryz.prog wr = _ := fun ty => Lib.run_next_end_at wr w2.heap.size M M.size ty hit (Nat.lt_irrefl _)
        have HN2 := Lib.hid hN
        obtain ⟨A4, l4, c4, rfl⟩ := hN.form
        have hPl := HPW.out M.size hMs
        clear hN
        go_wp2_with fail
        refine (nread_any (U.extract 0 m ++ M) _ (by omega) HDC.out).mono ?_
        rintro e w3 ⟨hb3, N, rfl, hN⟩
        obtain ⟨A, l, c, rfl⟩ := hN.form
        clear hnx
        go_wp2_with fail
        have QM := qmake_any ng (dval (U.extract 0 m ++ M).data.toList) (10 ^ M.size) (.slice A l c) (.slice A4 l4 c4) w3 hN (HN2.out.next hb3) (le_big2 hCl) (le_big' hPl)
        refine QM.mono ?_
        clear QM
        rintro e w4 ⟨hb4, v, rfl, hv⟩
        obtain ⟨b, A2, l2, c2, A3, l3, c3, rfl⟩ := hv.form
        have hb24 := (hbw.trans (hb3.mono hbw.size)).trans (hb4.mono (Nat.le_trans hbw.size hb3.size))
        have k4 := k0.below hb24 k0.lt
        have hB := hb0.trans (hb24.mono hb0.size)
        have hv' := (hv.set3 k4 (.bool b) (.slice A2 l2 c2) (.slice A3 l3 c3)).more (B' := (set3 w4 w.heap.size (.bool b) (.slice A2 l2 c2) (.slice A3 l3 c3)).heap.size) (by rw [set3_size]; exact Nat.le_refl _)
        obtain ⟨d0, d1, d2⟩ := bk3 k4
        have f0 := k4.frozen 0
        have f1 := k4.frozen 1
        have f2 := k4.frozen 2
        have HV := Lib.hid hv'
        clear hv' hv hN hCl hPl
        go_wp2
        refine bodyPost_ret (v := .tuple #[.agg #[.bool b, .slice A2 l2 c2, .slice A3 l3 c3], .bool true]) (by simp [results, Tryz.results97, go_sem, d0, d1, d2]) rfl ?_
        exact ⟨set3_below hB (Nat.le_refl _), _, true, _, rfl, HV.out, HP.out true _ (fun h => (by cases h)) (fun _ => HY.out)⟩
  by_cases s47 : U[m].toNat = 47
  · have t46 : ((U[m].toNat : Int) == 46) = false := by rw [s47]; rfl
    have t46' : ((U[m].toNat : Int) != 46) = true := by rw [s47]; rfl
    have t47 : ((U[m].toNat : Int) == 47) = true := by rw [s47]; rfl
    have t47' : ((U[m].toNat : Int) != 47) = false := by rw [s47]; rfl
    have HY : Hid (refPlain s.data.toList = if dval M.data.toList = 0 then none else some (nr ng (dval (U.extract 0 m).data.toList) (dval M.data.toList))) := by
      show _ = _
      rw [HR.out, if_neg, if_pos s47]
      rintro (h | h | h)
      · exact h HHR.out
      · exact HEM.out h
      · exact h.2 s47
    generalize U[m].toNat = sg at *
    clear HR s46 s47 HHR HEM d0 d1 d2 f0 f1 f2
    go_wp2_with fail
    refine (nread_any M _ (by omega) HDM.out).mono ?_
    rintro e w2 ⟨hb2, D, rfl, hD⟩
    have hDl : (limbs (dval M.data.toList)).length ≤ 1000 := by have := limbs_digs' HDM.out; rw [size_list'] at this; omega
    have hTl : (limbs (dval (U.extract 0 m).data.toList)).length ≤ 1000 := by have := limbs_digs' HDT.out; rw [size_list'] at this; omega
    obtain ⟨L, hL⟩ : ∃ L, L = (limbs (dval M.data.toList)).length := ⟨_, rfl⟩
    obtain ⟨A', c', rfl, hrest⟩ : ∃ A' c', D = .slice A' L c' ∧ IsN w2 w2.heap.size .u64 (.slice A' L c') (dval M.data.toList) := by
      obtain ⟨A', c', e, h1⟩ := id hD
      exact ⟨A', c', by rw [e, hL], by rw [hL, ← e]; exact hD⟩
    have HL : Hid (L = 0 ↔ dval M.data.toList = 0) := by
      show _ ↔ _
      rw [hL]; exact limbs_len_zero
    clear hD hL
    go_wp2_with fail
    refine (nread_any (U.extract 0 m) _ (by omega) HDT.out).mono ?_
    rintro e w3 ⟨hb3, N, rfl, hN⟩
    obtain ⟨A, l, c, rfl⟩ := hN.form
    go_wp2_with fail
    have QM := qmake_any ng (dval (U.extract 0 m).data.toList) (dval M.data.toList) (.slice A l c) (.slice A' L c') w3 hN (hrest.next hb3) (le_big hTl) (le_big hDl)
    refine QM.mono ?_
    clear QM
    rintro e w4 ⟨hb4, v, rfl, hv⟩
    obtain ⟨b, A2, l2, c2, A3, l3, c3, rfl⟩ := hv.form
    have hb24 := (hb2.trans (hb3.mono hb2.size)).trans (hb4.mono (Nat.le_trans hb2.size hb3.size))
    have k4 := k0.below hb24 k0.lt
    have hB := hb0.trans (hb24.mono hb0.size)
    have hv' := (hv.set3 k4 (.bool b) (.slice A2 l2 c2) (.slice A3 l3 c3)).more (B' := (set3 w4 w.heap.size (.bool b) (.slice A2 l2 c2) (.slice A3 l3 c3)).heap.size) (by rw [set3_size]; exact Nat.le_refl _)
    obtain ⟨d0, d1, d2⟩ := bk3 k4
    have f0 := k4.frozen 0
    have f1 := k4.frozen 1
    have f2 := k4.frozen 2
    have HV := Lib.hid hv'
    clear hv' hv hN hrest hDl hTl
    by_cases hz : L = 0
    · have HN : Hid (refPlain s.data.toList = none) := by
        show _ = _
        rw [HY.out, if_pos (HL.out.1 hz)]
      subst hz
      clear HL HY
      go_wp2
      refine bodyPost_ret (v := .tuple #[.agg #[.bool b, .slice A2 l2 c2, .slice A3 l3 c3], .bool false]) (by simp [results, Tryz.results97, go_sem, d0, d1, d2]) rfl ?_
      exact ⟨set3_below hB (Nat.le_refl _), _, false, _, rfl, HV.out, HP.out false _ (fun _ => HN.out) (fun h => (by cases h))⟩
    · have HN : Hid (refPlain s.data.toList = some (nr ng (dval (U.extract 0 m).data.toList) (dval M.data.toList))) := by
        show _ = _
        rw [HY.out, if_neg (fun h => hz (HL.out.2 h))]
      have hz' : 0 < L := by omega
      clear HL HY
      go_wp2
      refine bodyPost_ret (v := .tuple #[.agg #[.bool b, .slice A2 l2 c2, .slice A3 l3 c3], .bool true]) (by simp [results, Tryz.results97, go_sem, d0, d1, d2]) rfl ?_
      exact ⟨set3_below hB (Nat.le_refl _), _, true, _, rfl, HV.out, HP.out true _ (fun h => (by cases h)) (fun _ => HN.out)⟩
  · have t46' : ((U[m].toNat : Int) != 46) = true := by rw [bne_iff_ne]; omega
    have t47' : ((U[m].toNat : Int) != 47) = true := by rw [bne_iff_ne]; omega
    have t46 : ((U[m].toNat : Int) == 46) = false := by rw [beq_eq_false_iff_ne]; omega
    have t47 : ((U[m].toNat : Int) == 47) = false := by rw [beq_eq_false_iff_ne]; omega
    have HN : Hid (refPlain s.data.toList = none) := by
      show _ = _
      rw [HR.out, if_pos (.inr (.inr ⟨s46, s47⟩))]
    generalize U[m].toNat = sg at *
    clear HR s46 s47 HHR HEM
    go_wp2
    refine bodyPost_ret (v := .tuple #[.agg #[.bool false, .slice none 0 0, .slice none 0 0], .bool false]) (by simp [results, Tryz.results97, go_sem, d0, d1, d2]) rfl ?_
    exact ⟨set3_below hb0 (Nat.le_refl _), _, false, 0, rfl, IsQ.zero _ _, HP.out false 0 (fun _ => HN.out) (fun h => (by cases h))⟩
end Go.Proofs.YtpkhgdnkkdhlcaaGreatDoor

namespace Go.Proofs.YtpkhgdnkkdhlcaaGreatDoor
open Go.RowKit Ar

theorem mk_size' (l : List UInt8) : (⟨l.toArray⟩ : ByteArray).size = l.length := by rw [← size_list']
/-- The text that has been given. -/
def TxtOk (ok : Bool) (x : ByteArray) (p : Rat) : Prop := (ok = true → x = ⟨(ratText p).toArray⟩) ∧ (ok = false → x = ⟨#[]⟩)
set_option maxRecDepth 100000 in
set_option maxHeartbeats 3200000 in
theorem rtext_any (p : Rat) (v : Value) (w : World) (h : IsQ w w.heap.size v p) (hl : sz p ≤ 100000000) (ok : Bool) (hok : ok = true ↔ (Lib.decDigits (nm p)).length ≤ 40 ∧ (Lib.decDigits (dn p)).length ≤ 40) :
    Calls Tryz.prog 98 #[v] w fun e w' => Below w.heap.size w w' ∧ ∃ x, e = .returned (.tuple #[.string x, .bool ok]) ∧ TxtOk ok x p := by
  have hh := h
  obtain ⟨N1, D1, d, rfl, hN1, hD1, hd⟩ := h
  obtain ⟨A1, l1, c1, rfl⟩ := hN1.form
  obtain ⟨A2, l2, c2, rfl⟩ := hD1.form
  have hln := sz_nm p
  have hld := sz_dn p
  obtain ⟨X, hX⟩ : ∃ X : ByteArray, X = ⟨(Lib.decDigits (nm p)).toArray⟩ := ⟨_, rfl⟩
  obtain ⟨Y, hY⟩ : ∃ Y : ByteArray, Y = ⟨(Lib.decDigits (dn p)).toArray⟩ := ⟨_, rfl⟩
  have C1 : Hid (∀ W v, IsN W W.heap.size .u64 v (nm p) → Calls Tryz.prog 153 #[v] W fun e w' => Below W.heap.size W w' ∧ e = .returned (.string X)) := fun W v h => by
    rw [hX]; exact ntext_any _ _ _ h (by omega)
  have C3 : Hid (∀ W v, IsN W W.heap.size .u64 v (dn p) → Calls Tryz.prog 153 #[v] W fun e w' => Below W.heap.size W w' ∧ e = .returned (.string Y)) := fun W v h => by
    rw [hY]; exact ntext_any _ _ _ h (by omega)
  have C2 : Hid (∀ W, IsQ W W.heap.size (.agg #[.bool (sg p), .slice A1 l1 c1, .slice A2 l2 c2]) p → Calls Tryz.prog 99 #[.agg #[.bool (sg p), .slice A1 l1 c1, .slice A2 l2 c2]] W fun e w' => Below W.heap.size W w' ∧ ∃ v, e = .returned v ∧ IsN w' w'.heap.size .u64 v (dn p)) := fun W h =>
    qden_any p _ W h (by omega)
  have HOK : Hid (ok = true ↔ X.size ≤ 40 ∧ Y.size ≤ 40) := by
    show _ ↔ _
    rw [hok, hX, hY, mk_size', mk_size']
  have HY1 : Hid ((Y.toList == [49]) = decide (dn p = 1)) := by
    show _ = _
    rw [ByteArray.toList_eq, hY, Bool.eq_iff_iff, beq_iff_eq, decide_eq_true_iff]
    constructor
    · intro h
      have := dval_decDigits (dn p)
      rw [show Lib.decDigits (dn p) = [49] from h] at this
      rw [← this]; rfl
    · intro h
      show Lib.decDigits (dn p) = [49]
      rw [h]; exact decDigits_small (by decide)
  have HT : Hid ((⟨(ratText p).toArray⟩ : ByteArray) = if sg p then (if dn p = 1 then ⟨#[45]⟩ ++ X else ⟨#[45]⟩ ++ X ++ ⟨#[47]⟩ ++ Y) else (if dn p = 1 then X else X ++ ⟨#[47]⟩ ++ Y)) := by
    show _ = _
    rw [ratText_parts, hX, hY]
    cases sg p
    · by_cases h1 : dn p = 1
      · simp [h1]
      · simp [h1, str_app]
    · by_cases h1 : dn p = 1
      · simp [h1, str_app]
      · simp [h1, str_app]
  have HQ := Lib.hid hh
  have HN := Lib.hid hN1
  clear hok hX hY hh hN1 hD1 hd hln hld
  go_enter Tryz.func98, Tryz.ntmps98
  go_wp2_with fail
  have hB0 := below_alloc w (.cells #[.bool (sg p), .slice A1 l1 c1, .slice A2 l2 c2] 74)
  have k0 := Bk.new w 74 #[Value.bool (sg p), .slice A1 l1 c1, .slice A2 l2 c2]
  generalize w.alloc (.cells #[.bool (sg p), .slice A1 l1 c1, .slice A2 l2 c2] 74) = W0 at *
  have HB := Lib.hid hB0.drew
  have HK := Lib.hid k0.drew
  have HN0 := Lib.hid ((HN.out.next hB0).drew'')
  have HQ0 := Lib.hid ((HQ.out.next hB0).drew)
  obtain ⟨d0, d1, d2⟩ := bk3 k0
  clear hB0 k0
  generalize sg p = s1 at *
  go_region_held3 (fun X => X.cell? ⟨w.heap.size, 0, none⟩ = some (.bool s1) ∧ X.cell? ⟨w.heap.size, 1, none⟩ = some (.slice A1 l1 c1) ∧ X.cell? ⟨w.heap.size, 2, none⟩ = some (.slice A2 l2 c2))
    (first | with_reducible exact bk3 k2 | with_reducible exact bk3 k3 | with_reducible exact bk3 k4 | go_keep)
    (first
      | (go_at_call 153; ((with_reducible refine (C1.out _ _ HN0.out).mono ?_)); rintro e w2 ⟨hb2, rfl⟩; have k2 := HK.out.below hb2 HK.out.lt; have hB2 := HB.out.trans (hb2.mono HB.out.size); have hQ2 := HQ0.out.next hb2)
      | (go_at_call 99; ((with_reducible refine (C2.out _ hQ2).mono ?_)); rintro e w3 ⟨hb3, D, rfl, hD⟩; have k3 := k2.below hb3 k2.lt; have hB3 := hB2.trans (hb3.mono hB2.size))
      | (go_at_call 153; ((with_reducible refine (C3.out _ _ hD).mono ?_)); rintro e w4 ⟨hb4, rfl⟩; have k4 := k3.below hb4 k3.lt; have hB4 := hB3.trans (hb4.mono hB3.size); obtain ⟨e0, e1, e2⟩ := bk3 k4))
  clear C1 C2 C3 HQ HN HB HK HN0 HQ0 d0 d1 d2
  by_cases hx : 40 < X.size
  · have hk : ok = false := by
      cases ho : ok with
      | false => rfl
      | true => have := (HOK.out.1 ho).1; omega
    subst hk
    clear HOK
    go_wp2
    go_ret2
    exact ⟨hB4, _, rfl, ⟨fun h => (by cases h), fun _ => rfl⟩⟩
  by_cases hy : 40 < Y.size
  · have hk : ok = false := by
      cases ho : ok with
      | false => rfl
      | true => have := (HOK.out.1 ho).2; omega
    subst hk
    clear HOK
    go_wp2
    go_ret2
    exact ⟨hB4, _, rfl, ⟨fun h => (by cases h), fun _ => rfl⟩⟩
  obtain rfl : ok = true := HOK.out.2 ⟨by omega, by omega⟩
  clear HOK
  cases s1
  all_goals
    by_cases hd1 : dn p = 1
    all_goals
      first | rw [decide_eq_true hd1] at HY1 | rw [decide_eq_false hd1] at HY1
      have HD1 := Lib.hid hd1
      have hy1 := HY1.out
      clear hd1 HY1
      go_wp2
      go_ret2
      exact ⟨hB4, _, rfl, ⟨fun _ => (by
        have h := HT.out
        have h1 := HD1.out
        simp only [h1, if_true, if_false, Bool.false_eq_true] at h
        exact h.symm), fun h => (by cases h)⟩⟩
end Go.Proofs.YtpkhgdnkkdhlcaaGreatDoor

namespace Go.Proofs.YtpkhgdnkkdhlcaaGreatDoor
open Go.RowKit Ar

theorem unsign_len' (l : List UInt8) : (unsign l).length ≤ l.length := by unfold unsign; split <;> simp
/-- The number that the reference reads from a short text is short. -/
theorem sz_plain {l : List UInt8} {q : Rat} (h : refPlain l = some q) {M : Nat} (hl : l.length ≤ M) : sz q ≤ 2 * M + 2 := by
  have hu := unsign_len' l
  have hr := digN_le (unsign l)
  have hd0 : Digs ((unsign l).take (digN (unsign l))) := digN_take _
  unfold refPlain at h
  split at h
  · cases h
  split at h
  · rename_i h1
    injection h with h
    subst h
    have := limbs_digs' (digs_of_digN h1)
    have h2 : (limbs 1).length ≤ 1 := limbs_len_le (by decide)
    exact Nat.le_trans (sz_nr _ _ _ Nat.one_pos) (by omega)
  split at h
  · cases h
  rename_i h3
  have hD : Digs ((unsign l).drop (digN (unsign l) + 1)) := digs_of_digN (Decidable.byContradiction fun e => h3 (.inl e))
  have hdl : ((unsign l).drop (digN (unsign l) + 1)).length ≤ M := by rw [List.length_drop]; omega
  have htl : ((unsign l).take (digN (unsign l))).length ≤ M := by rw [List.length_take]; omega
  split at h
  · split at h
    · cases h
    · rename_i h4
      injection h with h
      subst h
      have a1 := limbs_digs' hD
      have a2 := limbs_digs' hd0
      exact Nat.le_trans (sz_nr _ _ _ (Nat.pos_of_ne_zero h4)) (by omega)
  · injection h with h
    subst h
    generalize (unsign l).drop (digN (unsign l) + 1) = m at *
    generalize (unsign l).take (digN (unsign l)) = t at *
    have hC : Digs (t ++ m) := fun b hb => by
      rcases List.mem_append.1 hb with h | h
      · exact hd0 b h
      · exact hD b h
    have a1 := limbs_digs' hC
    rw [List.length_append] at a1
    have a2 : (limbs (10 ^ m.length)).length ≤ m.length + 1 := limbs_len_le (Nat.lt_of_lt_of_le (Nat.pow_lt_pow_right (by decide) (Nat.lt_succ_self _)) (Nat.pow_le_pow_left (by decide) _))
    exact Nat.le_trans (sz_nr _ _ _ (Nat.pow_pos (by decide))) (by omega)
/-- What the reference has read. -/
def GotQ (ok : Bool) (v : Value) (W : World) (q : Rat) : Prop := (∃ p, IsQ W W.heap.size v p) ∧ (ok = true → IsQ W W.heap.size v q)
set_option maxRecDepth 100000 in
set_option maxHeartbeats 3200000 in
theorem rget_any (s : ByteArray) (w : World) (hs : s.size ≤ 4000000) (ok : Bool) (hok : ok = true ↔ IsNum s.data.toList) :
    Calls Tryz.prog 49 #[.string s] w fun e w' => Below w.heap.size w w' ∧ ∃ v, e = .returned (.tuple #[v, .bool ok]) ∧ GotQ ok v w' (textRat s.data.toList) := by
  have HOK := Lib.hid hok
  clear hok
  go_enter Tryz.func49, Tryz.ntmps49
  by_cases h82 : 82 < s.size
  · have hk : ok = false := by
      cases ho : ok with
      | false => rfl
      | true => have := isNum_len (HOK.out.1 ho); rw [size_list'] at this; omega
    subst hk
    go_wp2
    refine bodyPost_ret (v := .tuple #[.agg #[.bool false, .slice none 0 0, .slice none 0 0], .bool false]) (by simp [results, Tryz.results49, go_sem]) rfl ?_
    exact ⟨below_alloc w _, _, rfl, ⟨⟨0, IsQ.zero _ _⟩, fun h => (by cases h)⟩⟩
  go_wp2_with fail
  have hB1 := below_alloc w (.cells #[.bool false, .slice none 0 0, .slice none 0 0] 74)
  have k1 := Bk.new w 74 #[Value.bool false, .slice none 0 0, .slice none 0 0]
  generalize w.alloc (.cells #[.bool false, .slice none 0 0, .slice none 0 0] 74) = W1 at *
  refine (rplain_any s W1 (by omega)).mono ?_
  rintro e w2 ⟨hb2, v, z, q, rfl, hq, hpl⟩
  obtain ⟨b, A, n, c, A', n', c', rfl⟩ := hq.form
  have k2 := k1.below hb2 k1.lt
  have hB2 := hB1.trans (hb2.mono hB1.size)
  have hl82 : s.data.toList.length ≤ 100 := by rw [size_list']; omega
  have HPL := Lib.hid hpl
  have HQ := Lib.hid hq
  clear hpl hb2 k1 hB1 hq
  cases z
  · have hk : ok = false := by
      cases ho : ok with
      | false => rfl
      | true =>
        have h1 := text_plain (HOK.out.1 ho).1
        have h2 : refPlain s.data.toList = none := HPL.out
        rw [h1] at h2; cases h2
    subst hk
    clear HOK HPL HQ
    have k3 := k2.alloc (.cells #[.bool b, .slice A n c, .slice A' n' c'] 74)
    obtain ⟨d0, d1, d2⟩ := bk3 k3
    have f0 := k3.frozen 0
    have f1 := k3.frozen 1
    have f2 := k3.frozen 2
    go_wp2
    refine bodyPost_ret (v := .tuple #[.agg #[.bool false, .slice none 0 0, .slice none 0 0], .bool false]) (by simp [results, Tryz.results49, go_sem, d0, d1, d2]) rfl ?_
    exact ⟨set3_below ((hB2.alloc hB2.size _)) (Nat.le_refl _), _, rfl, ⟨⟨0, IsQ.zero _ _⟩, fun h => (by cases h)⟩⟩
  · have hqq : refPlain s.data.toList = some q := HPL.out
    have hsz := sz_plain hqq (M := 82) (by rw [size_list']; omega)
    obtain ⟨o, ho⟩ : ∃ o : Bool, o = true ↔ (Lib.decDigits (nm q)).length ≤ 40 ∧ (Lib.decDigits (dn q)).length ≤ 40 := by classical exact ⟨decide _, decide_eq_true_iff⟩
    have HG := Lib.hid (get_iff s.data.toList)
    have HQQ := Lib.hid hqq
    have hW := below_alloc w2 (.cells #[.bool b, .slice A n c, .slice A' n' c'] 74)
    have T := Lib.hid (rtext_any q _ _ (HQ.out.next hW) (by omega) o ho)
    have HO := Lib.hid ho
    have kq := Bk.new w2 74 #[Value.bool b, .slice A n c, .slice A' n' c']
    have k3 := k2.alloc (.cells #[.bool b, .slice A n c, .slice A' n' c'] 74)
    have hB3 := hB2.trans (hW.mono hB2.size)
    have HQ3 := Lib.hid (HQ.out.next hW)
    clear hqq ho HPL hsz hW
    go_wp2_with fail
    generalize w2.alloc (.cells #[.bool b, .slice A n c, .slice A' n' c'] 74) = w3 at *
    refine T.out.mono ?_
    rintro e w4 ⟨hb4, x, rfl, hx⟩
    have HX := Lib.hid hx
    have k4 := k3.next' hb4
    have kq4 := kq.next' hb4
    have hB4 := hB3.trans (hb4.mono hB3.size)
    have HQ4 := Lib.hid (HQ3.out.next hb4)
    obtain ⟨d0, d1, d2⟩ := bk3 k4
    have f0 := k4.frozen 0
    have f1 := k4.frozen 1
    have f2 := k4.frozen 2
    obtain ⟨g0, g1, g2⟩ := bk3 kq4
    clear T hx k3 kq HQ3 hb4 hB3 k2 hB2 HQ
    have fin := set3_below hB4 (b := w.heap.size) (x := .bool b) (y := .slice A n c) (z := .slice A' n' c') (Nat.le_refl _)
    have HQ5 := Lib.hid ((HQ4.out.set3 k4 (.bool b) (.slice A n c) (.slice A' n' c')).more (B' := (set3 w4 w.heap.size (.bool b) (.slice A n c) (.slice A' n' c')).heap.size) (by rw [set3_size]; exact Nat.le_refl _))
    cases o
    · have hk : ok = false := by
        cases ho : ok with
        | false => rfl
        | true =>
          obtain ⟨q', h1, h2, _⟩ := HG.out.2 (HOK.out.1 ho)
          rw [HQQ.out] at h1
          cases h1
          have := HO.out.2 h2
          cases this
      subst hk
      clear HG HOK HQQ HO HX HQ4
      go_wp2
      refine bodyPost_ret (v := .tuple #[.agg #[.bool b, .slice A n c, .slice A' n' c'], .bool false]) (by simp [results, Tryz.results49, go_sem, d0, d1, d2]) rfl ?_
      exact ⟨fin, _, rfl, ⟨⟨q, HQ5.out⟩, fun h => (by cases h)⟩⟩
    · have hx := HX.out.1 rfl
      clear HX HQ4
      by_cases hxs : ratText q = s.data.toList
      · have hk : ok = true := HOK.out.2 (HG.out.1 ⟨q, HQQ.out, HO.out.1 rfl, hxs⟩)
        have hxe : x = s := by rw [hx, hxs]
        have HV := Lib.hid (get_val hxs)
        subst hk
        clear HG HOK HQQ HO hx hxs
        subst hxe
        go_wp2
        refine bodyPost_ret (v := .tuple #[.agg #[.bool b, .slice A n c, .slice A' n' c'], .bool true]) (by simp [results, Tryz.results49, go_sem, d0, d1, d2]) rfl ?_
        exact ⟨fin, _, rfl, ⟨⟨q, HQ5.out⟩, fun _ => by rw [← HV.out]; exact HQ5.out⟩⟩
      · have hk : ok = false := by
          cases ho : ok with
          | false => rfl
          | true =>
            obtain ⟨q', h1, h2, h3⟩ := HG.out.2 (HOK.out.1 ho)
            rw [HQQ.out] at h1
            cases h1
            exact absurd h3 hxs
        have hne : (x.toList == s.toList) = false := by
          rw [ByteArray.toList_eq, ByteArray.toList_eq, beq_eq_false_iff_ne, hx]
          exact hxs
        subst hk
        clear HG HOK HQQ HO hx hxs
        go_wp2
        refine bodyPost_ret (v := .tuple #[.agg #[.bool b, .slice A n c, .slice A' n' c'], .bool false]) (by simp [results, Tryz.results49, go_sem, d0, d1, d2]) rfl ?_
        exact ⟨fin, _, rfl, ⟨⟨q, HQ5.out⟩, fun h => (by cases h)⟩⟩

theorem rvalid_any (s : ByteArray) (w : World) (hs : s.size ≤ 4000000) (ok : Bool) (hok : ok = true ↔ IsNum s.data.toList) :
    Calls Tryz.prog 40 #[.string s] w fun e w' => Below w.heap.size w w' ∧ e = .returned (.bool ok) := by
  have RL := rget_any s w hs ok hok
  clear hok
  go_enter Tryz.func40, Tryz.ntmps40
  go_wp2_with fail
  refine RL.mono ?_
  rintro e w3 ⟨hb3, v, rfl, ⟨p, hp⟩, -⟩
  obtain ⟨b, A, n, c, A', n', c', rfl⟩ := hp.form
  have hs3 := hb3.size
  clear RL hp
  go_wp2
  go_ret
  exact ⟨hb3.alloc hs3 _, rfl⟩

/-- The empty text, and every other one. -/
theorem text_nil {s : ByteArray} (h0 : s.data.toList = []) : s = ⟨#[]⟩ := by
  cases s with | mk a => congr 1; exact Array.toList_inj.1 h0
theorem rvalue_any (s : ByteArray) (w : World) (hs : s.size ≤ 4000000) (ok : Bool) (hok : ok = true ↔ (s.data.toList = [] ∨ IsNum s.data.toList)) :
    Calls Tryz.prog 91 #[.string s] w fun e w' => Below w.heap.size w w' ∧ e = .returned (.bool ok) := by
  by_cases h0 : s.data.toList = []
  · have t0 : (s.toList == []) = true := by rw [ByteArray.toList_eq, h0]; rfl
    have t1 := text_nil h0
    obtain rfl : ok = true := hok.2 (.inl h0)
    subst t1
    clear hok h0
    go_enter Tryz.func91, Tryz.ntmps91
    go_wp2
    go_ret
    exact ⟨Below.refl _ _, rfl⟩
  · have t0 : (s.toList == []) = false := by rw [ByteArray.toList_eq, beq_eq_false_iff_ne]; exact h0
    have VA := rvalid_any s w hs ok (by rw [hok]; exact ⟨fun h => h.resolve_left h0, .inr⟩)
    clear hok h0
    go_enter Tryz.func91, Tryz.ntmps91
    go_wp2_with fail
    refine VA.mono ?_
    rintro e w3 ⟨hb3, rfl⟩
    go_wp2
    go_ret
    exact ⟨hb3, rfl⟩
end Go.Proofs.YtpkhgdnkkdhlcaaGreatDoor

