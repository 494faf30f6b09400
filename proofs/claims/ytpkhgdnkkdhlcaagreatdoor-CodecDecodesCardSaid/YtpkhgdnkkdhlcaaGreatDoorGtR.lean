/-
  Walks: the values of bytes (the reference's Get).
-/
import Derived.Test.YtpkhgdnkkdhlcaaGreatDoorGtS
import Derived.Test.YtpkhgdnkkdhlcaaGreatDoorPuX
import Derived.Test.YtpkhgdnkkdhlcaaGreatDoorCutL
namespace Go.Proofs.YtpkhgdnkkdhlcaaGreatDoor
open Go.RowKit Ar By

theorem byN_bstr {l : List Nat} (h : Bytes l) : byN (bstr l) = l := by
  unfold byN bstr
  rw [List.map_map]
  have : ∀ x ∈ l, (UInt8.toNat ∘ UInt8.ofNat) x = id x := fun x hx => by
    have := h x hx
    simp [Nat.mod_eq_of_lt this]
  rw [List.map_congr_left this, List.map_id]
theorem bstr_beq {l m : List Nat} (hl : Bytes l) (hm : Bytes m) {q : Bool} (hq : q = true ↔ l = m) : ((bstr l).toList == (bstr m).toList) = q := by
  cases q with
  | true => rw [hq.1 rfl]; exact bstr_self m
  | false =>
    refine beq_eq_false_iff_ne.2 fun e => ?_
    rw [bs_toList, bs_toList] at e
    have e2 := ba_list e
    have : l = m := by rw [← byN_bstr hl, ← byN_bstr hm, e2]
    have := hq.2 this
    cases this
set_option maxRecDepth 100000 in
set_option maxHeartbeats 6400000 in
theorem rcget_any (k n : Int) (A : Option Addr) (c : Nat) (b : List Nat) (w : World) (h : Rd w w.heap.size A (ints .u8 b)) (hb : Bytes b) (hL : b.length ≤ 1048576) (hc : b.length ≤ c) :
    Calls Tryz.prog 16 #[.int .i64 k, .int .i64 n, .slice A b.length c] w fun e w' => Below w.heap.size w w' ∧ ∃ v, e = .returned (.tuple #[v, .int .i64 (getG k n b).2]) ∧ IsT w' w'.heap.size v (getG k n b).1 := by
  obtain ⟨i0, hi0, hz0, hz1, hz2⟩ := info_parts Tryz.rstr_info
  obtain ⟨i8, hi8, hs0, hs1, hs2⟩ := info_parts Tryz.u8c_info
  have TY := Lib.hid (rtyped_any k)
  by_cases hA : typB k = true ∧ 0 ≤ n ∧ n ≤ 4096
  rotate_left
  · rw [getG_bad hA]
    cases ht : typB k with
    | false =>
      rw [ht] at TY
      clear hA
      go_enter Tryz.func16, Tryz.ntmps16
      go_wp2_with fail
      refine (TY.out _).mono ?_
      rintro e w1 ⟨rfl, rfl⟩
      go_wp2
      go_ret2
      exact ⟨Below.refl _ _, _, rfl, IsT.nil _ _⟩
    | true =>
      rw [ht] at TY
      rcases Int.lt_or_le n 0 with h0 | h0
      · clear hA
        go_enter Tryz.func16, Tryz.ntmps16
        go_wp2_with fail
        refine (TY.out _).mono ?_
        rintro e w1 ⟨rfl, rfl⟩
        go_wp2
        go_ret2
        exact ⟨Below.refl _ _, _, rfl, IsT.nil _ _⟩
      · have h4 : 4096 < n := by
          rcases Int.lt_or_le 4096 n with h | h
          · exact h
          · exact absurd ⟨ht, h0, h⟩ hA
        clear hA
        go_enter Tryz.func16, Tryz.ntmps16
        go_wp2_with fail
        refine (TY.out _).mono ?_
        rintro e w1 ⟨rfl, rfl⟩
        go_wp2
        go_ret2
        exact ⟨Below.refl _ _, _, rfl, IsT.nil _ _⟩
  obtain ⟨hty, hn0, hn4⟩ := hA
  rw [hty] at TY
  obtain ⟨N, rfl⟩ : ∃ N : Nat, n = (N : Int) := ⟨n.toNat, by omega⟩
  obtain ⟨m, hm⟩ : ∃ m, m = (N + 7) / 8 := ⟨_, rfl⟩
  have hNt : (N : Int).toNat = N := by omega
  by_cases hsh : b.length < m
  · rw [getG_short ⟨hty, hn0, hn4⟩ (by rw [hNt]; omega)]
    have m1 : ((N : Int) + 7) / 8 = (m : Int) := by omega
    have m2 : (b.length : Int) < (m : Int) := by omega
    clear hm hsh
    go_enter Tryz.func16, Tryz.ntmps16
    go_wp2_with fail
    refine (TY.out _).mono ?_
    rintro e w1 ⟨rfl, rfl⟩
    go_wp2
    go_ret2
    exact ⟨Below.refl _ _, _, rfl, IsT.nil _ _⟩
  obtain ⟨RE, hRE⟩ : ∃ r, getG k N b = r := ⟨_, rfl⟩
  have hsh' : ¬ b.length < ((N : Int).toNat + 7) / 8 := by rw [hNt]; omega
  have HSTOP := Lib.hid (fun (hs : loopR k b m N = none) => show RE = ([], 5) from by
    rw [← hRE]; exact getG_stopR ⟨hty, hn0, hn4⟩ hsh' (by rw [hNt, ← hm]; exact hs))
  have HBYT := Lib.hid (fun (x : List ByteArray × List Nat) (hs : loopR k b m N = some x) (hx : ¬ (accE k x.1 = 0 ∧ putB k x.1 = b)) => show RE = ([], 5) from by
    rw [← hRE]; exact getG_bytes ⟨hty, hn0, hn4⟩ hsh' (by rw [hNt, ← hm]; exact loopR_G hs) hx)
  have HOK := Lib.hid (fun (x : List ByteArray × List Nat) (hs : loopR k b m N = some x) (hx : accE k x.1 = 0 ∧ putB k x.1 = b) => show RE = (x.1, 0) from by
    rw [← hRE]; exact getG_ok ⟨hty, hn0, hn4⟩ hsh' (by rw [hNt, ← hm]; exact loopR_G hs) hx)
  rw [hRE]
  clear hRE hsh'
  obtain ⟨WW, hWW⟩ : ∃ W : Nat, widR k = (W : Int) := ⟨(widR k).toNat, by have := widR_nn k; omega⟩
  have WI := Lib.hid (fun W => rwid_any k W)
  rw [hWW] at WI
  have HW5 : Hid (k = 5 → WW = 0) := fun h => by rw [h] at hWW; have e : widR 5 = 0 := rfl; omega
  have HWN : Hid (k ≠ 5 → 0 < WW ∧ WW ≤ 8 ∧ WW = 2 ^ (k - 1).toNat) := fun h => wid_n hty h hWW
  have HWC : Hid (k ≠ 5 → WW = 1 ∨ WW = 2 ∨ WW = 4 ∨ WW = 8) := fun h => by
    obtain ⟨h1, h2, h3⟩ := wid_n hty h hWW
    rcases typB_true hty with e | e | e | e | e
    · rw [e] at h3; exact .inl h3
    · rw [e] at h3; exact .inr (.inl h3)
    · rw [e] at h3; exact .inr (.inr (.inl h3))
    · rw [e] at h3; exact .inr (.inr (.inr h3))
    · exact absurd e h
  clear hWW
  have FB := Lib.hid (fun (i : Nat) (x : List ByteArray × List Nat) (hx : loopR k b m i = some x) => loopG_facts hb hty (loopR_G hx))
  have m1 : ((N : Int) + 7) / 8 = (m : Int) := by omega
  have m2 : (m : Int) ≤ (b.length : Int) := by omega
  have m3 : (m : Int) ≤ (c : Int) := by omega
  have m4 : m ≤ b.length := by omega
  have HM := Lib.hid hm
  obtain ⟨A0, hA0⟩ : ∃ A0, A0 = (if c = m then A else A.map (·.add m)) := ⟨_, rfl⟩
  have hd := h.cut (k := m) (cap := c) (by rw [ints_length]; exact hc)
  rw [← ints_drop, ← hA0] at hd
  have HA0 := Lib.hid hA0
  clear hm hsh hty hA0
  go_enter Tryz.func16, Tryz.ntmps16
  go_wp2_with fail
  refine (TY.out _).mono ?_
  rintro e w1 ⟨rfl, rfl⟩
  go_wp2_with (refine wpL_low rfl (.tmp 35) (.tmp 36) 25 5 i8 rfl Tryz.underlying25 hi8 hs1 A b.length c m (by rfl) _ (by rfl) m1 m4 hc ?_; rw [← HA0.out]; clear HA0)
  go_loopw [9, 10, 11] (fun rv ov iv wr => ∃ (j : Nat) (o : List ByteArray) (r : List Nat) (A' : Option Addr) (c' : Nat), j ≤ N ∧ iv = .int .i64 j ∧ rv = .slice A' r.length c' ∧ Hid (loopR k b m j = some (o, r)) ∧ Rd w w.heap.size A' (ints .u8 r) ∧ r.length ≤ c' ∧ wr.ownsRow w.heap.size 9 1 ov j (strs o) ∧ Below w.heap.size w wr) (fun _ _ iv _ => N - (intOf iv).toNat)
  case atStart =>
    refine ⟨0, [], b.drop m, A0, c - m, Nat.zero_le _, rfl, ?_, rfl, hd, by rw [List.length_drop]; omega, World.ownsRow_nil _ _ _ _, Below.refl _ _⟩
    rw [List.length_drop]
  case round =>
    obtain ⟨j, o, r, A', c', hj, rfl, rfl, HG, hr, hrc, hO, hB⟩ := hrel
    obtain ⟨f1, f2, f3⟩ := FB.out j (o, r) HG.out
    dsimp only at f1 f2 f3
    have hol : o.length = j := loopG_len (loopR_G HG.out)
    by_cases hlt : j < N
    · obtain ⟨ad, rfl, hab, hcell⟩ := (h.below hB).int (j := j / 8) (by omega)
      have hx := hb.at_ (j / 8)
      have HBT : Hid (bitB b j = (b.getD (j / 8) 0).testBit (j % 8)) := rfl
      generalize b.getD (j / 8) 0 = x at *
      have y1 : IntKind.i64.wrap ((j : Int) / 8) = (j : Int) / 8 := IntWalk.i64_in _ (by omega)
      have y2 : ((j : Int) / 8).toNat = j / 8 := by omega
      have y3 : 0 ≤ (j : Int) / 8 := by omega
      have y4 : (j : Int) / 8 < b.length := by omega
      obtain ⟨t, ht⟩ : ∃ t, t = j % 8 := ⟨_, rfl⟩
      have y5 : (j : Int).tmod 8 = (t : Int) := by rw [Int.tmod_eq_emod_of_nonneg (by omega)]; omega
      have y6 : (t : Int) ≤ 8 := by omega
      have y7 : 0 ≤ (t : Int) := by omega
      have y8 : (j : Int) < (N : Int) := by omega
      rw [← ht] at HBT
      obtain ⟨T, hT⟩ : ∃ T, bitB b j = T := ⟨_, rfl⟩
      have q1 : (bits .and .u8 ((x : Int) / 2 ^ t) 1 == 1) = T := by
        rw [bit_and hx, ← hT, HBT.out]
        cases hb' : x.testBit t with
        | true => exact beq_iff_eq.2 (bit_eq.2 hb')
        | false => exact beq_eq_false_iff_ne.2 fun e => by rw [bit_eq.1 e] at hb'; cases hb'
      obtain ⟨S0, hS0⟩ : ∃ s, s = szG k T r := ⟨_, rfl⟩
      obtain ⟨V0, hV0⟩ : ∃ v, v = vlG k T r := ⟨_, rfl⟩
      have HNX : Hid (S0 ≤ r.length → (k = 5 → T = true → numB V0 = true) → loopR k b m (j + 1) = some (o ++ [V0], r.drop S0)) := fun hs hn => by
        rw [hS0] at hs ⊢
        rw [hV0] at hn ⊢
        rw [← hT] at hs hn ⊢; exact loopR_next HG.out hs hn
      have HST : Hid (¬ (S0 ≤ r.length ∧ (k = 5 → T = true → numB V0 = true)) → loopR k b m N = none) := fun hs => by
        rw [hS0, hV0, ← hT] at hs
        have := loopR_none (loopR_stop HG.out hs) (N - (j + 1))
        rwa [show j + 1 + (N - (j + 1)) = N by omega] at this
      have HS0 := Lib.hid hS0
      have HV0 := Lib.hid hV0
      clear hT HBT HG ht hS0 hV0
      go_wp2_with fail
      refine (WI.out wr).mono ?_
      rintro e w1 ⟨rfl, rfl⟩
      go_upto_block 2 with fail
      try rw [q1]
      clear q1 y1 y2 y3 y4 y5 y6 y7 hcell hx
      go_cut [12, 13] from 43 to 105 (fun v s wx => v = .string V0 ∧ s = .int .i64 (S0 : Nat) ∧ S0 ≤ r.length ∧ (k = 5 → T = true → numB V0 = true) ∧ Below w.heap.size w wx ∧ Below wr.heap.size wr wx)
      case first =>
        clear HNX HBYT HOK TY
        by_cases h5 : k = 5
        · obtain rfl := HW5.out h5
          subst h5
          cases T
          · obtain rfl : S0 = 0 := HS0.out
            obtain rfl : V0 = ⟨#[]⟩ := HV0.out
            clear HS0 HV0
            go_wp2
            go_meet
            exact ⟨rfl, rfl, Nat.zero_le _, (fun _ h => absurd h (by decide)), hB, Below.refl _ _⟩
          · cases r with
            | nil =>
              obtain rfl : S0 = 1 := HS0.out
              have hRE := HSTOP.out (HST.out (fun h => by simp at h))
              subst hRE
              clear HS0 HV0 HST HSTOP
              go_wp2
              go_ret2
              exact ⟨hB, _, rfl, IsT.nil _ _⟩
            | cons y r =>
              obtain rfl : S0 = 1 + y := HS0.out
              have hV : V0 = bstr (r.take y) := by
                have e : V0 = bstr (((y :: r).take (1 + y)).drop 1) := HV0.out
                rw [e, Nat.add_comm 1 y, List.take_succ_cons, List.drop_succ_cons, List.drop_zero]
              have HV := Lib.hid hV
              clear HS0 HV0 hV
              obtain ⟨ad', rfl, hab', hcell'⟩ := (hr.below hB).int (j := 0) (by simp)
              rw [addr_zero, List.getD_cons_zero] at hcell'
              have hy : y < 256 := f1 y List.mem_cons_self
              have hrl : (y :: r).length = r.length + 1 := rfl
              have hsub := ((hr.below hB).sub 1 y).more hB.size
              rw [List.drop_succ_cons, List.drop_zero] at hsub
              rw [hrl] at hrc f2 HST ⊢
              by_cases hsz : 1 + y ≤ r.length + 1
              rotate_left
              · have hRE := HSTOP.out (HST.out (fun h => hsz h.1))
                have hszI : (r.length : Int) + 1 < 1 + (y : Int) := by omega
                subst hRE
                clear HST HSTOP HV hsub
                go_wp2
                go_ret2
                exact ⟨hB, _, rfl, IsT.nil _ _⟩
              have hszI : ¬ (r.length : Int) + 1 < 1 + (y : Int) := by omega
              have hlt5 : (r.take y).length = y := by rw [List.length_take]; omega
              have h4m : V0.size ≤ 4000000 := by rw [HV.out]; unfold bstr; show Array.size _ ≤ _; simp; omega
              have RV := Lib.hid (rvalid_any V0 wr h4m (numB V0) (numB_iff V0))
              have HVB : Hid (bstr (r.take y) = V0) := HV.out.symm
              clear HV
              by_cases hq : c' = 1
              · have hr0 : r = [] := List.eq_nil_of_length_eq_zero (by omega)
                subst hr0
                subst hq
                obtain rfl : y = 0 := by simp at hsz; omega
                have s1 := run_to_string (P := Tryz.prog) (w := wr) (B := 0) (A := some ad') (l := []) Rd.nil 25 5 9 Tryz.underlying25 Tryz.underlying5 Tryz.underlying9 0 0 rfl
                rw [show bstr [] = V0 from HVB.out] at s1
                clear hsub
                cases hnb : numB V0
                · rw [hnb] at RV
                  have hRE := HSTOP.out (HST.out (fun h => by have := h.2 rfl rfl; rw [hnb] at this; cases this))
                  subst hRE
                  clear HST HSTOP HVB
                  go_wp2_with fail
                  refine RV.out.mono ?_
                  rintro e w5 ⟨hb5, rfl⟩
                  go_wp2
                  go_ret2
                  exact ⟨hB.trans (hb5.mono hB.size), _, rfl, IsT.nil _ _⟩
                · rw [hnb] at RV
                  clear HST HSTOP HVB
                  go_wp2_with fail
                  refine RV.out.mono ?_
                  rintro e w5 ⟨hb5, rfl⟩
                  go_wp2
                  go_meet
                  exact ⟨rfl, by go_num, hsz, (fun _ _ => hnb), hB.trans (hb5.mono hB.size), hb5⟩
              · have s1 := run_to_string (P := Tryz.prog) (A := some ⟨ad'.block, ad'.off + 1, none⟩) hsub 25 5 9 Tryz.underlying25 Tryz.underlying5 Tryz.underlying9 y (c' - 1) hlt5
                rw [HVB.out] at s1
                clear hsub
                cases hnb : numB V0
                · rw [hnb] at RV
                  have hRE := HSTOP.out (HST.out (fun h => by have := h.2 rfl rfl; rw [hnb] at this; cases this))
                  subst hRE
                  clear HST HSTOP HVB
                  go_wp2_with fail
                  refine RV.out.mono ?_
                  rintro e w5 ⟨hb5, rfl⟩
                  go_wp2
                  go_ret2
                  exact ⟨hB.trans (hb5.mono hB.size), _, rfl, IsT.nil _ _⟩
                · rw [hnb] at RV
                  clear HST HSTOP HVB
                  go_wp2_with fail
                  refine RV.out.mono ?_
                  rintro e w5 ⟨hb5, rfl⟩
                  go_wp2
                  go_meet
                  exact ⟨rfl, by go_num, hsz, (fun _ _ => hnb), hB.trans (hb5.mono hB.size), hb5⟩
        · obtain ⟨hw0, hw8, hwe⟩ := HWN.out h5
          have hwc := HWC.out h5
          have hS : S0 = WW := by rw [hwe]; exact HS0.out.trans (if_neg h5)
          have h5I : (k == 5) = false := by simp [h5]
          subst hS
          by_cases hs : S0 ≤ r.length
          rotate_left
          · have hRE := HSTOP.out (HST.out (fun h => hs h.1))
            have hsI : (r.length : Int) < (S0 : Int) := by omega
            subst hRE
            clear HST HSTOP HS0 HV0 hwe hwc
            go_wp2
            go_ret2
            exact ⟨hB, _, rfl, IsT.nil _ _⟩
          have hsI : ¬ (r.length : Int) < (S0 : Int) := by omega
          have hc5 : (S0 : Int) ≤ (c' : Int) := by omega
          cases T
          · obtain rfl : V0 = ⟨#[]⟩ := HV0.out
            clear HS0 HV0 HST HSTOP hwe hwc
            go_wp2
            go_meet
            exact ⟨rfl, rfl, hs, (fun h => absurd h h5), hB, Below.refl _ _⟩
          · have hV : V0 = ⟨(Lib.itoa (svl (r.take S0))).toArray⟩ := by
              have e := HV0.out
              rw [e]
              unfold vlG
              rw [if_pos rfl, if_neg h5, ← hwe]
            subst hV
            have hlt5 : (r.take S0).length = S0 := by rw [List.length_take]; omega
            have hrt := ((hr.below hB).take S0).more hB.size
            rw [← ints_take] at hrt
            have RD := Lib.hid (rread_any A' c' S0 (r.take S0) wr hlt5 hw8 (f1.take _) hrt)
            have SG := Lib.hid (fun W => rsigned_any S0 (r.take S0) W hwc hlt5 (f1.take _))
            clear HS0 HV0 HST HSTOP hrt hwc hwe
            go_wp2_with fail
            refine RD.out.mono ?_
            rintro e w5 ⟨rfl, rfl⟩
            go_wp2_with fail
            refine (SG.out wr).mono ?_
            rintro e w5 ⟨hb5, rfl⟩
            go_wp2
            go_meet
            exact ⟨rfl, rfl, hs, (fun h => absurd h h5), hB.trans (hb5.mono hB.size), hb5⟩
      case rest =>
        obtain ⟨rfl, rfl, hs, hnum, hBc, hbrc⟩ := hcut
        have hOc := own_next hO hbrc
        have HX := Lib.hid (HNX.out hs hnum)
        clear hO hbrc hB HNX HST HSTOP HBYT HOK HV0 HS0 hnum
        obtain ⟨uA, uc, rfl, -⟩ := own_slice hOc
        have hrs := hr.cut (k := S0) (cap := c') (by rw [ints_length]; exact hrc)
        rw [← ints_drop] at hrs
        obtain ⟨A1, hA1⟩ : ∃ A1, A1 = (if c' = S0 then A' else A'.map (·.add S0)) := ⟨_, rfl⟩
        rw [← hA1] at hrs
        have HA1 := Lib.hid hA1
        have hj4 : j ≤ 4096 := by omega
        clear hA1
        have HOA := Lib.hid (hOc.alloc (.cells #[.string V0] 9))
        clear hOc
        go_wp2_with (at_builtin; go_loud (have hz := hBc.size; refine wpL_append _ rfl (.tmp 99) (.tmp 101) _ rfl w.heap.size 9 i0 _ 1 16 Tryz.underlying22 hi0 hz0 hz1 hz2 rfl (by omega) _ j _ rfl HOA.out _ 1 1 [.string V0] rfl rfl (Rd.of_new wc [.string V0] 9) (strs_one [V0]) (by unfold maxLen; omega) (by omega) (by simp only [World.size_alloc]; omega) ?_; intro v1 w7 hown2 hg1 hat1; have hB7 := below_app (hBc.alloc hz _) hg1 (by simp only [World.size_alloc]; omega) HOA.out (Nat.le_refl _); clear hg1 hat1))
        have HO2 : Hid (w7.ownsRow w.heap.size 9 1 v1 (j + 1) (strs (o ++ [V0]))) := by
          show w7.ownsRow _ _ _ _ _ _
          rw [strs_app]; exact hown2
        have HD : Hid ((r.drop S0).length = r.length - S0) := List.length_drop
        refine ⟨⟨j + 1, o ++ [V0], r.drop S0, A1, c' - S0, by omega, by go_num, by rw [HA1.out, HD.out], HX.out, hrs, by rw [HD.out]; omega, HO2.out, hB7⟩, by simp [intOf]; omega⟩
    · obtain rfl : j = N := by omega
      have hLL : o.length ≤ 4096 := by omega
      have hpu := Lib.hid (fun W (hW : Below w.heap.size w W) A' c' (h : Rd W W.heap.size A' (strs o)) => rcput_any k A' c' o W h (by omega) (fun s hs => by have := f3 s hs; omega))
      have hT := IsT.of_own hO
      obtain ⟨uA, uc, rfl, -⟩ := own_slice hO
      have hrT := hT.rd
      have HE := Lib.hid (fun hx => HBYT.out (o, r) HG.out hx)
      have HE2 := Lib.hid (fun hx => HOK.out (o, r) HG.out hx)
      clear hO HBYT HOK HSTOP FB f1 f2 f3 hr HG TY WI HW5 HWN HWC
      subst hol
      by_cases ha : accE k o = 0
      rotate_left
      · have hRE := HE.out (fun hx => ha hx.1)
        subst hRE
        have P := Lib.hid (hpu.out wr hB uA uc hrT)
        have ha' : (accE k o != 0) = true := by simp [ha]
        clear HE HE2 hpu hT hrT
        generalize accE k o = g at *
        go_wp2_with fail
        refine P.out.mono ?_
        rintro e w5 ⟨hb5, u, rfl, -⟩
        go_wp2
        go_ret2
        exact ⟨hB.trans (hb5.mono hB.size), _, rfl, IsT.nil _ _⟩
      · have P := hpu.out wr hB uA uc hrT
        rw [ha, if_pos rfl] at P
        have HP := Lib.hid P
        obtain ⟨q, hq⟩ : ∃ q : Bool, q = true ↔ putB k o = b := by classical exact ⟨decide _, decide_eq_true_iff⟩
        have HQ := Lib.hid hq
        have hpf := putB_facts ha
        have s3 := bstr_beq hpf.1 hb hq
        clear hpu P hq
        generalize hPB : putB k o = PB at *
        clear hPB hpf
        go_wp2_with fail
        refine HP.out.mono ?_
        rintro e w5 ⟨hb5, u, rfl, A5, c5, rfl, hc5, hr5⟩
        have hB5 := hB.trans (hb5.mono hB.size)
        have hT5 := Lib.hid (hT.next hb5)
        have s1 := run_to_string (P := Tryz.prog) hr5 25 5 9 Tryz.underlying25 Tryz.underlying5 Tryz.underlying9 PB.length c5 rfl
        have s2 := run_to_string (P := Tryz.prog) (h.below hB5) 25 5 9 Tryz.underlying25 Tryz.underlying5 Tryz.underlying9 b.length c rfl
        clear HP hT hr5 hrT hb5
        cases q with
        | false =>
          have hRE := HE.out (fun hx => by have := HQ.out.2 hx.2; cases this)
          subst hRE
          clear HE HE2 HQ
          go_wp2
          go_ret2
          exact ⟨hB5, _, rfl, IsT.nil _ _⟩
        | true =>
          have hRE := HE2.out ⟨ha, HQ.out.1 rfl⟩
          subst hRE
          clear HE HE2 HQ
          go_wp2
          go_ret2
          exact ⟨hB5, _, rfl, hT5.out⟩
end Go.Proofs.YtpkhgdnkkdhlcaaGreatDoor

