/-
  The walk of the law CodecRounds.
-/
import Derived.Test.YtpkhgdnkkdhlcaaGreatDoorRdX
import Derived.Test.YtpkhgdnkkdhlcaaGreatDoorSanX
namespace Go.Proofs.YtpkhgdnkkdhlcaaGreatDoor
open Go.RowKit Ar

/-! ### plain -/
theorem ba_emp {s : ByteArray} (h : s.toList.isEmpty = true) : s = ⟨#[]⟩ := by
  have h1 := List.isEmpty_iff.1 h
  rw [bs_toList] at h1
  exact ba_list h1
theorem sgQ_posZ {q : Rat} (h : 0 < sgQ q) : 0 < q := by
  unfold sgQ at h
  split at h
  · omega
  · split at h
    · omega
    · grind
theorem posT_num {st : ByteArray} (h : posT st = true) : numB st = true ∧ 0 < textRat st.data.toList := by
  unfold posT at h
  obtain ⟨h1, h2⟩ := Bool.and_eq_true_iff.1 h
  refine ⟨(Bool.and_eq_true_iff.1 h1).1, ?_⟩
  have h3 := of_decide_eq_true h2
  unfold cmpT cmpQ at h3
  have h4 : textRat (ByteArray.mk #[48]).data.toList = 0 := by decide +kernel
  rw [h4] at h3
  have h5 := sgQ_posZ h3
  grind
theorem rnd_facts {k : Int} {L : List ByteArray} {st : ByteArray} (h : rndE k L st = 0) : typB k = true ∧ posT st = true ∧ accE k L = 0 ∧ L.all (rok k st) = true := by
  cases h1 : (typB k && posT st) with
  | false => rw [(rnd_arg (L := L) h1).1] at h; cases h
  | true =>
    by_cases h2 : accE k L = 0
    · cases h3 : L.all (rok k st) with
      | false => rw [(rnd_bad h1 h2 h3).1] at h; cases h
      | true => exact ⟨(Bool.and_eq_true_iff.1 h1).1, (Bool.and_eq_true_iff.1 h1).2, h2, rfl⟩
    · rw [(rnd_acc (st := st) h1 h2).1] at h; exact absurd h h2
theorem fitK_is {k : Int} {s : ByteArray} (h : fitK k s = true) (he : s.toList.isEmpty = false) : numB s = true := by
  cases hn : numB s with
  | true => rfl
  | false => rw [fitK_num he hn] at h; cases h
/-- What becomes of one value. -/
theorem rnd_one {k : Int} {L : List ByteArray} {st : ByteArray} (h : rndE k L st = 0) {s : ByteArray} (hs : s ∈ L) :
    (s = ⟨#[]⟩ ∧ rndV s st = ⟨#[]⟩) ∨ (numB s = true ∧ numB (rndV s st) = true ∧ (rndV s st).toList.isEmpty = false ∧ fitK k (rndV s st) = true ∧ textRat (rndV s st).data.toList = rdQ (textRat s.data.toList) (textRat st.data.toList) ∧ rndV (rndV s st) st = rndV s st) := by
  obtain ⟨h1, h2, h3, h4⟩ := rnd_facts h
  obtain ⟨n1, n2⟩ := posT_num h2
  cases hE : s.toList.isEmpty with
  | true => exact .inl ⟨ba_emp hE, rndV_emp hE⟩
  | false =>
    refine .inr ?_
    have hf := List.all_eq_true.1 (accE_zero h3).2.2 s hs
    have hn := fitK_is hf hE
    have hr := List.all_eq_true.1 h4 s hs
    unfold rok at hr
    rw [hE, Bool.false_or, Bool.and_eq_true_iff] at hr
    obtain ⟨hr1, hr2⟩ := hr
    have hre : (rndV s st).toList.isEmpty = false := by simpa using hr1
    have hrn := fitK_is hr2 hre
    have e : rndV s st = putT (rdQ (textRat s.data.toList) (textRat st.data.toList)) := by
      unfold rndV
      rw [hn, n1, if_pos (show (true && true) = true from rfl), if_pos (decide_eq_true n2)]
    have hsh : Short (rdQ (textRat s.data.toList) (textRat st.data.toList)) := by
      by_cases hc : Short (rdQ (textRat s.data.toList) (textRat st.data.toList))
      · exact hc
      · unfold putT at e
        rw [if_neg hc] at e
        rw [e] at hrn
        exact absurd (by rw [bs_toList]) (num_ne hrn)
    have hx : textRat (rndV s st).data.toList = rdQ (textRat s.data.toList) (textRat st.data.toList) := by rw [e]; exact (put_num hsh).2
    refine ⟨hn, hrn, hre, hr2, hx, ?_⟩
    have e2 : rndV (rndV s st) st = putT (rdQ (textRat (rndV s st).data.toList) (textRat st.data.toList)) := by
      show (if (numB (rndV s st) && numB st) = true then _ else _) = _
      rw [hrn, n1, if_pos (show (true && true) = true from rfl), if_pos (decide_eq_true n2)]
    rw [e2, hx, rd_again n2, e]
theorem rnd_again {k : Int} {L : List ByteArray} {st : ByteArray} (h : rndE k L st = 0) : rndE k (L.map (fun s => rndV s st)) st = 0 ∧ rndL k (L.map (fun s => rndV s st)) st = L.map (fun s => rndV s st) := by
  obtain ⟨h1, h2, h3, h4⟩ := rnd_facts h
  obtain ⟨-, hl, -⟩ := accE_zero h3
  have hT : (typB k && posT st) = true := by rw [h1, h2]; rfl
  have ha : accE k (L.map (fun s => rndV s st)) = 0 := by
    refine accE_ok h1 (by rw [List.length_map]; omega) (List.all_eq_true.2 fun r hr => ?_)
    obtain ⟨s, hs, rfl⟩ := List.mem_map.1 hr
    rcases rnd_one h hs with ⟨-, e⟩ | ⟨-, -, -, hf, -⟩
    · simp only [e]; exact fitK_emp h1 (by rw [bs_toList]; rfl)
    · exact hf
  have hr : (L.map (fun s => rndV s st)).all (rok k st) = true := by
    refine List.all_eq_true.2 fun r hr => ?_
    obtain ⟨s, hs, rfl⟩ := List.mem_map.1 hr
    rcases rnd_one h hs with ⟨-, e⟩ | ⟨-, -, he, hf, -, ei⟩
    · simp only [e]
      unfold rok
      rw [show (ByteArray.mk #[]).toList.isEmpty = true by rw [bs_toList]; rfl]
      rfl
    · unfold rok
      simp only [ei, he, hf]
      rfl
  obtain ⟨e1, e2⟩ := rnd_ok hT ha hr
  refine ⟨e1, e2.trans ?_⟩
  rw [List.map_map]
  refine List.map_congr_left fun s hs => ?_
  rcases rnd_one h hs with ⟨-, e⟩ | ⟨-, -, -, -, -, ei⟩
  · show rndV (rndV s st) st = rndV s st
    rw [e, rndV_emp (by rw [bs_toList]; rfl)]
  · exact ei
theorem rndL_map {k : Int} {L : List ByteArray} {st : ByteArray} (h : rndE k L st = 0) : rndL k L st = L.map (fun s => rndV s st) := by unfold rndL; rw [if_pos h]
theorem rndL_len (k : Int) (L : List ByteArray) (st : ByteArray) : (rndL k L st).length ≤ L.length ∧ ∀ s ∈ rndL k L st, s.size ≤ 82 := by
  unfold rndL
  split
  · exact ⟨by rw [List.length_map]; exact Nat.le_refl _, fun r hr => by obtain ⟨s, -, rfl⟩ := List.mem_map.1 hr; exact rndV_size _ _⟩
  · exact ⟨Nat.zero_le _, fun r hr => by cases hr⟩

/-! ### the walk -/
set_option maxRecDepth 100000 in
set_option maxHeartbeats 1600000 in
theorem crounds_walk (k : Int) (L : List ByteArray) (st : ByteArray) (v : Value) (w : World) (_ : -9223372036854775808 ≤ k) (_ : k ≤ 9223372036854775807) (h : IsT w w.heap.size v L) (hL : L.length ≤ maxLen) (hm : ∀ s ∈ L, s.size ≤ maxLen) (ht : st.size ≤ maxLen) (he : Env w) (her : EnvR w) (hg : EnvG w) :
    Calls Tryz.prog 5 #[.int .i64 k, v, .string st] w fun e w' => Below w.heap.size w w' ∧ e = .returned (.bool true) := by
  obtain ⟨z, hz⟩ : ∃ b : Bool, b = true ↔ 100 < L.length ∨ ∃ s ∈ L, 200 < s.size := by classical exact ⟨decide _, decide_eq_true_iff⟩
  obtain ⟨A, c, rfl, -⟩ := h.form
  have hr := h.rd
  have LG := Lib.hid (long_any L A c w hr hL z hz hm)
  have SN := Lib.hid (fun W (hW : Below w.heap.size w W) => sane_any W (he.next hW))
  unfold maxLen at ht
  cases z
  rotate_left
  · clear hz hm h he her hg hL hr
    go_enter Tryz.func5, Tryz.ntmps5
    go_wp2_with fail
    refine LG.out.mono ?_
    rintro e w1 ⟨rfl, rfl⟩
    go_wp2_with fail
    refine (SN.out w (Below.refl _ _)).mono ?_
    rintro e w1 ⟨hb1, rfl⟩
    go_wp2
    go_ret
    exact ⟨hb1, rfl⟩
  by_cases hst : 200 < st.size
  · have hst' : (200 : Int) < (st.size : Int) := by omega
    clear hz hm h he her hg hL hr
    go_enter Tryz.func5, Tryz.ntmps5
    go_wp2_with fail
    refine LG.out.mono ?_
    rintro e w1 ⟨rfl, rfl⟩
    go_wp2_with fail
    refine (SN.out w (Below.refl _ _)).mono ?_
    rintro e w1 ⟨hb1, rfl⟩
    go_wp2
    go_ret
    exact ⟨hb1, rfl⟩
  have hst' : ¬ (200 : Int) < (st.size : Int) := by omega
  have hn : ¬ (100 < L.length ∨ ∃ s ∈ L, 200 < s.size) := fun h => by have := hz.2 h; cases this
  have h10 : L.length ≤ 100 := by
    have : ¬ 100 < L.length := fun e => hn (.inl e)
    omega
  have h200 : ∀ x ∈ L, x.size ≤ 4000000 := fun x hx => by
    have : ¬ 200 < x.size := fun e => hn (.inr ⟨x, hx, e⟩)
    omega
  have hl1 := rndL_len k L st
  have P1 := Lib.hid (fun W (hW : Below w.heap.size w W) => prounded_any k A c L st W ((hr.below hW).more hW.size) (by omega) h200 (by omega) (he.next hW) (her.next hW) (hg.next hW))
  have P2 := Lib.hid (fun W (hW : Below w.heap.size w W) => rrounded_any k A c L st W ((hr.below hW).more hW.size) (by omega) h200 (by omega))
  have P3 := Lib.hid (fun A' c' W (hW : Below w.heap.size w W) (hE : rndE k L st = 0) (hRd : Rd W W.heap.size A' (strs (rndL k L st))) => show Calls Tryz.prog 17 #[.int .i64 k, .slice A' (rndL k L st).length c', .string st] W fun e w' => Below W.heap.size W w' ∧ ∃ v, e = .returned (.tuple #[v, .int .i64 0]) ∧ IsT w' w'.heap.size v (rndL k L st) from by
    have hp := prounded_any k A' c' (rndL k L st) st W hRd (by omega) (fun s hs => by have := hl1.2 s hs; omega) (by omega) (he.next hW) (her.next hW) (hg.next hW)
    rw [rndL_map hE] at hp ⊢
    rw [(rnd_again hE).1, (rnd_again hE).2] at hp
    exact hp)
  have SM := Lib.hid (fun A' A'' c' c'' W (h1 : Rd W W.heap.size A' (strs (rndL k L st))) (h2 : Rd W W.heap.size A'' (strs (rndL k L st))) => csame_any (rndL k L st) A' A'' c' c'' W (by omega) h1 h2)
  have NR := Lib.hid (fun A' c' W (hW : Below w.heap.size w W) (hE : rndE k L st = 0) (hRd : Rd W W.heap.size A' (strs (rndL k L st))) => show Calls Tryz.prog 19 #[.slice A L.length c, .slice A' (rndL k L st).length c', .string st] W fun e w' => Below W.heap.size W w' ∧ e = .returned (.bool true) from by
    rw [show (rndL k L st).length = L.length by rw [rndL_map hE, List.length_map]]
    obtain ⟨f1, f2, f3, f4⟩ := rnd_facts hE
    obtain ⟨n1, n2⟩ := posT_num f2
    have e := rndL_map hE
    refine near_any L (rndL k L st) A A' c c' st W ((hr.below hW).more hW.size) hRd (by rw [e, List.length_map]) (by omega) (by omega) n1 (fun j h1 h2 => ?_)
    have eM : (rndL k L st)[j] = rndV L[j] st := by simp [e]
    rw [eM]
    rcases rnd_one hE (List.getElem_mem h1) with h | ⟨m1, m2, -, -, m3, -⟩
    · exact .inl h
    · refine .inr ⟨m1, m2, ?_⟩
      rw [m3]
      exact rd_near n2)
  clear hz hm h he her hg hL hn h10 h200 hl1 hr ht hst
  generalize rndL k L st = R at *
  generalize rndE k L st = E at *
  go_enter Tryz.func5, Tryz.ntmps5
  go_wp2_with fail
  refine LG.out.mono ?_
  rintro e w1 ⟨rfl, rfl⟩
  go_wp2_with fail
  refine (P1.out w (Below.refl _ _)).mono ?_
  rintro e w1 ⟨hb1, u1, rfl, hu1⟩
  obtain ⟨A1, c1, rfl, -⟩ := hu1.form
  go_wp2_with fail
  refine (P2.out w1 hb1).mono ?_
  rintro e w2 ⟨hb2, u2, rfl, hu2⟩
  obtain ⟨A2, c2, rfl, -⟩ := hu2.form
  have hB2 := hb1.trans (hb2.mono hb1.size)
  have hu12 := hu1.next hb2
  clear hu1 hb1 hb2 P1 P2
  go_wp2_with fail
  refine (SM.out A1 A2 c1 c2 w2 hu12.rd hu2.rd).mono ?_
  rintro e w3 ⟨hb3, rfl⟩
  have hB3 := hB2.trans (hb3.mono hB2.size)
  have hu13 := hu12.next hb3
  clear hu12 hu2 hB2 hb3
  go_wp2_with fail
  refine (SN.out w3 hB3).mono ?_
  rintro e w4 ⟨hb4, rfl⟩
  have hB4 := hB3.trans (hb4.mono hB3.size)
  have hu14 := hu13.next hb4
  clear hu13 hB3 hb4
  by_cases h0 : E = 0
  rotate_left
  · have h0' : (E != 0) = true := by simp [h0]
    clear P3 NR SM
    go_wp2
    go_ret
    exact ⟨hB4, rfl⟩
  have N1 := Lib.hid (fun A' c' W hW hRd => NR.out A' c' W hW h0 hRd)
  have P4 := Lib.hid (fun A' c' W hW hRd => P3.out A' c' W hW h0 hRd)
  subst h0
  clear P3 NR
  go_wp2_with fail
  refine (P4.out A1 c1 w4 hB4 hu14.rd).mono ?_
  rintro e w5 ⟨hb5, u3, rfl, hu3⟩
  obtain ⟨A3, c3, rfl, -⟩ := hu3.form
  have hB5 := hB4.trans (hb5.mono hB4.size)
  have hu15 := hu14.next hb5
  clear hu14 hB4 hb5 P4
  go_wp2_with fail
  refine (SM.out A3 A1 c3 c1 w5 hu3.rd hu15.rd).mono ?_
  rintro e w6 ⟨hb6, rfl⟩
  have hB6 := hB5.trans (hb6.mono hB5.size)
  have hu16 := hu15.next hb6
  clear hu15 hu3 hB5 hb6 SM
  have NN := Lib.hid (N1.out A1 c1 w6 hB6 hu16.rd)
  go_wp2_with fail
  refine NN.out.mono ?_
  rintro e w7 ⟨hb7, rfl⟩
  go_wp2
  go_ret
  exact ⟨hB6.trans (hb7.mono hB6.size), rfl⟩
end Go.Proofs.YtpkhgdnkkdhlcaaGreatDoor

