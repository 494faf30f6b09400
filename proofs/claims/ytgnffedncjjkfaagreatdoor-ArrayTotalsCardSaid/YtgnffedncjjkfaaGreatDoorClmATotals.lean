/-
  PROVED: the law ArrayTotals returns true for every input, and each argument reads behind the call as it did before (the tied card, no condition of its own: the package-level variables that its row lists hold at the start what the program's text lays).
-/
import Derived.Test.YtgnffedncjjkfaaGreatDoorFrmT
import Derived.Test.YtgnffedncjjkfaaGreatDoorAlgX
import Derived.Test.YtgnffedncjjkfaaGreatDoorArxH
namespace Go.Proofs.YtgnffedncjjkfaaGreatDoor
open Go.RowKit Ix Ar

set_option maxRecDepth 100000 in
set_option maxHeartbeats 1600000 in
theorem radd_any (s t : ByteArray) (w : World) (hs : s.size ≤ 4000000) (ht : t.size ≤ 4000000) (h1 : numB s = true) (h2 : numB t = true) :
    Calls Tryz.prog 113 #[.string s, .string t] w fun e w' => Below w.heap.size w w' ∧ e = .returned (.string (putT (textRat s.data.toList + textRat t.data.toList))) := by
  have TW := rtwo_any s t w hs ht
  have ss := num_sz h1
  have st := num_sz h2
  rw [h1, h2] at TW
  have hsp := sz_add (textRat s.data.toList) (textRat t.data.toList)
  clear h1 h2
  go_enter Tryz.func113, Tryz.ntmps113
  go_wp2_with fail
  refine TW.mono ?_
  rintro e w2 ⟨hb2, gv, xv, rfl, ⟨⟨p0, hp0⟩, hg⟩, ⟨p1, hp1⟩, hx⟩
  obtain ⟨gb, gA, gn, gc, gA', gn', gc', rfl⟩ := hp0.form
  obtain ⟨xb, xA, xn, xc, xA', xn', xc', rfl⟩ := hp1.form
  have hA := (below_alloc w2 (.cells #[.bool gb, .slice gA gn gc, .slice gA' gn' gc'] 133)).alloc (by simp) (.cells #[.bool xb, .slice xA xn xc, .slice xA' xn' xc'] 133)
  have hB := hb2.trans (hA.mono hb2.size)
  have kg := (Bk.new w2 133 #[Value.bool gb, .slice gA gn gc, .slice gA' gn' gc']).alloc (.cells #[.bool xb, .slice xA xn xc, .slice xA' xn' xc'] 133)
  have kx := Bk.new2 w2 (.cells #[.bool gb, .slice gA gn gc, .slice gA' gn' gc'] 133) 133 #[Value.bool xb, .slice xA xn xc, .slice xA' xn' xc']
  have CC := Lib.hid (qplus_any _ _ _ _ _ ((hg (by trivial)).next hA) ((hx (by trivial)).next hA) (by omega) (by omega))
  obtain ⟨g0, g1, g2⟩ := bk3 kg
  obtain ⟨x0, x1, x2⟩ := bk3 kx
  clear TW hp0 hp1 hg hx kg kx hA
  go_wp2_with fail
  refine CC.out.mono ?_
  rintro e w4 ⟨hb4, v, rfl, hv⟩
  have hB4 := hB.trans (hb4.mono hB.size)
  clear g0 g1 g2 x0 x1 x2 hb4 hB
  go_wp2_with fail
  refine (rput_any _ _ w4 hv (by omega)).mono ?_
  rintro e w5 ⟨hb5, rfl⟩
  go_wp2
  go_ret
  exact ⟨hB4.trans (hb5.mono hB4.size), rfl⟩

set_option maxRecDepth 100000 in
set_option maxHeartbeats 1600000 in
theorem holes_any (a : Arr) (va : Value) (w : World) (ha : IsA w w.heap.size va a) (hM : a.2.length ≤ maxLen) :
    Calls Tryz.prog 112 #[va] w fun e w' => Below w.heap.size w w' ∧ ∃ q : Bool, e = .returned (.bool q) ∧ (q = false → ∀ s ∈ a.2, s ≠ ⟨#[]⟩) := by
  obtain ⟨A, c, A', c', rfl, -, -⟩ := ha.form
  obtain ⟨S, V⟩ := a
  have hT := ha.parts.2.rd
  simp only at hT hM
  unfold maxLen at hM
  have hb0 := below_alloc w (.cells #[.slice A S.length c, .slice A' V.length c'] 25)
  have k0 := Bk.new w 25 #[Value.slice A S.length c, .slice A' V.length c']
  clear ha
  go_enter Tryz.func112, Tryz.ntmps112
  go_wp2_with fail
  generalize w.alloc (.cells #[.slice A S.length c, .slice A' V.length c'] 25) = W0 at *
  go_loopw [3] (fun i wr => ∃ k : Nat, k ≤ V.length ∧ i = .int .i64 k ∧ Hid (∀ s ∈ V.take k, s ≠ ⟨#[]⟩) ∧ Bk wr w.heap.size 25 #[.slice A S.length c, .slice A' V.length c'] ∧ Below w.heap.size w wr) (fun i _ => V.length - (intOf i).toNat)
  case atStart => exact ⟨0, Nat.zero_le _, rfl, (fun s h => by simp at h), k0, hb0⟩
  case round =>
    clear k0 hb0
    obtain ⟨k, hk, rfl, HK, ka, hB⟩ := hrel
    obtain ⟨a0, a1⟩ := bkA ka
    by_cases hlt : k < V.length
    · obtain ⟨ad, rfl, _, hcv⟩ := (hT.below hB).str hlt
      have HN : Hid (V[k] ≠ ⟨#[]⟩ → ∀ s ∈ V.take (k + 1), s ≠ ⟨#[]⟩) := fun h s hs => by
        rw [List.take_succ_eq_append_getElem hlt] at hs
        rcases List.mem_append.1 hs with h1 | h1
        · exact HK.out s h1
        · simp at h1; subst h1; exact h
      generalize V[k] = s at *
      by_cases hse : s = ⟨#[]⟩
      · subst hse
        clear HN HK ka
        go_wp2
        go_ret
        first | exact ⟨hB, _, rfl, fun h => (by cases h)⟩ | exact ⟨hB, true, rfl, fun h => (by cases h)⟩
      · have hsn : (s.toList == []) = false := by
          rw [ByteArray.toList_eq, beq_eq_false_iff_ne]
          exact fun h0 => hse (ba_list h0)
        have HN2 := Lib.hid (HN.out hse)
        clear HN HK hse
        go_wp2
        go_roundw
        case rel => exact ⟨k + 1, by omega, by go_num, HN2.out, ka, hB⟩
        case measure => simp [intOf]; omega
    · obtain rfl : k = V.length := by omega
      have HA : Hid (∀ s ∈ V, s ≠ ⟨#[]⟩) := fun s hs => HK.out s (by rw [List.take_length]; exact hs)
      clear HK ka
      go_wp2
      go_ret
      first | exact ⟨hB, _, rfl, fun _ => HA.out⟩ | exact ⟨hB, false, rfl, fun _ => HA.out⟩

theorem tlengthy_any (L : List ByteArray) (v : Value) (w : World) (h : IsT w w.heap.size v L) (hM : L.length ≤ maxLen) (q : Bool) (hq : q = true ↔ ¬ Slim ([], L)) :
    Calls Tryz.prog 46 #[v] w fun r w' => Below w.heap.size w w' ∧ r = .returned (.bool q) := by
  have WD := Lib.hid (wide_any ([], L) (.agg #[.slice none 0 0, v]) w ⟨_, _, rfl, IsI.nil _ _, h⟩ (by unfold maxLen; simp) hM q hq)
  obtain ⟨A, c, rfl, -⟩ := h.form
  clear h hq
  go_enter Tryz.func46, Tryz.ntmps46
  go_wp2_with fail
  refine WD.out.mono ?_
  rintro e w2 ⟨hb2, rfl⟩
  go_wp2
  go_ret
  exact ⟨hb2, rfl⟩
theorem redR_val {L : List ByteArray} {red : Int} (h : ∀ s ∈ L, valB s = true) (h1 : 1 ≤ red) (h5 : red ≤ 5) : redR L red = (redT red (numsT L), 0) := if_pos ⟨h, h1, h5⟩
theorem redR_not {L : List ByteArray} {red : Int} (h : ¬ ∀ s ∈ L, valB s = true) : redR L red = (⟨#[]⟩, 2) := if_neg fun h' => h h'.1
theorem redT_size (red : Int) (l : List Rat) : (redT red l).size ≤ 300 := by
  rcases (valB_iff _).1 (redT_val red l) with h | h
  · rw [ba_list (b := ⟨#[]⟩) h]; decide
  · have := isNum_len h
    rw [size_list'] at this; omega
set_option maxRecDepth 100000 in
set_option maxHeartbeats 6400000 in
theorem parts_any (LA LB : List ByteArray) (red : Int) (va vb : Value) (w : World) (ha : IsT w w.heap.size va LA) (hb : IsT w w.heap.size vb LB) (he : Env w) (her : EnvR w) (hr : red = 3 ∨ red = 4 ∨ red = 5) (lA : LA.length ≤ 100) (lB : LB.length ≤ 100) (sA : ∀ s ∈ LA, s.size ≤ 200) (sB : ∀ s ∈ LB, s.size ≤ 200) :
    Calls Tryz.prog 56 #[va, vb, .int .i64 red] w fun e w' => Below w.heap.size w w' ∧ e = .returned (.bool true) := by
  obtain ⟨i0, hi0, hz0, hz1, hz2⟩ := info_parts Tryz.str_info
  obtain ⟨A, c, rfl, -⟩ := ha.form
  obtain ⟨B, d, rfl, -⟩ := hb.form
  have h1 : 1 ≤ red := by omega
  have h5 : red ≤ 5 := by omega
  have P1 := Lib.hid (fun W (hW : Below w.heap.size w W) => preduced_any LA red _ W (ha.next hW) (he.next hW) (her.next hW) (by omega) (fun s hs => by have := sA s hs; omega))
  have P2 := Lib.hid (fun W (hW : Below w.heap.size w W) => preduced_any LB red _ W (hb.next hW) (he.next hW) (her.next hW) (by omega) (fun s hs => by have := sB s hs; omega))
  have P3 := Lib.hid (fun W (hW : Below w.heap.size w W) u (hu : IsT W W.heap.size u (LA ++ LB)) => preduced_any (LA ++ LB) red u W hu (he.next hW) (her.next hW) (by rw [List.length_append]; omega) (fun s hs => by
    rcases List.mem_append.1 hs with h | h
    · have := sA s h; omega
    · have := sB s h; omega))
  have HA := Lib.hid (fun W (hW : Below w.heap.size w W) => (ha.rd.below hW))
  have HB := Lib.hid (fun W (hW : Below w.heap.size w W) => (hb.rd.below hW))
  by_cases qa : ∀ s ∈ LA, valB s = true
  rotate_left
  · rw [redR_not qa] at P1
    rw [redR_not (fun h => qa fun s hs => h s (List.mem_append_left _ hs))] at P3
    generalize redR LB red = R at *
    obtain ⟨R1, R2⟩ := R
    simp only at P1 P2 P3
    clear ha hb he her sA sB qa hr h1 h5
    go_enter Tryz.func56, Tryz.ntmps56
    go_wp2_with fail
    refine (P1.out w (Below.refl _ _)).mono ?_
    rintro e w2 ⟨hb2, rfl⟩
    go_wp2_with fail
    refine (P2.out w2 hb2).mono ?_
    rintro e w3 ⟨hb3, rfl⟩
    have hB3 := hb2.trans (hb3.mono hb2.size)
    clear P1 P2
    go_wp2_with (first | (at_builtin; have hz3 := hb3.size; have hown0 : (w3.alloc (.cells #[] 9)).ownsRow w3.heap.size 9 1 (.slice (some ⟨w3.heap.size, 0, none⟩) 0 0) 0 [] := World.ownsRow_made _ _ 0 (Nat.le_refl _) (by unfold maxLen; omega) rfl; refine wpL_append _ rfl (.tmp 27) (.tmp 28) _ rfl w3.heap.size 9 i0 _ 1 16 Tryz.underlying23 hi0 hz0 hz1 hz2 rfl (by omega) _ 0 [] rfl hown0 A LA.length c (strs LA) rfl (by rw [strs_len, Nat.mul_one]) (HA.out _ (hB3.alloc hB3.size _)) (strs_one _) (by unfold maxLen; omega) (by omega) (by simp) ?_; intro v4 w4 hown4 hg4 hat4; have hC4 := below_app ((Below.refl w3.heap.size w3).alloc (Nat.le_refl _) _) hg4 (by simp) hown0 (Nat.le_refl _); rw [Nat.zero_add, List.nil_append] at hown4; clear hg4 hat4 hown0) | (at_builtin; have hz4 := hC4.size; refine wpL_append _ rfl (.tmp 29) (.tmp 30) _ rfl w3.heap.size 9 i0 _ 1 16 Tryz.underlying23 hi0 hz0 hz1 hz2 rfl (by omega) _ LA.length _ rfl hown4 B LB.length d (strs LB) rfl (by rw [strs_len, Nat.mul_one]) (HB.out _ (hB3.trans (hC4.mono hB3.size))) (strs_one _) (by unfold maxLen; omega) (by omega) hz4 ?_; intro v5 w5 hown5 hg5 hat5; have hC5 := below_app hC4 hg5 hz4 hown4 (Nat.le_refl _); clear hg5 hat5))
    rw [← strs_app] at hown5
    have hT5 := IsT.of_own hown5
    have hB5 := hB3.trans (hC5.mono hB3.size)
    obtain ⟨v5A, v5c, rfl⟩ := own_formV hown5
    have P5 := Lib.hid (P3.out w5 hB5 _ hT5)
    clear hown5 hT5 P3 hown4 hC4 hC5
    go_wp2_with fail
    refine P5.out.mono ?_
    rintro e w6 ⟨hb6, rfl⟩
    have hB6 := hB5.trans (hb6.mono hB5.size)
    clear P5
    go_wp2
    go_ret
    exact ⟨hB6, rfl⟩
  by_cases qb : ∀ s ∈ LB, valB s = true
  rotate_left
  · rw [redR_val qa h1 h5] at P1
    rw [redR_not qb] at P2
    rw [redR_not (fun h => qb fun s hs => h s (List.mem_append_right _ hs))] at P3
    generalize redT red (numsT LA) = x at *
    simp only at P1 P2 P3
    clear ha hb he her sA sB qa qb hr h1 h5
    go_enter Tryz.func56, Tryz.ntmps56
    go_wp2_with fail
    refine (P1.out w (Below.refl _ _)).mono ?_
    rintro e w2 ⟨hb2, rfl⟩
    go_wp2_with fail
    refine (P2.out w2 hb2).mono ?_
    rintro e w3 ⟨hb3, rfl⟩
    have hB3 := hb2.trans (hb3.mono hb2.size)
    clear P1 P2
    go_wp2_with (first | (at_builtin; have hz3 := hb3.size; have hown0 : (w3.alloc (.cells #[] 9)).ownsRow w3.heap.size 9 1 (.slice (some ⟨w3.heap.size, 0, none⟩) 0 0) 0 [] := World.ownsRow_made _ _ 0 (Nat.le_refl _) (by unfold maxLen; omega) rfl; refine wpL_append _ rfl (.tmp 27) (.tmp 28) _ rfl w3.heap.size 9 i0 _ 1 16 Tryz.underlying23 hi0 hz0 hz1 hz2 rfl (by omega) _ 0 [] rfl hown0 A LA.length c (strs LA) rfl (by rw [strs_len, Nat.mul_one]) (HA.out _ (hB3.alloc hB3.size _)) (strs_one _) (by unfold maxLen; omega) (by omega) (by simp) ?_; intro v4 w4 hown4 hg4 hat4; have hC4 := below_app ((Below.refl w3.heap.size w3).alloc (Nat.le_refl _) _) hg4 (by simp) hown0 (Nat.le_refl _); rw [Nat.zero_add, List.nil_append] at hown4; clear hg4 hat4 hown0) | (at_builtin; have hz4 := hC4.size; refine wpL_append _ rfl (.tmp 29) (.tmp 30) _ rfl w3.heap.size 9 i0 _ 1 16 Tryz.underlying23 hi0 hz0 hz1 hz2 rfl (by omega) _ LA.length _ rfl hown4 B LB.length d (strs LB) rfl (by rw [strs_len, Nat.mul_one]) (HB.out _ (hB3.trans (hC4.mono hB3.size))) (strs_one _) (by unfold maxLen; omega) (by omega) hz4 ?_; intro v5 w5 hown5 hg5 hat5; have hC5 := below_app hC4 hg5 hz4 hown4 (Nat.le_refl _); clear hg5 hat5))
    rw [← strs_app] at hown5
    have hT5 := IsT.of_own hown5
    have hB5 := hB3.trans (hC5.mono hB3.size)
    obtain ⟨v5A, v5c, rfl⟩ := own_formV hown5
    have P5 := Lib.hid (P3.out w5 hB5 _ hT5)
    clear hown5 hT5 P3 hown4 hC4 hC5
    go_wp2_with fail
    refine P5.out.mono ?_
    rintro e w6 ⟨hb6, rfl⟩
    have hB6 := hB5.trans (hb6.mono hB5.size)
    clear P5
    go_wp2
    go_ret
    exact ⟨hB6, rfl⟩
  rw [redR_val qa h1 h5] at P1
  rw [redR_val qb h1 h5] at P2
  rw [redR_val (fun s hs => by
    rcases List.mem_append.1 hs with h | h
    · exact qa s h
    · exact qb s h) h1 h5] at P3
  simp only at P1 P2 P3
  by_cases hr5 : red = 5
  · have q5 : (red == 5) = true := by rw [hr5]; rfl
    obtain ⟨n1, n2, n3⟩ := parts_count (A := LA) (B := LB) (by omega) (by omega)
    rw [← hr5] at n1 n2 n3
    have AD := Lib.hid (fun W => radd_any (redT red (numsT LA)) (redT red (numsT LB)) W (by have := redT_size red (numsT LA); omega) (by have := redT_size red (numsT LB); omega) n1 n2)
    rw [n3] at AD
    generalize redT red (numsT LA) = x at *
    generalize redT red (numsT LB) = y at *
    generalize redT red (numsT (LA ++ LB)) = z at *
    have hzz : (z.toList == z.toList) = true := by simp
    clear ha hb he her sA sB qa qb hr h1 h5 n1 n2 n3 hr5
    go_enter Tryz.func56, Tryz.ntmps56
    go_wp2_with fail
    refine (P1.out w (Below.refl _ _)).mono ?_
    rintro e w2 ⟨hb2, rfl⟩
    go_wp2_with fail
    refine (P2.out w2 hb2).mono ?_
    rintro e w3 ⟨hb3, rfl⟩
    have hB3 := hb2.trans (hb3.mono hb2.size)
    clear P1 P2
    go_wp2_with (first | (at_builtin; have hz3 := hb3.size; have hown0 : (w3.alloc (.cells #[] 9)).ownsRow w3.heap.size 9 1 (.slice (some ⟨w3.heap.size, 0, none⟩) 0 0) 0 [] := World.ownsRow_made _ _ 0 (Nat.le_refl _) (by unfold maxLen; omega) rfl; refine wpL_append _ rfl (.tmp 27) (.tmp 28) _ rfl w3.heap.size 9 i0 _ 1 16 Tryz.underlying23 hi0 hz0 hz1 hz2 rfl (by omega) _ 0 [] rfl hown0 A LA.length c (strs LA) rfl (by rw [strs_len, Nat.mul_one]) (HA.out _ (hB3.alloc hB3.size _)) (strs_one _) (by unfold maxLen; omega) (by omega) (by simp) ?_; intro v4 w4 hown4 hg4 hat4; have hC4 := below_app ((Below.refl w3.heap.size w3).alloc (Nat.le_refl _) _) hg4 (by simp) hown0 (Nat.le_refl _); rw [Nat.zero_add, List.nil_append] at hown4; clear hg4 hat4 hown0) | (at_builtin; have hz4 := hC4.size; refine wpL_append _ rfl (.tmp 29) (.tmp 30) _ rfl w3.heap.size 9 i0 _ 1 16 Tryz.underlying23 hi0 hz0 hz1 hz2 rfl (by omega) _ LA.length _ rfl hown4 B LB.length d (strs LB) rfl (by rw [strs_len, Nat.mul_one]) (HB.out _ (hB3.trans (hC4.mono hB3.size))) (strs_one _) (by unfold maxLen; omega) (by omega) hz4 ?_; intro v5 w5 hown5 hg5 hat5; have hC5 := below_app hC4 hg5 hz4 hown4 (Nat.le_refl _); clear hg5 hat5))
    rw [← strs_app] at hown5
    have hT5 := IsT.of_own hown5
    have hB5 := hB3.trans (hC5.mono hB3.size)
    obtain ⟨v5A, v5c, rfl⟩ := own_formV hown5
    have P5 := Lib.hid (P3.out w5 hB5 _ hT5)
    clear hown5 hT5 P3 hown4 hC4 hC5
    go_wp2_with fail
    refine P5.out.mono ?_
    rintro e w6 ⟨hb6, rfl⟩
    have hB6 := hB5.trans (hb6.mono hB5.size)
    clear P5
    go_wp2_with fail
    refine (AD.out w6).mono ?_
    rintro e w7 ⟨hb7, rfl⟩
    go_wp2
    go_ret
    exact ⟨hB6.trans (hb7.mono hB6.size), rfl⟩
  · have q5 : (red == 5) = false := by simp [hr5]
    have hr34 : red = 3 ∨ red = 4 := by omega
    have hpb := parts_best hr34 LA LB
    have RD := Lib.hid (fun W u (hu : IsT W W.heap.size u [redT red (numsT LA), redT red (numsT LB)]) => rreduction_any _ red u W hu (by simp) (fun s hs => by
      simp at hs
      rcases hs with rfl | rfl
      · exact redT_size _ _
      · exact redT_size _ _) (fun s hs => by
      simp at hs
      rcases hs with rfl | rfl
      · exact redT_val _ _
      · exact redT_val _ _) h1 h5)
    rw [hpb] at RD
    generalize redT red (numsT LA) = x at *
    generalize redT red (numsT LB) = y at *
    generalize redT red (numsT (LA ++ LB)) = z at *
    have hzz : (z.toList == z.toList) = true := by simp
    clear ha hb he her sA sB qa qb hr h1 h5 hpb hr5 hr34
    go_enter Tryz.func56, Tryz.ntmps56
    go_wp2_with fail
    refine (P1.out w (Below.refl _ _)).mono ?_
    rintro e w2 ⟨hb2, rfl⟩
    go_wp2_with fail
    refine (P2.out w2 hb2).mono ?_
    rintro e w3 ⟨hb3, rfl⟩
    have hB3 := hb2.trans (hb3.mono hb2.size)
    clear P1 P2
    go_wp2_with (first | (at_builtin; have hz3 := hb3.size; have hown0 : (w3.alloc (.cells #[] 9)).ownsRow w3.heap.size 9 1 (.slice (some ⟨w3.heap.size, 0, none⟩) 0 0) 0 [] := World.ownsRow_made _ _ 0 (Nat.le_refl _) (by unfold maxLen; omega) rfl; refine wpL_append _ rfl (.tmp 27) (.tmp 28) _ rfl w3.heap.size 9 i0 _ 1 16 Tryz.underlying23 hi0 hz0 hz1 hz2 rfl (by omega) _ 0 [] rfl hown0 A LA.length c (strs LA) rfl (by rw [strs_len, Nat.mul_one]) (HA.out _ (hB3.alloc hB3.size _)) (strs_one _) (by unfold maxLen; omega) (by omega) (by simp) ?_; intro v4 w4 hown4 hg4 hat4; have hC4 := below_app ((Below.refl w3.heap.size w3).alloc (Nat.le_refl _) _) hg4 (by simp) hown0 (Nat.le_refl _); rw [Nat.zero_add, List.nil_append] at hown4; clear hg4 hat4 hown0) | (at_builtin; have hz4 := hC4.size; refine wpL_append _ rfl (.tmp 29) (.tmp 30) _ rfl w3.heap.size 9 i0 _ 1 16 Tryz.underlying23 hi0 hz0 hz1 hz2 rfl (by omega) _ LA.length _ rfl hown4 B LB.length d (strs LB) rfl (by rw [strs_len, Nat.mul_one]) (HB.out _ (hB3.trans (hC4.mono hB3.size))) (strs_one _) (by unfold maxLen; omega) (by omega) hz4 ?_; intro v5 w5 hown5 hg5 hat5; have hC5 := below_app hC4 hg5 hz4 hown4 (Nat.le_refl _); clear hg5 hat5))
    rw [← strs_app] at hown5
    have hT5 := IsT.of_own hown5
    have hB5 := hB3.trans (hC5.mono hB3.size)
    obtain ⟨v5A, v5c, rfl⟩ := own_formV hown5
    have P5 := Lib.hid (P3.out w5 hB5 _ hT5)
    clear hown5 hT5 P3 hown4 hC4 hC5
    go_wp2_with fail
    refine P5.out.mono ?_
    rintro e w6 ⟨hb6, rfl⟩
    have hB6 := hB5.trans (hb6.mono hB5.size)
    clear P5
    have kN := Bk.new w6 9 (strs [x, y]).toArray
    have hTN := IsT.of_bk kN
    have hbN := below_alloc w6 (.cells (strs [x, y]).toArray 9)
    have RDN := Lib.hid (RD.out _ _ hTN)
    have hBN := hB6.trans (hbN.mono hB6.size)
    clear kN hTN RD hbN
    go_wp2_with fail
    refine RDN.out.mono ?_
    rintro e w7 ⟨hb7, rfl⟩
    go_wp2
    go_ret
    exact ⟨hBN.trans (hb7.mono hBN.size), rfl⟩

theorem VA.inA {a : Arr} (h : VA a) : InA a ∧ a.2.length ≤ 5000 := by
  have h4 := h.1.1
  have hp := h.1.2.2
  have hl := h.2.1
  refine ⟨⟨by unfold maxLen; omega, by omega, fun s hs => ?_⟩, by omega⟩
  rcases h.2.2 s hs with h | h
  · rw [ba_list (b := ⟨#[]⟩) h]; decide
  · have := isNum_len h
    rw [size_list'] at this; omega
set_option maxRecDepth 100000 in
set_option maxHeartbeats 6400000 in
theorem summed_any (a : Arr) (lo hi : Int) (va : Value) (w : World) (ha : IsA w w.heap.size va a) (hin : InA a) (he : Env w) (her : EnvR w) (hV2 : a.2.length ≤ 5000) (_ : -9223372036854775808 ≤ lo) (hi2 : hi ≤ 9223372036854775807) :
    Calls Tryz.prog 55 #[va, .int .i64 lo, .int .i64 hi] w fun e w' => Below w.heap.size w w' ∧ e = .returned (.bool true) := by
  obtain ⟨A, c, A', c', rfl, -, -⟩ := ha.form
  have hha := ha
  obtain ⟨S, V⟩ := a
  simp only at hV2
  have B0 : BxW w [(w.heap.size, 25, #[.slice A S.length c, .slice A' V.length c'])] (w.alloc (.cells #[.slice A S.length c, .slice A' V.length c'] 25)) := (BxW.nil w).new _ _
  by_cases h0 : hi ≤ lo
  · clear ha hha hin he her
    go_enter Tryz.func55, Tryz.ntmps55
    go_wp2
    go_ret
    exact ⟨B0.below, rfl⟩
  by_cases h1 : lo < 0
  · clear ha hha hin he her
    go_enter Tryz.func55, Tryz.ntmps55
    go_wp2
    go_ret
    exact ⟨B0.below, rfl⟩
  obtain ⟨l, rfl⟩ : ∃ l : Nat, lo = (l : Int) := ⟨lo.toNat, by omega⟩
  obtain ⟨h, rfl⟩ : ∃ h : Nat, hi = (h : Int) := ⟨hi.toNat, by omega⟩
  have hlh : l < h := by omega
  have F1 := Lib.hid (fun W (hW : Below w.heap.size w W) => preduce_any (S, V) l 1 _ W (hha.next hW) hin (he.next hW) (her.next hW) hV2)
  have F2 := Lib.hid (fun W (hW : Below w.heap.size w W) => preduce_any (S, V) h 1 _ W (hha.next hW) hin (he.next hW) (her.next hW) hV2)
  have LAW := Lib.hid (fun h1 h2 n1 n2 => sums_law (a := (S, V)) (lo := l) (hi := h) hlh h1 h2 n1 n2)
  have V1 := Lib.hid (fun h1 => (reduce_VA (a := (S, V)) (x := (l : Int)) (red := 1) h1).inA)
  have V2 := Lib.hid (fun h1 => (reduce_VA (a := (S, V)) (x := (h : Int)) (red := 1) h1).inA)
  have L1 := (reduceR_in (x := (l : Int)) (red := 1) hin).2
  have L2 := (reduceR_in (x := (h : Int)) (red := 1) hin).2
  have HE := Lib.hid (fun W (hW : Below w.heap.size w W) => And.intro (he.next hW) (her.next hW))
  generalize reduceR (S, V) (l : Int) 1 = R at *
  generalize reduceR (S, V) (h : Int) 1 = T at *
  obtain ⟨R1, R2⟩ := R
  obtain ⟨T1, T2⟩ := T
  simp only at F1 F2 LAW V1 V2 L1 L2
  have ww : IntKind.i64.wrap ((h : Int) - 1) = (h : Int) - 1 := IntWalk.i64_in _ (by omega)
  clear ha hha hin he her
  go_enter Tryz.func55, Tryz.ntmps55
  obtain ⟨b0, b1⟩ := bkA B0.one
  go_wp2_with fail
  generalize w.alloc (.cells #[.slice A S.length c, .slice A' V.length c'] 25) = W0 at *
  refine (F1.out W0 B0.below).mono ?_
  rintro r w2 ⟨hb2, u, rfl, hu⟩
  obtain ⟨A1, c1, A2, c2, rfl, -, -⟩ := hu.form
  have B2 := (B0.next hb2).new 25 #[.slice A1 R1.1.length c1, .slice A2 R1.2.length c2]
  have hu3 := hu.next (below_alloc w2 (.cells #[.slice A1 R1.1.length c1, .slice A2 R1.2.length c2] 25))
  clear b0 b1 B0 hb2 hu
  obtain ⟨b0, b1⟩ := bkA B2.one
  go_wp2_with fail
  generalize w2.alloc (.cells #[.slice A1 R1.1.length c1, .slice A2 R1.2.length c2] 25) = w3 at *
  generalize w2.heap.size = bu at *
  refine (F2.out w3 B2.below).mono ?_
  rintro r w4 ⟨hb4, v, rfl, hv⟩
  obtain ⟨C1, d1, C2, d2, rfl, -, -⟩ := hv.form
  have B4 := (B2.next hb4).new 25 #[.slice C1 T1.1.length d1, .slice C2 T1.2.length d2]
  have ba := below_alloc w4 (.cells #[.slice C1 T1.1.length d1, .slice C2 T1.2.length d2] 25)
  have hu5 := (hu3.next hb4).next ba
  have hv5 := hv.next ba
  clear b0 b1 B2 hb4 hu3 hv F1 F2 ba
  by_cases hR : R2 = 0
  rotate_left
  · have e1 : (R2 != 0) = true := by simp [hR]
    clear hR LAW V1 V2 hu5 hv5
    go_wp2
    go_ret
    exact ⟨B4.below, rfl⟩
  have e1 : (R2 != 0) = false := by simp [hR]
  by_cases hT : T2 = 0
  rotate_left
  · have e2 : (T2 != 0) = true := by simp [hT]
    clear hR hT LAW V1 V2 hu5 hv5
    go_wp2
    go_ret
    exact ⟨B4.below, rfl⟩
  have e2 : (T2 != 0) = false := by simp [hT]
  have HR := Lib.hid hR
  have HT := Lib.hid hT
  have H1 := Lib.hid (holes_any R1 _ _ hu5 L1)
  clear hR hT
  obtain ⟨y0, y1⟩ := bkA B4.two
  go_wp2_with fail
  generalize w4.alloc (.cells #[.slice C1 T1.1.length d1, .slice C2 T1.2.length d2] 25) = w5 at *
  generalize w4.heap.size = bv at *
  refine H1.out.mono ?_
  rintro r w6 ⟨hb6, q1, rfl, hq1⟩
  have B6 := B4.next hb6
  have hu6 := hu5.next hb6
  have hv6 := hv5.next hb6
  clear H1 y0 y1 B4 hb6 hu5 hv5
  cases q1
  rotate_left
  · clear LAW V1 V2 hu6 hv6 hq1
    go_wp2
    go_ret
    exact ⟨B6.below, rfl⟩
  have HQ1 := Lib.hid (hq1 rfl)
  have H2 := Lib.hid (holes_any T1 _ _ hv6 L2)
  obtain ⟨z0, z1⟩ := bkA B6.three
  clear hq1
  go_wp2_with fail
  refine H2.out.mono ?_
  rintro r w7 ⟨hb7, q2, rfl, hq2⟩
  have B7 := B6.next hb7
  have hu7 := hu6.next hb7
  have hv7 := hv6.next hb7
  clear H2 z0 z1 B6 hb7 hu6 hv6
  cases q2
  rotate_left
  · clear LAW V1 V2 hu7 hv7 hq2
    go_wp2
    go_ret
    exact ⟨B7.below, rfl⟩
  have hlaw := LAW.out HR.out HT.out HQ1.out (hq2 rfl)
  obtain ⟨i1, i2⟩ := V1.out HR.out
  obtain ⟨j1, j2⟩ := V2.out HT.out
  have G1 := Lib.hid (fun W (hW : Below w7.heap.size w7 W) (hW2 : Below w.heap.size w W) => preduce_any R1 ((h : Int) - 1) 1 _ W (hu7.next hW) i1 (HE.out W hW2).1 (HE.out W hW2).2 i2)
  have G2 := Lib.hid (fun W (hW : Below w7.heap.size w7 W) (hW2 : Below w.heap.size w W) => preduce_any T1 (l : Int) 1 _ W (hv7.next hW) j1 (HE.out W hW2).1 (HE.out W hW2).2 j2)
  have hD := reduceR_in (x := (l : Int)) (red := 1) j1
  rw [hlaw] at G1
  generalize reduceR T1 (l : Int) 1 = D at *
  obtain ⟨D1, D2⟩ := D
  simp only at G1 G2 hD
  have SM := Lib.hid (fun W u v (hu : IsA W W.heap.size u D1) (hv : IsA W W.heap.size v D1) => same_any D1 D1 u v W hu hv hD.1 hD.2 true (by simp))
  have e3 : (D2 == D2) = true := by simp
  clear LAW V1 V2 hq2 HQ1 HR HT hlaw i1 i2 j1 j2 HE hD hu7 hv7 L1 L2
  obtain ⟨y0, y1⟩ := bkA B7.two
  go_wp2_with fail
  refine (G1.out w7 (Below.refl _ _) B7.below).mono ?_
  rintro r w8 ⟨hb8, p, rfl, hp⟩
  obtain ⟨P1, f1, P2, f2, rfl, -, -⟩ := hp.form
  have B8 := (B7.next hb8).new 25 #[.slice P1 D1.1.length f1, .slice P2 D1.2.length f2]
  have bp := below_alloc w8 (.cells #[.slice P1 D1.1.length f1, .slice P2 D1.2.length f2] 25)
  have hC9 := hb8.trans (bp.mono hb8.size)
  have hp9 := hp.next bp
  clear y0 y1 B7 hb8 hp G1 bp
  obtain ⟨z0, z1⟩ := bkA B8.three
  go_wp2_with fail
  generalize w8.alloc (.cells #[.slice P1 D1.1.length f1, .slice P2 D1.2.length f2] 25) = w9 at *
  generalize w8.heap.size = bp at *
  refine (G2.out w9 hC9 B8.below).mono ?_
  rintro r wA ⟨hbA, s, rfl, hs⟩
  obtain ⟨Q1, k1, Q2, k2, rfl, -, -⟩ := hs.form
  have BA := (B8.next hbA).new 25 #[.slice Q1 D1.1.length k1, .slice Q2 D1.2.length k2]
  have bq := below_alloc wA (.cells #[.slice Q1 D1.1.length k1, .slice Q2 D1.2.length k2] 25)
  have hpB := (hp9.next hbA).next bq
  have hsB := hs.next bq
  have SB := Lib.hid (SM.out _ _ _ hpB hsB)
  clear z0 z1 B8 hbA hp9 hs G2 bq hpB hsB SM hC9
  by_cases hD0 : D2 = 0
  rotate_left
  · have e4 : (D2 != 0) = true := by simp [hD0]
    clear hD0 SB
    go_wp2
    go_ret
    exact ⟨BA.below, rfl⟩
  have e4 : (D2 != 0) = false := by simp [hD0]
  clear hD0
  obtain ⟨y0, y1⟩ := bkA BA.four
  obtain ⟨z0, z1⟩ := bkA BA.five
  go_wp2_with fail
  refine SB.out.mono ?_
  rintro r wB ⟨hbB, rfl⟩
  go_wp2
  go_ret
  exact ⟨(BA.next hbB).below, rfl⟩

set_option maxRecDepth 100000 in
set_option maxHeartbeats 6400000 in
theorem atotals_walk (a : Arr) (x0 x1 : Int) (LA LB : List ByteArray) (va u v : Value) (w : World) (ha : IsA w w.heap.size va a) (hL : a.1.length ≤ maxLen) (hM : a.2.length ≤ maxLen) (_ : ∀ s ∈ a.1, -9223372036854775808 ≤ s ∧ s ≤ 9223372036854775807)
    (h00 : -9223372036854775808 ≤ x0) (h01 : x0 ≤ 9223372036854775807) (h10 : -9223372036854775808 ≤ x1) (h11 : x1 ≤ 9223372036854775807) (hu : IsT w w.heap.size u LA) (hv : IsT w w.heap.size v LB) (lA : LA.length ≤ maxLen) (lB : LB.length ≤ maxLen) (he : Env w) (her : EnvR w) :
    Calls Tryz.prog 13 #[va, .agg #[.int .i64 x0, .int .i64 x1], .agg #[u, v]] w fun r w' => Below w.heap.size w w' ∧ r = .returned (.bool true) := by
  obtain ⟨q1, hq1⟩ : ∃ b : Bool, b = true ↔ ¬ Slim a := by classical exact ⟨decide _, decide_eq_true_iff⟩
  obtain ⟨q2, hq2⟩ : ∃ b : Bool, b = true ↔ ¬ Slim ([], LA) := by classical exact ⟨decide _, decide_eq_true_iff⟩
  obtain ⟨q3, hq3⟩ : ∃ b : Bool, b = true ↔ ¬ Slim ([], LB) := by classical exact ⟨decide _, decide_eq_true_iff⟩
  have WD := Lib.hid (fun W (hW : Below w.heap.size w W) => wide_any a _ W (ha.next hW) hL hM q1 hq1)
  have LE2 := Lib.hid (fun W (hW : Below w.heap.size w W) => tlengthy_any LA u W (hu.next hW) lA q2 hq2)
  have LE3 := Lib.hid (fun W (hW : Below w.heap.size w W) => tlengthy_any LB v W (hv.next hW) lB q3 hq3)
  have SN := Lib.hid (fun W (hW : Below w.heap.size w W) => sane_any W (he.next hW))
  obtain ⟨A, c, A', c', rfl, -, -⟩ := ha.form
  obtain ⟨U, cu, rfl, -⟩ := hu.form
  obtain ⟨Y, cy, rfl, -⟩ := hv.form
  have hha := ha
  obtain ⟨S, V⟩ := a
  simp only at hL hM
  have B0 := BxW.start3 w 25 71 72 #[.slice A S.length c, .slice A' V.length c'] #[.int .i64 x0, .int .i64 x1] #[.slice U LA.length cu, .slice Y LB.length cy]
  cases q1
  rotate_left
  · clear hq1 hq2 hq3 ha hha hu hv he her LE2 LE3
    go_enter Tryz.func13, Tryz.ntmps13
    obtain ⟨b0, b1⟩ := bkA B0.one
    go_wp2_with fail
    generalize (((w.alloc (.cells #[.slice A S.length c, .slice A' V.length c'] 25)).alloc (.cells #[.int .i64 x0, .int .i64 x1] 71)).alloc (.cells #[.slice U LA.length cu, .slice Y LB.length cy] 72)) = W0 at *
    refine (WD.out W0 B0.below).mono ?_
    rintro r w1 ⟨hb1, rfl⟩
    have B1 := B0.next hb1
    go_wp2_with fail
    refine (SN.out w1 B1.below).mono ?_
    rintro r w2 ⟨hb2, rfl⟩
    go_wp2
    go_ret
    exact ⟨(B1.next hb2).below, rfl⟩
  cases q2
  rotate_left
  · clear hq1 hq2 hq3 ha hha hu hv he her LE3
    go_enter Tryz.func13, Tryz.ntmps13
    obtain ⟨b0, b1⟩ := bkA B0.one
    go_wp2_with fail
    generalize (((w.alloc (.cells #[.slice A S.length c, .slice A' V.length c'] 25)).alloc (.cells #[.int .i64 x0, .int .i64 x1] 71)).alloc (.cells #[.slice U LA.length cu, .slice Y LB.length cy] 72)) = W0 at *
    refine (WD.out W0 B0.below).mono ?_
    rintro r w1 ⟨hb1, rfl⟩
    have B1 := B0.next hb1
    obtain ⟨d0, d1⟩ := bkA B1.three
    go_wp2_with fail
    refine (LE2.out w1 B1.below).mono ?_
    rintro r w2 ⟨hb2, rfl⟩
    have B2 := B1.next hb2
    go_wp2_with fail
    refine (SN.out w2 B2.below).mono ?_
    rintro r w3 ⟨hb3, rfl⟩
    go_wp2
    go_ret
    exact ⟨(B2.next hb3).below, rfl⟩
  cases q3
  rotate_left
  · clear hq1 hq2 hq3 ha hha hu hv he her
    go_enter Tryz.func13, Tryz.ntmps13
    obtain ⟨b0, b1⟩ := bkA B0.one
    go_wp2_with fail
    generalize (((w.alloc (.cells #[.slice A S.length c, .slice A' V.length c'] 25)).alloc (.cells #[.int .i64 x0, .int .i64 x1] 71)).alloc (.cells #[.slice U LA.length cu, .slice Y LB.length cy] 72)) = W0 at *
    refine (WD.out W0 B0.below).mono ?_
    rintro r w1 ⟨hb1, rfl⟩
    have B1 := B0.next hb1
    obtain ⟨d0, d1⟩ := bkA B1.three
    go_wp2_with fail
    refine (LE2.out w1 B1.below).mono ?_
    rintro r w2 ⟨hb2, rfl⟩
    have B2 := B1.next hb2
    clear d0 d1
    obtain ⟨d0, d1⟩ := bkA B2.three
    go_wp2_with fail
    refine (LE3.out w2 B2.below).mono ?_
    rintro r w3 ⟨hb3, rfl⟩
    have B3 := B2.next hb3
    go_wp2_with fail
    refine (SN.out w3 B3.below).mono ?_
    rintro r w4 ⟨hb4, rfl⟩
    go_wp2
    go_ret
    exact ⟨(B3.next hb4).below, rfl⟩
  have slim : ∀ {P : Prop}, (false = true ↔ ¬ P) → P := fun {P} h => by
    apply Classical.byContradiction
    intro h'
    have := h.2 h'
    cases this
  obtain ⟨-, l1, l2⟩ := slim hq1
  obtain ⟨-, m1, m2⟩ := slim hq2
  obtain ⟨-, n1, n2⟩ := slim hq3
  simp only at l1 l2 m1 m2 n1 n2
  have hi : InA (S, V) := ⟨hL, by show V.length ≤ _; omega, fun s hs => by have := l2 s hs; omega⟩
  have SU := Lib.hid (fun W (hW : Below w.heap.size w W) => summed_any (S, V) (min x0 x1) (max x0 x1) _ W (hha.next hW) hi (he.next hW) (her.next hW) (by show V.length ≤ 5000; omega) (by omega) (by omega))
  have PA := Lib.hid (fun W (hW : Below w.heap.size w W) red hr => parts_any LA LB red _ _ W (hu.next hW) (hv.next hW) (he.next hW) (her.next hW) hr m1 n1 m2 n2)
  clear hq1 hq2 hq3 ha hha hu hv he her slim l2 m2 n2 hi
  go_enter Tryz.func13, Tryz.ntmps13
  obtain ⟨b0, b1⟩ := bkA B0.one
  go_wp2_with fail
  generalize (((w.alloc (.cells #[.slice A S.length c, .slice A' V.length c'] 25)).alloc (.cells #[.int .i64 x0, .int .i64 x1] 71)).alloc (.cells #[.slice U LA.length cu, .slice Y LB.length cy] 72)) = W0 at *
  refine (WD.out W0 B0.below).mono ?_
  rintro r w1 ⟨hb1, rfl⟩
  have B1 := B0.next hb1
  clear b0 b1
  obtain ⟨d0, d1⟩ := bkA B1.three
  go_wp2_with fail
  refine (LE2.out w1 B1.below).mono ?_
  rintro r w2 ⟨hb2, rfl⟩
  have B2 := B1.next hb2
  clear d0 d1
  obtain ⟨d0, d1⟩ := bkA B2.three
  go_wp2_with fail
  refine (LE3.out w2 B2.below).mono ?_
  rintro r w3 ⟨hb3, rfl⟩
  have B3 := B2.next hb3
  clear d0 d1 WD LE2 LE3 B0 B1 B2 hb1 hb2 hb3
  obtain ⟨a0, a1⟩ := bkA B3.one
  obtain ⟨y0, y1⟩ := bkA B3.two
  go_wp2_with fail
  refine (SU.out w3 B3.below).mono ?_
  rintro r w4 ⟨hb4, rfl⟩
  have B4 := B3.next hb4
  clear a0 a1 y0 y1 SU B3 hb4
  obtain ⟨d0, d1⟩ := bkA B4.three
  go_wp2_with fail
  refine (PA.out w4 B4.below 3 (.inl rfl)).mono ?_
  rintro r w5 ⟨hb5, rfl⟩
  have B5 := B4.next hb5
  clear d0 d1 B4 hb5
  obtain ⟨d0, d1⟩ := bkA B5.three
  go_wp2_with fail
  refine (PA.out w5 B5.below 4 (.inr (.inl rfl))).mono ?_
  rintro r w6 ⟨hb6, rfl⟩
  have B6 := B5.next hb6
  clear d0 d1 B5 hb6
  obtain ⟨d0, d1⟩ := bkA B6.three
  go_wp2_with fail
  refine (PA.out w6 B6.below 5 (.inr (.inr rfl))).mono ?_
  rintro r w7 ⟨hb7, rfl⟩
  have B7 := B6.next hb7
  clear d0 d1 B6 hb7
  go_wp2_with fail
  refine (SN.out w7 B7.below).mono ?_
  rintro r w8 ⟨hb8, rfl⟩
  go_wp2
  go_ret
  exact ⟨(B7.next hb8).below, rfl⟩
end Go.Proofs.YtgnffedncjjkfaaGreatDoor

namespace Go.Proofs.YtgnffedncjjkfaaGreatDoor.fnATotals
open Go.ChangeShapes Go.WideShapes Go.ChangeAt Go.RowKit Go.Proofs.YtgnffedncjjkfaaGreatDoor

section
variable {H : Type} {enc : TypeId × Value → H} {W : World} {v : Value} {d : DataW H} {p : List MemPlace} {base : Nat}
theorem okWide_array2 {P : Program} {w : World} {r : Reach} {b n : Nat} {t e : TypeId} {v : Value} (ht : P.underlying t = some (.array n e)) (h : Value.okWide P w r b t v) : ∃ cs, v = .agg cs ∧ cs.size = P.cellsOf t := by
  simp only [Value.okWide, ht] at h
  obtain ⟨cs, h1, h2, _⟩ := h
  exact ⟨cs, h1, h2⟩
theorem trod_array2 {P : Program} {w : World} {b : Nat} {spare : Nat → Bool} {held : Bool} {t e : TypeId} {fuel : Nat} {c0 c1 : Value} {x : DataW H × List MemPlace} (ht : P.underlying t = some (.array 2 e)) (hce : P.cellsOf e = 1)
    (h : DataW.trod enc P w b spare held fuel t [c0, c1] = some x) : ∃ y0 y1 n, DataW.trod enc P w b spare held n e [c0] = some y0 ∧ DataW.trod enc P w b spare held n e [c1] = some y1 := by
  cases fuel with
  | zero => simp [DataW.trod] at h
  | succ n =>
    unfold DataW.trod at h
    rw [ht] at h
    have r2 : List.range 2 = [0, 1] := rfl
    simp [r2, hce] at h
    obtain ⟨_, h⟩ := h
    cases h0 : DataW.trod enc P w b spare held n e [c0] with
    | none => simp [h0] at h
    | some y0 =>
      cases h1 : DataW.trod enc P w b spare held n e [c1] with
      | none => simp [h0, h1] at h
      | some y1 => exact ⟨y0, y1, n, h0, h1⟩
theorem cellsI2 : Tryz.prog.cellsOf 71 = 2 := by kernel_rfl
theorem cellsT2 : Tryz.prog.cellsOf 72 = 2 := by kernel_rfl
set_option maxRecDepth 100000 in
theorem opened_i2 (hval : Value.okWide Tryz.prog W .any base 71 v) (h : DataW.Trod enc Tryz.prog W 0 (fun _ => true) true 71 v d p) : ∃ x y : Int, v = .agg #[.int .i64 x, .int .i64 y] ∧ -9223372036854775808 ≤ x ∧ x ≤ 9223372036854775807 ∧ -9223372036854775808 ≤ y ∧ y ≤ 9223372036854775807 := by
  obtain ⟨cs, rfl, hcs⟩ := okWide_array2 Tryz.underlying71 hval
  rw [cellsI2] at hcs
  obtain ⟨a, b, rfl⟩ := two_of hcs
  obtain ⟨fuel, hf⟩ := h
  obtain ⟨y0, y1, n, g0, g1⟩ := trod_array2 Tryz.underlying71 Tryz.cellsInt hf
  obtain ⟨n0, e0, _, w0⟩ := DataW.trod_int Tryz.underlying3 g0
  obtain ⟨n1, e1, _, w1⟩ := DataW.trod_int Tryz.underlying3 g1
  simp only [List.cons.injEq, and_true] at e0 e1
  subst e0
  subst e1
  exact ⟨_, _, rfl, (in64_cut w0).1, (in64_cut w0).2, (in64_cut w1).1, (in64_cut w1).2⟩
set_option maxRecDepth 100000 in
theorem opened_t2 (hval : Value.okWide Tryz.prog W .any base 72 v) (h : DataW.Trod enc Tryz.prog W 0 (fun _ => true) true 72 v d p) : ∃ (LA LB : List ByteArray) (a b : Value), v = .agg #[a, b] ∧ IsT W W.heap.size a LA ∧ IsT W W.heap.size b LB ∧ LA.length ≤ maxLen ∧ LB.length ≤ maxLen := by
  obtain ⟨cs, rfl, hcs⟩ := okWide_array2 Tryz.underlying72 hval
  rw [cellsT2] at hcs
  obtain ⟨a, b, rfl⟩ := two_of hcs
  obtain ⟨fuel, hf⟩ := h
  obtain ⟨y0, y1, n, g0, g1⟩ := trod_array2 Tryz.underlying72 Tryz.cellsTexts hf
  obtain ⟨V0, i0, l0, _⟩ := opened_texts g0
  obtain ⟨V1, i1, l1, _⟩ := opened_texts g1
  exact ⟨V0, V1, a, b, rfl, i0, i1, l0, l1⟩
end
set_option maxRecDepth 100000 in
theorem contract (H : Type) (enc : TypeId × Value → H) (W : World) (base : Nat) (args : Array Value) (ds gs : List (DataW H)) (before : List MemPlace)
    (hval : ∀ (j : Nat) t v, Tryz.f13.params[j]? = some t → args[j]? = some v → Value.okWide Tryz.prog W .any base t v)
    (hW : DataW.Whole enc Tryz.prog Tryz.f13.params.toList Rows.arrayTotalsSpec.vars false W args.toList ds gs before) (hL : laidMetH Tryz.prog Rows.arrayTotalsRow.laid W) (hsh : W.ShapedOpen Tryz.prog) :
    Calls Tryz.prog 13 args W fun e W' => ∃ v, e = .returned v ∧ Rows.arrayTotalsSpec.post enc Tryz.prog Tryz.f13 false true false false W args v W' := by
  obtain ⟨he, her⟩ := env_of hL hsh
  have hW' := hW
  obtain ⟨p, q, hA0, hV, rfl, hfz, hnd⟩ := hW
  have hA : DataW.TrodAll enc Tryz.prog W 0 (fun _ => true) true Tryz.f13.params.toList args.toList ds p := hA0
  rw [Tryz.params13] at hA hval
  obtain ⟨v0, v1, v2, d0, d1, d2, p0, p1, p2, rfl, rfl, rfl, h0, h1, h2⟩ := trodAll_three hA
  obtain ⟨rfl, rfl⟩ := trodVars_none hV
  obtain ⟨a0, i0, l0, m0, w0⟩ := opened_arr (hval 0 25 v0 rfl rfl) h0
  obtain ⟨x1, y1, rfl, l1, m1, n1, o1⟩ := opened_i2 (hval 1 71 v1 rfl rfl) h1
  obtain ⟨L2, M2, u2, z2, rfl, iu2, iz2, lu2, lz2⟩ := opened_t2 (hval 2 72 v2 rfl rfl) h2
  refine (atotals_walk a0 x1 y1 L2 M2 v0 u2 z2 W i0 l0 m0 w0 l1 m1 n1 o1 iu2 iz2 lu2 lz2 he her).mono fun e W' ⟨hb, e1⟩ => ?_
  subst e1
  exact ⟨_, rfl, law_post (by kernel_rfl) rfl (by rw [Tryz.params13]; intro t ht; simp at ht; rcases ht with rfl | rfl | rfl <;> exact ⟨by kernel_rfl, of_decide_eq_true (by kernel_rfl)⟩) ⟨rfl, rfl, rfl⟩ hW' hb⟩

theorem reads (os : Os) {H : Type} (enc : TypeId × Value → H) : ∃ places, DataW.whole enc Tryz.prog ((laidWorld os).forCall (fun _ _ => 0) ⟨#[], #[Value.agg #[.slice none 0 0, .slice none 0 0], Value.agg #[.int .i64 0, .int .i64 0], Value.agg #[.slice none 0 0, .slice none 0 0]], []⟩).memory Tryz.f13.params.toList Rows.arrayTotalsSpec.vars false #[Value.agg #[.slice none 0 0, .slice none 0 0], Value.agg #[.int .i64 0, .int .i64 0], Value.agg #[.slice none 0 0, .slice none 0 0]].toList 8 = some ([.agg [.nil, .nil], .agg [.lit (.int .i64 0), .lit (.int .i64 0)], .agg [.nil, .nil]], [], places) :=
  ⟨[], by kernel_rfl⟩

set_option maxRecDepth 100000 in
theorem lifted (os : Os) (started : os.Started) (H : Type) (enc : TypeId × Value → H) (F : Stop.Interp) :
    ReturnsInHanded {} Tryz.checked os 13 .any ((OpenSpec.ofChange Rows.arrayTotalsSpec).preRow enc Tryz.prog Tryz.f13 Rows.arrayTotalsRow.domain false Rows.arrayTotalsRow.laid) (((OpenSpec.ofChange Rows.arrayTotalsSpec).at F).post enc Tryz.prog Tryz.f13 false true false false) := by
  obtain ⟨places, hx⟩ := reads os enc
  refine returnsInHanded_of_row (C := Tryz.checked) (s := OpenSpec.ofChange Rows.arrayTotalsSpec) Tryz.own started (by kernel_rfl) Tryz.func13
    (witness_row_atRef (enc := enc) (C := Tryz.checked) false (laidWorld os) #[Value.agg #[.slice none 0 0, .slice none 0 0], Value.agg #[.int .i64 0, .int .i64 0], Value.agg #[.slice none 0 0, .slice none 0 0]] rfl (by kernel_rfl) (by kernel_rfl) (by kernel_rfl)
      (OpenSpec.preRow_of_cond 8 hx (by kernel_rfl) (fun k hk => by cases hk) (by kernel_rfl) (laid_met os _))) ?_
  intro W base args ds gs before hval hW _ _ _ hL hsh _
  exact contract H enc W base args ds gs before hval hW hL hsh

theorem k0 : (Rows.arrayTotalsRow.inPlace == Tryz.prog.inPlace 13) = true := by kernel_rfl
theorem k1 : (Rows.arrayTotalsRow.unfollowed == Tryz.prog.unfollowed 13) = true := by kernel_rfl
theorem k2 : (Rows.arrayTotalsRow.recurses == Tryz.prog.recurses 13) = true := by kernel_rfl
theorem k3 : (Rows.arrayTotalsRow.named == Tryz.prog.varsNamed 13) = true := by kernel_rfl
theorem k4 : (Rows.arrayTotalsRow.plainKeys == Tryz.prog.plainKeys) = true := by kernel_rfl
theorem k5 : (Tryz.prog.mayEnter) = true := by kernel_rfl
theorem k6 : (Rows.arrayTotalsRow.lifted == Tryz.prog.liftsFinal) = true := by kernel_rfl
theorem k7 : (Tryz.prog.make == some Rows.arrayTotalsRow.make) = true := by kernel_rfl
theorem k8 : (Tryz.prog.stopsHeard) = true := by kernel_rfl
theorem k9 : (mapsRowed Tryz.prog) = true := by kernel_rfl
theorem joined : joinedFacts Tryz.prog 13 Tryz.f13 (OpenSpec.ofChange Rows.arrayTotalsSpec).bare Rows.arrayTotalsRow = true := by
  unfold joinedFacts
  rw [k0, k1, k2, k3, k4, k5, k6, k7, k8, k9, Tryz.laidOutB_ok]
  kernel_rfl

theorem goes : false = Rows.arrayTotalsRow.goesBy Tryz.prog := by kernel_rfl
theorem looks : true = Tryz.pinned.checked.prog.looks [] := by kernel_rfl
theorem wfB : Rows.arrayTotalsRow.wfByText (OpenSpec.ofChange Rows.arrayTotalsSpec) = true := by kernel_rfl
theorem said : Rows.ArrayTotalsSaid :=
  OpenClaim.holds_of_cond 13 Tryz.f13 rfl rfl rfl rfl rfl rfl rfl ⟨rfl, rfl, rfl, rfl, rfl⟩ rfl rfl rfl rfl rfl (by kernel_rfl) Tryz.func13 joined
    (of_decide_eq_true (by kernel_rfl)) (by unfold Func.isWrapper; first | (rw [if_pos (by decide +kernel)]; kernel_rfl) | (rw [if_neg (by decide +kernel)]; exact ⟨rfl, rfl⟩))
    (fun os started H enc _ F => by rw [OpenClaim.pre_eq_preRow]; exact lifted os started H enc F)

theorem plain (f : FuncId) (fn : Func) (hf : Tryz.pinned.checked.prog.funcNamed "arrayarchive/arrayarchivelaw06.ArrayTotals" = some f) (hfn : Tryz.pinned.checked.prog.funcs[f]? = some fn) :
    true = Tryz.pinned.checked.prog.looks [] ∧ ∀ (j : Nat) t, fn.params[j]? = some t → Tryz.pinned.checked.prog.wantsStandIn t = false := by
  obtain rfl : f = 13 := Option.some.inj ((show Tryz.prog.funcNamed "arrayarchive/arrayarchivelaw06.ArrayTotals" = some 13 by kernel_rfl).symm.trans hf) |>.symm
  obtain rfl : fn = Tryz.f13 := (Option.some.inj (Tryz.func13.symm.trans hfn)).symm
  refine ⟨looks, fun j t ht => ?_⟩
  rw [Tryz.params13] at ht
  have hm := Array.mem_of_getElem? ht
  simp at hm
  rcases hm with rfl | rfl | rfl
  · exact (show Tryz.prog.wantsStandIn 25 = false by kernel_rfl)
  · exact (show Tryz.prog.wantsStandIn 71 = false by kernel_rfl)
  · exact (show Tryz.prog.wantsStandIn 72 = false by kernel_rfl)

theorem card : Rows.ArrayTotalsCardSaid :=
  Claim7.holds_tied_plain_at .later [] _ _ _ _ said (fun _ h => by cases h) wfB (fun _ h => by cases h) arrayTotals_row_tie rfl ⟨rfl, rfl⟩ (by kernel_rfl) rfl plain goes
end Go.Proofs.YtgnffedncjjkfaaGreatDoor.fnATotals
namespace Go.Proofs.YtgnffedncjjkfaaGreatDoor
theorem atotals_holds : Rows.ArrayTotalsCardSaid := fnATotals.card
end Go.Proofs.YtgnffedncjjkfaaGreatDoor
