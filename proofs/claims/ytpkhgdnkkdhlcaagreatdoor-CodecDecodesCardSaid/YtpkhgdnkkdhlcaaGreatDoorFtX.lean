/-
  Plain: which texts of numbers are integers of so many bits.
  Walks: which texts are values of a type (Fits), on both sides.
  Walks: which texts are values of a type: the reference's Fits.
  Walks: what is accepted (package codec), and the reference's unwell.
-/
import Derived.Test.YtpkhgdnkkdhlcaaGreatDoorNumX
import Derived.Lib.ParseIntB
import Derived.Test.YtpkhgdnkkdhlcaaGreatDoorCvA
import Derived.Test.YtpkhgdnkkdhlcaaGreatDoorHlX
import Derived.Test.YtpkhgdnkkdhlcaaGreatDoorSanX
namespace Go.Proofs.YtpkhgdnkkdhlcaaGreatDoor.Ar
open Go.Lib

theorem decFrom_ge : ∀ (l : List UInt8) (acc n : Nat), decFrom acc l = some n → acc ≤ n
  | [], acc, n, h => by simp [decFrom] at h; omega
  | b :: r, acc, n, h => by
    unfold decFrom at h
    cases hd : digitVal b with
    | none => rw [hd] at h; cases h
    | some d => rw [hd] at h; have := decFrom_ge r _ _ h; omega
theorem parseM_digs {M : Nat} (hM : M < 18446744073709551616) : ∀ (l : List UInt8) (acc n : Nat), acc ≤ M → decFrom acc l = some n → parseUintM M acc l = if n ≤ M then .ok n else .range
  | [], acc, n, ha, h => by simp [decFrom] at h; subst h; rw [if_pos ha]; rfl
  | b :: r, acc, n, ha, h => by
    unfold decFrom digitVal at h
    by_cases hd : 48 ≤ b.toNat ∧ b.toNat ≤ 57
    · rw [if_pos hd] at h
      simp only at h
      have hg := decFrom_ge r _ _ h
      unfold parseUintM
      rw [if_pos hd]
      split
      · rw [if_neg (by omega)]
      · split
        · rw [if_neg (by omega)]
        · exact parseM_digs hM r _ _ (by omega) h
    · rw [if_neg hd] at h; cases h
theorem parseM_bad {M : Nat} {c : UInt8} (hc : ¬ (48 ≤ c.toNat ∧ c.toNat ≤ 57)) (m : List UInt8) (v : Nat) : ∀ (l : List UInt8) (acc : Nat), parseUintM M acc (l ++ c :: m) ≠ .ok v
  | [], acc => by
    rw [List.nil_append]
    unfold parseUintM
    rw [if_neg hc]
    exact fun e => by cases e
  | b :: r, acc => by
    rw [List.cons_append]
    unfold parseUintM
    split
    · split
      · exact fun e => by cases e
      · split
        · exact fun e => by cases e
        · exact parseM_bad hc m v r _
    · exact fun e => by cases e
/-- An integer of B bits. -/
def FitZ (B : Nat) (q : Rat) : Prop := q.den = 1 ∧ -((2 ^ (B - 1) : Nat) : Int) ≤ q.num ∧ q.num < ((2 ^ (B - 1) : Nat) : Int)
theorem decDigits_head (u : Nat) : ∃ c r, decDigits u = c :: r ∧ 48 ≤ c.toNat ∧ c.toNat ≤ 57 := by
  have h := digs_decDigits u
  cases e : decDigits u with
  | nil => exact absurd e (decDigits_ne u)
  | cons c r => rw [e] at h; exact ⟨c, r, rfl, h c List.mem_cons_self⟩
theorem parse_rat {B : Nat} (h1 : 1 ≤ B) (h64 : B ≤ 64) (q : Rat) : (FitZ B q → parseIntB B (ratText q) = .ok q.num) ∧ (¬ FitZ B q → ∀ v, parseIntB B (ratText q) ≠ .ok v) := by
  have hp : 2 ^ B = 2 * 2 ^ (B - 1) := by rw [← Nat.pow_succ']; congr 1; omega
  have hH : 0 < 2 ^ (B - 1) := Nat.pow_pos (by omega)
  have hT : 2 ^ B ≤ 18446744073709551616 := by
    have := Nat.pow_le_pow_right (n := 2) (by omega) h64
    simpa using this
  unfold FitZ parseIntB ratText
  generalize 2 ^ (B - 1) = H at *
  have hM : 2 ^ B - 1 < 18446744073709551616 := by omega
  by_cases hd : q.den = 1
  · rw [if_pos hd, List.append_nil]
    have hpar : parseUintB B (decDigits q.num.natAbs) = if q.num.natAbs ≤ 2 ^ B - 1 then .ok q.num.natAbs else .range := by
      unfold parseUintB
      rw [if_neg (decDigits_ne _)]
      exact parseM_digs hM _ _ _ (Nat.zero_le _) (decFrom_decDigits _)
    by_cases hs : q < 0
    · have hn : q.num < 0 := num_neg_iff.2 hs
      rw [if_pos hs]
      simp only [List.cons_append, List.nil_append]
      have e45 : ((45 : UInt8).toNat = 45) = True := eq_true rfl
      have hq : q.num = -(q.num.natAbs : Int) := by omega
      rw [if_pos (show (45 : UInt8).toNat = 43 ∨ (45 : UInt8).toNat = 45 from Or.inr rfl), hpar]
      simp only [e45, not_true, false_and, if_false, true_and, if_true]
      generalize q.num.natAbs = u at *
      by_cases hb : u ≤ 2 ^ B - 1
      · rw [if_pos hb]
        simp only
        by_cases hu : H < u
        · rw [if_pos hu]
          exact ⟨fun h => by omega, fun _ v e => by cases e⟩
        · rw [if_neg hu]
          exact ⟨fun h => by rw [hq], fun h => absurd ⟨hd, by omega, by omega⟩ h⟩
      · rw [if_neg hb]
        exact ⟨fun h => by omega, fun _ v e => by cases e⟩
    · have hn : ¬ q.num < 0 := fun h => hs (num_neg_iff.1 h)
      rw [if_neg hs, List.nil_append]
      obtain ⟨c, r, hcr, c1, c2⟩ := decDigits_head q.num.natAbs
      rw [hcr] at hpar ⊢
      simp only
      have c43 : ¬ (c.toNat = 43 ∨ c.toNat = 45) := by omega
      have c45 : (c.toNat = 45) = False := eq_false (by omega)
      have hq : q.num = (q.num.natAbs : Int) := by omega
      rw [if_neg c43, hpar]
      simp only [c45, not_false_eq_true, false_and, if_false, true_and]
      clear hcr hpar
      generalize q.num.natAbs = u at *
      by_cases hb : u ≤ 2 ^ B - 1
      · rw [if_pos hb]
        simp only
        by_cases hu : H ≤ u
        · rw [if_pos hu]
          exact ⟨fun h => by omega, fun _ v e => by cases e⟩
        · rw [if_neg hu]
          exact ⟨fun h => by rw [hq], fun h => absurd ⟨hd, by omega, by omega⟩ h⟩
      · rw [if_neg hb]
        exact ⟨fun h => by omega, fun _ v e => by cases e⟩
  · rw [if_neg hd]
    refine ⟨fun h => absurd h.1 hd, fun _ v => ?_⟩
    have hbad : ∀ u, parseUintB B (decDigits q.num.natAbs ++ 47 :: decDigits q.den) ≠ .ok u := fun u => by
      unfold parseUintB
      rw [if_neg (by simp)]
      exact parseM_bad (by decide) _ _ _ _
    by_cases hs : q < 0
    · rw [if_pos hs]
      simp only [List.cons_append, List.nil_append]
      rw [if_pos (show (45 : UInt8).toNat = 43 ∨ (45 : UInt8).toNat = 45 from Or.inr rfl)]
      cases hx : parseUintB B (decDigits q.num.natAbs ++ 47 :: decDigits q.den) with
      | ok u => exact absurd hx (hbad u)
      | «syntax» => exact fun e => by cases e
      | range => exact fun e => by cases e
    · rw [if_neg hs, List.nil_append]
      obtain ⟨c, r, hcr, c1, c2⟩ := decDigits_head q.num.natAbs
      rw [hcr] at hbad ⊢
      simp only [List.cons_append] at hbad ⊢
      rw [if_neg (by omega)]
      cases hx : parseUintB B (c :: (r ++ 47 :: decDigits q.den)) with
      | ok u => exact absurd hx (hbad u)
      | «syntax» => exact fun e => by cases e
      | range => exact fun e => by cases e
end Go.Proofs.YtpkhgdnkkdhlcaaGreatDoor.Ar

namespace Go.Proofs.YtpkhgdnkkdhlcaaGreatDoor
open Go.RowKit Ar

/-- What strconv.ErrRange holds. -/
def EnvG (w : World) : Prop := (∃ ev : Value, w.cell? ⟨1, 0, none⟩ = some ev ∧ (ev = .nilIface ∨ ∃ te pe, ev = .iface te pe)) ∧ 1 < w.heap.size
theorem EnvG.next {w w' : World} (h : EnvG w) (hb : Below w.heap.size w w') : EnvG w' := by
  obtain ⟨⟨ev, h1, h2⟩, h3⟩ := h
  exact ⟨⟨ev, (hb.cell (p := ⟨1, 0, none⟩) h3).trans h1, h2⟩, Nat.lt_of_lt_of_le h3 hb.size⟩

theorem pint_ok (B : Nat) (hB : B = 8 ∨ B = 16 ∨ B = 32 ∨ B = 64) (s : ByteArray) (w : World) (hs : s.size ≤ 4000000) {v : Int} (h : Lib.parseIntB B s.data.toList = .ok v) :
    Calls Tryz.prog 33 #[.string s, .int .i64 10, .int .i64 (B : Int)] w fun e w' => Below w.heap.size w w' ∧ e = .returned (.tuple #[.int .i64 v, .nilIface]) := by
  have fin : ∀ (e : Ending) (w2 : World), (e = .returned (.tuple #[.int .i64 v, .nilIface]) ∧ (w2 = w ∨ ∃ t, w2 = Lib.bytesWorld w 5 t)) → Below w.heap.size w w2 ∧ e = .returned (.tuple #[.int .i64 v, .nilIface]) := by
    rintro e w2 ⟨rfl, hw⟩
    refine ⟨?_, rfl⟩
    rcases hw with rfl | ⟨t, rfl⟩
    · exact Below.refl _ _
    · exact Lib.bytesWorld_below _ _ _
  rcases hB with rfl | rfl | rfl | rfl
  · exact (Tryz.strconv_ParseInt_10_at8_ok s (by omega) v h w).mono fin
  · exact (Tryz.strconv_ParseInt_10_at16_ok s (by omega) v h w).mono fin
  · exact (Tryz.strconv_ParseInt_10_at32_ok s (by omega) v h w).mono fin
  · exact (Tryz.strconv_ParseInt_10_at64_ok s (by omega) v h w).mono fin
theorem pint_no (B : Nat) (hB : B = 8 ∨ B = 16 ∨ B = 32 ∨ B = 64) (s : ByteArray) (w : World) (hs : s.size ≤ 4000000) (h : ∀ v, Lib.parseIntB B s.data.toList ≠ .ok v) (he : Env w) (hg : EnvG w) :
    Calls Tryz.prog 33 #[.string s, .int .i64 10, .int .i64 (B : Int)] w fun e w' => Below w.heap.size w w' ∧ ∃ v t p, e = .returned (.tuple #[.int .i64 v, .iface t p]) := by
  obtain ⟨-, ⟨ev, hv, hev⟩, -, -⟩ := he
  obtain ⟨⟨eg, hv', hev'⟩, -⟩ := hg
  rcases hB with rfl | rfl | rfl | rfl
  · cases hx : Lib.parseIntB 8 s.data.toList with
    | ok v => exact absurd hx (h v)
    | «syntax» =>
      refine (Tryz.strconv_ParseInt_10_at8_syntax s (by omega) hx ev w hv hev).mono ?_
      rintro e w2 ⟨N, rfl, -, -, hb⟩
      exact ⟨hb, _, _, _, rfl⟩
    | range =>
      refine (Tryz.strconv_ParseInt_10_at8_range s (by omega) hx eg w hv' hev').mono ?_
      rintro e w2 ⟨N, rfl, -, -, hb⟩
      exact ⟨hb, _, _, _, rfl⟩
  · cases hx : Lib.parseIntB 16 s.data.toList with
    | ok v => exact absurd hx (h v)
    | «syntax» =>
      refine (Tryz.strconv_ParseInt_10_at16_syntax s (by omega) hx ev w hv hev).mono ?_
      rintro e w2 ⟨N, rfl, -, -, hb⟩
      exact ⟨hb, _, _, _, rfl⟩
    | range =>
      refine (Tryz.strconv_ParseInt_10_at16_range s (by omega) hx eg w hv' hev').mono ?_
      rintro e w2 ⟨N, rfl, -, -, hb⟩
      exact ⟨hb, _, _, _, rfl⟩
  · cases hx : Lib.parseIntB 32 s.data.toList with
    | ok v => exact absurd hx (h v)
    | «syntax» =>
      refine (Tryz.strconv_ParseInt_10_at32_syntax s (by omega) hx ev w hv hev).mono ?_
      rintro e w2 ⟨N, rfl, -, -, hb⟩
      exact ⟨hb, _, _, _, rfl⟩
    | range =>
      refine (Tryz.strconv_ParseInt_10_at32_range s (by omega) hx eg w hv' hev').mono ?_
      rintro e w2 ⟨N, rfl, -, -, hb⟩
      exact ⟨hb, _, _, _, rfl⟩
  · cases hx : Lib.parseIntB 64 s.data.toList with
    | ok v => exact absurd hx (h v)
    | «syntax» =>
      refine (Tryz.strconv_ParseInt_10_at64_syntax s (by omega) hx ev w hv hev).mono ?_
      rintro e w2 ⟨N, rfl, -, -, hb⟩
      exact ⟨hb, _, _, _, rfl⟩
    | range =>
      refine (Tryz.strconv_ParseInt_10_at64_range s (by omega) hx eg w hv' hev').mono ?_
      rintro e w2 ⟨N, rfl, -, -, hb⟩
      exact ⟨hb, _, _, _, rfl⟩

/-! ### plain -/
def bitN (k : Int) : Nat := if k = 1 then 8 else if k = 2 then 16 else if k = 3 then 32 else 64
noncomputable def intB (k : Int) (s : ByteArray) : Bool := @decide (FitZ (bitN k) (textRat s.data.toList)) (Classical.propDecidable _)
theorem intB_iff (k : Int) (s : ByteArray) : intB k s = true ↔ FitZ (bitN k) (textRat s.data.toList) := by unfold intB; exact @decide_eq_true_iff _ (Classical.propDecidable _)
/-- A text is a value of a type. -/
noncomputable def fitK (k : Int) (s : ByteArray) : Bool := typB k && (s.toList.isEmpty || (numB s && (decide (k = 5) || intB k s)))
theorem fitK_typ {k : Int} (s : ByteArray) (h : typB k = false) : fitK k s = false := by unfold fitK; rw [h]; rfl
theorem fitK_emp {k : Int} {s : ByteArray} (h : typB k = true) (he : s.toList.isEmpty = true) : fitK k s = true := by unfold fitK; rw [h, he]; rfl
theorem fitK_num {k : Int} {s : ByteArray} (he : s.toList.isEmpty = false) (hn : numB s = false) : fitK k s = false := by unfold fitK; rw [he, hn]; simp
theorem fitK_five {s : ByteArray} (he : s.toList.isEmpty = false) (hn : numB s = true) : fitK 5 s = true := by unfold fitK; rw [he, hn]; rfl
theorem fitK_int {k : Int} {s : ByteArray} (h : typB k = true) (h5 : k ≠ 5) (he : s.toList.isEmpty = false) (hn : numB s = true) : fitK k s = intB k s := by
  unfold fitK; rw [h, he, hn, decide_eq_false h5]; simp
theorem typB_false {k : Int} (h : typB k = false) : k < 1 ∨ 5 < k := by
  unfold typB at h
  rcases Int.lt_or_le k 1 with h1 | h1
  · exact .inl h1
  · rcases Int.lt_or_le 5 k with h2 | h2
    · exact .inr h2
    · rw [decide_eq_true h1, decide_eq_true h2] at h; cases h
theorem typB_true {k : Int} (h : typB k = true) : k = 1 ∨ k = 2 ∨ k = 3 ∨ k = 4 ∨ k = 5 := by
  unfold typB at h
  rw [Bool.and_eq_true, decide_eq_true_iff, decide_eq_true_iff] at h
  omega
theorem int_parse {k : Int} {s : ByteArray} (hn : numB s = true) : (intB k s = true → Lib.parseIntB (bitN k) s.data.toList = .ok (textRat s.data.toList).num) ∧ (intB k s = false → ∀ v, Lib.parseIntB (bitN k) s.data.toList ≠ .ok v) := by
  have ht := ratText_textRat ((numB_iff s).1 hn).1
  have hb : 1 ≤ bitN k ∧ bitN k ≤ 64 := by unfold bitN; split; · omega
                                           split; · omega
                                           split <;> omega
  have h := parse_rat hb.1 hb.2 (textRat s.data.toList)
  rw [ht] at h
  exact ⟨fun e => h.1 ((intB_iff k s).1 e), fun e => h.2 (fun f => by rw [(intB_iff k s).2 f] at e; cases e)⟩

/-! ### the program -/
set_option maxRecDepth 100000 in
set_option maxHeartbeats 3200000 in
theorem pfits_any (k : Int) (s : ByteArray) (w : World) (hs : s.size ≤ 4000000) (he : Env w) (hg : EnvG w) :
    Calls Tryz.prog 45 #[.int .i64 k, .string s] w fun e w' => Below w.heap.size w w' ∧ e = .returned (.bool (fitK k s)) := by
  obtain ⟨q, hq⟩ : ∃ q, numB s = q := ⟨_, rfl⟩
  have VA := Lib.hid (fun W (hW : Below w.heap.size w W) => qtvalid_any s W hs (he.next hW) q (by rw [← hq]; exact numB_iff s))
  by_cases ht : typB k = true
  rotate_left
  · have hR := fitK_typ s (by simpa using ht)
    rw [hR]
    have hk := typB_false (k := k) (by simpa using ht)
    obtain ⟨h1, h2, h3, h4, h5⟩ : ¬ k = 1 ∧ ¬ k = 2 ∧ ¬ k = 3 ∧ ¬ k = 4 ∧ ¬ k = 5 := by omega
    have h5' : (k != 5) = true := by simp [h5]
    clear hk hR ht VA hq he hg
    go_enter Tryz.func45, Tryz.ntmps45
    go_wp2_with (go_at_call 84; go_in)
    go_ret
    exact ⟨Below.refl _ _, rfl⟩
  cases hE : s.toList.isEmpty
  rotate_left
  · have hn : s.toList = [] := List.isEmpty_iff.1 hE
    rw [fitK_emp ht hE]
    have hk := typB_true ht
    clear VA hq he hg ht
    rcases hk with rfl | rfl | rfl | rfl | rfl
    all_goals
      go_enter Tryz.func45, Tryz.ntmps45
      go_wp2_with (go_at_call 84; go_in)
      go_ret
      exact ⟨Below.refl _ _, rfl⟩
  have hn : s.toList ≠ [] := fun e => by rw [e] at hE; cases hE
  cases q
  · rw [fitK_num hE hq]
    have hk := typB_true ht
    clear hq he hg ht
    rcases hk with rfl | rfl | rfl | rfl | rfl
    all_goals
      go_enter Tryz.func45, Tryz.ntmps45
      go_wp2_with (go_at_call 84; go_in)
      refine (VA.out w (Below.refl _ _)).mono ?_
      rintro e w1 ⟨hb1, rfl⟩
      go_wp2
      go_ret
      exact ⟨hb1, rfl⟩
  by_cases h5 : k = 5
  · subst h5
    rw [fitK_five hE hq]
    clear hq he hg ht
    go_enter Tryz.func45, Tryz.ntmps45
    go_wp2_with (go_at_call 84; go_in)
    refine (VA.out w (Below.refl _ _)).mono ?_
    rintro e w1 ⟨hb1, rfl⟩
    go_wp2
    go_ret
    exact ⟨hb1, rfl⟩
  rw [fitK_int ht h5 hE hq]
  have hk := typB_true ht
  obtain ⟨p1, p2⟩ := int_parse (k := k) hq
  cases hz : intB k s
  · have PN := Lib.hid (fun B (hB : B = 8 ∨ B = 16 ∨ B = 32 ∨ B = 64) (e : B = bitN k) W (hW : Below w.heap.size w W) => pint_no B hB s W hs (by rw [e]; exact p2 hz) (he.next hW) (hg.next hW))
    clear hq he hg ht p1 p2 hz hs
    rcases hk with rfl | rfl | rfl | rfl | rfl
    · have PI := Lib.hid (PN.out 8 (by decide) rfl)
      clear PN
      go_enter Tryz.func45, Tryz.ntmps45
      go_wp2_with (go_at_call 84; go_in)
      refine (VA.out w (Below.refl _ _)).mono ?_
      rintro e w1 ⟨hb1, rfl⟩
      go_wp2_with fail
      refine (PI.out w1 hb1).mono ?_
      rintro e w2 ⟨hb2, v, t, p, rfl⟩
      go_wp2
      go_ret
      exact ⟨hb1.trans (hb2.mono hb1.size), rfl⟩
    · have PI := Lib.hid (PN.out 16 (by decide) rfl)
      clear PN
      go_enter Tryz.func45, Tryz.ntmps45
      go_wp2_with (go_at_call 84; go_in)
      refine (VA.out w (Below.refl _ _)).mono ?_
      rintro e w1 ⟨hb1, rfl⟩
      go_wp2_with fail
      refine (PI.out w1 hb1).mono ?_
      rintro e w2 ⟨hb2, v, t, p, rfl⟩
      go_wp2
      go_ret
      exact ⟨hb1.trans (hb2.mono hb1.size), rfl⟩
    · have PI := Lib.hid (PN.out 32 (by decide) rfl)
      clear PN
      go_enter Tryz.func45, Tryz.ntmps45
      go_wp2_with (go_at_call 84; go_in)
      refine (VA.out w (Below.refl _ _)).mono ?_
      rintro e w1 ⟨hb1, rfl⟩
      go_wp2_with fail
      refine (PI.out w1 hb1).mono ?_
      rintro e w2 ⟨hb2, v, t, p, rfl⟩
      go_wp2
      go_ret
      exact ⟨hb1.trans (hb2.mono hb1.size), rfl⟩
    · have PI := Lib.hid (PN.out 64 (by decide) rfl)
      clear PN
      go_enter Tryz.func45, Tryz.ntmps45
      go_wp2_with (go_at_call 84; go_in)
      refine (VA.out w (Below.refl _ _)).mono ?_
      rintro e w1 ⟨hb1, rfl⟩
      go_wp2_with fail
      refine (PI.out w1 hb1).mono ?_
      rintro e w2 ⟨hb2, v, t, p, rfl⟩
      go_wp2
      go_ret
      exact ⟨hb1.trans (hb2.mono hb1.size), rfl⟩
    · exact absurd rfl h5
  · have PN := Lib.hid (fun B (hB : B = 8 ∨ B = 16 ∨ B = 32 ∨ B = 64) (e : B = bitN k) W => pint_ok B hB s W hs (v := (textRat s.data.toList).num) (by rw [e]; exact p1 hz))
    clear hq he hg ht p1 p2 hz hs
    generalize (textRat s.data.toList).num = z at *
    rcases hk with rfl | rfl | rfl | rfl | rfl
    · have PI := Lib.hid (PN.out 8 (by decide) rfl)
      clear PN
      go_enter Tryz.func45, Tryz.ntmps45
      go_wp2_with (go_at_call 84; go_in)
      refine (VA.out w (Below.refl _ _)).mono ?_
      rintro e w1 ⟨hb1, rfl⟩
      go_wp2_with fail
      refine (PI.out w1).mono ?_
      rintro e w2 ⟨hb2, rfl⟩
      go_wp2
      go_ret
      exact ⟨hb1.trans (hb2.mono hb1.size), rfl⟩
    · have PI := Lib.hid (PN.out 16 (by decide) rfl)
      clear PN
      go_enter Tryz.func45, Tryz.ntmps45
      go_wp2_with (go_at_call 84; go_in)
      refine (VA.out w (Below.refl _ _)).mono ?_
      rintro e w1 ⟨hb1, rfl⟩
      go_wp2_with fail
      refine (PI.out w1).mono ?_
      rintro e w2 ⟨hb2, rfl⟩
      go_wp2
      go_ret
      exact ⟨hb1.trans (hb2.mono hb1.size), rfl⟩
    · have PI := Lib.hid (PN.out 32 (by decide) rfl)
      clear PN
      go_enter Tryz.func45, Tryz.ntmps45
      go_wp2_with (go_at_call 84; go_in)
      refine (VA.out w (Below.refl _ _)).mono ?_
      rintro e w1 ⟨hb1, rfl⟩
      go_wp2_with fail
      refine (PI.out w1).mono ?_
      rintro e w2 ⟨hb2, rfl⟩
      go_wp2
      go_ret
      exact ⟨hb1.trans (hb2.mono hb1.size), rfl⟩
    · have PI := Lib.hid (PN.out 64 (by decide) rfl)
      clear PN
      go_enter Tryz.func45, Tryz.ntmps45
      go_wp2_with (go_at_call 84; go_in)
      refine (VA.out w (Below.refl _ _)).mono ?_
      rintro e w1 ⟨hb1, rfl⟩
      go_wp2_with fail
      refine (PI.out w1).mono ?_
      rintro e w2 ⟨hb2, rfl⟩
      go_wp2
      go_ret
      exact ⟨hb1.trans (hb2.mono hb1.size), rfl⟩
    · exact absurd rfl h5
end Go.Proofs.YtpkhgdnkkdhlcaaGreatDoor

namespace Go.Proofs.YtpkhgdnkkdhlcaaGreatDoor
open Go.RowKit Ar

theorem sgQ_geZ (q : Rat) : 0 ≤ sgQ q ↔ 0 ≤ q := by
  unfold sgQ
  split
  · rename_i h; subst h; simp
  · split
    · rename_i h1 h2; exact ⟨fun h => by omega, fun h => absurd h2 (Rat.not_lt.2 h)⟩
    · rename_i h1 h2; exact ⟨fun _ => Rat.not_lt.1 h2, fun _ => by omega⟩
theorem sgQ_ltZ (q : Rat) : sgQ q < 0 ↔ q < 0 := by
  rw [← Int.not_le, ← Rat.not_le, sgQ_geZ]
/-- The greatest number of so many bits and one more. -/
def limQ (n : Nat) : Rat := nr false (2 ^ n) 1
theorem limQ_eq (n : Nat) : limQ n = (((2 ^ n : Nat) : Int) : Rat) := by
  unfold limQ nr
  simp [Rat.mkRat_one]
theorem fitz_cmp {n B : Nat} (hB : B - 1 = n) (x : Rat) : FitZ B x ↔ (dn x = 1 ∧ 0 ≤ cmpQ x (-limQ n)) ∧ cmpQ x (limQ n) < 0 := by
  unfold FitZ cmpQ dn
  rw [hB, sgQ_geZ, sgQ_ltZ, limQ_eq]
  generalize (2 ^ n : Nat) = H
  constructor
  · rintro ⟨h1, h2, h3⟩
    have hx : x = (x.num : Rat) := Rat.ext rfl h1
    have e2 : ((-(H : Int) : Int) : Rat) ≤ (x.num : Rat) := Rat.intCast_le_intCast.2 h2
    have e3 : (x.num : Rat) < ((H : Int) : Rat) := Rat.intCast_lt_intCast.2 h3
    rw [Rat.intCast_neg] at e2
    rw [← hx] at e2 e3
    exact ⟨⟨h1, by grind⟩, by grind⟩
  · rintro ⟨⟨h1, h2⟩, h3⟩
    have hx : x = (x.num : Rat) := Rat.ext rfl h1
    refine ⟨h1, ?_, ?_⟩
    · apply Rat.intCast_le_intCast.1
      rw [Rat.intCast_neg, ← hx]
      grind
    · apply Rat.intCast_lt_intCast.1
      rw [← hx]
      grind
theorem intB_cmp {k : Int} {n : Nat} (hB : bitN k - 1 = n) (s : ByteArray) : intB k s = ((decide (dn (textRat s.data.toList) = 1) && decide (0 ≤ cmpQ (textRat s.data.toList) (-limQ n))) && decide (cmpQ (textRat s.data.toList) (limQ n) < 0)) := by
  rw [Bool.eq_iff_iff, intB_iff, fitz_cmp hB, Bool.and_eq_true, Bool.and_eq_true, decide_eq_true_iff, decide_eq_true_iff, decide_eq_true_iff]
theorem limbs_pow {j : Nat} (h : j ≤ 64) : (limbs (2 ^ j)).length ≤ 3 := limbs_len_le (by
  have h1 : 2 ^ j ≤ 2 ^ 64 := Nat.pow_le_pow_right (by decide) h
  have h2 : (2 : Nat) ^ 64 = 18446744073709551616 := by decide
  rw [B_eq]
  omega)
theorem sz_lim {n : Nat} (h : n ≤ 64) : sz (limQ n) ≤ 100 := by
  have h1 := limbs_pow h
  have h2 : (limbs 1).length ≤ 1 := limbs_len_le (by rw [B_eq]; omega)
  exact Nat.le_trans (sz_nr _ _ _ (by decide)) (by omega)
set_option maxRecDepth 100000 in
set_option maxHeartbeats 3200000 in
/-- The easy ways. -/
theorem rfits_easy (k : Int) (s : ByteArray) (w : World) (hs : s.size ≤ 4000000) (hno : ¬ (typB k = true ∧ s.toList.isEmpty = false ∧ numB s = true ∧ k ≠ 5)) :
    Calls Tryz.prog 48 #[.int .i64 k, .string s] w fun e w' => Below w.heap.size w w' ∧ e = .returned (.bool (fitK k s)) := by
  obtain ⟨q, hq⟩ : ∃ q, numB s = q := ⟨_, rfl⟩
  obtain ⟨g, hg⟩ : ∃ g : Bool, g = (s.toList.isEmpty || q) := ⟨_, rfl⟩
  have RV := Lib.hid (fun W (hW : Below w.heap.size w W) => rvalue_any s W hs g (by
    rw [hg, ← hq, Bool.or_eq_true, numB_iff, List.isEmpty_iff, bs_toList]))
  by_cases ht : typB k = true
  rotate_left
  · have hR := fitK_typ s (by simpa using ht)
    rw [hR]
    have hk := typB_false (k := k) (by simpa using ht)
    clear hR ht RV hq hno hg
    rcases hk with hk | hk
    · go_enter Tryz.func48, Tryz.ntmps48
      go_wp2
      go_ret
      exact ⟨Below.refl _ _, rfl⟩
    · have hk1 : ¬ k < 1 := by omega
      go_enter Tryz.func48, Tryz.ntmps48
      go_wp2
      go_ret
      exact ⟨Below.refl _ _, rfl⟩
  have hk5 := typB_true ht
  have hk1 : ¬ k < 1 := by omega
  have hk2 : ¬ 5 < k := by omega
  cases hE : s.toList.isEmpty
  rotate_left
  · have hn : s.toList = [] := List.isEmpty_iff.1 hE
    rw [fitK_emp ht hE]
    rw [hE] at hg
    have hg' : g = true := by rw [hg]; rfl
    subst hg'
    clear hq hno ht hk5 hg
    go_enter Tryz.func48, Tryz.ntmps48
    go_wp2_with fail
    refine (RV.out w (Below.refl _ _)).mono ?_
    rintro e w1 ⟨hb1, rfl⟩
    go_wp2
    go_ret
    exact ⟨hb1, rfl⟩
  have hn : s.toList ≠ [] := fun e => by rw [e] at hE; cases hE
  rw [hE] at hg
  cases q
  · have hg' : g = false := by rw [hg]; rfl
    subst hg'
    rw [fitK_num hE hq]
    clear hq hno ht hk5 hg
    go_enter Tryz.func48, Tryz.ntmps48
    go_wp2_with fail
    refine (RV.out w (Below.refl _ _)).mono ?_
    rintro e w1 ⟨hb1, rfl⟩
    go_wp2
    go_ret
    exact ⟨hb1, rfl⟩
  have hg' : g = true := by rw [hg]; rfl
  subst hg'
  have h5 : k = 5 := Classical.byContradiction fun h => hno ⟨ht, hE, hq, h⟩
  subst h5
  rw [fitK_five hE hq]
  clear hq hno ht hk5 hg
  go_enter Tryz.func48, Tryz.ntmps48
  go_wp2_with fail
  refine (RV.out w (Below.refl _ _)).mono ?_
  rintro e w1 ⟨hb1, rfl⟩
  go_wp2
  go_ret
  exact ⟨hb1, rfl⟩
set_option maxRecDepth 100000 in
set_option maxHeartbeats 6400000 in
theorem rfits_1 (s : ByteArray) (w : World) (hs : s.size ≤ 4000000) (hE : s.toList.isEmpty = false) (hq : numB s = true) :
    Calls Tryz.prog 48 #[.int .i64 1, .string s] w fun e w' => Below w.heap.size w w' ∧ e = .returned (.bool (fitK 1 s)) := by
  have hR := (fitK_int (k := 1) (s := s) rfl (by decide) hE hq).trans (intB_cmp (k := 1) (n := 7) rfl s)
  rw [hR]
  have RV := Lib.hid (fun W (hW : Below w.heap.size w W) => rvalue_any s W hs true (by simp; exact .inr ((numB_iff s).1 hq)))
  have RG := Lib.hid (fun W (hW : Below w.heap.size w W) => rget_any s W hs true (by rw [← numB_iff, hq]))
  have hn : s.toList ≠ [] := fun e => by rw [e] at hE; cases hE
  have hsx := num_sz hq
  have hsl := sz_lim (n := 7) (by decide)
  have hso : sz (-limQ 7) ≤ 100 := by have := sz_neg (limQ 7); omega
  have HL : Hid (limQ 7 = nr false (2 ^ 7) 1) := rfl
  clear hR hq hs
  generalize textRat s.data.toList = x at *
  generalize limQ 7 = L at *
  obtain ⟨r1, hr1⟩ : ∃ r, decide (dn x = 1) = r := ⟨_, rfl⟩
  obtain ⟨r2, hr2⟩ : ∃ r, decide (0 ≤ cmpQ x (-L)) = r := ⟨_, rfl⟩
  obtain ⟨r3, hr3⟩ : ∃ r, decide (cmpQ x L < 0) = r := ⟨_, rfl⟩
  rw [hr1, hr2, hr3]
  have HR1 := Lib.hid hr1
  have HR2 := Lib.hid hr2
  have HR3 := Lib.hid hr3
  clear hr1 hr2 hr3
  go_enter Tryz.func48, Tryz.ntmps48
  go_wp2_with fail
  refine (RV.out w (Below.refl _ _)).mono ?_
  rintro e w1 ⟨hb1, rfl⟩
  go_wp2_with fail
  refine (RG.out w1 hb1).mono ?_
  rintro e w2 ⟨hb2, v, rfl, ⟨p0, hp0⟩, hgq⟩
  obtain ⟨gb, gA, gn, gc, gA', gn', gc', rfl⟩ := hp0.form
  have B3 := (((BxW.nil w).next hb1).next hb2).new 74 #[.bool gb, .slice gA gn gc, .slice gA' gn' gc']
  have HX : Hid (IsQ _ _ _ x) := (hgq rfl).next (below_alloc w2 (.cells #[.bool gb, .slice gA gn gc, .slice gA' gn' gc'] 74))
  clear RV RG hb1 hb2 hp0 hgq
  go_wp2_with fail
  generalize w2.alloc (.cells #[.bool gb, .slice gA gn gc, .slice gA' gn' gc'] 74) = w3 at *
  generalize w2.heap.size = bx at *
  refine (qone_any w3).mono ?_
  rintro e w4 ⟨hb4, m1, rfl, hm1⟩
  have B4 := B3.next hb4
  have HX4 : Hid (IsQ _ _ _ x) := HX.out.next hb4
  obtain ⟨mA, mn, mc, rfl⟩ := hm1.form
  clear B3 hb4 HX
  go_wp2_with fail
  go_loopw [7, 37] (fun m i wr => ∃ j : Nat, j ≤ 7 ∧ i = .int .i64 j ∧ IsN wr wr.heap.size .u64 m (2 ^ j) ∧ BxW w [(bx, 74, #[.bool gb, .slice gA gn gc, .slice gA' gn' gc'])] wr ∧ Hid (IsQ wr wr.heap.size (.agg #[.bool gb, .slice gA gn gc, .slice gA' gn' gc']) x)) (fun _ i _ => 7 - (intOf i).toNat)
  case atStart => exact ⟨0, Nat.zero_le _, rfl, hm1, B4, HX4⟩
  case round =>
    clear hm1 B4 HX4
    obtain ⟨j, hj, rfl, hm, B, HX⟩ := hrel
    obtain ⟨mA, mn, mc, rfl⟩ := hm.form
    by_cases hlt : j < 7
    · have i0' : (j : Int) < 7 := by omega
      go_wp2_with fail
      refine (natOf_any 2 wr (by decide)).mono ?_
      rintro e w5 ⟨hb5, m2, rfl, hm2⟩
      have B5 := B.next hb5
      have hm5 := hm.next hb5
      have HX5 : Hid (IsQ _ _ _ x) := HX.out.next hb5
      obtain ⟨nA, nn, nc, rfl⟩ := hm2.form
      clear B hb5 hm HX
      go_wp2_with fail
      refine (nmul_any _ _ _ _ w5 hm5 hm2 (by have := limbs_pow (j := j) (by omega); omega) (by have := limbs_pow (j := 1) (by decide); simp at this; omega)).mono ?_
      rintro e w6 ⟨hb6, m3, rfl, hm3⟩
      have B6 := B5.next hb6
      have HX6 : Hid (IsQ _ _ _ x) := HX5.out.next hb6
      clear B5 hb6 hm5 hm2 HX5
      obtain ⟨oA, on, oc, rfl⟩ := hm3.form
      go_wp2
      go_roundw
      case rel => exact ⟨j + 1, by omega, by go_num, by rw [Nat.pow_succ]; exact hm3, B6, HX6⟩
      case measure => simp [intOf]; omega
    · obtain rfl : j = 7 := by omega
      clear hj hlt
      go_wp2_with fail
      refine (qone_any wr).mono ?_
      rintro e w5 ⟨hb5, m2, rfl, hm2⟩
      have B5 := B.next hb5
      have hm5 := hm.next hb5
      have HX5 : Hid (IsQ _ _ _ x) := HX.out.next hb5
      obtain ⟨nA, nn, nc, rfl⟩ := hm2.form
      clear B hb5 hm HX
      go_wp2_with fail
      refine (qmake_any false _ _ _ _ w5 hm5 hm2 (by have := limbs_pow (j := 7) (by decide); omega) (by have := limbs_pow (j := 0) (by decide); simp at this; omega)).mono ?_
      rintro e w6 ⟨hb6, m3, rfl, hm3⟩
      rw [← HL.out] at hm3
      obtain ⟨lb, lA, ln, lc, lA', ln', lc', rfl⟩ := hm3.form
      have B7 := (B5.next hb6).new 74 #[.bool lb, .slice lA ln lc, .slice lA' ln' lc']
      have ba := below_alloc w6 (.cells #[.bool lb, .slice lA ln lc, .slice lA' ln' lc'] 74)
      have HX7 : Hid (IsQ _ _ _ x) := (HX5.out.next hb6).next ba
      have HL7 : Hid (IsQ _ _ _ L) := hm3.next ba
      clear B5 hb6 hm5 hm2 HX5 hm3 ba HL
      obtain ⟨d0, d1, d2⟩ := bk3 B7.one
      obtain ⟨e0, e1, e2⟩ := bk3 B7.two
      go_wp2_with fail
      generalize w6.alloc (.cells #[.bool lb, .slice lA ln lc, .slice lA' ln' lc'] 74) = w7 at *
      generalize w6.heap.size = bl at *
      have C6 := Lib.hid (fun W (h : BxW w [(bx, 74, #[.bool gb, .slice gA gn gc, .slice gA' gn' gc']), (bl, 74, #[.bool lb, .slice lA ln lc, .slice lA' ln' lc'])] W) => show ((W.cell? ⟨bx, 0, none⟩ = some (.bool gb) ∧ W.cell? ⟨bx, 1, none⟩ = some (.slice gA gn gc)) ∧ W.cell? ⟨bx, 2, none⟩ = some (.slice gA' gn' gc')) ∧ ((W.cell? ⟨bl, 0, none⟩ = some (.bool lb) ∧ W.cell? ⟨bl, 1, none⟩ = some (.slice lA ln lc)) ∧ W.cell? ⟨bl, 2, none⟩ = some (.slice lA' ln' lc')) from by
        obtain ⟨d0, d1, d2⟩ := bk3 h.one
        obtain ⟨e0, e1, e2⟩ := bk3 h.two
        exact ⟨⟨⟨d0, d1⟩, d2⟩, ⟨e0, e1⟩, e2⟩)
      refine wp_region_held_drew (S := fun W => ((W.cell? ⟨bx, 0, none⟩ = some (.bool gb) ∧ W.cell? ⟨bx, 1, none⟩ = some (.slice gA gn gc)) ∧ W.cell? ⟨bx, 2, none⟩ = some (.slice gA' gn' gc')) ∧ ((W.cell? ⟨bl, 0, none⟩ = some (.bool lb) ∧ W.cell? ⟨bl, 1, none⟩ = some (.slice lA ln lc)) ∧ W.cell? ⟨bl, 2, none⟩ = some (.slice lA' ln' lc'))) (by kernel_rfl) ⟨⟨⟨d0, d1⟩, d2⟩, ⟨e0, e1⟩, e2⟩ (fun hS => ?_)
      clear d0 d1 d2 e0 e1 e2
      have B8 := B7.drew
      have HX8 : Hid (IsQ _ _ _ x) := HX7.out.drew
      have HL8 : Hid (IsQ _ _ _ L) := HL7.out.drew
      clear B7 HX7 HL7
      generalize w7.drew = w8 at *
      have WH := qwhole_any x _ w8 HX8.out (by omega)
      rw [HR1.out] at WH
      have WH := Lib.hid WH
      clear HR1
      cases r1
      · clear HR2 HR3
        refine takeA (i := 0) (v := ?_) rfl (by kernel_rfl) (by kernel_rfl) (by kernel_rfl) (fun _ _ _ h => h) (by rfl) (by assumption) ?_ ?_
        rotate_left
        · intro w hSw; (try dsimp only at hSw); go_simp <;> with_reducible rfl
        try simp only [Act.put, List.setIfInBounds_toArray, List.set_cons_zero, List.set_cons_succ]
        refine stepA (i := 1) rfl (by kernel_rfl) (fun K0 hK0 => ?_)
        go_simp
        refine WH.out.mono ?_
        rintro e w9 ⟨hb9, rfl⟩
        have B9 := B8.next hb9
        have hS9 := C6.out _ B9
        dsimp only
        refine hK0.out _ _ hS9 (fun _ => ?_)
        clear hK0 K0 hS
        try simp only [Act.put, List.setIfInBounds_toArray, List.set_cons_zero, List.set_cons_succ]
        refine takeA (i := 2) (v := ?_) rfl (by kernel_rfl) (by kernel_rfl) (by kernel_rfl) (fun _ _ _ h => h) (by rfl) (by assumption) ?_ ?_
        rotate_left
        · intro w hSw; (try dsimp only at hSw); go_simp <;> with_reducible rfl
        try simp only [Act.put, List.setIfInBounds_toArray, List.set_cons_zero, List.set_cons_succ]
        refine skipA (i := 3) rfl (by kernel_rfl) (by kernel_rfl) (by kernel_rfl) (fun _ _ _ h => h) (by rfl) (by assumption) ?_
        try simp only [Act.put, List.setIfInBounds_toArray, List.set_cons_zero, List.set_cons_succ]
        refine skipA (i := 4) rfl (by kernel_rfl) (by kernel_rfl) (by kernel_rfl) (fun _ _ _ h => h) (by rfl) (by assumption) ?_
        try simp only [Act.put, List.setIfInBounds_toArray, List.set_cons_zero, List.set_cons_succ]
        refine skipA (i := 5) rfl (by kernel_rfl) (by kernel_rfl) (by kernel_rfl) (fun _ _ _ h => h) (by rfl) (by assumption) ?_
        try simp only [Act.put, List.setIfInBounds_toArray, List.set_cons_zero, List.set_cons_succ]
        refine skipA (i := 6) rfl (by kernel_rfl) (by kernel_rfl) (by kernel_rfl) (fun _ _ _ h => h) (by rfl) (by assumption) ?_
        try simp only [Act.put, List.setIfInBounds_toArray, List.set_cons_zero, List.set_cons_succ]
        refine skipA (i := 7) rfl (by kernel_rfl) (by kernel_rfl) (by kernel_rfl) (fun _ _ _ h => h) (by rfl) (by assumption) ?_
        try simp only [Act.put, List.setIfInBounds_toArray, List.set_cons_zero, List.set_cons_succ]
        refine takeA (i := 8) (v := ?_) rfl (by kernel_rfl) (by kernel_rfl) (by kernel_rfl) (fun _ _ _ h => h) (by rfl) (by assumption) ?_ ?_
        rotate_left
        · intro w hSw; (try dsimp only at hSw); go_simp <;> with_reducible rfl
        try simp only [Act.put, List.setIfInBounds_toArray, List.set_cons_zero, List.set_cons_succ]
        refine takeA (i := 9) (v := ?_) rfl (by kernel_rfl) (by kernel_rfl) (by kernel_rfl) (fun _ _ _ h => h) (by rfl) (by assumption) ?_ ?_
        rotate_left
        · intro w hSw; (try dsimp only at hSw); go_simp <;> with_reducible rfl
        try simp only [Act.put, List.setIfInBounds_toArray, List.set_cons_zero, List.set_cons_succ]
        refine skipA (i := 10) rfl (by kernel_rfl) (by kernel_rfl) (by kernel_rfl) (fun _ _ _ h => h) (by rfl) (by assumption) ?_
        try simp only [Act.put, List.setIfInBounds_toArray, List.set_cons_zero, List.set_cons_succ]
        refine skipA (i := 11) rfl (by kernel_rfl) (by kernel_rfl) (by kernel_rfl) (fun _ _ _ h => h) (by rfl) (by assumption) ?_
        try simp only [Act.put, List.setIfInBounds_toArray, List.set_cons_zero, List.set_cons_succ]
        refine skipA (i := 12) rfl (by kernel_rfl) (by kernel_rfl) (by kernel_rfl) (fun _ _ _ h => h) (by rfl) (by assumption) ?_
        try simp only [Act.put, List.setIfInBounds_toArray, List.set_cons_zero, List.set_cons_succ]
        refine skipA (i := 13) rfl (by kernel_rfl) (by kernel_rfl) (by kernel_rfl) (fun _ _ _ h => h) (by rfl) (by assumption) ?_
        try simp only [Act.put, List.setIfInBounds_toArray, List.set_cons_zero, List.set_cons_succ]
        refine takeA (i := 14) (v := ?_) rfl (by kernel_rfl) (by kernel_rfl) (by kernel_rfl) (fun _ _ _ h => h) (by rfl) (by assumption) ?_ ?_
        rotate_left
        · intro w hSw; (try dsimp only at hSw); go_simp <;> with_reducible rfl
        try simp only [Act.put, List.setIfInBounds_toArray, List.set_cons_zero, List.set_cons_succ]
        refine takeA (i := 15) (v := ?_) rfl (by kernel_rfl) (by kernel_rfl) (by kernel_rfl) (fun _ _ _ h => h) (by rfl) (by assumption) ?_ ?_
        rotate_left
        · intro w hSw; (try dsimp only at hSw); go_simp <;> with_reducible rfl
        try simp only [Act.put, List.setIfInBounds_toArray, List.set_cons_zero, List.set_cons_succ]
        refine wpAnyH_done (by kernel_rfl) ?_ _
        go_wp2
        go_ret
        exact ⟨B9.below, rfl⟩
      · skip
        refine takeA (i := 0) (v := ?_) rfl (by kernel_rfl) (by kernel_rfl) (by kernel_rfl) (fun _ _ _ h => h) (by rfl) (by assumption) ?_ ?_
        rotate_left
        · intro w hSw; (try dsimp only at hSw); go_simp <;> with_reducible rfl
        try simp only [Act.put, List.setIfInBounds_toArray, List.set_cons_zero, List.set_cons_succ]
        refine stepA (i := 1) rfl (by kernel_rfl) (fun K0 hK0 => ?_)
        go_simp
        refine WH.out.mono ?_
        rintro e w9 ⟨hb9, rfl⟩
        have B9 := B8.next hb9
        have hS9 := C6.out _ B9
        have HX9 : Hid (IsQ _ _ _ x) := HX8.out.next hb9
        have HL9 : Hid (IsQ _ _ _ L) := HL8.out.next hb9
        dsimp only
        refine hK0.out _ _ hS9 (fun _ => ?_)
        clear hK0 K0 hS B8 hb9 HX8 HL8 WH
        try simp only [Act.put, List.setIfInBounds_toArray, List.set_cons_zero, List.set_cons_succ]
        refine takeA (i := 2) (v := ?_) rfl (by kernel_rfl) (by kernel_rfl) (by kernel_rfl) (fun _ _ _ h => h) (by rfl) (by assumption) ?_ ?_
        rotate_left
        · intro w hSw; (try dsimp only at hSw); go_simp <;> with_reducible rfl
        try simp only [Act.put, List.setIfInBounds_toArray, List.set_cons_zero, List.set_cons_succ]
        refine takeA (i := 3) (v := ?_) rfl (by kernel_rfl) (by kernel_rfl) (by kernel_rfl) (fun _ _ _ h => h) (by rfl) (by assumption) ?_ ?_
        rotate_left
        · intro w hSw; (try dsimp only at hSw); go_simp <;> with_reducible rfl
        try simp only [Act.put, List.setIfInBounds_toArray, List.set_cons_zero, List.set_cons_succ]
        refine takeA (i := 4) (v := ?_) rfl (by kernel_rfl) (by kernel_rfl) (by kernel_rfl) (fun _ _ _ h => h) (by rfl) (by assumption) ?_ ?_
        rotate_left
        · intro w hSw; (try dsimp only at hSw); go_simp <;> with_reducible rfl
        try simp only [Act.put, List.setIfInBounds_toArray, List.set_cons_zero, List.set_cons_succ]
        clear hS9
        refine stepA (i := 5) rfl (by kernel_rfl) (fun K0 hK0 => ?_)
        go_simp
        refine (qopp_any L _ w9 HL9.out (by omega)).mono ?_
        rintro e w10 ⟨hb10, m4, rfl, hm4⟩
        obtain ⟨ob, oA, on, oc, oA', on', oc', rfl⟩ := hm4.form
        have B10 := B9.next hb10
        have hS10 := C6.out _ B10
        have HX10 : Hid (IsQ _ _ _ x) := HX9.out.next hb10
        have HL10 : Hid (IsQ _ _ _ L) := HL9.out.next hb10
        dsimp only
        refine hK0.out _ _ hS10 (fun _ => ?_)
        clear hK0 K0 B9 hb10 HX9 HL9 hS10
        try simp only [Act.put, List.setIfInBounds_toArray, List.set_cons_zero, List.set_cons_succ]
        refine stepA (i := 6) rfl (by kernel_rfl) (fun K0 hK0 => ?_)
        go_simp
        refine (qcmp_any x (-L) _ _ w10 HX10.out hm4 (by omega) (by omega)).mono ?_
        rintro e w11 ⟨hb11, rfl⟩
        have B11 := B10.next hb11
        have hS11 := C6.out _ B11
        have HX11 : Hid (IsQ _ _ _ x) := HX10.out.next hb11
        have HL11 : Hid (IsQ _ _ _ L) := HL10.out.next hb11
        dsimp only
        refine hK0.out _ _ hS11 (fun _ => ?_)
        clear hK0 K0 B10 hb11 HX10 HL10 hm4
        try simp only [Act.put, List.setIfInBounds_toArray, List.set_cons_zero, List.set_cons_succ]
        have HR2' := HR2.out
        clear HR2
        generalize cmpQ x (-L) = c1 at *
        cases r2
        · clear HR3
          refine takeA (i := 7) (v := .bool false) rfl (by kernel_rfl) (by kernel_rfl) (by kernel_rfl) (fun _ _ _ h => h) (by rfl) (by assumption) ?_ ?_
          · intro w hSw; (try dsimp only at hSw); go_simp <;> first | with_reducible rfl | simp [*]
          try simp only [Act.put, List.setIfInBounds_toArray, List.set_cons_zero, List.set_cons_succ]
          refine takeA (i := 8) (v := ?_) rfl (by kernel_rfl) (by kernel_rfl) (by kernel_rfl) (fun _ _ _ h => h) (by rfl) (by assumption) ?_ ?_
          rotate_left
          · intro w hSw; (try dsimp only at hSw); go_simp <;> with_reducible rfl
          try simp only [Act.put, List.setIfInBounds_toArray, List.set_cons_zero, List.set_cons_succ]
          refine takeA (i := 9) (v := ?_) rfl (by kernel_rfl) (by kernel_rfl) (by kernel_rfl) (fun _ _ _ h => h) (by rfl) (by assumption) ?_ ?_
          rotate_left
          · intro w hSw; (try dsimp only at hSw); go_simp <;> with_reducible rfl
          try simp only [Act.put, List.setIfInBounds_toArray, List.set_cons_zero, List.set_cons_succ]
          refine skipA (i := 10) rfl (by kernel_rfl) (by kernel_rfl) (by kernel_rfl) (fun _ _ _ h => h) (by rfl) (by assumption) ?_
          try simp only [Act.put, List.setIfInBounds_toArray, List.set_cons_zero, List.set_cons_succ]
          refine skipA (i := 11) rfl (by kernel_rfl) (by kernel_rfl) (by kernel_rfl) (fun _ _ _ h => h) (by rfl) (by assumption) ?_
          try simp only [Act.put, List.setIfInBounds_toArray, List.set_cons_zero, List.set_cons_succ]
          refine skipA (i := 12) rfl (by kernel_rfl) (by kernel_rfl) (by kernel_rfl) (fun _ _ _ h => h) (by rfl) (by assumption) ?_
          try simp only [Act.put, List.setIfInBounds_toArray, List.set_cons_zero, List.set_cons_succ]
          refine skipA (i := 13) rfl (by kernel_rfl) (by kernel_rfl) (by kernel_rfl) (fun _ _ _ h => h) (by rfl) (by assumption) ?_
          try simp only [Act.put, List.setIfInBounds_toArray, List.set_cons_zero, List.set_cons_succ]
          refine takeA (i := 14) (v := ?_) rfl (by kernel_rfl) (by kernel_rfl) (by kernel_rfl) (fun _ _ _ h => h) (by rfl) (by assumption) ?_ ?_
          rotate_left
          · intro w hSw; (try dsimp only at hSw); go_simp <;> with_reducible rfl
          try simp only [Act.put, List.setIfInBounds_toArray, List.set_cons_zero, List.set_cons_succ]
          refine takeA (i := 15) (v := ?_) rfl (by kernel_rfl) (by kernel_rfl) (by kernel_rfl) (fun _ _ _ h => h) (by rfl) (by assumption) ?_ ?_
          rotate_left
          · intro w hSw; (try dsimp only at hSw); go_simp <;> with_reducible rfl
          try simp only [Act.put, List.setIfInBounds_toArray, List.set_cons_zero, List.set_cons_succ]
          refine wpAnyH_done (by kernel_rfl) ?_ _
          go_wp2
          go_ret
          exact ⟨B11.below, rfl⟩
        · skip
          refine takeA (i := 7) (v := .bool true) rfl (by kernel_rfl) (by kernel_rfl) (by kernel_rfl) (fun _ _ _ h => h) (by rfl) (by assumption) ?_ ?_
          · intro w hSw; (try dsimp only at hSw); go_simp <;> first | with_reducible rfl | simp [*]
          try simp only [Act.put, List.setIfInBounds_toArray, List.set_cons_zero, List.set_cons_succ]
          refine takeA (i := 8) (v := ?_) rfl (by kernel_rfl) (by kernel_rfl) (by kernel_rfl) (fun _ _ _ h => h) (by rfl) (by assumption) ?_ ?_
          rotate_left
          · intro w hSw; (try dsimp only at hSw); go_simp <;> with_reducible rfl
          try simp only [Act.put, List.setIfInBounds_toArray, List.set_cons_zero, List.set_cons_succ]
          refine takeA (i := 9) (v := ?_) rfl (by kernel_rfl) (by kernel_rfl) (by kernel_rfl) (fun _ _ _ h => h) (by rfl) (by assumption) ?_ ?_
          rotate_left
          · intro w hSw; (try dsimp only at hSw); go_simp <;> with_reducible rfl
          try simp only [Act.put, List.setIfInBounds_toArray, List.set_cons_zero, List.set_cons_succ]
          refine takeA (i := 10) (v := ?_) rfl (by kernel_rfl) (by kernel_rfl) (by kernel_rfl) (fun _ _ _ h => h) (by rfl) (by assumption) ?_ ?_
          rotate_left
          · intro w hSw; (try dsimp only at hSw); go_simp <;> with_reducible rfl
          try simp only [Act.put, List.setIfInBounds_toArray, List.set_cons_zero, List.set_cons_succ]
          refine takeA (i := 11) (v := ?_) rfl (by kernel_rfl) (by kernel_rfl) (by kernel_rfl) (fun _ _ _ h => h) (by rfl) (by assumption) ?_ ?_
          rotate_left
          · intro w hSw; (try dsimp only at hSw); go_simp <;> with_reducible rfl
          try simp only [Act.put, List.setIfInBounds_toArray, List.set_cons_zero, List.set_cons_succ]
          clear hS11
          refine stepA (i := 12) rfl (by kernel_rfl) (fun K0 hK0 => ?_)
          go_simp
          refine (qcmp_any x L _ _ w11 HX11.out HL11.out (by omega) (by omega)).mono ?_
          rintro e w12 ⟨hb12, rfl⟩
          have B12 := B11.next hb12
          have hS12 := C6.out _ B12
          dsimp only
          refine hK0.out _ _ hS12 (fun _ => ?_)
          clear hK0 K0 B11 hb12 HX11 HL11
          try simp only [Act.put, List.setIfInBounds_toArray, List.set_cons_zero, List.set_cons_succ]
          refine takeA (i := 13) (v := ?_) rfl (by kernel_rfl) (by kernel_rfl) (by kernel_rfl) (fun _ _ _ h => h) (by rfl) (by assumption) ?_ ?_
          rotate_left
          · intro w hSw; (try dsimp only at hSw); go_simp <;> with_reducible rfl
          try simp only [Act.put, List.setIfInBounds_toArray, List.set_cons_zero, List.set_cons_succ]
          refine takeA (i := 14) (v := ?_) rfl (by kernel_rfl) (by kernel_rfl) (by kernel_rfl) (fun _ _ _ h => h) (by rfl) (by assumption) ?_ ?_
          rotate_left
          · intro w hSw; (try dsimp only at hSw); go_simp <;> with_reducible rfl
          try simp only [Act.put, List.setIfInBounds_toArray, List.set_cons_zero, List.set_cons_succ]
          refine takeA (i := 15) (v := ?_) rfl (by kernel_rfl) (by kernel_rfl) (by kernel_rfl) (fun _ _ _ h => h) (by rfl) (by assumption) ?_ ?_
          rotate_left
          · intro w hSw; (try dsimp only at hSw); go_simp <;> with_reducible rfl
          try simp only [Act.put, List.setIfInBounds_toArray, List.set_cons_zero, List.set_cons_succ]
          refine wpAnyH_done (by kernel_rfl) ?_ _
          go_wp2
          go_ret
          exact ⟨B12.below, by rw [← HR3.out]; rfl⟩
set_option maxRecDepth 100000 in
set_option maxHeartbeats 6400000 in
theorem rfits_2 (s : ByteArray) (w : World) (hs : s.size ≤ 4000000) (hE : s.toList.isEmpty = false) (hq : numB s = true) :
    Calls Tryz.prog 48 #[.int .i64 2, .string s] w fun e w' => Below w.heap.size w w' ∧ e = .returned (.bool (fitK 2 s)) := by
  have hR := (fitK_int (k := 2) (s := s) rfl (by decide) hE hq).trans (intB_cmp (k := 2) (n := 15) rfl s)
  rw [hR]
  have RV := Lib.hid (fun W (hW : Below w.heap.size w W) => rvalue_any s W hs true (by simp; exact .inr ((numB_iff s).1 hq)))
  have RG := Lib.hid (fun W (hW : Below w.heap.size w W) => rget_any s W hs true (by rw [← numB_iff, hq]))
  have hn : s.toList ≠ [] := fun e => by rw [e] at hE; cases hE
  have hsx := num_sz hq
  have hsl := sz_lim (n := 15) (by decide)
  have hso : sz (-limQ 15) ≤ 100 := by have := sz_neg (limQ 15); omega
  have HL : Hid (limQ 15 = nr false (2 ^ 15) 1) := rfl
  clear hR hq hs
  generalize textRat s.data.toList = x at *
  generalize limQ 15 = L at *
  obtain ⟨r1, hr1⟩ : ∃ r, decide (dn x = 1) = r := ⟨_, rfl⟩
  obtain ⟨r2, hr2⟩ : ∃ r, decide (0 ≤ cmpQ x (-L)) = r := ⟨_, rfl⟩
  obtain ⟨r3, hr3⟩ : ∃ r, decide (cmpQ x L < 0) = r := ⟨_, rfl⟩
  rw [hr1, hr2, hr3]
  have HR1 := Lib.hid hr1
  have HR2 := Lib.hid hr2
  have HR3 := Lib.hid hr3
  clear hr1 hr2 hr3
  go_enter Tryz.func48, Tryz.ntmps48
  go_wp2_with fail
  refine (RV.out w (Below.refl _ _)).mono ?_
  rintro e w1 ⟨hb1, rfl⟩
  go_wp2_with fail
  refine (RG.out w1 hb1).mono ?_
  rintro e w2 ⟨hb2, v, rfl, ⟨p0, hp0⟩, hgq⟩
  obtain ⟨gb, gA, gn, gc, gA', gn', gc', rfl⟩ := hp0.form
  have B3 := (((BxW.nil w).next hb1).next hb2).new 74 #[.bool gb, .slice gA gn gc, .slice gA' gn' gc']
  have HX : Hid (IsQ _ _ _ x) := (hgq rfl).next (below_alloc w2 (.cells #[.bool gb, .slice gA gn gc, .slice gA' gn' gc'] 74))
  clear RV RG hb1 hb2 hp0 hgq
  go_wp2_with fail
  generalize w2.alloc (.cells #[.bool gb, .slice gA gn gc, .slice gA' gn' gc'] 74) = w3 at *
  generalize w2.heap.size = bx at *
  refine (qone_any w3).mono ?_
  rintro e w4 ⟨hb4, m1, rfl, hm1⟩
  have B4 := B3.next hb4
  have HX4 : Hid (IsQ _ _ _ x) := HX.out.next hb4
  obtain ⟨mA, mn, mc, rfl⟩ := hm1.form
  clear B3 hb4 HX
  go_wp2_with fail
  go_loopw [7, 37] (fun m i wr => ∃ j : Nat, j ≤ 15 ∧ i = .int .i64 j ∧ IsN wr wr.heap.size .u64 m (2 ^ j) ∧ BxW w [(bx, 74, #[.bool gb, .slice gA gn gc, .slice gA' gn' gc'])] wr ∧ Hid (IsQ wr wr.heap.size (.agg #[.bool gb, .slice gA gn gc, .slice gA' gn' gc']) x)) (fun _ i _ => 15 - (intOf i).toNat)
  case atStart => exact ⟨0, Nat.zero_le _, rfl, hm1, B4, HX4⟩
  case round =>
    clear hm1 B4 HX4
    obtain ⟨j, hj, rfl, hm, B, HX⟩ := hrel
    obtain ⟨mA, mn, mc, rfl⟩ := hm.form
    by_cases hlt : j < 15
    · have i0' : (j : Int) < 15 := by omega
      go_wp2_with fail
      refine (natOf_any 2 wr (by decide)).mono ?_
      rintro e w5 ⟨hb5, m2, rfl, hm2⟩
      have B5 := B.next hb5
      have hm5 := hm.next hb5
      have HX5 : Hid (IsQ _ _ _ x) := HX.out.next hb5
      obtain ⟨nA, nn, nc, rfl⟩ := hm2.form
      clear B hb5 hm HX
      go_wp2_with fail
      refine (nmul_any _ _ _ _ w5 hm5 hm2 (by have := limbs_pow (j := j) (by omega); omega) (by have := limbs_pow (j := 1) (by decide); simp at this; omega)).mono ?_
      rintro e w6 ⟨hb6, m3, rfl, hm3⟩
      have B6 := B5.next hb6
      have HX6 : Hid (IsQ _ _ _ x) := HX5.out.next hb6
      clear B5 hb6 hm5 hm2 HX5
      obtain ⟨oA, on, oc, rfl⟩ := hm3.form
      go_wp2
      go_roundw
      case rel => exact ⟨j + 1, by omega, by go_num, by rw [Nat.pow_succ]; exact hm3, B6, HX6⟩
      case measure => simp [intOf]; omega
    · obtain rfl : j = 15 := by omega
      clear hj hlt
      go_wp2_with fail
      refine (qone_any wr).mono ?_
      rintro e w5 ⟨hb5, m2, rfl, hm2⟩
      have B5 := B.next hb5
      have hm5 := hm.next hb5
      have HX5 : Hid (IsQ _ _ _ x) := HX.out.next hb5
      obtain ⟨nA, nn, nc, rfl⟩ := hm2.form
      clear B hb5 hm HX
      go_wp2_with fail
      refine (qmake_any false _ _ _ _ w5 hm5 hm2 (by have := limbs_pow (j := 15) (by decide); omega) (by have := limbs_pow (j := 0) (by decide); simp at this; omega)).mono ?_
      rintro e w6 ⟨hb6, m3, rfl, hm3⟩
      rw [← HL.out] at hm3
      obtain ⟨lb, lA, ln, lc, lA', ln', lc', rfl⟩ := hm3.form
      have B7 := (B5.next hb6).new 74 #[.bool lb, .slice lA ln lc, .slice lA' ln' lc']
      have ba := below_alloc w6 (.cells #[.bool lb, .slice lA ln lc, .slice lA' ln' lc'] 74)
      have HX7 : Hid (IsQ _ _ _ x) := (HX5.out.next hb6).next ba
      have HL7 : Hid (IsQ _ _ _ L) := hm3.next ba
      clear B5 hb6 hm5 hm2 HX5 hm3 ba HL
      obtain ⟨d0, d1, d2⟩ := bk3 B7.one
      obtain ⟨e0, e1, e2⟩ := bk3 B7.two
      go_wp2_with fail
      generalize w6.alloc (.cells #[.bool lb, .slice lA ln lc, .slice lA' ln' lc'] 74) = w7 at *
      generalize w6.heap.size = bl at *
      have C6 := Lib.hid (fun W (h : BxW w [(bx, 74, #[.bool gb, .slice gA gn gc, .slice gA' gn' gc']), (bl, 74, #[.bool lb, .slice lA ln lc, .slice lA' ln' lc'])] W) => show ((W.cell? ⟨bx, 0, none⟩ = some (.bool gb) ∧ W.cell? ⟨bx, 1, none⟩ = some (.slice gA gn gc)) ∧ W.cell? ⟨bx, 2, none⟩ = some (.slice gA' gn' gc')) ∧ ((W.cell? ⟨bl, 0, none⟩ = some (.bool lb) ∧ W.cell? ⟨bl, 1, none⟩ = some (.slice lA ln lc)) ∧ W.cell? ⟨bl, 2, none⟩ = some (.slice lA' ln' lc')) from by
        obtain ⟨d0, d1, d2⟩ := bk3 h.one
        obtain ⟨e0, e1, e2⟩ := bk3 h.two
        exact ⟨⟨⟨d0, d1⟩, d2⟩, ⟨e0, e1⟩, e2⟩)
      refine wp_region_held_drew (S := fun W => ((W.cell? ⟨bx, 0, none⟩ = some (.bool gb) ∧ W.cell? ⟨bx, 1, none⟩ = some (.slice gA gn gc)) ∧ W.cell? ⟨bx, 2, none⟩ = some (.slice gA' gn' gc')) ∧ ((W.cell? ⟨bl, 0, none⟩ = some (.bool lb) ∧ W.cell? ⟨bl, 1, none⟩ = some (.slice lA ln lc)) ∧ W.cell? ⟨bl, 2, none⟩ = some (.slice lA' ln' lc'))) (by kernel_rfl) ⟨⟨⟨d0, d1⟩, d2⟩, ⟨e0, e1⟩, e2⟩ (fun hS => ?_)
      clear d0 d1 d2 e0 e1 e2
      have B8 := B7.drew
      have HX8 : Hid (IsQ _ _ _ x) := HX7.out.drew
      have HL8 : Hid (IsQ _ _ _ L) := HL7.out.drew
      clear B7 HX7 HL7
      generalize w7.drew = w8 at *
      have WH := qwhole_any x _ w8 HX8.out (by omega)
      rw [HR1.out] at WH
      have WH := Lib.hid WH
      clear HR1
      cases r1
      · clear HR2 HR3
        refine takeA (i := 0) (v := ?_) rfl (by kernel_rfl) (by kernel_rfl) (by kernel_rfl) (fun _ _ _ h => h) (by rfl) (by assumption) ?_ ?_
        rotate_left
        · intro w hSw; (try dsimp only at hSw); go_simp <;> with_reducible rfl
        try simp only [Act.put, List.setIfInBounds_toArray, List.set_cons_zero, List.set_cons_succ]
        refine stepA (i := 1) rfl (by kernel_rfl) (fun K0 hK0 => ?_)
        go_simp
        refine WH.out.mono ?_
        rintro e w9 ⟨hb9, rfl⟩
        have B9 := B8.next hb9
        have hS9 := C6.out _ B9
        dsimp only
        refine hK0.out _ _ hS9 (fun _ => ?_)
        clear hK0 K0 hS
        try simp only [Act.put, List.setIfInBounds_toArray, List.set_cons_zero, List.set_cons_succ]
        refine takeA (i := 2) (v := ?_) rfl (by kernel_rfl) (by kernel_rfl) (by kernel_rfl) (fun _ _ _ h => h) (by rfl) (by assumption) ?_ ?_
        rotate_left
        · intro w hSw; (try dsimp only at hSw); go_simp <;> with_reducible rfl
        try simp only [Act.put, List.setIfInBounds_toArray, List.set_cons_zero, List.set_cons_succ]
        refine skipA (i := 3) rfl (by kernel_rfl) (by kernel_rfl) (by kernel_rfl) (fun _ _ _ h => h) (by rfl) (by assumption) ?_
        try simp only [Act.put, List.setIfInBounds_toArray, List.set_cons_zero, List.set_cons_succ]
        refine skipA (i := 4) rfl (by kernel_rfl) (by kernel_rfl) (by kernel_rfl) (fun _ _ _ h => h) (by rfl) (by assumption) ?_
        try simp only [Act.put, List.setIfInBounds_toArray, List.set_cons_zero, List.set_cons_succ]
        refine skipA (i := 5) rfl (by kernel_rfl) (by kernel_rfl) (by kernel_rfl) (fun _ _ _ h => h) (by rfl) (by assumption) ?_
        try simp only [Act.put, List.setIfInBounds_toArray, List.set_cons_zero, List.set_cons_succ]
        refine skipA (i := 6) rfl (by kernel_rfl) (by kernel_rfl) (by kernel_rfl) (fun _ _ _ h => h) (by rfl) (by assumption) ?_
        try simp only [Act.put, List.setIfInBounds_toArray, List.set_cons_zero, List.set_cons_succ]
        refine skipA (i := 7) rfl (by kernel_rfl) (by kernel_rfl) (by kernel_rfl) (fun _ _ _ h => h) (by rfl) (by assumption) ?_
        try simp only [Act.put, List.setIfInBounds_toArray, List.set_cons_zero, List.set_cons_succ]
        refine takeA (i := 8) (v := ?_) rfl (by kernel_rfl) (by kernel_rfl) (by kernel_rfl) (fun _ _ _ h => h) (by rfl) (by assumption) ?_ ?_
        rotate_left
        · intro w hSw; (try dsimp only at hSw); go_simp <;> with_reducible rfl
        try simp only [Act.put, List.setIfInBounds_toArray, List.set_cons_zero, List.set_cons_succ]
        refine takeA (i := 9) (v := ?_) rfl (by kernel_rfl) (by kernel_rfl) (by kernel_rfl) (fun _ _ _ h => h) (by rfl) (by assumption) ?_ ?_
        rotate_left
        · intro w hSw; (try dsimp only at hSw); go_simp <;> with_reducible rfl
        try simp only [Act.put, List.setIfInBounds_toArray, List.set_cons_zero, List.set_cons_succ]
        refine skipA (i := 10) rfl (by kernel_rfl) (by kernel_rfl) (by kernel_rfl) (fun _ _ _ h => h) (by rfl) (by assumption) ?_
        try simp only [Act.put, List.setIfInBounds_toArray, List.set_cons_zero, List.set_cons_succ]
        refine skipA (i := 11) rfl (by kernel_rfl) (by kernel_rfl) (by kernel_rfl) (fun _ _ _ h => h) (by rfl) (by assumption) ?_
        try simp only [Act.put, List.setIfInBounds_toArray, List.set_cons_zero, List.set_cons_succ]
        refine skipA (i := 12) rfl (by kernel_rfl) (by kernel_rfl) (by kernel_rfl) (fun _ _ _ h => h) (by rfl) (by assumption) ?_
        try simp only [Act.put, List.setIfInBounds_toArray, List.set_cons_zero, List.set_cons_succ]
        refine skipA (i := 13) rfl (by kernel_rfl) (by kernel_rfl) (by kernel_rfl) (fun _ _ _ h => h) (by rfl) (by assumption) ?_
        try simp only [Act.put, List.setIfInBounds_toArray, List.set_cons_zero, List.set_cons_succ]
        refine takeA (i := 14) (v := ?_) rfl (by kernel_rfl) (by kernel_rfl) (by kernel_rfl) (fun _ _ _ h => h) (by rfl) (by assumption) ?_ ?_
        rotate_left
        · intro w hSw; (try dsimp only at hSw); go_simp <;> with_reducible rfl
        try simp only [Act.put, List.setIfInBounds_toArray, List.set_cons_zero, List.set_cons_succ]
        refine takeA (i := 15) (v := ?_) rfl (by kernel_rfl) (by kernel_rfl) (by kernel_rfl) (fun _ _ _ h => h) (by rfl) (by assumption) ?_ ?_
        rotate_left
        · intro w hSw; (try dsimp only at hSw); go_simp <;> with_reducible rfl
        try simp only [Act.put, List.setIfInBounds_toArray, List.set_cons_zero, List.set_cons_succ]
        refine wpAnyH_done (by kernel_rfl) ?_ _
        go_wp2
        go_ret
        exact ⟨B9.below, rfl⟩
      · skip
        refine takeA (i := 0) (v := ?_) rfl (by kernel_rfl) (by kernel_rfl) (by kernel_rfl) (fun _ _ _ h => h) (by rfl) (by assumption) ?_ ?_
        rotate_left
        · intro w hSw; (try dsimp only at hSw); go_simp <;> with_reducible rfl
        try simp only [Act.put, List.setIfInBounds_toArray, List.set_cons_zero, List.set_cons_succ]
        refine stepA (i := 1) rfl (by kernel_rfl) (fun K0 hK0 => ?_)
        go_simp
        refine WH.out.mono ?_
        rintro e w9 ⟨hb9, rfl⟩
        have B9 := B8.next hb9
        have hS9 := C6.out _ B9
        have HX9 : Hid (IsQ _ _ _ x) := HX8.out.next hb9
        have HL9 : Hid (IsQ _ _ _ L) := HL8.out.next hb9
        dsimp only
        refine hK0.out _ _ hS9 (fun _ => ?_)
        clear hK0 K0 hS B8 hb9 HX8 HL8 WH
        try simp only [Act.put, List.setIfInBounds_toArray, List.set_cons_zero, List.set_cons_succ]
        refine takeA (i := 2) (v := ?_) rfl (by kernel_rfl) (by kernel_rfl) (by kernel_rfl) (fun _ _ _ h => h) (by rfl) (by assumption) ?_ ?_
        rotate_left
        · intro w hSw; (try dsimp only at hSw); go_simp <;> with_reducible rfl
        try simp only [Act.put, List.setIfInBounds_toArray, List.set_cons_zero, List.set_cons_succ]
        refine takeA (i := 3) (v := ?_) rfl (by kernel_rfl) (by kernel_rfl) (by kernel_rfl) (fun _ _ _ h => h) (by rfl) (by assumption) ?_ ?_
        rotate_left
        · intro w hSw; (try dsimp only at hSw); go_simp <;> with_reducible rfl
        try simp only [Act.put, List.setIfInBounds_toArray, List.set_cons_zero, List.set_cons_succ]
        refine takeA (i := 4) (v := ?_) rfl (by kernel_rfl) (by kernel_rfl) (by kernel_rfl) (fun _ _ _ h => h) (by rfl) (by assumption) ?_ ?_
        rotate_left
        · intro w hSw; (try dsimp only at hSw); go_simp <;> with_reducible rfl
        try simp only [Act.put, List.setIfInBounds_toArray, List.set_cons_zero, List.set_cons_succ]
        clear hS9
        refine stepA (i := 5) rfl (by kernel_rfl) (fun K0 hK0 => ?_)
        go_simp
        refine (qopp_any L _ w9 HL9.out (by omega)).mono ?_
        rintro e w10 ⟨hb10, m4, rfl, hm4⟩
        obtain ⟨ob, oA, on, oc, oA', on', oc', rfl⟩ := hm4.form
        have B10 := B9.next hb10
        have hS10 := C6.out _ B10
        have HX10 : Hid (IsQ _ _ _ x) := HX9.out.next hb10
        have HL10 : Hid (IsQ _ _ _ L) := HL9.out.next hb10
        dsimp only
        refine hK0.out _ _ hS10 (fun _ => ?_)
        clear hK0 K0 B9 hb10 HX9 HL9 hS10
        try simp only [Act.put, List.setIfInBounds_toArray, List.set_cons_zero, List.set_cons_succ]
        refine stepA (i := 6) rfl (by kernel_rfl) (fun K0 hK0 => ?_)
        go_simp
        refine (qcmp_any x (-L) _ _ w10 HX10.out hm4 (by omega) (by omega)).mono ?_
        rintro e w11 ⟨hb11, rfl⟩
        have B11 := B10.next hb11
        have hS11 := C6.out _ B11
        have HX11 : Hid (IsQ _ _ _ x) := HX10.out.next hb11
        have HL11 : Hid (IsQ _ _ _ L) := HL10.out.next hb11
        dsimp only
        refine hK0.out _ _ hS11 (fun _ => ?_)
        clear hK0 K0 B10 hb11 HX10 HL10 hm4
        try simp only [Act.put, List.setIfInBounds_toArray, List.set_cons_zero, List.set_cons_succ]
        have HR2' := HR2.out
        clear HR2
        generalize cmpQ x (-L) = c1 at *
        cases r2
        · clear HR3
          refine takeA (i := 7) (v := .bool false) rfl (by kernel_rfl) (by kernel_rfl) (by kernel_rfl) (fun _ _ _ h => h) (by rfl) (by assumption) ?_ ?_
          · intro w hSw; (try dsimp only at hSw); go_simp <;> first | with_reducible rfl | simp [*]
          try simp only [Act.put, List.setIfInBounds_toArray, List.set_cons_zero, List.set_cons_succ]
          refine takeA (i := 8) (v := ?_) rfl (by kernel_rfl) (by kernel_rfl) (by kernel_rfl) (fun _ _ _ h => h) (by rfl) (by assumption) ?_ ?_
          rotate_left
          · intro w hSw; (try dsimp only at hSw); go_simp <;> with_reducible rfl
          try simp only [Act.put, List.setIfInBounds_toArray, List.set_cons_zero, List.set_cons_succ]
          refine takeA (i := 9) (v := ?_) rfl (by kernel_rfl) (by kernel_rfl) (by kernel_rfl) (fun _ _ _ h => h) (by rfl) (by assumption) ?_ ?_
          rotate_left
          · intro w hSw; (try dsimp only at hSw); go_simp <;> with_reducible rfl
          try simp only [Act.put, List.setIfInBounds_toArray, List.set_cons_zero, List.set_cons_succ]
          refine skipA (i := 10) rfl (by kernel_rfl) (by kernel_rfl) (by kernel_rfl) (fun _ _ _ h => h) (by rfl) (by assumption) ?_
          try simp only [Act.put, List.setIfInBounds_toArray, List.set_cons_zero, List.set_cons_succ]
          refine skipA (i := 11) rfl (by kernel_rfl) (by kernel_rfl) (by kernel_rfl) (fun _ _ _ h => h) (by rfl) (by assumption) ?_
          try simp only [Act.put, List.setIfInBounds_toArray, List.set_cons_zero, List.set_cons_succ]
          refine skipA (i := 12) rfl (by kernel_rfl) (by kernel_rfl) (by kernel_rfl) (fun _ _ _ h => h) (by rfl) (by assumption) ?_
          try simp only [Act.put, List.setIfInBounds_toArray, List.set_cons_zero, List.set_cons_succ]
          refine skipA (i := 13) rfl (by kernel_rfl) (by kernel_rfl) (by kernel_rfl) (fun _ _ _ h => h) (by rfl) (by assumption) ?_
          try simp only [Act.put, List.setIfInBounds_toArray, List.set_cons_zero, List.set_cons_succ]
          refine takeA (i := 14) (v := ?_) rfl (by kernel_rfl) (by kernel_rfl) (by kernel_rfl) (fun _ _ _ h => h) (by rfl) (by assumption) ?_ ?_
          rotate_left
          · intro w hSw; (try dsimp only at hSw); go_simp <;> with_reducible rfl
          try simp only [Act.put, List.setIfInBounds_toArray, List.set_cons_zero, List.set_cons_succ]
          refine takeA (i := 15) (v := ?_) rfl (by kernel_rfl) (by kernel_rfl) (by kernel_rfl) (fun _ _ _ h => h) (by rfl) (by assumption) ?_ ?_
          rotate_left
          · intro w hSw; (try dsimp only at hSw); go_simp <;> with_reducible rfl
          try simp only [Act.put, List.setIfInBounds_toArray, List.set_cons_zero, List.set_cons_succ]
          refine wpAnyH_done (by kernel_rfl) ?_ _
          go_wp2
          go_ret
          exact ⟨B11.below, rfl⟩
        · skip
          refine takeA (i := 7) (v := .bool true) rfl (by kernel_rfl) (by kernel_rfl) (by kernel_rfl) (fun _ _ _ h => h) (by rfl) (by assumption) ?_ ?_
          · intro w hSw; (try dsimp only at hSw); go_simp <;> first | with_reducible rfl | simp [*]
          try simp only [Act.put, List.setIfInBounds_toArray, List.set_cons_zero, List.set_cons_succ]
          refine takeA (i := 8) (v := ?_) rfl (by kernel_rfl) (by kernel_rfl) (by kernel_rfl) (fun _ _ _ h => h) (by rfl) (by assumption) ?_ ?_
          rotate_left
          · intro w hSw; (try dsimp only at hSw); go_simp <;> with_reducible rfl
          try simp only [Act.put, List.setIfInBounds_toArray, List.set_cons_zero, List.set_cons_succ]
          refine takeA (i := 9) (v := ?_) rfl (by kernel_rfl) (by kernel_rfl) (by kernel_rfl) (fun _ _ _ h => h) (by rfl) (by assumption) ?_ ?_
          rotate_left
          · intro w hSw; (try dsimp only at hSw); go_simp <;> with_reducible rfl
          try simp only [Act.put, List.setIfInBounds_toArray, List.set_cons_zero, List.set_cons_succ]
          refine takeA (i := 10) (v := ?_) rfl (by kernel_rfl) (by kernel_rfl) (by kernel_rfl) (fun _ _ _ h => h) (by rfl) (by assumption) ?_ ?_
          rotate_left
          · intro w hSw; (try dsimp only at hSw); go_simp <;> with_reducible rfl
          try simp only [Act.put, List.setIfInBounds_toArray, List.set_cons_zero, List.set_cons_succ]
          refine takeA (i := 11) (v := ?_) rfl (by kernel_rfl) (by kernel_rfl) (by kernel_rfl) (fun _ _ _ h => h) (by rfl) (by assumption) ?_ ?_
          rotate_left
          · intro w hSw; (try dsimp only at hSw); go_simp <;> with_reducible rfl
          try simp only [Act.put, List.setIfInBounds_toArray, List.set_cons_zero, List.set_cons_succ]
          clear hS11
          refine stepA (i := 12) rfl (by kernel_rfl) (fun K0 hK0 => ?_)
          go_simp
          refine (qcmp_any x L _ _ w11 HX11.out HL11.out (by omega) (by omega)).mono ?_
          rintro e w12 ⟨hb12, rfl⟩
          have B12 := B11.next hb12
          have hS12 := C6.out _ B12
          dsimp only
          refine hK0.out _ _ hS12 (fun _ => ?_)
          clear hK0 K0 B11 hb12 HX11 HL11
          try simp only [Act.put, List.setIfInBounds_toArray, List.set_cons_zero, List.set_cons_succ]
          refine takeA (i := 13) (v := ?_) rfl (by kernel_rfl) (by kernel_rfl) (by kernel_rfl) (fun _ _ _ h => h) (by rfl) (by assumption) ?_ ?_
          rotate_left
          · intro w hSw; (try dsimp only at hSw); go_simp <;> with_reducible rfl
          try simp only [Act.put, List.setIfInBounds_toArray, List.set_cons_zero, List.set_cons_succ]
          refine takeA (i := 14) (v := ?_) rfl (by kernel_rfl) (by kernel_rfl) (by kernel_rfl) (fun _ _ _ h => h) (by rfl) (by assumption) ?_ ?_
          rotate_left
          · intro w hSw; (try dsimp only at hSw); go_simp <;> with_reducible rfl
          try simp only [Act.put, List.setIfInBounds_toArray, List.set_cons_zero, List.set_cons_succ]
          refine takeA (i := 15) (v := ?_) rfl (by kernel_rfl) (by kernel_rfl) (by kernel_rfl) (fun _ _ _ h => h) (by rfl) (by assumption) ?_ ?_
          rotate_left
          · intro w hSw; (try dsimp only at hSw); go_simp <;> with_reducible rfl
          try simp only [Act.put, List.setIfInBounds_toArray, List.set_cons_zero, List.set_cons_succ]
          refine wpAnyH_done (by kernel_rfl) ?_ _
          go_wp2
          go_ret
          exact ⟨B12.below, by rw [← HR3.out]; rfl⟩
set_option maxRecDepth 100000 in
set_option maxHeartbeats 6400000 in
theorem rfits_3 (s : ByteArray) (w : World) (hs : s.size ≤ 4000000) (hE : s.toList.isEmpty = false) (hq : numB s = true) :
    Calls Tryz.prog 48 #[.int .i64 3, .string s] w fun e w' => Below w.heap.size w w' ∧ e = .returned (.bool (fitK 3 s)) := by
  have hR := (fitK_int (k := 3) (s := s) rfl (by decide) hE hq).trans (intB_cmp (k := 3) (n := 31) rfl s)
  rw [hR]
  have RV := Lib.hid (fun W (hW : Below w.heap.size w W) => rvalue_any s W hs true (by simp; exact .inr ((numB_iff s).1 hq)))
  have RG := Lib.hid (fun W (hW : Below w.heap.size w W) => rget_any s W hs true (by rw [← numB_iff, hq]))
  have hn : s.toList ≠ [] := fun e => by rw [e] at hE; cases hE
  have hsx := num_sz hq
  have hsl := sz_lim (n := 31) (by decide)
  have hso : sz (-limQ 31) ≤ 100 := by have := sz_neg (limQ 31); omega
  have HL : Hid (limQ 31 = nr false (2 ^ 31) 1) := rfl
  clear hR hq hs
  generalize textRat s.data.toList = x at *
  generalize limQ 31 = L at *
  obtain ⟨r1, hr1⟩ : ∃ r, decide (dn x = 1) = r := ⟨_, rfl⟩
  obtain ⟨r2, hr2⟩ : ∃ r, decide (0 ≤ cmpQ x (-L)) = r := ⟨_, rfl⟩
  obtain ⟨r3, hr3⟩ : ∃ r, decide (cmpQ x L < 0) = r := ⟨_, rfl⟩
  rw [hr1, hr2, hr3]
  have HR1 := Lib.hid hr1
  have HR2 := Lib.hid hr2
  have HR3 := Lib.hid hr3
  clear hr1 hr2 hr3
  go_enter Tryz.func48, Tryz.ntmps48
  go_wp2_with fail
  refine (RV.out w (Below.refl _ _)).mono ?_
  rintro e w1 ⟨hb1, rfl⟩
  go_wp2_with fail
  refine (RG.out w1 hb1).mono ?_
  rintro e w2 ⟨hb2, v, rfl, ⟨p0, hp0⟩, hgq⟩
  obtain ⟨gb, gA, gn, gc, gA', gn', gc', rfl⟩ := hp0.form
  have B3 := (((BxW.nil w).next hb1).next hb2).new 74 #[.bool gb, .slice gA gn gc, .slice gA' gn' gc']
  have HX : Hid (IsQ _ _ _ x) := (hgq rfl).next (below_alloc w2 (.cells #[.bool gb, .slice gA gn gc, .slice gA' gn' gc'] 74))
  clear RV RG hb1 hb2 hp0 hgq
  go_wp2_with fail
  generalize w2.alloc (.cells #[.bool gb, .slice gA gn gc, .slice gA' gn' gc'] 74) = w3 at *
  generalize w2.heap.size = bx at *
  refine (qone_any w3).mono ?_
  rintro e w4 ⟨hb4, m1, rfl, hm1⟩
  have B4 := B3.next hb4
  have HX4 : Hid (IsQ _ _ _ x) := HX.out.next hb4
  obtain ⟨mA, mn, mc, rfl⟩ := hm1.form
  clear B3 hb4 HX
  go_wp2_with fail
  go_loopw [7, 37] (fun m i wr => ∃ j : Nat, j ≤ 31 ∧ i = .int .i64 j ∧ IsN wr wr.heap.size .u64 m (2 ^ j) ∧ BxW w [(bx, 74, #[.bool gb, .slice gA gn gc, .slice gA' gn' gc'])] wr ∧ Hid (IsQ wr wr.heap.size (.agg #[.bool gb, .slice gA gn gc, .slice gA' gn' gc']) x)) (fun _ i _ => 31 - (intOf i).toNat)
  case atStart => exact ⟨0, Nat.zero_le _, rfl, hm1, B4, HX4⟩
  case round =>
    clear hm1 B4 HX4
    obtain ⟨j, hj, rfl, hm, B, HX⟩ := hrel
    obtain ⟨mA, mn, mc, rfl⟩ := hm.form
    by_cases hlt : j < 31
    · have i0' : (j : Int) < 31 := by omega
      go_wp2_with fail
      refine (natOf_any 2 wr (by decide)).mono ?_
      rintro e w5 ⟨hb5, m2, rfl, hm2⟩
      have B5 := B.next hb5
      have hm5 := hm.next hb5
      have HX5 : Hid (IsQ _ _ _ x) := HX.out.next hb5
      obtain ⟨nA, nn, nc, rfl⟩ := hm2.form
      clear B hb5 hm HX
      go_wp2_with fail
      refine (nmul_any _ _ _ _ w5 hm5 hm2 (by have := limbs_pow (j := j) (by omega); omega) (by have := limbs_pow (j := 1) (by decide); simp at this; omega)).mono ?_
      rintro e w6 ⟨hb6, m3, rfl, hm3⟩
      have B6 := B5.next hb6
      have HX6 : Hid (IsQ _ _ _ x) := HX5.out.next hb6
      clear B5 hb6 hm5 hm2 HX5
      obtain ⟨oA, on, oc, rfl⟩ := hm3.form
      go_wp2
      go_roundw
      case rel => exact ⟨j + 1, by omega, by go_num, by rw [Nat.pow_succ]; exact hm3, B6, HX6⟩
      case measure => simp [intOf]; omega
    · obtain rfl : j = 31 := by omega
      clear hj hlt
      go_wp2_with fail
      refine (qone_any wr).mono ?_
      rintro e w5 ⟨hb5, m2, rfl, hm2⟩
      have B5 := B.next hb5
      have hm5 := hm.next hb5
      have HX5 : Hid (IsQ _ _ _ x) := HX.out.next hb5
      obtain ⟨nA, nn, nc, rfl⟩ := hm2.form
      clear B hb5 hm HX
      go_wp2_with fail
      refine (qmake_any false _ _ _ _ w5 hm5 hm2 (by have := limbs_pow (j := 31) (by decide); omega) (by have := limbs_pow (j := 0) (by decide); simp at this; omega)).mono ?_
      rintro e w6 ⟨hb6, m3, rfl, hm3⟩
      rw [← HL.out] at hm3
      obtain ⟨lb, lA, ln, lc, lA', ln', lc', rfl⟩ := hm3.form
      have B7 := (B5.next hb6).new 74 #[.bool lb, .slice lA ln lc, .slice lA' ln' lc']
      have ba := below_alloc w6 (.cells #[.bool lb, .slice lA ln lc, .slice lA' ln' lc'] 74)
      have HX7 : Hid (IsQ _ _ _ x) := (HX5.out.next hb6).next ba
      have HL7 : Hid (IsQ _ _ _ L) := hm3.next ba
      clear B5 hb6 hm5 hm2 HX5 hm3 ba HL
      obtain ⟨d0, d1, d2⟩ := bk3 B7.one
      obtain ⟨e0, e1, e2⟩ := bk3 B7.two
      go_wp2_with fail
      generalize w6.alloc (.cells #[.bool lb, .slice lA ln lc, .slice lA' ln' lc'] 74) = w7 at *
      generalize w6.heap.size = bl at *
      have C6 := Lib.hid (fun W (h : BxW w [(bx, 74, #[.bool gb, .slice gA gn gc, .slice gA' gn' gc']), (bl, 74, #[.bool lb, .slice lA ln lc, .slice lA' ln' lc'])] W) => show ((W.cell? ⟨bx, 0, none⟩ = some (.bool gb) ∧ W.cell? ⟨bx, 1, none⟩ = some (.slice gA gn gc)) ∧ W.cell? ⟨bx, 2, none⟩ = some (.slice gA' gn' gc')) ∧ ((W.cell? ⟨bl, 0, none⟩ = some (.bool lb) ∧ W.cell? ⟨bl, 1, none⟩ = some (.slice lA ln lc)) ∧ W.cell? ⟨bl, 2, none⟩ = some (.slice lA' ln' lc')) from by
        obtain ⟨d0, d1, d2⟩ := bk3 h.one
        obtain ⟨e0, e1, e2⟩ := bk3 h.two
        exact ⟨⟨⟨d0, d1⟩, d2⟩, ⟨e0, e1⟩, e2⟩)
      refine wp_region_held_drew (S := fun W => ((W.cell? ⟨bx, 0, none⟩ = some (.bool gb) ∧ W.cell? ⟨bx, 1, none⟩ = some (.slice gA gn gc)) ∧ W.cell? ⟨bx, 2, none⟩ = some (.slice gA' gn' gc')) ∧ ((W.cell? ⟨bl, 0, none⟩ = some (.bool lb) ∧ W.cell? ⟨bl, 1, none⟩ = some (.slice lA ln lc)) ∧ W.cell? ⟨bl, 2, none⟩ = some (.slice lA' ln' lc'))) (by kernel_rfl) ⟨⟨⟨d0, d1⟩, d2⟩, ⟨e0, e1⟩, e2⟩ (fun hS => ?_)
      clear d0 d1 d2 e0 e1 e2
      have B8 := B7.drew
      have HX8 : Hid (IsQ _ _ _ x) := HX7.out.drew
      have HL8 : Hid (IsQ _ _ _ L) := HL7.out.drew
      clear B7 HX7 HL7
      generalize w7.drew = w8 at *
      have WH := qwhole_any x _ w8 HX8.out (by omega)
      rw [HR1.out] at WH
      have WH := Lib.hid WH
      clear HR1
      cases r1
      · clear HR2 HR3
        refine takeA (i := 0) (v := ?_) rfl (by kernel_rfl) (by kernel_rfl) (by kernel_rfl) (fun _ _ _ h => h) (by rfl) (by assumption) ?_ ?_
        rotate_left
        · intro w hSw; (try dsimp only at hSw); go_simp <;> with_reducible rfl
        try simp only [Act.put, List.setIfInBounds_toArray, List.set_cons_zero, List.set_cons_succ]
        refine stepA (i := 1) rfl (by kernel_rfl) (fun K0 hK0 => ?_)
        go_simp
        refine WH.out.mono ?_
        rintro e w9 ⟨hb9, rfl⟩
        have B9 := B8.next hb9
        have hS9 := C6.out _ B9
        dsimp only
        refine hK0.out _ _ hS9 (fun _ => ?_)
        clear hK0 K0 hS
        try simp only [Act.put, List.setIfInBounds_toArray, List.set_cons_zero, List.set_cons_succ]
        refine takeA (i := 2) (v := ?_) rfl (by kernel_rfl) (by kernel_rfl) (by kernel_rfl) (fun _ _ _ h => h) (by rfl) (by assumption) ?_ ?_
        rotate_left
        · intro w hSw; (try dsimp only at hSw); go_simp <;> with_reducible rfl
        try simp only [Act.put, List.setIfInBounds_toArray, List.set_cons_zero, List.set_cons_succ]
        refine skipA (i := 3) rfl (by kernel_rfl) (by kernel_rfl) (by kernel_rfl) (fun _ _ _ h => h) (by rfl) (by assumption) ?_
        try simp only [Act.put, List.setIfInBounds_toArray, List.set_cons_zero, List.set_cons_succ]
        refine skipA (i := 4) rfl (by kernel_rfl) (by kernel_rfl) (by kernel_rfl) (fun _ _ _ h => h) (by rfl) (by assumption) ?_
        try simp only [Act.put, List.setIfInBounds_toArray, List.set_cons_zero, List.set_cons_succ]
        refine skipA (i := 5) rfl (by kernel_rfl) (by kernel_rfl) (by kernel_rfl) (fun _ _ _ h => h) (by rfl) (by assumption) ?_
        try simp only [Act.put, List.setIfInBounds_toArray, List.set_cons_zero, List.set_cons_succ]
        refine skipA (i := 6) rfl (by kernel_rfl) (by kernel_rfl) (by kernel_rfl) (fun _ _ _ h => h) (by rfl) (by assumption) ?_
        try simp only [Act.put, List.setIfInBounds_toArray, List.set_cons_zero, List.set_cons_succ]
        refine skipA (i := 7) rfl (by kernel_rfl) (by kernel_rfl) (by kernel_rfl) (fun _ _ _ h => h) (by rfl) (by assumption) ?_
        try simp only [Act.put, List.setIfInBounds_toArray, List.set_cons_zero, List.set_cons_succ]
        refine takeA (i := 8) (v := ?_) rfl (by kernel_rfl) (by kernel_rfl) (by kernel_rfl) (fun _ _ _ h => h) (by rfl) (by assumption) ?_ ?_
        rotate_left
        · intro w hSw; (try dsimp only at hSw); go_simp <;> with_reducible rfl
        try simp only [Act.put, List.setIfInBounds_toArray, List.set_cons_zero, List.set_cons_succ]
        refine takeA (i := 9) (v := ?_) rfl (by kernel_rfl) (by kernel_rfl) (by kernel_rfl) (fun _ _ _ h => h) (by rfl) (by assumption) ?_ ?_
        rotate_left
        · intro w hSw; (try dsimp only at hSw); go_simp <;> with_reducible rfl
        try simp only [Act.put, List.setIfInBounds_toArray, List.set_cons_zero, List.set_cons_succ]
        refine skipA (i := 10) rfl (by kernel_rfl) (by kernel_rfl) (by kernel_rfl) (fun _ _ _ h => h) (by rfl) (by assumption) ?_
        try simp only [Act.put, List.setIfInBounds_toArray, List.set_cons_zero, List.set_cons_succ]
        refine skipA (i := 11) rfl (by kernel_rfl) (by kernel_rfl) (by kernel_rfl) (fun _ _ _ h => h) (by rfl) (by assumption) ?_
        try simp only [Act.put, List.setIfInBounds_toArray, List.set_cons_zero, List.set_cons_succ]
        refine skipA (i := 12) rfl (by kernel_rfl) (by kernel_rfl) (by kernel_rfl) (fun _ _ _ h => h) (by rfl) (by assumption) ?_
        try simp only [Act.put, List.setIfInBounds_toArray, List.set_cons_zero, List.set_cons_succ]
        refine skipA (i := 13) rfl (by kernel_rfl) (by kernel_rfl) (by kernel_rfl) (fun _ _ _ h => h) (by rfl) (by assumption) ?_
        try simp only [Act.put, List.setIfInBounds_toArray, List.set_cons_zero, List.set_cons_succ]
        refine takeA (i := 14) (v := ?_) rfl (by kernel_rfl) (by kernel_rfl) (by kernel_rfl) (fun _ _ _ h => h) (by rfl) (by assumption) ?_ ?_
        rotate_left
        · intro w hSw; (try dsimp only at hSw); go_simp <;> with_reducible rfl
        try simp only [Act.put, List.setIfInBounds_toArray, List.set_cons_zero, List.set_cons_succ]
        refine takeA (i := 15) (v := ?_) rfl (by kernel_rfl) (by kernel_rfl) (by kernel_rfl) (fun _ _ _ h => h) (by rfl) (by assumption) ?_ ?_
        rotate_left
        · intro w hSw; (try dsimp only at hSw); go_simp <;> with_reducible rfl
        try simp only [Act.put, List.setIfInBounds_toArray, List.set_cons_zero, List.set_cons_succ]
        refine wpAnyH_done (by kernel_rfl) ?_ _
        go_wp2
        go_ret
        exact ⟨B9.below, rfl⟩
      · skip
        refine takeA (i := 0) (v := ?_) rfl (by kernel_rfl) (by kernel_rfl) (by kernel_rfl) (fun _ _ _ h => h) (by rfl) (by assumption) ?_ ?_
        rotate_left
        · intro w hSw; (try dsimp only at hSw); go_simp <;> with_reducible rfl
        try simp only [Act.put, List.setIfInBounds_toArray, List.set_cons_zero, List.set_cons_succ]
        refine stepA (i := 1) rfl (by kernel_rfl) (fun K0 hK0 => ?_)
        go_simp
        refine WH.out.mono ?_
        rintro e w9 ⟨hb9, rfl⟩
        have B9 := B8.next hb9
        have hS9 := C6.out _ B9
        have HX9 : Hid (IsQ _ _ _ x) := HX8.out.next hb9
        have HL9 : Hid (IsQ _ _ _ L) := HL8.out.next hb9
        dsimp only
        refine hK0.out _ _ hS9 (fun _ => ?_)
        clear hK0 K0 hS B8 hb9 HX8 HL8 WH
        try simp only [Act.put, List.setIfInBounds_toArray, List.set_cons_zero, List.set_cons_succ]
        refine takeA (i := 2) (v := ?_) rfl (by kernel_rfl) (by kernel_rfl) (by kernel_rfl) (fun _ _ _ h => h) (by rfl) (by assumption) ?_ ?_
        rotate_left
        · intro w hSw; (try dsimp only at hSw); go_simp <;> with_reducible rfl
        try simp only [Act.put, List.setIfInBounds_toArray, List.set_cons_zero, List.set_cons_succ]
        refine takeA (i := 3) (v := ?_) rfl (by kernel_rfl) (by kernel_rfl) (by kernel_rfl) (fun _ _ _ h => h) (by rfl) (by assumption) ?_ ?_
        rotate_left
        · intro w hSw; (try dsimp only at hSw); go_simp <;> with_reducible rfl
        try simp only [Act.put, List.setIfInBounds_toArray, List.set_cons_zero, List.set_cons_succ]
        refine takeA (i := 4) (v := ?_) rfl (by kernel_rfl) (by kernel_rfl) (by kernel_rfl) (fun _ _ _ h => h) (by rfl) (by assumption) ?_ ?_
        rotate_left
        · intro w hSw; (try dsimp only at hSw); go_simp <;> with_reducible rfl
        try simp only [Act.put, List.setIfInBounds_toArray, List.set_cons_zero, List.set_cons_succ]
        clear hS9
        refine stepA (i := 5) rfl (by kernel_rfl) (fun K0 hK0 => ?_)
        go_simp
        refine (qopp_any L _ w9 HL9.out (by omega)).mono ?_
        rintro e w10 ⟨hb10, m4, rfl, hm4⟩
        obtain ⟨ob, oA, on, oc, oA', on', oc', rfl⟩ := hm4.form
        have B10 := B9.next hb10
        have hS10 := C6.out _ B10
        have HX10 : Hid (IsQ _ _ _ x) := HX9.out.next hb10
        have HL10 : Hid (IsQ _ _ _ L) := HL9.out.next hb10
        dsimp only
        refine hK0.out _ _ hS10 (fun _ => ?_)
        clear hK0 K0 B9 hb10 HX9 HL9 hS10
        try simp only [Act.put, List.setIfInBounds_toArray, List.set_cons_zero, List.set_cons_succ]
        refine stepA (i := 6) rfl (by kernel_rfl) (fun K0 hK0 => ?_)
        go_simp
        refine (qcmp_any x (-L) _ _ w10 HX10.out hm4 (by omega) (by omega)).mono ?_
        rintro e w11 ⟨hb11, rfl⟩
        have B11 := B10.next hb11
        have hS11 := C6.out _ B11
        have HX11 : Hid (IsQ _ _ _ x) := HX10.out.next hb11
        have HL11 : Hid (IsQ _ _ _ L) := HL10.out.next hb11
        dsimp only
        refine hK0.out _ _ hS11 (fun _ => ?_)
        clear hK0 K0 B10 hb11 HX10 HL10 hm4
        try simp only [Act.put, List.setIfInBounds_toArray, List.set_cons_zero, List.set_cons_succ]
        have HR2' := HR2.out
        clear HR2
        generalize cmpQ x (-L) = c1 at *
        cases r2
        · clear HR3
          refine takeA (i := 7) (v := .bool false) rfl (by kernel_rfl) (by kernel_rfl) (by kernel_rfl) (fun _ _ _ h => h) (by rfl) (by assumption) ?_ ?_
          · intro w hSw; (try dsimp only at hSw); go_simp <;> first | with_reducible rfl | simp [*]
          try simp only [Act.put, List.setIfInBounds_toArray, List.set_cons_zero, List.set_cons_succ]
          refine takeA (i := 8) (v := ?_) rfl (by kernel_rfl) (by kernel_rfl) (by kernel_rfl) (fun _ _ _ h => h) (by rfl) (by assumption) ?_ ?_
          rotate_left
          · intro w hSw; (try dsimp only at hSw); go_simp <;> with_reducible rfl
          try simp only [Act.put, List.setIfInBounds_toArray, List.set_cons_zero, List.set_cons_succ]
          refine takeA (i := 9) (v := ?_) rfl (by kernel_rfl) (by kernel_rfl) (by kernel_rfl) (fun _ _ _ h => h) (by rfl) (by assumption) ?_ ?_
          rotate_left
          · intro w hSw; (try dsimp only at hSw); go_simp <;> with_reducible rfl
          try simp only [Act.put, List.setIfInBounds_toArray, List.set_cons_zero, List.set_cons_succ]
          refine skipA (i := 10) rfl (by kernel_rfl) (by kernel_rfl) (by kernel_rfl) (fun _ _ _ h => h) (by rfl) (by assumption) ?_
          try simp only [Act.put, List.setIfInBounds_toArray, List.set_cons_zero, List.set_cons_succ]
          refine skipA (i := 11) rfl (by kernel_rfl) (by kernel_rfl) (by kernel_rfl) (fun _ _ _ h => h) (by rfl) (by assumption) ?_
          try simp only [Act.put, List.setIfInBounds_toArray, List.set_cons_zero, List.set_cons_succ]
          refine skipA (i := 12) rfl (by kernel_rfl) (by kernel_rfl) (by kernel_rfl) (fun _ _ _ h => h) (by rfl) (by assumption) ?_
          try simp only [Act.put, List.setIfInBounds_toArray, List.set_cons_zero, List.set_cons_succ]
          refine skipA (i := 13) rfl (by kernel_rfl) (by kernel_rfl) (by kernel_rfl) (fun _ _ _ h => h) (by rfl) (by assumption) ?_
          try simp only [Act.put, List.setIfInBounds_toArray, List.set_cons_zero, List.set_cons_succ]
          refine takeA (i := 14) (v := ?_) rfl (by kernel_rfl) (by kernel_rfl) (by kernel_rfl) (fun _ _ _ h => h) (by rfl) (by assumption) ?_ ?_
          rotate_left
          · intro w hSw; (try dsimp only at hSw); go_simp <;> with_reducible rfl
          try simp only [Act.put, List.setIfInBounds_toArray, List.set_cons_zero, List.set_cons_succ]
          refine takeA (i := 15) (v := ?_) rfl (by kernel_rfl) (by kernel_rfl) (by kernel_rfl) (fun _ _ _ h => h) (by rfl) (by assumption) ?_ ?_
          rotate_left
          · intro w hSw; (try dsimp only at hSw); go_simp <;> with_reducible rfl
          try simp only [Act.put, List.setIfInBounds_toArray, List.set_cons_zero, List.set_cons_succ]
          refine wpAnyH_done (by kernel_rfl) ?_ _
          go_wp2
          go_ret
          exact ⟨B11.below, rfl⟩
        · skip
          refine takeA (i := 7) (v := .bool true) rfl (by kernel_rfl) (by kernel_rfl) (by kernel_rfl) (fun _ _ _ h => h) (by rfl) (by assumption) ?_ ?_
          · intro w hSw; (try dsimp only at hSw); go_simp <;> first | with_reducible rfl | simp [*]
          try simp only [Act.put, List.setIfInBounds_toArray, List.set_cons_zero, List.set_cons_succ]
          refine takeA (i := 8) (v := ?_) rfl (by kernel_rfl) (by kernel_rfl) (by kernel_rfl) (fun _ _ _ h => h) (by rfl) (by assumption) ?_ ?_
          rotate_left
          · intro w hSw; (try dsimp only at hSw); go_simp <;> with_reducible rfl
          try simp only [Act.put, List.setIfInBounds_toArray, List.set_cons_zero, List.set_cons_succ]
          refine takeA (i := 9) (v := ?_) rfl (by kernel_rfl) (by kernel_rfl) (by kernel_rfl) (fun _ _ _ h => h) (by rfl) (by assumption) ?_ ?_
          rotate_left
          · intro w hSw; (try dsimp only at hSw); go_simp <;> with_reducible rfl
          try simp only [Act.put, List.setIfInBounds_toArray, List.set_cons_zero, List.set_cons_succ]
          refine takeA (i := 10) (v := ?_) rfl (by kernel_rfl) (by kernel_rfl) (by kernel_rfl) (fun _ _ _ h => h) (by rfl) (by assumption) ?_ ?_
          rotate_left
          · intro w hSw; (try dsimp only at hSw); go_simp <;> with_reducible rfl
          try simp only [Act.put, List.setIfInBounds_toArray, List.set_cons_zero, List.set_cons_succ]
          refine takeA (i := 11) (v := ?_) rfl (by kernel_rfl) (by kernel_rfl) (by kernel_rfl) (fun _ _ _ h => h) (by rfl) (by assumption) ?_ ?_
          rotate_left
          · intro w hSw; (try dsimp only at hSw); go_simp <;> with_reducible rfl
          try simp only [Act.put, List.setIfInBounds_toArray, List.set_cons_zero, List.set_cons_succ]
          clear hS11
          refine stepA (i := 12) rfl (by kernel_rfl) (fun K0 hK0 => ?_)
          go_simp
          refine (qcmp_any x L _ _ w11 HX11.out HL11.out (by omega) (by omega)).mono ?_
          rintro e w12 ⟨hb12, rfl⟩
          have B12 := B11.next hb12
          have hS12 := C6.out _ B12
          dsimp only
          refine hK0.out _ _ hS12 (fun _ => ?_)
          clear hK0 K0 B11 hb12 HX11 HL11
          try simp only [Act.put, List.setIfInBounds_toArray, List.set_cons_zero, List.set_cons_succ]
          refine takeA (i := 13) (v := ?_) rfl (by kernel_rfl) (by kernel_rfl) (by kernel_rfl) (fun _ _ _ h => h) (by rfl) (by assumption) ?_ ?_
          rotate_left
          · intro w hSw; (try dsimp only at hSw); go_simp <;> with_reducible rfl
          try simp only [Act.put, List.setIfInBounds_toArray, List.set_cons_zero, List.set_cons_succ]
          refine takeA (i := 14) (v := ?_) rfl (by kernel_rfl) (by kernel_rfl) (by kernel_rfl) (fun _ _ _ h => h) (by rfl) (by assumption) ?_ ?_
          rotate_left
          · intro w hSw; (try dsimp only at hSw); go_simp <;> with_reducible rfl
          try simp only [Act.put, List.setIfInBounds_toArray, List.set_cons_zero, List.set_cons_succ]
          refine takeA (i := 15) (v := ?_) rfl (by kernel_rfl) (by kernel_rfl) (by kernel_rfl) (fun _ _ _ h => h) (by rfl) (by assumption) ?_ ?_
          rotate_left
          · intro w hSw; (try dsimp only at hSw); go_simp <;> with_reducible rfl
          try simp only [Act.put, List.setIfInBounds_toArray, List.set_cons_zero, List.set_cons_succ]
          refine wpAnyH_done (by kernel_rfl) ?_ _
          go_wp2
          go_ret
          exact ⟨B12.below, by rw [← HR3.out]; rfl⟩
set_option maxRecDepth 100000 in
set_option maxHeartbeats 6400000 in
theorem rfits_4 (s : ByteArray) (w : World) (hs : s.size ≤ 4000000) (hE : s.toList.isEmpty = false) (hq : numB s = true) :
    Calls Tryz.prog 48 #[.int .i64 4, .string s] w fun e w' => Below w.heap.size w w' ∧ e = .returned (.bool (fitK 4 s)) := by
  have hR := (fitK_int (k := 4) (s := s) rfl (by decide) hE hq).trans (intB_cmp (k := 4) (n := 63) rfl s)
  rw [hR]
  have RV := Lib.hid (fun W (hW : Below w.heap.size w W) => rvalue_any s W hs true (by simp; exact .inr ((numB_iff s).1 hq)))
  have RG := Lib.hid (fun W (hW : Below w.heap.size w W) => rget_any s W hs true (by rw [← numB_iff, hq]))
  have hn : s.toList ≠ [] := fun e => by rw [e] at hE; cases hE
  have hsx := num_sz hq
  have hsl := sz_lim (n := 63) (by decide)
  have hso : sz (-limQ 63) ≤ 100 := by have := sz_neg (limQ 63); omega
  have HL : Hid (limQ 63 = nr false (2 ^ 63) 1) := rfl
  clear hR hq hs
  generalize textRat s.data.toList = x at *
  generalize limQ 63 = L at *
  obtain ⟨r1, hr1⟩ : ∃ r, decide (dn x = 1) = r := ⟨_, rfl⟩
  obtain ⟨r2, hr2⟩ : ∃ r, decide (0 ≤ cmpQ x (-L)) = r := ⟨_, rfl⟩
  obtain ⟨r3, hr3⟩ : ∃ r, decide (cmpQ x L < 0) = r := ⟨_, rfl⟩
  rw [hr1, hr2, hr3]
  have HR1 := Lib.hid hr1
  have HR2 := Lib.hid hr2
  have HR3 := Lib.hid hr3
  clear hr1 hr2 hr3
  go_enter Tryz.func48, Tryz.ntmps48
  go_wp2_with fail
  refine (RV.out w (Below.refl _ _)).mono ?_
  rintro e w1 ⟨hb1, rfl⟩
  go_wp2_with fail
  refine (RG.out w1 hb1).mono ?_
  rintro e w2 ⟨hb2, v, rfl, ⟨p0, hp0⟩, hgq⟩
  obtain ⟨gb, gA, gn, gc, gA', gn', gc', rfl⟩ := hp0.form
  have B3 := (((BxW.nil w).next hb1).next hb2).new 74 #[.bool gb, .slice gA gn gc, .slice gA' gn' gc']
  have HX : Hid (IsQ _ _ _ x) := (hgq rfl).next (below_alloc w2 (.cells #[.bool gb, .slice gA gn gc, .slice gA' gn' gc'] 74))
  clear RV RG hb1 hb2 hp0 hgq
  go_wp2_with fail
  generalize w2.alloc (.cells #[.bool gb, .slice gA gn gc, .slice gA' gn' gc'] 74) = w3 at *
  generalize w2.heap.size = bx at *
  refine (qone_any w3).mono ?_
  rintro e w4 ⟨hb4, m1, rfl, hm1⟩
  have B4 := B3.next hb4
  have HX4 : Hid (IsQ _ _ _ x) := HX.out.next hb4
  obtain ⟨mA, mn, mc, rfl⟩ := hm1.form
  clear B3 hb4 HX
  go_wp2_with fail
  go_loopw [7, 37] (fun m i wr => ∃ j : Nat, j ≤ 63 ∧ i = .int .i64 j ∧ IsN wr wr.heap.size .u64 m (2 ^ j) ∧ BxW w [(bx, 74, #[.bool gb, .slice gA gn gc, .slice gA' gn' gc'])] wr ∧ Hid (IsQ wr wr.heap.size (.agg #[.bool gb, .slice gA gn gc, .slice gA' gn' gc']) x)) (fun _ i _ => 63 - (intOf i).toNat)
  case atStart => exact ⟨0, Nat.zero_le _, rfl, hm1, B4, HX4⟩
  case round =>
    clear hm1 B4 HX4
    obtain ⟨j, hj, rfl, hm, B, HX⟩ := hrel
    obtain ⟨mA, mn, mc, rfl⟩ := hm.form
    by_cases hlt : j < 63
    · have i0' : (j : Int) < 63 := by omega
      go_wp2_with fail
      refine (natOf_any 2 wr (by decide)).mono ?_
      rintro e w5 ⟨hb5, m2, rfl, hm2⟩
      have B5 := B.next hb5
      have hm5 := hm.next hb5
      have HX5 : Hid (IsQ _ _ _ x) := HX.out.next hb5
      obtain ⟨nA, nn, nc, rfl⟩ := hm2.form
      clear B hb5 hm HX
      go_wp2_with fail
      refine (nmul_any _ _ _ _ w5 hm5 hm2 (by have := limbs_pow (j := j) (by omega); omega) (by have := limbs_pow (j := 1) (by decide); simp at this; omega)).mono ?_
      rintro e w6 ⟨hb6, m3, rfl, hm3⟩
      have B6 := B5.next hb6
      have HX6 : Hid (IsQ _ _ _ x) := HX5.out.next hb6
      clear B5 hb6 hm5 hm2 HX5
      obtain ⟨oA, on, oc, rfl⟩ := hm3.form
      go_wp2
      go_roundw
      case rel => exact ⟨j + 1, by omega, by go_num, by rw [Nat.pow_succ]; exact hm3, B6, HX6⟩
      case measure => simp [intOf]; omega
    · obtain rfl : j = 63 := by omega
      clear hj hlt
      go_wp2_with fail
      refine (qone_any wr).mono ?_
      rintro e w5 ⟨hb5, m2, rfl, hm2⟩
      have B5 := B.next hb5
      have hm5 := hm.next hb5
      have HX5 : Hid (IsQ _ _ _ x) := HX.out.next hb5
      obtain ⟨nA, nn, nc, rfl⟩ := hm2.form
      clear B hb5 hm HX
      go_wp2_with fail
      refine (qmake_any false _ _ _ _ w5 hm5 hm2 (by have := limbs_pow (j := 63) (by decide); omega) (by have := limbs_pow (j := 0) (by decide); simp at this; omega)).mono ?_
      rintro e w6 ⟨hb6, m3, rfl, hm3⟩
      rw [← HL.out] at hm3
      obtain ⟨lb, lA, ln, lc, lA', ln', lc', rfl⟩ := hm3.form
      have B7 := (B5.next hb6).new 74 #[.bool lb, .slice lA ln lc, .slice lA' ln' lc']
      have ba := below_alloc w6 (.cells #[.bool lb, .slice lA ln lc, .slice lA' ln' lc'] 74)
      have HX7 : Hid (IsQ _ _ _ x) := (HX5.out.next hb6).next ba
      have HL7 : Hid (IsQ _ _ _ L) := hm3.next ba
      clear B5 hb6 hm5 hm2 HX5 hm3 ba HL
      obtain ⟨d0, d1, d2⟩ := bk3 B7.one
      obtain ⟨e0, e1, e2⟩ := bk3 B7.two
      go_wp2_with fail
      generalize w6.alloc (.cells #[.bool lb, .slice lA ln lc, .slice lA' ln' lc'] 74) = w7 at *
      generalize w6.heap.size = bl at *
      have C6 := Lib.hid (fun W (h : BxW w [(bx, 74, #[.bool gb, .slice gA gn gc, .slice gA' gn' gc']), (bl, 74, #[.bool lb, .slice lA ln lc, .slice lA' ln' lc'])] W) => show ((W.cell? ⟨bx, 0, none⟩ = some (.bool gb) ∧ W.cell? ⟨bx, 1, none⟩ = some (.slice gA gn gc)) ∧ W.cell? ⟨bx, 2, none⟩ = some (.slice gA' gn' gc')) ∧ ((W.cell? ⟨bl, 0, none⟩ = some (.bool lb) ∧ W.cell? ⟨bl, 1, none⟩ = some (.slice lA ln lc)) ∧ W.cell? ⟨bl, 2, none⟩ = some (.slice lA' ln' lc')) from by
        obtain ⟨d0, d1, d2⟩ := bk3 h.one
        obtain ⟨e0, e1, e2⟩ := bk3 h.two
        exact ⟨⟨⟨d0, d1⟩, d2⟩, ⟨e0, e1⟩, e2⟩)
      refine wp_region_held_drew (S := fun W => ((W.cell? ⟨bx, 0, none⟩ = some (.bool gb) ∧ W.cell? ⟨bx, 1, none⟩ = some (.slice gA gn gc)) ∧ W.cell? ⟨bx, 2, none⟩ = some (.slice gA' gn' gc')) ∧ ((W.cell? ⟨bl, 0, none⟩ = some (.bool lb) ∧ W.cell? ⟨bl, 1, none⟩ = some (.slice lA ln lc)) ∧ W.cell? ⟨bl, 2, none⟩ = some (.slice lA' ln' lc'))) (by kernel_rfl) ⟨⟨⟨d0, d1⟩, d2⟩, ⟨e0, e1⟩, e2⟩ (fun hS => ?_)
      clear d0 d1 d2 e0 e1 e2
      have B8 := B7.drew
      have HX8 : Hid (IsQ _ _ _ x) := HX7.out.drew
      have HL8 : Hid (IsQ _ _ _ L) := HL7.out.drew
      clear B7 HX7 HL7
      generalize w7.drew = w8 at *
      have WH := qwhole_any x _ w8 HX8.out (by omega)
      rw [HR1.out] at WH
      have WH := Lib.hid WH
      clear HR1
      cases r1
      · clear HR2 HR3
        refine takeA (i := 0) (v := ?_) rfl (by kernel_rfl) (by kernel_rfl) (by kernel_rfl) (fun _ _ _ h => h) (by rfl) (by assumption) ?_ ?_
        rotate_left
        · intro w hSw; (try dsimp only at hSw); go_simp <;> with_reducible rfl
        try simp only [Act.put, List.setIfInBounds_toArray, List.set_cons_zero, List.set_cons_succ]
        refine stepA (i := 1) rfl (by kernel_rfl) (fun K0 hK0 => ?_)
        go_simp
        refine WH.out.mono ?_
        rintro e w9 ⟨hb9, rfl⟩
        have B9 := B8.next hb9
        have hS9 := C6.out _ B9
        dsimp only
        refine hK0.out _ _ hS9 (fun _ => ?_)
        clear hK0 K0 hS
        try simp only [Act.put, List.setIfInBounds_toArray, List.set_cons_zero, List.set_cons_succ]
        refine takeA (i := 2) (v := ?_) rfl (by kernel_rfl) (by kernel_rfl) (by kernel_rfl) (fun _ _ _ h => h) (by rfl) (by assumption) ?_ ?_
        rotate_left
        · intro w hSw; (try dsimp only at hSw); go_simp <;> with_reducible rfl
        try simp only [Act.put, List.setIfInBounds_toArray, List.set_cons_zero, List.set_cons_succ]
        refine skipA (i := 3) rfl (by kernel_rfl) (by kernel_rfl) (by kernel_rfl) (fun _ _ _ h => h) (by rfl) (by assumption) ?_
        try simp only [Act.put, List.setIfInBounds_toArray, List.set_cons_zero, List.set_cons_succ]
        refine skipA (i := 4) rfl (by kernel_rfl) (by kernel_rfl) (by kernel_rfl) (fun _ _ _ h => h) (by rfl) (by assumption) ?_
        try simp only [Act.put, List.setIfInBounds_toArray, List.set_cons_zero, List.set_cons_succ]
        refine skipA (i := 5) rfl (by kernel_rfl) (by kernel_rfl) (by kernel_rfl) (fun _ _ _ h => h) (by rfl) (by assumption) ?_
        try simp only [Act.put, List.setIfInBounds_toArray, List.set_cons_zero, List.set_cons_succ]
        refine skipA (i := 6) rfl (by kernel_rfl) (by kernel_rfl) (by kernel_rfl) (fun _ _ _ h => h) (by rfl) (by assumption) ?_
        try simp only [Act.put, List.setIfInBounds_toArray, List.set_cons_zero, List.set_cons_succ]
        refine skipA (i := 7) rfl (by kernel_rfl) (by kernel_rfl) (by kernel_rfl) (fun _ _ _ h => h) (by rfl) (by assumption) ?_
        try simp only [Act.put, List.setIfInBounds_toArray, List.set_cons_zero, List.set_cons_succ]
        refine takeA (i := 8) (v := ?_) rfl (by kernel_rfl) (by kernel_rfl) (by kernel_rfl) (fun _ _ _ h => h) (by rfl) (by assumption) ?_ ?_
        rotate_left
        · intro w hSw; (try dsimp only at hSw); go_simp <;> with_reducible rfl
        try simp only [Act.put, List.setIfInBounds_toArray, List.set_cons_zero, List.set_cons_succ]
        refine takeA (i := 9) (v := ?_) rfl (by kernel_rfl) (by kernel_rfl) (by kernel_rfl) (fun _ _ _ h => h) (by rfl) (by assumption) ?_ ?_
        rotate_left
        · intro w hSw; (try dsimp only at hSw); go_simp <;> with_reducible rfl
        try simp only [Act.put, List.setIfInBounds_toArray, List.set_cons_zero, List.set_cons_succ]
        refine skipA (i := 10) rfl (by kernel_rfl) (by kernel_rfl) (by kernel_rfl) (fun _ _ _ h => h) (by rfl) (by assumption) ?_
        try simp only [Act.put, List.setIfInBounds_toArray, List.set_cons_zero, List.set_cons_succ]
        refine skipA (i := 11) rfl (by kernel_rfl) (by kernel_rfl) (by kernel_rfl) (fun _ _ _ h => h) (by rfl) (by assumption) ?_
        try simp only [Act.put, List.setIfInBounds_toArray, List.set_cons_zero, List.set_cons_succ]
        refine skipA (i := 12) rfl (by kernel_rfl) (by kernel_rfl) (by kernel_rfl) (fun _ _ _ h => h) (by rfl) (by assumption) ?_
        try simp only [Act.put, List.setIfInBounds_toArray, List.set_cons_zero, List.set_cons_succ]
        refine skipA (i := 13) rfl (by kernel_rfl) (by kernel_rfl) (by kernel_rfl) (fun _ _ _ h => h) (by rfl) (by assumption) ?_
        try simp only [Act.put, List.setIfInBounds_toArray, List.set_cons_zero, List.set_cons_succ]
        refine takeA (i := 14) (v := ?_) rfl (by kernel_rfl) (by kernel_rfl) (by kernel_rfl) (fun _ _ _ h => h) (by rfl) (by assumption) ?_ ?_
        rotate_left
        · intro w hSw; (try dsimp only at hSw); go_simp <;> with_reducible rfl
        try simp only [Act.put, List.setIfInBounds_toArray, List.set_cons_zero, List.set_cons_succ]
        refine takeA (i := 15) (v := ?_) rfl (by kernel_rfl) (by kernel_rfl) (by kernel_rfl) (fun _ _ _ h => h) (by rfl) (by assumption) ?_ ?_
        rotate_left
        · intro w hSw; (try dsimp only at hSw); go_simp <;> with_reducible rfl
        try simp only [Act.put, List.setIfInBounds_toArray, List.set_cons_zero, List.set_cons_succ]
        refine wpAnyH_done (by kernel_rfl) ?_ _
        go_wp2
        go_ret
        exact ⟨B9.below, rfl⟩
      · skip
        refine takeA (i := 0) (v := ?_) rfl (by kernel_rfl) (by kernel_rfl) (by kernel_rfl) (fun _ _ _ h => h) (by rfl) (by assumption) ?_ ?_
        rotate_left
        · intro w hSw; (try dsimp only at hSw); go_simp <;> with_reducible rfl
        try simp only [Act.put, List.setIfInBounds_toArray, List.set_cons_zero, List.set_cons_succ]
        refine stepA (i := 1) rfl (by kernel_rfl) (fun K0 hK0 => ?_)
        go_simp
        refine WH.out.mono ?_
        rintro e w9 ⟨hb9, rfl⟩
        have B9 := B8.next hb9
        have hS9 := C6.out _ B9
        have HX9 : Hid (IsQ _ _ _ x) := HX8.out.next hb9
        have HL9 : Hid (IsQ _ _ _ L) := HL8.out.next hb9
        dsimp only
        refine hK0.out _ _ hS9 (fun _ => ?_)
        clear hK0 K0 hS B8 hb9 HX8 HL8 WH
        try simp only [Act.put, List.setIfInBounds_toArray, List.set_cons_zero, List.set_cons_succ]
        refine takeA (i := 2) (v := ?_) rfl (by kernel_rfl) (by kernel_rfl) (by kernel_rfl) (fun _ _ _ h => h) (by rfl) (by assumption) ?_ ?_
        rotate_left
        · intro w hSw; (try dsimp only at hSw); go_simp <;> with_reducible rfl
        try simp only [Act.put, List.setIfInBounds_toArray, List.set_cons_zero, List.set_cons_succ]
        refine takeA (i := 3) (v := ?_) rfl (by kernel_rfl) (by kernel_rfl) (by kernel_rfl) (fun _ _ _ h => h) (by rfl) (by assumption) ?_ ?_
        rotate_left
        · intro w hSw; (try dsimp only at hSw); go_simp <;> with_reducible rfl
        try simp only [Act.put, List.setIfInBounds_toArray, List.set_cons_zero, List.set_cons_succ]
        refine takeA (i := 4) (v := ?_) rfl (by kernel_rfl) (by kernel_rfl) (by kernel_rfl) (fun _ _ _ h => h) (by rfl) (by assumption) ?_ ?_
        rotate_left
        · intro w hSw; (try dsimp only at hSw); go_simp <;> with_reducible rfl
        try simp only [Act.put, List.setIfInBounds_toArray, List.set_cons_zero, List.set_cons_succ]
        clear hS9
        refine stepA (i := 5) rfl (by kernel_rfl) (fun K0 hK0 => ?_)
        go_simp
        refine (qopp_any L _ w9 HL9.out (by omega)).mono ?_
        rintro e w10 ⟨hb10, m4, rfl, hm4⟩
        obtain ⟨ob, oA, on, oc, oA', on', oc', rfl⟩ := hm4.form
        have B10 := B9.next hb10
        have hS10 := C6.out _ B10
        have HX10 : Hid (IsQ _ _ _ x) := HX9.out.next hb10
        have HL10 : Hid (IsQ _ _ _ L) := HL9.out.next hb10
        dsimp only
        refine hK0.out _ _ hS10 (fun _ => ?_)
        clear hK0 K0 B9 hb10 HX9 HL9 hS10
        try simp only [Act.put, List.setIfInBounds_toArray, List.set_cons_zero, List.set_cons_succ]
        refine stepA (i := 6) rfl (by kernel_rfl) (fun K0 hK0 => ?_)
        go_simp
        refine (qcmp_any x (-L) _ _ w10 HX10.out hm4 (by omega) (by omega)).mono ?_
        rintro e w11 ⟨hb11, rfl⟩
        have B11 := B10.next hb11
        have hS11 := C6.out _ B11
        have HX11 : Hid (IsQ _ _ _ x) := HX10.out.next hb11
        have HL11 : Hid (IsQ _ _ _ L) := HL10.out.next hb11
        dsimp only
        refine hK0.out _ _ hS11 (fun _ => ?_)
        clear hK0 K0 B10 hb11 HX10 HL10 hm4
        try simp only [Act.put, List.setIfInBounds_toArray, List.set_cons_zero, List.set_cons_succ]
        have HR2' := HR2.out
        clear HR2
        generalize cmpQ x (-L) = c1 at *
        cases r2
        · clear HR3
          refine takeA (i := 7) (v := .bool false) rfl (by kernel_rfl) (by kernel_rfl) (by kernel_rfl) (fun _ _ _ h => h) (by rfl) (by assumption) ?_ ?_
          · intro w hSw; (try dsimp only at hSw); go_simp <;> first | with_reducible rfl | simp [*]
          try simp only [Act.put, List.setIfInBounds_toArray, List.set_cons_zero, List.set_cons_succ]
          refine takeA (i := 8) (v := ?_) rfl (by kernel_rfl) (by kernel_rfl) (by kernel_rfl) (fun _ _ _ h => h) (by rfl) (by assumption) ?_ ?_
          rotate_left
          · intro w hSw; (try dsimp only at hSw); go_simp <;> with_reducible rfl
          try simp only [Act.put, List.setIfInBounds_toArray, List.set_cons_zero, List.set_cons_succ]
          refine takeA (i := 9) (v := ?_) rfl (by kernel_rfl) (by kernel_rfl) (by kernel_rfl) (fun _ _ _ h => h) (by rfl) (by assumption) ?_ ?_
          rotate_left
          · intro w hSw; (try dsimp only at hSw); go_simp <;> with_reducible rfl
          try simp only [Act.put, List.setIfInBounds_toArray, List.set_cons_zero, List.set_cons_succ]
          refine skipA (i := 10) rfl (by kernel_rfl) (by kernel_rfl) (by kernel_rfl) (fun _ _ _ h => h) (by rfl) (by assumption) ?_
          try simp only [Act.put, List.setIfInBounds_toArray, List.set_cons_zero, List.set_cons_succ]
          refine skipA (i := 11) rfl (by kernel_rfl) (by kernel_rfl) (by kernel_rfl) (fun _ _ _ h => h) (by rfl) (by assumption) ?_
          try simp only [Act.put, List.setIfInBounds_toArray, List.set_cons_zero, List.set_cons_succ]
          refine skipA (i := 12) rfl (by kernel_rfl) (by kernel_rfl) (by kernel_rfl) (fun _ _ _ h => h) (by rfl) (by assumption) ?_
          try simp only [Act.put, List.setIfInBounds_toArray, List.set_cons_zero, List.set_cons_succ]
          refine skipA (i := 13) rfl (by kernel_rfl) (by kernel_rfl) (by kernel_rfl) (fun _ _ _ h => h) (by rfl) (by assumption) ?_
          try simp only [Act.put, List.setIfInBounds_toArray, List.set_cons_zero, List.set_cons_succ]
          refine takeA (i := 14) (v := ?_) rfl (by kernel_rfl) (by kernel_rfl) (by kernel_rfl) (fun _ _ _ h => h) (by rfl) (by assumption) ?_ ?_
          rotate_left
          · intro w hSw; (try dsimp only at hSw); go_simp <;> with_reducible rfl
          try simp only [Act.put, List.setIfInBounds_toArray, List.set_cons_zero, List.set_cons_succ]
          refine takeA (i := 15) (v := ?_) rfl (by kernel_rfl) (by kernel_rfl) (by kernel_rfl) (fun _ _ _ h => h) (by rfl) (by assumption) ?_ ?_
          rotate_left
          · intro w hSw; (try dsimp only at hSw); go_simp <;> with_reducible rfl
          try simp only [Act.put, List.setIfInBounds_toArray, List.set_cons_zero, List.set_cons_succ]
          refine wpAnyH_done (by kernel_rfl) ?_ _
          go_wp2
          go_ret
          exact ⟨B11.below, rfl⟩
        · skip
          refine takeA (i := 7) (v := .bool true) rfl (by kernel_rfl) (by kernel_rfl) (by kernel_rfl) (fun _ _ _ h => h) (by rfl) (by assumption) ?_ ?_
          · intro w hSw; (try dsimp only at hSw); go_simp <;> first | with_reducible rfl | simp [*]
          try simp only [Act.put, List.setIfInBounds_toArray, List.set_cons_zero, List.set_cons_succ]
          refine takeA (i := 8) (v := ?_) rfl (by kernel_rfl) (by kernel_rfl) (by kernel_rfl) (fun _ _ _ h => h) (by rfl) (by assumption) ?_ ?_
          rotate_left
          · intro w hSw; (try dsimp only at hSw); go_simp <;> with_reducible rfl
          try simp only [Act.put, List.setIfInBounds_toArray, List.set_cons_zero, List.set_cons_succ]
          refine takeA (i := 9) (v := ?_) rfl (by kernel_rfl) (by kernel_rfl) (by kernel_rfl) (fun _ _ _ h => h) (by rfl) (by assumption) ?_ ?_
          rotate_left
          · intro w hSw; (try dsimp only at hSw); go_simp <;> with_reducible rfl
          try simp only [Act.put, List.setIfInBounds_toArray, List.set_cons_zero, List.set_cons_succ]
          refine takeA (i := 10) (v := ?_) rfl (by kernel_rfl) (by kernel_rfl) (by kernel_rfl) (fun _ _ _ h => h) (by rfl) (by assumption) ?_ ?_
          rotate_left
          · intro w hSw; (try dsimp only at hSw); go_simp <;> with_reducible rfl
          try simp only [Act.put, List.setIfInBounds_toArray, List.set_cons_zero, List.set_cons_succ]
          refine takeA (i := 11) (v := ?_) rfl (by kernel_rfl) (by kernel_rfl) (by kernel_rfl) (fun _ _ _ h => h) (by rfl) (by assumption) ?_ ?_
          rotate_left
          · intro w hSw; (try dsimp only at hSw); go_simp <;> with_reducible rfl
          try simp only [Act.put, List.setIfInBounds_toArray, List.set_cons_zero, List.set_cons_succ]
          clear hS11
          refine stepA (i := 12) rfl (by kernel_rfl) (fun K0 hK0 => ?_)
          go_simp
          refine (qcmp_any x L _ _ w11 HX11.out HL11.out (by omega) (by omega)).mono ?_
          rintro e w12 ⟨hb12, rfl⟩
          have B12 := B11.next hb12
          have hS12 := C6.out _ B12
          dsimp only
          refine hK0.out _ _ hS12 (fun _ => ?_)
          clear hK0 K0 B11 hb12 HX11 HL11
          try simp only [Act.put, List.setIfInBounds_toArray, List.set_cons_zero, List.set_cons_succ]
          refine takeA (i := 13) (v := ?_) rfl (by kernel_rfl) (by kernel_rfl) (by kernel_rfl) (fun _ _ _ h => h) (by rfl) (by assumption) ?_ ?_
          rotate_left
          · intro w hSw; (try dsimp only at hSw); go_simp <;> with_reducible rfl
          try simp only [Act.put, List.setIfInBounds_toArray, List.set_cons_zero, List.set_cons_succ]
          refine takeA (i := 14) (v := ?_) rfl (by kernel_rfl) (by kernel_rfl) (by kernel_rfl) (fun _ _ _ h => h) (by rfl) (by assumption) ?_ ?_
          rotate_left
          · intro w hSw; (try dsimp only at hSw); go_simp <;> with_reducible rfl
          try simp only [Act.put, List.setIfInBounds_toArray, List.set_cons_zero, List.set_cons_succ]
          refine takeA (i := 15) (v := ?_) rfl (by kernel_rfl) (by kernel_rfl) (by kernel_rfl) (fun _ _ _ h => h) (by rfl) (by assumption) ?_ ?_
          rotate_left
          · intro w hSw; (try dsimp only at hSw); go_simp <;> with_reducible rfl
          try simp only [Act.put, List.setIfInBounds_toArray, List.set_cons_zero, List.set_cons_succ]
          refine wpAnyH_done (by kernel_rfl) ?_ _
          go_wp2
          go_ret
          exact ⟨B12.below, by rw [← HR3.out]; rfl⟩
theorem rfits_any (k : Int) (s : ByteArray) (w : World) (hs : s.size ≤ 4000000) :
    Calls Tryz.prog 48 #[.int .i64 k, .string s] w fun e w' => Below w.heap.size w w' ∧ e = .returned (.bool (fitK k s)) := by
  by_cases h : typB k = true ∧ s.toList.isEmpty = false ∧ numB s = true ∧ k ≠ 5
  · obtain ⟨h1, h2, h3, h5⟩ := h
    rcases typB_true h1 with rfl | rfl | rfl | rfl | rfl
    · exact rfits_1 s w hs h2 h3
    · exact rfits_2 s w hs h2 h3
    · exact rfits_3 s w hs h2 h3
    · exact rfits_4 s w hs h2 h3
    · exact absurd rfl h5
  · exact rfits_easy k s w hs h
end Go.Proofs.YtpkhgdnkkdhlcaaGreatDoor

namespace Go.Proofs.YtpkhgdnkkdhlcaaGreatDoor
open Go.RowKit Ar

/-- The first error of values. -/
noncomputable def accE (k : Int) (L : List ByteArray) : Int := if typB k = true then (if 4096 < L.length then 4 else if L.all (fitK k) = true then 0 else 41) else 2
theorem accE_arg {k : Int} (L : List ByteArray) (h : typB k = false) : accE k L = 2 := by unfold accE; rw [if_neg (by rw [h]; decide)]
theorem accE_lim {k : Int} {L : List ByteArray} (h : typB k = true) (h4 : 4096 < L.length) : accE k L = 4 := by unfold accE; rw [if_pos h, if_pos h4]
theorem accE_bad {k : Int} {L : List ByteArray} (h : typB k = true) (h4 : ¬ 4096 < L.length) (ha : L.all (fitK k) = false) : accE k L = 41 := by unfold accE; rw [if_pos h, if_neg h4, if_neg (by rw [ha]; decide)]
theorem accE_ok {k : Int} {L : List ByteArray} (h : typB k = true) (h4 : ¬ 4096 < L.length) (ha : L.all (fitK k) = true) : accE k L = 0 := by unfold accE; rw [if_pos h, if_neg h4, if_pos ha]
theorem accE_zero {k : Int} {L : List ByteArray} (h : accE k L = 0) : typB k = true ∧ L.length ≤ 4096 ∧ L.all (fitK k) = true := by
  cases ht : typB k with
  | false => rw [accE_arg L ht] at h; cases h
  | true =>
    by_cases h4 : 4096 < L.length
    · rw [accE_lim ht h4] at h; cases h
    · cases ha : L.all (fitK k) with
      | false => rw [accE_bad ht h4 ha] at h; cases h
      | true => exact ⟨rfl, by omega, rfl⟩
theorem any_not (p : ByteArray → Bool) : ∀ L : List ByteArray, L.any (fun s => !p s) = !(L.all p)
  | [] => rfl
  | x :: L => by rw [List.any_cons, List.all_cons, any_not p L]; cases p x <;> simp

set_option maxRecDepth 100000 in
set_option maxHeartbeats 800000 in
theorem accepted1_any (k : Int) (s : ByteArray) (b : Nat) (w : World) (hs : s.size ≤ 4000000) (he : Env w) (hg : EnvG w) (hc : w.cell? ⟨b, 0, none⟩ = some (.int .i64 k)) :
    Calls Tryz.prog 68 #[.string s, .pointer (some ⟨b, 0, none⟩)] w fun e w' => Below w.heap.size w w' ∧ e = .returned (.bool (!fitK k s)) := by
  have FC := Lib.hid (pfits_any k s w hs he hg)
  clear he hg
  go_enter Tryz.func68, Tryz.ntmps68
  go_wp2_with fail
  refine FC.out.mono ?_
  rintro e w1 ⟨hb1, rfl⟩
  go_wp2
  go_ret
  exact ⟨hb1, rfl⟩
set_option maxRecDepth 100000 in
set_option maxHeartbeats 1600000 in
theorem accepted_any (k : Int) (A : Option Addr) (c : Nat) (L : List ByteArray) (w : World) (h : Rd w w.heap.size A (strs L)) (hL : L.length ≤ 1000000) (hs : ∀ s ∈ L, s.size ≤ 4000000) (he : Env w) (hg : EnvG w) :
    Calls Tryz.prog 32 #[.int .i64 k, .slice A L.length c] w fun e w' => Below w.heap.size w w' ∧ e = .returned (.int .i64 (accE k L)) := by
  have TY := Lib.hid (ptyped_any k)
  have B0 : BxW w [(w.heap.size, 3, #[.int .i64 k])] (w.alloc (.cells #[.int .i64 k] 3)) := (BxW.nil w).new _ _
  have d0 : (w.alloc (.cells #[.int .i64 k] 3)).cell? ⟨w.heap.size, 0, none⟩ = some (.int .i64 k) := B0.one.cell 0
  have CF := Lib.hid (containsfunc_any (.pointer (some ⟨w.heap.size, 0, none⟩)) A c L (fun s => !fitK k s) (w.alloc (.cells #[.int .i64 k] 3)) (by omega) ((h.below B0.below).more B0.below.size) (fun W s hm hW =>
    accepted1_any k s w.heap.size W (hs s hm) ((he.next B0.below).next hW) ((hg.next B0.below).next hW) (((B0.next hW).one).cell 0)))
  rw [any_not] at CF
  clear he hg h hs
  by_cases ht : typB k = true
  rotate_left
  · have ht' : typB k = false := by simpa using ht
    rw [accE_arg L ht']
    rw [ht'] at TY
    clear ht ht' CF
    go_enter Tryz.func32, Tryz.ntmps32
    go_wp2_with fail
    refine (TY.out _).mono ?_
    rintro e w1 ⟨rfl, rfl⟩
    go_wp2
    go_ret
    exact ⟨B0.below, rfl⟩
  rw [ht] at TY
  by_cases h4 : 4096 < L.length
  · rw [accE_lim ht h4]
    have h4' : (4096 : Int) < (L.length : Int) := by omega
    clear ht h4 CF
    go_enter Tryz.func32, Tryz.ntmps32
    go_wp2_with fail
    refine (TY.out _).mono ?_
    rintro e w1 ⟨rfl, rfl⟩
    go_wp2
    go_ret
    exact ⟨B0.below, rfl⟩
  have h4' : ¬ (4096 : Int) < (L.length : Int) := by omega
  cases ha : L.all (fitK k)
  · rw [accE_bad ht h4 ha]
    rw [ha] at CF
    clear ht h4 ha
    go_enter Tryz.func32, Tryz.ntmps32
    go_wp2_with fail
    refine (TY.out _).mono ?_
    rintro e w1 ⟨rfl, rfl⟩
    go_wp2_with fail
    refine CF.out.mono ?_
    rintro e w1 ⟨hb1, rfl⟩
    go_wp2
    go_ret
    exact ⟨(B0.next hb1).below, rfl⟩
  · rw [accE_ok ht h4 ha]
    rw [ha] at CF
    clear ht h4 ha
    go_enter Tryz.func32, Tryz.ntmps32
    go_wp2_with fail
    refine (TY.out _).mono ?_
    rintro e w1 ⟨rfl, rfl⟩
    go_wp2_with fail
    refine CF.out.mono ?_
    rintro e w1 ⟨hb1, rfl⟩
    go_wp2
    go_ret
    exact ⟨(B0.next hb1).below, rfl⟩

set_option maxRecDepth 100000 in
set_option maxHeartbeats 1600000 in
theorem unwell_any (k : Int) (A : Option Addr) (c : Nat) (L : List ByteArray) (w : World) (h : Rd w w.heap.size A (strs L)) (hL : L.length ≤ 1000000) (hs : ∀ s ∈ L, s.size ≤ 4000000) :
    Calls Tryz.prog 34 #[.int .i64 k, .slice A L.length c] w fun e w' => Below w.heap.size w w' ∧ e = .returned (.int .i64 (accE k L)) := by
  have TY := Lib.hid (rtyped_any k)
  by_cases ht : typB k = true
  rotate_left
  · have ht' : typB k = false := by simpa using ht
    rw [accE_arg L ht']
    rw [ht'] at TY
    clear ht ht'
    go_enter Tryz.func34, Tryz.ntmps34
    go_wp2_with fail
    refine (TY.out _).mono ?_
    rintro e w1 ⟨rfl, rfl⟩
    go_wp2
    go_ret
    exact ⟨Below.refl _ _, rfl⟩
  rw [ht] at TY
  by_cases h4 : 4096 < L.length
  · rw [accE_lim ht h4]
    have h4' : (4096 : Int) < (L.length : Int) := by omega
    clear ht h4
    go_enter Tryz.func34, Tryz.ntmps34
    go_wp2_with fail
    refine (TY.out _).mono ?_
    rintro e w1 ⟨rfl, rfl⟩
    go_wp2
    go_ret
    exact ⟨Below.refl _ _, rfl⟩
  have h4' : ¬ (4096 : Int) < (L.length : Int) := by omega
  have FT := Lib.hid (fun s (hm : s ∈ L) W => rfits_any k s W (hs s hm))
  obtain ⟨R, hR⟩ : ∃ R, R = accE k L := ⟨_, rfl⟩
  rw [← hR]
  have HB := Lib.hid (fun (s : ByteArray) (hm : s ∈ L) (hb : fitK k s = false) => show R = 41 from by
    rw [hR]
    refine accE_bad ht h4 ?_
    rw [List.all_eq_false]
    exact ⟨s, hm, by rw [hb]; exact Bool.false_ne_true⟩)
  have HO := Lib.hid (fun (ha : (L.take L.length).all (fitK k) = true) => show R = 0 from by
    rw [hR]
    rw [List.take_length] at ha
    exact accE_ok ht h4 ha)
  clear ht h4 hR hs
  go_enter Tryz.func34, Tryz.ntmps34
  go_wp2_with fail
  refine (TY.out _).mono ?_
  rintro e w1 ⟨rfl, rfl⟩
  go_wp2_with fail
  go_loopw [5] (fun i wr => ∃ j : Nat, j ≤ L.length ∧ i = .int .i64 j ∧ Hid ((L.take j).all (fitK k) = true) ∧ Below w.heap.size w wr) (fun i _ => L.length - (intOf i).toNat)
  case atStart => exact ⟨0, Nat.zero_le _, rfl, rfl, Below.refl _ _⟩
  case round =>
    obtain ⟨j, hj, rfl, HN, hB⟩ := hrel
    by_cases hlt : j < L.length
    · obtain ⟨ad, rfl, hab, hcell⟩ := (h.below hB).str hlt
      have hmem : L[j] ∈ L := List.getElem_mem _
      have HT : Hid (fitK k L[j] = true → (L.take (j + 1)).all (fitK k) = true) := fun e => by
        rw [List.take_succ_eq_append_getElem hlt, List.all_append, HN.out]; simp [e]
      have HF := Lib.hid (HB.out L[j] hmem)
      have FJ := Lib.hid (FT.out L[j] hmem)
      have b1 : (0 : Int) ≤ (j : Int) := by omega
      have b2 : (j : Int) < (L.length : Int) := by omega
      clear hmem FT HB HO HN
      generalize L[j] = s at *
      generalize fitK k s = q at *
      go_wp2_with fail
      refine (FJ.out wr).mono ?_
      rintro e w1 ⟨hb1, rfl⟩
      have hB1 := hB.trans (hb1.mono hB.size)
      cases q
      · have hRR := HF.out rfl
        subst hRR
        go_wp2
        go_ret
        exact ⟨hB1, rfl⟩
      · have HT1 := Lib.hid (HT.out rfl)
        clear HT HF
        go_wp2
        go_roundw
        case rel => exact ⟨j + 1, by omega, by go_num, HT1.out, hB1⟩
        case measure => simp [intOf]; omega
    · obtain rfl : j = L.length := by omega
      have hRR := HO.out HN.out
      subst hRR
      go_wp2
      go_ret
      exact ⟨hB, rfl⟩
end Go.Proofs.YtpkhgdnkkdhlcaaGreatDoor
