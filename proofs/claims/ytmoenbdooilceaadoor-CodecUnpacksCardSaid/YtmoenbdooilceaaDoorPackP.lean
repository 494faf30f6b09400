/-
  Walk: codec.Unpack.
-/
import Derived.Test.YtmoenbdooilceaaDoorPackN
import Derived.Test.YtmoenbdooilceaaDoorPackK
namespace Go.Proofs.YtmoenbdooilceaaDoor
open Go.RowKit By

/-- What codec.unpacked answers. -/
theorem unpacked_any (A : Option Addr) (c n : Nat) (b : List Nat) (w : World) (h1 : 1 ≤ n) (h8 : n ≤ 8) (hl : Bytes b) (hc : b.length ≤ c) (hm : b.length ≤ 1048576) (h : Rd w w.heap.size A (ints .u8 b)) :
    Calls Tryd.prog 52 #[.slice A b.length c, .int .i64 n] w fun e w' => Below w.heap.size w w' ∧
      ((ukOk b n ∧ ∃ v, e = .returned (.tuple #[v, .bool true]) ∧ IsL w' w'.heap.size .u8 v (ukB b n)) ∨ (¬ ukOk b n ∧ e = .returned (.tuple #[.slice none 0 0, .bool false]))) := by
  unfold ukOk
  by_cases hs : b.length < 4
  · exact (unpacked_short A c n b w hs).mono fun e w' h => ⟨h.1 ▸ Below.refl _ _, .inr ⟨fun x => by omega, h.2⟩⟩
  · by_cases h0 : ukN b = 0
    · refine (unpacked_none A c n b w hl (by omega) hc hm h0 h).mono ?_
      rintro e w' ⟨hb, v, rfl, hv⟩
      have e : ukB b n = b.drop 4 := by unfold ukB ukR; rw [h0, if_pos rfl]; rfl
      exact ⟨hb, .inl ⟨⟨by omega, .inl h0⟩, v, rfl, by rw [e]; exact hv⟩⟩
    · by_cases hbad : n + 1 ≤ (b.drop 4).length ∧ ukN b ≤ 1048576 / n ∧ ukW b n ≤ 64
      · by_cases hg : ukS b n ≤ (ukF b n).length
        · refine (unpacked_good A c n b w h1 h8 hl hc hm h0 hbad.1 hbad.2.1 hbad.2.2 hg h).mono ?_
          rintro e w' ⟨hb, v, rfl, hv⟩
          exact ⟨hb, .inl ⟨⟨by omega, .inr ⟨hbad.1, hbad.2.1, hbad.2.2, hg⟩⟩, v, rfl, hv⟩⟩
        · refine (unpacked_far A c n b w h1 h8 hl hc hm h0 hbad.1 hbad.2.1 hbad.2.2 (by omega) h).mono ?_
          rintro e w' ⟨hb, rfl⟩
          refine ⟨hb, .inr ⟨?_, rfl⟩⟩
          rintro ⟨_, h2 | h2⟩
          · exact h0 h2
          · exact hg h2.2.2.2
      · refine (unpacked_bad A c n b w h1 h8 hl (by omega) hc hm h0 hbad h).mono ?_
        rintro e w' ⟨hb, rfl⟩
        refine ⟨hb, .inr ⟨?_, rfl⟩⟩
        rintro ⟨_, h2 | h2⟩
        · exact h0 h2
        · exact hbad ⟨h2.1, h2.2.1, h2.2.2.1⟩

/-- When a row is what Pack makes. -/
def uOk (b : List Nat) (n : Nat) : Prop := ukOk b n ∧ (ukB b n).length ≤ 1048576 ∧ packL (ukB b n) n = b
theorem ukB_bytes {b : List Nat} (hl : Bytes b) (n : Nat) : Bytes (ukB b n) := by
  unfold ukB ukR
  refine Bytes.app (jn_bytes _ _ _) ?_
  split
  · exact hl.drop _
  · exact ((hl.drop _).drop _).drop _
theorem ukB_len {b : List Nat} {n : Nat} (hm : b.length ≤ 1048576) (h1 : 1 ≤ n) (h : ukOk b n) : (ukB b n).length ≤ 2097152 := by
  unfold ukB
  rw [List.length_append, jn_len]
  have h3 : (ukR b n).length ≤ b.length := by
    unfold ukR
    split
    · rw [List.length_drop]; omega
    · unfold ukF; rw [List.length_drop, List.length_drop, List.length_drop]; omega
  have h4 : ukN b * n ≤ 1048576 := by
    rcases h.2 with h0 | h2
    · rw [h0]; omega
    · exact Nat.le_trans (Nat.mul_le_mul_right n h2.2.1) (Nat.div_mul_le_self _ _)
  omega
theorem packL_len {b : List Nat} (hl : Bytes b) {n : Nat} (h8 : n ≤ 8) (hm : b.length ≤ 1048576) : (packL b n).length ≤ 4000000000000 := by
  have hk : b.length / n ≤ 1048576 := Nat.le_trans (Nat.div_le_self _ _) hm
  have hr : (rest b n).length ≤ 1048576 := by unfold rest; rw [List.length_drop]; omega
  unfold packL
  by_cases h0 : b.length / n = 0
  · rw [h0, packB_zero, List.length_append, gb_len]; omega
  · have hW := packW_le hl h8 h0
    have := Nat.mul_le_mul hk hW
    rw [packB_pos h0]
    simp only [List.length_append, gb_len, packF_len, List.length_singleton]
    omega

set_option maxRecDepth 100000 in
set_option maxHeartbeats 1600000 in
theorem unpack_any (A : Option Addr) (c n : Nat) (b : List Nat) (w : World) (h1 : 1 ≤ n) (h8 : n ≤ 8) (hl : Bytes b) (hc : b.length ≤ c) (hm : b.length ≤ 1048576) (h : Rd w w.heap.size A (ints .u8 b)) :
    Calls Tryd.prog 29 #[.slice A b.length c, .int .i64 n] w fun e w' => Below w.heap.size w w' ∧
      ((uOk b n ∧ ∃ v, e = .returned (.tuple #[v, .int .i64 0]) ∧ IsL w' w'.heap.size .u8 v (ukB b n)) ∨ (¬ uOk b n ∧ e = .returned (.tuple #[.slice none 0 0, .int .i64 5]))) := by
  have hg : grE n b.length = 0 := by unfold grE; rw [if_neg (by omega), if_neg (by omega)]
  go_enter Tryd.func29, Tryd.ntmps29
  go_wp2_with fail
  refine (grouped_any _ _ _ _ _ (by omega)).mono ?_
  rintro e w1 ⟨rfl, rfl⟩
  rw [hg]
  clear hg
  go_wp2_with fail
  refine (unpacked_any A c n b w h1 h8 hl hc hm h).mono ?_
  rintro e w1 ⟨hb1, ⟨hok, v, rfl, hv⟩ | ⟨hno, rfl⟩⟩
  · obtain ⟨A2, c2, rfl, hc2, hr2⟩ := hv
    have hB := ukB_bytes hl n
    have hBl := Lib.hid (ukB_len hm h1 hok)
    have HOK := Lib.hid hok
    have HU : Hid (uOk b n ↔ (ukB b n).length ≤ 1048576 ∧ packL (ukB b n) n = b) := ⟨fun x => x.2, fun x => ⟨HOK.out, x⟩⟩
    clear hok
    by_cases hlen : (ukB b n).length ≤ 1048576
    · go_wp2_with fail
      refine (pack_any A2 c2 n (ukB b n) w1 h1 h8 hB hc2 hlen hr2).mono ?_
      rintro e w2 ⟨hb2, v3, rfl, hv3⟩
      obtain ⟨A3, c3, rfl, hc3, hr3⟩ := hv3
      have hr2' := hr2.below hb2
      have hrb := (h.below (hb1.trans (hb2.mono hb1.size))).more (Nat.le_trans hb1.size hb2.size)
      have hL3 : (packL (ukB b n) n).length ≤ 4000000000000 := packL_len hB h8 hlen
      go_wp2_with fail
      refine (equal_any A3 A c3 c (packL (ukB b n) n).length b.length (packL (ukB b n) n) b w2 rfl rfl hL3 (by omega) hr3 hrb).mono ?_
      rintro e w3 ⟨hb3, rfl⟩
      have HB3 : Hid (Below w.heap.size w w3) := hb1.trans ((hb2.trans (hb3.mono hb2.size)).mono hb1.size)
      have HV : Hid (IsL w3 w3.heap.size .u8 (.slice A2 (ukB b n).length c2) (ukB b n)) := ⟨A2, c2, rfl, hc2, (hr2'.below (hb3.mono hb2.size)).more (Nat.le_trans hb2.size hb3.size)⟩
      by_cases heq : packL (ukB b n) n = b
      · have hd : decide (packL (ukB b n) n = b) = true := decide_eq_true heq
        rw [hd]
        have HE : Hid (uOk b n) := HU.out.2 ⟨hlen, heq⟩
        clear heq hd
        go_wp2
        go_ret2
        exact ⟨HB3.out, .inl ⟨HE.out, _, rfl, HV.out⟩⟩
      · have hd : decide (packL (ukB b n) n = b) = false := decide_eq_false heq
        rw [hd]
        have HE : Hid (¬ uOk b n) := fun x => heq (HU.out.1 x).2
        clear heq hd
        go_wp2
        go_ret2
        exact ⟨HB3.out, .inr ⟨HE.out, rfl⟩⟩
    · have HE : Hid (¬ uOk b n) := fun x => hlen (HU.out.1 x).1
      have hg2 : grE n (ukB b n).length = 4 := by unfold grE; rw [if_neg (by omega), if_pos (by omega)]
      go_wp2_with fail
      refine (pack_err A2 (ukB b n).length c2 n 4 w1 hg2 (.inr rfl) (by have := hBl.out; omega)).mono ?_
      rintro e w2 ⟨rfl, rfl⟩
      clear hg2
      go_wp2
      go_ret2
      exact ⟨hb1, .inr ⟨HE.out, rfl⟩⟩
  · have HE : Hid (¬ uOk b n) := fun x => hno x.1
    clear hno
    go_wp2
    go_ret2
    exact ⟨hb1, .inr ⟨HE.out, rfl⟩⟩
end Go.Proofs.YtmoenbdooilceaaDoor
