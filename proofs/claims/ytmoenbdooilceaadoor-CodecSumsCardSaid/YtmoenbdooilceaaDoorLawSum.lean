/-
  The walk of the law CodecSums.
-/
import Derived.Test.YtmoenbdooilceaaDoorSumB
import Derived.Test.YtmoenbdooilceaaDoorLawDelta
import Derived.Test.YtmoenbdooilceaaDoorPutA
namespace Go.Proofs.YtmoenbdooilceaaDoor
open Go.RowKit By

theorem cv_eq (a b : BitVec 32) : (((a.toNat : Nat) : Int) == ((b.toNat : Nat) : Int)) = decide (a = b) := by
  rw [Bool.eq_iff_iff, beq_iff_eq, decide_eq_true_eq]
  constructor
  · intro h; exact BitVec.eq_of_toNat_eq (by omega)
  · rintro rfl; rfl

/-- Where the law turns a byte. -/
theorem at_mod (a : Int) {n : Nat} (h0 : 0 < n) (hn : n ≤ 2000) : ∃ k : Nat, wrap64 ((IntKind.u64.wrap a).tmod (n : Int)) = (k : Int) ∧ k < n := by
  have h1 : 0 ≤ IntKind.u64.wrap a := Int.emod_nonneg _ (by decide)
  obtain ⟨u, hu⟩ := Int.eq_ofNat_of_zero_le h1
  refine ⟨u % n, ?_, Nat.mod_lt _ h0⟩
  have h2 := Nat.mod_lt u h0
  rw [hu, Int.tmod_eq_emod_of_nonneg (by omega), ← Int.natCast_emod]
  exact IntWalk.wrap64_in _ (by omega)
theorem xor_same {x y : Nat} (h : x ^^^ y = x) : y = 0 := by
  have := congrArg (x ^^^ ·) h
  simpa [← Nat.xor_assoc] using this
theorem bytes_set {l : List Nat} (h : Bytes l) (k : Nat) {x : Nat} (hx : x < 256) : Bytes (l.set k x) := by
  intro z hz
  rcases List.mem_or_eq_of_mem_set hz with h1 | rfl
  · exact h z h1
  · exact hx

set_option maxRecDepth 100000 in
set_option maxHeartbeats 1600000 in
theorem codecSums_walk (A : Option Addr) (m c : Nat) (at_ : Int) (y : Nat) (l : List Nat) (w : World) (hn : l.length = m) (hl : Bytes l) (hc : m ≤ c) (hy : y < 256) (h : Rd w w.heap.size A (ints .u8 l)) (he : Env w) :
    Calls Tryd.prog 3 #[.slice A m c, .int .i64 at_, .int .u8 y] w fun e w' => Below w.heap.size w w' ∧ e = .returned (.bool true) := by

  obtain ⟨i0, hi0, hz0, hz1, hz2⟩ := info_parts Tryd.u8_info
  by_cases hbig : 2000 < m
  · go_enter Tryd.func3, Tryd.ntmps3
    go_wp2_with fail
    refine (sane_any _ he).mono ?_
    rintro e w1 ⟨hb1, rfl⟩
    go_wp2
    go_ret
    exact ⟨hb1, rfl⟩
  · subst hn
    go_enter Tryd.func3, Tryd.ntmps3
    go_wp2_with fail
    refine (checksum_any A c l _ hl (by omega) h).mono ?_
    rintro e w1 ⟨hb1, rfl⟩
    have hA1 := drest h hb1
    go_wp2_with fail
    refine (rchecksum_any A c l _ hl (by omega) hA1).mono ?_
    rintro e w5 ⟨rfl, rfl⟩
    unfold cv
    go_wp2_with fail
    refine (sane_any _ (he.next hb1)).mono ?_
    rintro e w5 ⟨hb5, rfl⟩
    have hB5 := hb1.trans (hb5.mono hb1.size)
    by_cases h0 : l.length = 0
    · go_wp2
      go_ret
      exact ⟨hB5, rfl⟩
    · by_cases hy0 : y = 0
      · subst hy0
        go_wp2
        go_ret
        exact ⟨hB5, rfl⟩
      · have e1 : ((l.length : Int) == 0) = false := by rw [beq_eq_false_iff_ne]; omega
        have e2 : ((y : Int) == 0) = false := by rw [beq_eq_false_iff_ne]; omega
        have hA5 := drest h hB5
        obtain ⟨k, hk, hkl⟩ := at_mod at_ (show 0 < l.length by omega) (by omega)
        have hx := hl.at_ k
        have hX := xor_u8 hx hy
        have HC : Hid (Crc.sumB (l.set k (l.getD k 0 ^^^ y)) ≠ Crc.sumB l) := Crc.sum_changed hkl hx (Nat.xor_lt_two_pow (n := 8) hx hy) (fun e => hy0 (xor_same e))
        have HS : Hid (Bytes (l.set k (l.getD k 0 ^^^ y))) := bytes_set hl k (Nat.xor_lt_two_pow (n := 8) hx hy)
        have k1 : (k : Int) < l.length := by omega
        go_wp2_with (at_builtin; refine wpL_append _ rfl (.tmp 31) (.tmp 32) _ rfl w5.heap.size 5 i0 _ 1 1 Tryd.underlying22 hi0 hz0 hz1 hz2 rfl (by omega) _ 0 [] rfl (World.ownsRow_nil _ _ _ _) A l.length c (ints .u8 l) rfl (by rw [ints_length, Nat.mul_one]) (hA5) (ints_one _ _) (by unfold maxLen; omega) (by omega) (by simp) ?_; intro v1 w1 hown1 hg1 hat1; obtain ⟨g, cap, rfl, hg, hcap, hmx, hrow⟩ := Row.of_own hown1 (by omega); have hB1 := below_app (v := .slice none 0 0) (base := w5.heap.size) (e := 5) (size := 1) (n := 0) (xs := []) hB5 hg1 hB5.size (World.ownsRow_nil _ _ _ _) hB5.size; clear hg1 hat1 hown1; rw [Nat.zero_add] at hcap; have hcell := hrow.cell hkl; have hfz := hrow.frozen k; have HB1 := Lib.hid hB1; clear hB1; generalize l.getD k 0 = x at *)
        have HR := hrow.put hkl (x ^^^ y)
        have hB2 : Below w.heap.size w (w1.setCell ⟨g, k, none⟩ (.int .u8 ((x ^^^ y : Nat) : Int))) := HB1.out.setCell (by have := hB5.size; show _ ≤ g; omega) _
        have hck := checksum_any (some ⟨g, 0, none⟩) cap _ _ HS.out (by rw [List.length_set]; omega) HR.all
        rw [List.length_set] at hck
        refine hck.mono ?_
        rintro e w6 ⟨hb6, rfl⟩
        have hne : (((Crc.sumB (l.set k (x ^^^ y))).toNat : Int) != ((Crc.sumB l).toNat : Int)) = true := by rw [bne, cv_eq, decide_eq_false HC.out]; rfl
        have hB6 := hB2.trans (hb6.mono hB2.size)
        unfold cv
        generalize (Crc.sumB (l.set k (x ^^^ y))).toNat = X at *
        go_wp2
        go_ret
        exact ⟨hB6, rfl⟩
end Go.Proofs.YtmoenbdooilceaaDoor
