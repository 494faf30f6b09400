/-
  Walks: bits written into a row of bytes.
-/
import Derived.Test.YtmoenbdooilceaaDoorPackA
import Derived.StillTailTactics
namespace Go.Proofs.YtmoenbdooilceaaDoor
open Go.RowKit By

/-- The row when j bits of the number x of w bits are in, from bit a on. -/
def wrt (L : List Nat) (x w a : Nat) : Nat → List Nat
  | 0 => L
  | j + 1 => put1 (wrt L x w a j) (a + j) (nb x w j)
theorem wrt_len (L : List Nat) (x w a : Nat) : ∀ j, (wrt L x w a j).length = L.length
  | 0 => rfl
  | j + 1 => by show (put1 _ _ _).length = _; rw [put1_len, wrt_len]
theorem wrt_bytes {L : List Nat} (h : Bytes L) (x w a : Nat) : ∀ j, Bytes (wrt L x w a j)
  | 0 => h
  | j + 1 => put1_bytes (wrt_bytes h x w a j) _ (nb_lt _ _ _)
theorem put1_zero (L : List Nat) (t : Nat) : put1 L t 0 = L := by
  unfold put1
  rw [Nat.zero_mul, Nat.or_zero]
  refine List.ext_getElem? fun i => ?_
  rw [List.getElem?_set]
  split
  · rename_i h; subst h
    split
    · rename_i h2; simp [h2]
    · rename_i h2; rw [List.getElem?_eq_none (by omega)]
  · rfl
/-- A number's bits behind those of the numbers ahead of it. -/
theorem fld_wrt (xs : Nat → Nat) (w size i : Nat) : ∀ {j : Nat}, j ≤ w → wrt (fld xs w size (i * w)) (xs i) w (i * w) j = fld xs w size (i * w + j)
  | 0, _ => rfl
  | j + 1, hj => by
    show put1 _ _ _ = put1 (fld xs w size (i * w + j)) _ _
    rw [fld_wrt xs w size i (by omega)]
    have hd : (i * w + j) / w = i := by rw [Nat.mul_comm, Nat.mul_add_div (by omega), Nat.div_eq_of_lt (by omega), Nat.add_zero]
    have hm : (i * w + j) % w = j := by rw [Nat.mul_comm, Nat.mul_add_mod, Nat.mod_eq_of_lt (by omega)]
    rw [show (i * w).add j = i * w + j from rfl, hd, hm]
theorem top_u8 {t : Nat} (h : t ≤ 7) : (128 : Int) / 2 ^ t = ((2 ^ (7 - t) : Nat) : Int) := by
  rcases (show t = 0 ∨ t = 1 ∨ t = 2 ∨ t = 3 ∨ t = 4 ∨ t = 5 ∨ t = 6 ∨ t = 7 by omega) with rfl | rfl | rfl | rfl | rfl | rfl | rfl | rfl <;> decide
theorem and1_u64 {y : Nat} (hy : y < 2 ^ 64) : bits .and .u64 (y : Int) 1 = ((y % 2 : Nat) : Int) := by
  show IntKind.u64.wrap ((BitVec.ofInt 64 (y : Int) &&& BitVec.ofInt 64 ((1 : Nat) : Int)).toNat : Int) = _
  rw [BitVec.ofInt_natCast, BitVec.ofInt_natCast, BitVec.toNat_and, BitVec.toNat_ofNat, BitVec.toNat_ofNat, Nat.mod_eq_of_lt hy, Nat.mod_eq_of_lt (show 1 < 2 ^ 64 by decide), Nat.and_one_is_mod]
  exact wrap_u64 (by omega)
theorem bit_u64 {x k : Nat} (hx : x < 2 ^ 64) : bits .and .u64 ((x : Int) / 2 ^ k) 1 = ((x / 2 ^ k % 2 : Nat) : Int) := by
  have e : ((x / 2 ^ k : Nat) : Int) = (x : Int) / 2 ^ k := by simp
  rw [← e]
  exact and1_u64 (Nat.lt_of_le_of_lt (Nat.div_le_self _ _) hx)

set_option maxRecDepth 100000 in
set_option maxHeartbeats 1600000 in
theorem bwrite_any (g n c a wd X : Nat) (L : List Nat) (w : World) (hn : L.length = n) (hm : n ≤ 4000000000000) (ha : a + wd ≤ 8 * n) (hw : wd ≤ 64) (hX : X < 2 ^ 64) (hL : Bytes L) (h : Row w g 5 .u8 L) :
    Calls Tryd.prog 50 #[.slice (some ⟨g, 0, none⟩) n c, .int .i64 a, .int .i64 wd, .int .u64 X] w fun e w' => (∃ v, e = .returned v) ∧ w.grownBy w' (some g) ∧ w'.heap.size = w.heap.size ∧ Row w' g 5 .u8 (wrt L X wd a wd) := by
  subst hn
  go_enter Tryd.func50, Tryd.ntmps50
  go_wp2
  go_loopw [10] (fun i wr => ∃ j : Nat, j ≤ wd ∧ i = .int .i64 j ∧ Hid (Row wr g 5 .u8 (wrt L X wd a j)) ∧ w.grownBy wr (some g) ∧ wr.heap.size = w.heap.size) (fun i _ => wd - (intOf i).toNat)
  case atStart => exact ⟨0, Nat.zero_le _, rfl, h, grown_refl _ _, rfl⟩
  case round =>
    obtain ⟨j, hj, rfl, HR, hg, hs⟩ := hrel
    clear h
    by_cases hlt : j < wd
    · obtain ⟨p, hp⟩ : ∃ p, p = a + j := ⟨_, rfl⟩
      have hq : p / 8 < (wrt L X wd a j).length := by rw [wrt_len]; omega
      have hc := HR.out.cell hq
      have hf := HR.out.frozen (p / 8)
      have hR' : Hid (∀ y : Nat, Row (wr.setCell ⟨g, p / 8, none⟩ (.int .u8 (y : Int))) g 5 .u8 ((wrt L X wd a j).set (p / 8) y)) := fun y => HR.out.put hq y
      have HO : Hid ((wrt L X wd a j).getD (p / 8) 0 < 256) := (wrt_bytes hL X wd a j).at_ _
      have HP1 : Hid (wrt L X wd a (j + 1) = (wrt L X wd a j).set (p / 8) ((wrt L X wd a j).getD (p / 8) 0 ||| nb X wd j * 2 ^ (7 - p % 8))) := by
        show put1 _ _ _ = _
        rw [← hp]; rfl
      have HP0 : Hid (nb X wd j = 0 → wrt L X wd a (j + 1) = wrt L X wd a j) := fun e => by
        show put1 _ _ _ = _
        rw [e, put1_zero]
      have HB : Hid (nb X wd j = X / 2 ^ (wd - 1 - j) % 2) := rfl
      generalize (wrt L X wd a j).getD (p / 8) 0 = old at *
      obtain ⟨d, hd⟩ : ∃ d, d = wd - 1 - j := ⟨_, rfl⟩
      rw [← hd] at HB
      have x1 := bit_u64 (k := d) hX
      have d1 : (wd : Int) - 1 - j = (d : Int) := by omega
      have d2 : (d : Int) ≤ 64 := by omega
      have d3 : 0 ≤ (d : Int) := by omega
      have y0 : (a : Int) + j = (p : Int) := by omega
      have y1 : IntKind.i64.wrap ((p : Int) / 8) = (p : Int) / 8 := IntWalk.i64_in _ (by omega)
      have y2 : ((p : Int) / 8).toNat = p / 8 := by omega
      have y3 : 0 ≤ (p : Int) / 8 := by omega
      have y4 : (p : Int) / 8 < L.length := by rw [wrt_len] at hq; omega
      obtain ⟨t, ht⟩ : ∃ t, t = p % 8 := ⟨_, rfl⟩
      have y5 : (p : Int).tmod 8 = (t : Int) := by rw [Int.tmod_eq_emod_of_nonneg (by omega)]; omega
      have y6 : (t : Int) ≤ 8 := by omega
      have y7 : 0 ≤ (t : Int) := by omega
      have x2 := top_u8 (t := t) (by omega)
      have HPP := Lib.hid hp
      have HD := Lib.hid hd
      have HT := Lib.hid ht
      clear hd ht hp
      have HX : Hid (X / 2 ^ d % 2 < 2) := Nat.mod_lt _ (by decide)
      generalize X / 2 ^ d % 2 = b at *
      by_cases hb : b = 1
      · have z1 : ((b : Int) == 1) = true := by rw [beq_iff_eq]; omega
        obtain ⟨P, hP⟩ : ∃ P, P = 2 ^ (7 - t) := ⟨_, rfl⟩
        obtain ⟨Q, hQ⟩ : ∃ Q, Q = old ||| P := ⟨_, rfl⟩
        have hPb : P < 256 := by rw [hP]; exact Nat.lt_of_le_of_lt (Nat.pow_le_pow_right (by decide) (by omega : 7 - t ≤ 7)) (by decide)
        rw [← hP] at x2
        have x10 : bits .or .u8 (old : Int) (P : Int) = (Q : Int) := by rw [hQ]; exact or_u8 HO.out hPb
        have HQ : Hid (wrt L X wd a (j + 1) = (wrt L X wd a j).set (p / 8) Q) := by
          have e := HP1.out
          rw [HB.out, hb, Nat.one_mul, ← HT.out, ← hP, ← hQ] at e
          exact e
        have w0 : IntKind.i64.wrap ((a : Int) + j) = (p : Int) := by rw [y0]; exact IntWalk.i64_in _ (by omega)
        clear hP hQ hPb HO HP1 HP0
        go_wp2
        clear y0
        go_still_tail 14, (by kernel_rfl)
        have hR2 := hR'.out Q
        clear x1 x2 x10 w0 y1 y2 y3 y4 y5 y6 y7 d1 d2 d3
        go_wp2
        go_roundw
        case rel =>
          refine ⟨j + 1, by omega, by go_num, ?_, ?_, by simpa [World.setCell] using hs⟩
          · show Row _ _ _ _ _
            rw [HQ.out]; exact hR2.drew
          · exact grown_trans (grown_trans hg (grown_setCell wr ⟨g, p / 8, none⟩ _)) (grown_drewN _ 1 _)
        case measure => simp [intOf]; omega
      · have z1 : ((b : Int) == 1) = false := by rw [beq_eq_false_iff_ne]; omega
        go_wp2
        go_roundw
        case rel =>
          refine ⟨j + 1, by omega, by go_num, ?_, hg, hs⟩
          have e : nb X wd j = 0 := by have h1 := HB.out; have h2 := HX.out; omega
          show Row _ _ _ _ _
          rw [HP0.out e]; exact HR.out
        case measure => simp [intOf]; omega
    · obtain rfl : j = wd := by omega
      go_wp2
      go_end0
      exact ⟨⟨_, rfl⟩, hg, hs, HR.out⟩
end Go.Proofs.YtmoenbdooilceaaDoor
