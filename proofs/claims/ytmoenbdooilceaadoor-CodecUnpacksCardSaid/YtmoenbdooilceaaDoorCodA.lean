/-
  Walks: package codec: numbers of groups.
-/
import Derived.Test.YtmoenbdooilceaaDoorProg
import Derived.Test.YtmoenbdooilceaaDoorWordsC
import Derived.Test.YtmoenbdooilceaaDoorBy
import Derived.Test.YtmoenbdooilceaaDoorBits
import Derived.WalkKit
import Derived.WalkSpells
import Derived.WalkLawsBesides
import Derived.Deep.QuietTactic
import Derived.BigQuiet
import Derived.Outline
namespace Go.Proofs.YtmoenbdooilceaaDoor
open Go.RowKit By

theorem Tryd.u8_info : (Tryd.prog.info? 5).map (fun i => (i.zero, i.size, i.bytes)) = some (some (.int .u8 0), 1, 1) := by kernel_rfl

set_option maxHeartbeats 400000 in
theorem number_any (A : Option Addr) (c n : Nat) (l : List Nat) (w : World) (hn : l.length = n) (h8 : n ≤ 8) (hl : Bytes l) (h : Rd w w.heap.size A (ints .u8 l)) :
    Calls Tryd.prog 33 #[.slice A n c] w fun e w' => w = w' ∧ e = .returned (.int .u64 ((gv l : Nat) : Int)) := by
  subst hn
  go_enter Tryd.func33, Tryd.ntmps33
  go_wp2
  go_loop [3, 8] (fun o i => ∃ k : Nat, k ≤ l.length ∧ i = .int .i64 k ∧ o = .int .u64 ((gv (l.take k) : Nat) : Int)) (fun _ i => l.length - (intOf i).toNat)
  case atStart => exact ⟨0, Nat.zero_le _, rfl, rfl⟩
  case round =>
    obtain ⟨k, hk, rfl, rfl⟩ := hrel
    by_cases hlt : k < l.length
    · obtain ⟨ad, rfl, hb, hcell⟩ := h.int (j := k) hlt
      have hx : l.getD k 0 < 256 := hl.at_ k
      have hg : gv (l.take k) < 2 ^ 56 := Nat.lt_of_lt_of_le (gv_lt (n := k) (l := l.take k) (by simp; omega) (hl.take _)) (by
        rw [show (2 : Nat) ^ 56 = 256 ^ 7 from rfl]; exact Nat.pow_le_pow_right (by decide) (by omega))
      have HS : Hid (gv (l.take (k + 1)) = gv (l.take k) * 256 + l.getD k 0) := by
        show _ = _
        rw [List.take_succ_eq_append_getElem hlt, gv_snoc, List.getD_eq_getElem?_getD, List.getElem?_eq_getElem hlt]; rfl
      have HO := Lib.hid (or_byte hg hx)
      clear hg
      generalize l.getD k 0 = x at *
      generalize gv (l.take k) = g at *
      go_wp2
      go_round
      case rel => exact ⟨k + 1, by omega, by go_num, by rw [HO.out, HS.out]⟩
      case measure => simp [intOf]; omega
    · have HE : Hid (l.take k = l) := List.take_of_length_le (by omega)
      go_wp2
      go_ret
      exact ⟨rfl, by rw [HE.out]; rfl⟩

theorem gb_cons : ∀ (n x : Nat), gb (n + 1) x = (x / 256 ^ n % 256) :: gb n x
  | 0, x => by simp [gb]
  | n + 1, x => by
    have e : gb (n + 1) x = gb n (x / 256) ++ [x % 256] := rfl
    rw [gb, gb_cons n (x / 256), e, Nat.div_div_eq_div_mul, Nat.pow_succ, Nat.mul_comm 256]; rfl
theorem put_step {zs : List Nat} {o n t X : Nat} (ht : t < n) (hz : o + n ≤ zs.length) :
    (zs.take (o + (t + 1)) ++ gb (n - (t + 1)) X ++ zs.drop (o + n)).set (o + t) (X / 256 ^ (n - (t + 1)) % 256) = zs.take (o + t) ++ gb (n - t) X ++ zs.drop (o + n) := by
  obtain ⟨m, rfl⟩ : ∃ m, n = t + 1 + m := ⟨n - (t + 1), by omega⟩
  rw [show t + 1 + m - (t + 1) = m by omega, show t + 1 + m - t = m + 1 by omega, gb_cons]
  rw [show o + (t + 1) = o + t + 1 by omega, List.take_succ_eq_append_getElem (by omega)]
  simp only [List.append_assoc, List.cons_append, List.nil_append]
  rw [List.set_append_right _ _ (by simp; omega)]
  simp [Nat.min_eq_left (show o + t ≤ zs.length by omega)]

set_option maxHeartbeats 800000 in
/-- A number is written into a group of a row. -/
theorem put_any (g o n c X : Nat) (zs : List Nat) (w : World) (hz : o + n ≤ zs.length) (h8 : n ≤ 1000000) (hX : X < 2 ^ 64) (h : Row w g 5 .u8 zs) :
    Calls Tryd.prog 36 #[.slice (some ⟨g, o, none⟩) n c, .int .u64 (X : Int)] w fun e w' => (∃ v, e = .returned v) ∧ w.grownBy w' (some g) ∧ w'.heap.size = w.heap.size ∧ Row w' g 5 .u8 (zs.take o ++ gb n X ++ zs.drop (o + n)) := by
  have HX := Lib.hid hX
  clear hX
  go_enter Tryd.func36, Tryd.ntmps36
  go_wp2
  go_loopw [1, 4] (fun x i wr => ∃ t : Nat, t ≤ n ∧ ((t = 0 ∧ i = .int .i64 (-1)) ∨ (∃ s : Nat, t = s + 1 ∧ i = .int .i64 s)) ∧ x = .int .u64 ((X / 256 ^ (n - t) : Nat) : Int) ∧
      Hid (Row wr g 5 .u8 (zs.take (o + t) ++ gb (n - t) X ++ zs.drop (o + n))) ∧ w.grownBy wr (some g) ∧ wr.heap.size = w.heap.size) (fun _ i _ => (intOf i + 1).toNat)
  case atStart =>
    refine ⟨n, Nat.le_refl _, ?_, by rw [Nat.sub_self, Nat.pow_zero, Nat.div_one], ?_, grown_refl _ _, rfl⟩
    · rcases n with _ | m
      · exact .inl ⟨rfl, rfl⟩
      · exact .inr ⟨m, rfl, by go_num⟩
    · show Row _ _ _ _ _
      rw [Nat.sub_self]; simpa [gb] using h
  case round =>
    obtain ⟨t, ht, hi, rfl, HR, hg, hs⟩ := hrel
    rcases hi with ⟨rfl, rfl⟩ | ⟨s, rfl, rfl⟩
    · generalize X / 256 ^ (n - 0) = y at *
      clear h
      go_wp2
      go_end0
      exact ⟨⟨_, rfl⟩, hg, hs, HR.out⟩
    · have HS : Hid (X / 256 ^ (n - s) = X / 256 ^ (n - (s + 1)) / 256) := by
        show _ = _
        rw [Nat.div_div_eq_div_mul, show n - s = n - (s + 1) + 1 by omega, Nat.pow_succ]
      have HP := Lib.hid (put_step (zs := zs) (o := o) (X := X) ht hz)
      have hlen : o + s < (zs.take (o + (s + 1)) ++ gb (n - (s + 1)) X ++ zs.drop (o + n)).length := by simp [gb_len]; omega
      have hc := HR.out.cell hlen
      have hf := HR.out.frozen (o + s)
      have HR' : Hid (∀ y, Row (wr.setCell ⟨g, o + s, none⟩ (.int .u8 ((y : Nat) : Int))) g 5 .u8 ((zs.take (o + (s + 1)) ++ gb (n - (s + 1)) X ++ zs.drop (o + n)).set (o + s) y)) := fun y => HR.out.put hlen y
      clear h hlen
      generalize (zs.take (o + (s + 1)) ++ gb (n - (s + 1)) X ++ zs.drop (o + n)).getD (o + s) 0 = old at *
      generalize X / 256 ^ (n - (s + 1)) = y at *
      go_wp2
      go_roundw
      case rel =>
        refine ⟨s, by omega, ?_, by rw [HS.out]; go_num, ?_, ?_, by simpa [World.setCell] using hs⟩
        · rcases s with _ | m
          · exact .inl ⟨rfl, rfl⟩
          · exact .inr ⟨m, rfl, by go_num⟩
        · show Row _ _ _ _ _
          rw [← HP.out]
          have := HR'.out (y % 256)
          rwa [Int.natCast_emod] at this
        · exact grown_trans hg (grown_setCell wr ⟨g, o + s, none⟩ _)
      case measure => simp [intOf]
end Go.Proofs.YtmoenbdooilceaaDoor
