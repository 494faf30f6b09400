/-
  Walk: codec.put, the whole block known.
-/
import Derived.Test.YtmoenbdooilceaaDoorPackI
namespace Go.Proofs.YtmoenbdooilceaaDoor
open Go.RowKit By

/-- Block g is just the numbers l. -/
def RowE (w : World) (g : Nat) (T : TypeId) (k : IntKind) (l : List Nat) : Prop := Bk w g T (ints k l).toArray
section
variable {w w' : World} {g : Nat} {T : TypeId} {k : IntKind} {l : List Nat}
theorem RowE.cell (h : RowE w g T k l) {i : Nat} (hi : i < l.length) : w.cell? ⟨g, i, none⟩ = some (.int k ((l.getD i 0 : Nat) : Int)) := by
  have h1 := Bk.cell h i
  rw [h1, ints_getD k l hi]
theorem RowE.frozen (h : RowE w g T k l) (i : Nat) : w.frozen? ⟨g, i, none⟩ = false := Bk.frozen h i
theorem RowE.put (h : RowE w g T k l) {i : Nat} (_ : i < l.length) (x : Nat) : RowE (w.setCell ⟨g, i, none⟩ (.int k (x : Int))) g T k (l.set i x) := by
  have := Bk.put h i (.int k (x : Int))
  rw [ints_set] at this
  exact this
theorem RowE.own (h : RowE w g T k l) {base : Nat} (hb : base ≤ g) (hm : l.length ≤ maxLen) : w.ownsRow base T 1 (.slice (some ⟨g, 0, none⟩) l.length l.length) l.length (ints k l) := by
  have := Bk.own h (base := base) (size := 1) (n := l.length) (cap := l.length) hb (Nat.le_refl _) hm (by simp [ints_length])
  rwa [Nat.mul_one, List.take_of_length_le (by rw [ints_length]; exact Nat.le_refl _)] at this
end

set_option maxHeartbeats 800000 in
/-- A number is written into a group of a row, of which the whole block is known. -/
theorem pute_any (g o n c X : Nat) (zs : List Nat) (w : World) (hz : o + n ≤ zs.length) (h8 : n ≤ 1000000) (hX : X < 2 ^ 64) (h : RowE w g 5 .u8 zs) :
    Calls Tryd.prog 36 #[.slice (some ⟨g, o, none⟩) n c, .int .u64 (X : Int)] w fun e w' => (∃ v, e = .returned v) ∧ w.grownBy w' (some g) ∧ w'.heap.size = w.heap.size ∧ RowE w' g 5 .u8 (zs.take o ++ gb n X ++ zs.drop (o + n)) := by
  have HX := Lib.hid hX
  clear hX
  go_enter Tryd.func36, Tryd.ntmps36
  go_wp2
  go_loopw [1, 4] (fun x i wr => ∃ t : Nat, t ≤ n ∧ ((t = 0 ∧ i = .int .i64 (-1)) ∨ (∃ s : Nat, t = s + 1 ∧ i = .int .i64 s)) ∧ x = .int .u64 ((X / 256 ^ (n - t) : Nat) : Int) ∧
      Hid (RowE wr g 5 .u8 (zs.take (o + t) ++ gb (n - t) X ++ zs.drop (o + n))) ∧ w.grownBy wr (some g) ∧ wr.heap.size = w.heap.size) (fun _ i _ => (intOf i + 1).toNat)
  case atStart =>
    refine ⟨n, Nat.le_refl _, ?_, by rw [Nat.sub_self, Nat.pow_zero, Nat.div_one], ?_, grown_refl _ _, rfl⟩
    · rcases n with _ | m
      · exact .inl ⟨rfl, rfl⟩
      · exact .inr ⟨m, rfl, by go_num⟩
    · show RowE _ _ _ _ _
      rw [Nat.sub_self]; simpa [gb] using h
  case round =>
    obtain ⟨t, ht, hi, rfl, HR, hg, hs⟩ := hrel
    rcases hi with ⟨rfl, rfl⟩ | ⟨s, rfl, rfl⟩
    · generalize X / 256 ^ (n - 0) = y at *
      clear h
      go_wp2
      go_end0
      exact ⟨⟨_, rfl⟩, hg, hs, HR.out⟩
    · have HS : Hid (X / 256 ^ (n - s) = X / 256 ^ (n - (s + 1)) / 256) := by
        show _ = _
        rw [Nat.div_div_eq_div_mul, show n - s = n - (s + 1) + 1 by omega, Nat.pow_succ]
      have HP := Lib.hid (put_step (zs := zs) (o := o) (X := X) ht hz)
      have hlen : o + s < (zs.take (o + (s + 1)) ++ gb (n - (s + 1)) X ++ zs.drop (o + n)).length := by simp [gb_len]; omega
      have hc := HR.out.cell hlen
      have hf := HR.out.frozen (o + s)
      have HR' : Hid (∀ y, RowE (wr.setCell ⟨g, o + s, none⟩ (.int .u8 ((y : Nat) : Int))) g 5 .u8 ((zs.take (o + (s + 1)) ++ gb (n - (s + 1)) X ++ zs.drop (o + n)).set (o + s) y)) := fun y => HR.out.put hlen y
      clear h hlen
      generalize (zs.take (o + (s + 1)) ++ gb (n - (s + 1)) X ++ zs.drop (o + n)).getD (o + s) 0 = old at *
      generalize X / 256 ^ (n - (s + 1)) = y at *
      go_wp2
      go_roundw
      case rel =>
        refine ⟨s, by omega, ?_, by rw [HS.out]; go_num, ?_, ?_, by simpa [World.setCell] using hs⟩
        · rcases s with _ | m
          · exact .inl ⟨rfl, rfl⟩
          · exact .inr ⟨m, rfl, by go_num⟩
        · show RowE _ _ _ _ _
          rw [← HP.out]
          have := HR'.out (y % 256)
          rwa [Int.natCast_emod] at this
        · exact grown_trans hg (grown_setCell wr ⟨g, o + s, none⟩ _)
      case measure => simp [intOf]
end Go.Proofs.YtmoenbdooilceaaDoor
