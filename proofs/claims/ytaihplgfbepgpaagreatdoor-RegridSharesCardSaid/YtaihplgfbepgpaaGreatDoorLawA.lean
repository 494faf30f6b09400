/-
  Walks of the laws' words: sameCell, Many.
-/
import Derived.Test.YtaihplgfbepgpaaGreatDoorRegS
namespace Go.Proofs.YtaihplgfbepgpaaGreatDoor
open Go.RowKit Ar

theorem Bk.two (w : World) (o : Obj) (t : TypeId) (cs : Array Value) : Bk ((w.alloc o).alloc (.cells cs t)) (w.heap.size + 1) t cs := by simpa using Bk.new (w.alloc o) t cs

set_option maxRecDepth 100000 in
set_option maxHeartbeats 3200000 in
/-- More than n cells, or one with more than ten corners. -/
theorem Many_any (L : List Ce) (n : Nat) (v : Value) (w : World) (h : IsCs w w.heap.size v L) (hn : n ≤ 1000) (hL : L.length ≤ maxLen) (z : Bool) (hz : z = true ↔ n < L.length ∨ ∃ x ∈ L, 10 < x.1.length) (hm : ∀ x ∈ L, x.1.length ≤ maxLen) :
    Calls Tryz.prog 7 #[v, .int .i64 n] w fun e w' => Below w.heap.size w w' ∧ e = .returned (.bool z) := by
  obtain ⟨A, c, rfl⟩ := h.form
  have hh := h
  unfold maxLen at hm hL
  have HZ := Lib.hid hz
  clear hz
  by_cases hbig : n < L.length
  · have hzt : z = true := HZ.out.2 (.inl hbig)
    subst hzt
    go_enter Tryz.func7, Tryz.ntmps7
    go_wp2
    go_ret
    exact ⟨Below.refl _ _, rfl⟩
  go_enter Tryz.func7, Tryz.ntmps7
  go_wp2_with fail
  go_loopw [5] (fun i wr => ∃ k : Nat, k ≤ L.length ∧ i = .int .i64 k ∧ (∀ x ∈ L.take k, x.1.length ≤ 10) ∧ Below w.heap.size w wr) (fun i _ => L.length - (intOf i).toNat)
  case atStart => exact ⟨0, Nat.zero_le _, rfl, (fun x h => by simp at h), Below.refl _ _⟩
  case round =>
    obtain ⟨k, hk, rfl, h0, hB⟩ := hrel
    have H0 := Lib.hid h0
    clear h0
    rcases Nat.lt_or_ge k L.length with hlt | hge
    · obtain ⟨ad, A0, c0, rfl, hab, d1, d2, _⟩ := (hh.below hB).at (i := k) (List.getElem?_eq_getElem hlt)
      have hmk := hm _ (List.getElem_mem hlt)
      have HN : Hid (L[k].1.length ≤ 10 → ∀ x ∈ L.take (k + 1), x.1.length ≤ 10) := fun h1 x hx => by
        rw [List.take_add_one, List.getElem?_eq_getElem hlt] at hx
        rcases List.mem_append.1 hx with h2 | h2
        · exact H0.out x h2
        · simp at h2; subst h2; exact h1
      have HY : Hid (10 < L[k].1.length → z = true) := fun h1 => HZ.out.2 (.inr ⟨_, List.getElem_mem hlt, h1⟩)
      generalize L[k] = y at *
      obtain ⟨yl, ym⟩ := y
      simp only at d1 d2 hmk HN HY
      by_cases hl : yl.length ≤ 10
      · have hl' : ¬ (10 : Int) < yl.length := by omega
        have HL := Lib.hid (HN.out hl)
        clear hm HN HY
        go_wp2
        go_roundw
        case rel => exact ⟨k + 1, by omega, by go_num, HL.out, hB⟩
        case measure => simp [intOf]; omega
      · have hl' : (10 : Int) < yl.length := by omega
        have hzt : z = true := HY.out (by omega)
        subst hzt
        clear hm HN HY
        go_wp2
        go_ret
        exact ⟨hB, rfl⟩
    · have hkl : k = L.length := by omega
      subst hkl
      have hzf : z = false := by
        cases hzz : z
        · rfl
        · rcases HZ.out.1 hzz with h | ⟨x, hx, h⟩
          · exact absurd h hbig
          · have := H0.out x (by rw [List.take_length]; exact hx)
            omega
      subst hzf
      clear hm
      go_wp2
      go_ret
      exact ⟨hB, rfl⟩

theorem ok_sane_a : ∀ p ∈ ([(0, 0), (2, 0), (2, 2), (0, 2)] : List Pl), in64 p.1 ∧ in64 p.2 := by unfold in64; decide
theorem ok_sane_b : ∀ p ∈ ([(1, 1), (3, 1), (1, 3)] : List Pl), in64 p.1 ∧ in64 p.2 := by unfold in64; decide

set_option maxRecDepth 100000 in
set_option maxHeartbeats 3200000 in
/-- The laws' sanity check. -/
theorem sane_any (w : World) (he : EnvR w) :
    Calls Tryz.prog 8 #[] w fun e w' => Below w.heap.size w w' ∧ e = .returned (.bool true) := by
  go_enter Tryz.func8, Tryz.ntmps8
  go_wp2_with fail
  have b1 : Below w.heap.size w (w.alloc (.cells #[.int .i64 0, .int .i64 0, .int .i64 2, .int .i64 0, .int .i64 2, .int .i64 2, .int .i64 0, .int .i64 2] 50)) := below_alloc _ _
  have r1 : Rd (w.alloc (.cells #[.int .i64 0, .int .i64 0, .int .i64 2, .int .i64 0, .int .i64 2, .int .i64 2, .int .i64 0, .int .i64 2] 50)) (w.alloc (.cells #[.int .i64 0, .int .i64 0, .int .i64 2, .int .i64 0, .int .i64 2, .int .i64 2, .int .i64 0, .int .i64 2] 50)).heap.size (some ⟨w.heap.size, 0, none⟩) (prow [(0, 0), (2, 0), (2, 2), (0, 2)]) := by
    have := Rd.of_new w (prow [(0, 0), (2, 0), (2, 2), (0, 2)]) 50
    exact this.more (by simp)
  generalize hW1 : (w.alloc (.cells #[.int .i64 0, .int .i64 0, .int .i64 2, .int .i64 0, .int .i64 2, .int .i64 2, .int .i64 0, .int .i64 2] 50)) = w1 at *
  have z1 : w1.heap.size = w.heap.size + 1 := by rw [← hW1]; simp
  have b2 : Below w1.heap.size w1 (w1.alloc (.cells #[.slice (some ⟨w.heap.size, 0, none⟩) 4 4, .bool false] 33)) := below_alloc _ _
  generalize hW2 : w1.alloc (.cells #[.slice (some ⟨w.heap.size, 0, none⟩) 4 4, .bool false] 33) = w2 at *
  have z2 : w2.heap.size = w.heap.size + 1 + 1 := by rw [← hW2]; simp [z1]
  rw [← z2]
  have b3 : Below w2.heap.size w2 (w2.alloc (.cells #[.int .i64 1, .int .i64 1, .int .i64 3, .int .i64 1, .int .i64 1, .int .i64 3] 50)) := below_alloc _ _
  have r3 : Rd (w2.alloc (.cells #[.int .i64 1, .int .i64 1, .int .i64 3, .int .i64 1, .int .i64 1, .int .i64 3] 50)) (w2.alloc (.cells #[.int .i64 1, .int .i64 1, .int .i64 3, .int .i64 1, .int .i64 1, .int .i64 3] 50)).heap.size (some ⟨w2.heap.size, 0, none⟩) (prow [(1, 1), (3, 1), (1, 3)]) := by
    have := Rd.of_new w2 (prow [(1, 1), (3, 1), (1, 3)]) 50
    exact this.more (by simp)
  generalize (w2.alloc (.cells #[.int .i64 1, .int .i64 1, .int .i64 3, .int .i64 1, .int .i64 1, .int .i64 3] 50)) = w3 at *
  have b4 : Below w3.heap.size w3 (w3.alloc (.cells #[.slice (some ⟨w2.heap.size, 0, none⟩) 3 3, .bool false] 33)) := below_alloc _ _
  generalize (w3.alloc (.cells #[.slice (some ⟨w2.heap.size, 0, none⟩) 3 3, .bool false] 33)) = w4 at *
  have B2 := b1.trans (b2.mono b1.size)
  have B3 := B2.trans (b3.mono B2.size)
  have B4 := B3.trans (b4.mono B3.size)
  have ra := ((((r1.below b2).more b2.size).below b3).more b3.size).below b4 |>.more b4.size
  have rb := (r3.below b4).more b4.size
  have C := Common_any _ _ false false _ _ w4 ⟨_, 4, rfl, Nat.le_refl _, by unfold maxLen; decide, ok_sane_a, ra⟩ ⟨_, 3, rfl, Nat.le_refl _, by unfold maxLen; decide, ok_sane_b, rb⟩ (he.next B4) true ⟨fun _ => ⟨sane_a, sane_b⟩, fun _ => rfl⟩
  rw [sane_common] at C
  simp only [if_true, sane_text] at C
  refine C.mono ?_
  rintro e w5 ⟨hb5, rfl⟩
  have B5 := B4.trans (hb5.mono B4.size)
  clear C ra rb r1 r3 b1 b2 b3 b4 B2 B3 B4 hb5 z1 z2 hW1 hW2
  go_wp2
  go_ret
  exact ⟨B5, rfl⟩
end Go.Proofs.YtaihplgfbepgpaaGreatDoor
