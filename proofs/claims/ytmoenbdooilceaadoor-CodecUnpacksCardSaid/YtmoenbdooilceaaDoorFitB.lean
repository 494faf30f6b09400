/-
  Walks: integers of 16 bits are values of their type; what is accepted.
-/
import Derived.Test.YtmoenbdooilceaaDoorFitA
namespace Go.Proofs.YtmoenbdooilceaaDoor
open Go.RowKit Ar

/-- A text of an integer of 16 bits, or nothing. -/
structure Fit16 (s : ByteArray) : Prop where
  small : s.size ≤ 4000000
  text : s.size ≠ 0 → IntText s.data.toList ∧ (unsign s.data.toList).length ≤ 40 ∧ ∃ v, Lib.parseIntB 16 s.data.toList = .ok v

set_option maxRecDepth 100000 in
set_option maxHeartbeats 1600000 in
theorem fits16 (s : ByteArray) (w : World) (h : Fit16 s) (he : Env w) :
    Calls Tryd.prog 71 #[.int .i64 2, .string s] w fun e w' => Below w.heap.size w w' ∧ e = .returned (.bool true) := by
  have hsm := h.small
  by_cases h0 : s.size = 0
  · have hn : s.toList = [] := by rw [bs_toList]; exact List.eq_nil_of_length_eq_zero (by rw [size_list]; exact h0)
    clear h h0 he
    go_enter Tryd.func71, Tryd.ntmps71
    go_wp2
    go_ret
    exact ⟨Below.refl _ _, rfl⟩
  · obtain ⟨hT, h40, v, hv⟩ := h.text h0
    have hn : s.toList ≠ [] := by rw [bs_toList]; intro e; have := size_list s; rw [e] at this; exact h0 this.symm
    have hnb : s.toList.isEmpty = false := by rw [List.isEmpty_eq_false_iff]; exact hn
    have HV := Lib.hid (valid_int s w hsm hT h40 he)
    have HP := Lib.hid (fun W => Tryd.strconv_ParseInt_10_at16_ok s (by omega) v hv W)
    clear h hT h40 hv he h0
    go_enter Tryd.func71, Tryd.ntmps71
    go_wp2_with (go_at_call 76; go_in)
    refine HV.out.mono ?_
    rintro e w1 ⟨hb1, rfl⟩
    go_wp2_with fail
    refine (HP.out w1).mono ?_
    rintro e w2 ⟨rfl, hw⟩
    have hb2 : Below w1.heap.size w1 w2 := by
      rcases hw with rfl | ⟨t, rfl⟩
      · exact Below.refl _ _
      · exact Lib.bytesWorld_below _ _ _
    clear hw
    go_wp2
    go_ret
    exact ⟨hb1.trans (hb2.mono hb1.size), rfl⟩

set_option maxHeartbeats 800000 in
theorem accepted1_16 (s : ByteArray) (B : Nat) (w : World) (h : Fit16 s) (he : Env w) (hc : w.cell? ⟨B, 0, none⟩ = some (.int .i64 2)) :
    Calls Tryd.prog 70 #[.string s, .pointer (some ⟨B, 0, none⟩)] w fun e w' => Below w.heap.size w w' ∧ e = .returned (.bool false) := by
  go_enter Tryd.func70, Tryd.ntmps70
  go_wp2_with fail
  refine (fits16 s w h he).mono ?_
  rintro e w1 ⟨hb1, rfl⟩
  go_wp2
  go_ret
  exact ⟨hb1, rfl⟩

set_option maxRecDepth 100000 in
set_option maxHeartbeats 800000 in
theorem accepted_16 (A : Option Addr) (c : Nat) (ss : List ByteArray) (w : World) (hm : ss.length ≤ 4096) (h : Rd w w.heap.size A (strs ss)) (hf : ∀ s ∈ ss, Fit16 s) (he : Env w) :
    Calls Tryd.prog 55 #[.int .i64 2, .slice A ss.length c] w fun e w' => Below w.heap.size w w' ∧ e = .returned (.int .i64 0) := by
  have HC : Hid (Calls Tryd.prog 69 #[.slice A ss.length c, .func (.func 70) #[] #[.pointer (some ⟨w.heap.size, 0, none⟩)]] (w.alloc (.cells #[.int .i64 2] 3)) fun e w' => Below (w.alloc (.cells #[.int .i64 2] 3)).heap.size (w.alloc (.cells #[.int .i64 2] 3)) w' ∧ e = .returned (.bool false)) := by
    have e : ss.any (fun _ => false) = false := by simp
    have hk := Bk.new w 3 #[.int .i64 2]
    have := containsfunc_any (.pointer (some ⟨w.heap.size, 0, none⟩)) A c ss (fun _ => false) (w.alloc (.cells #[.int .i64 2] 3)) (by omega) ((h.alloc (Nat.le_refl _) _).more (by simp)) (fun W s hs hW =>
      accepted1_16 s w.heap.size W (hf s hs) ((he.alloc _).next hW) ((hk.below hW hk.lt).cell 0))
    rw [e] at this
    exact this
  clear h hf he
  go_enter Tryd.func55, Tryd.ntmps55
  go_wp2_with (go_at_call 68; go_in)
  refine HC.out.mono ?_
  rintro e w1 ⟨hb1, rfl⟩
  have hB := (below_alloc w (.cells #[.int .i64 2] 3)).trans (hb1.mono (by simp))
  go_wp2
  go_ret
  exact ⟨hB, rfl⟩
end Go.Proofs.YtmoenbdooilceaaDoor
