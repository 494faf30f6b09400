/-
  Walks: package array: copies, equality; which shapes and arrays are valid.
-/
import Derived.Test.YtihcefiffblikaaDoorItrA
import Derived.Test.YtihcefiffblikaaDoorValA
import Derived.Test.YtihcefiffblikaaDoorHeldT
import Derived.BigQuiet
import Derived.Deep.QuietTactic
namespace Go.Proofs.YtihcefiffblikaaDoor
open Go.RowKit Ix Ar

theorem Tryd.str_info : (Tryd.prog.info? 9).map (fun i => (i.zero, i.size, i.bytes)) = some (some (.string ⟨#[]⟩), 1, 16) := by kernel_rfl
/-- A slice that came in nil, or lies in memory. -/
theorem rd_none {w : World} {B : Nat} {xs : List Value} (h : Rd w B none xs) : xs = [] := by
  rcases Classical.em (xs = []) with h0 | h0
  · exact h0
  · obtain ⟨_, h2, _⟩ := h h0; cases h2
set_option maxHeartbeats 400000 in
theorem clonez_any (A : Option Addr) (n c : Nat) (l : List Int) (w : World) (hn : l.length = n) (hm : n ≤ 1000000) (h : Rd w w.heap.size A (zints l)) :
    Calls Tryd.prog 30 #[.slice A n c] w fun e w' => Below w.heap.size w w' ∧ ∃ v, e = .returned v ∧ w'.ownsRow w.heap.size 3 1 v n (zints l) := by
  obtain ⟨i0, hi0, hz0, hz1, hz2⟩ := info_parts Tryd.int_info
  have hnil := fun W => Lib.run_eql_slice_nil (P := Tryd.prog) W 22 3 A n c 0 0 Tryd.underlying22
  rcases A with _ | ad
  · have hl : l = [] := by simpa [zints] using rd_none h
    subst hl
    obtain rfl : n = 0 := by simpa using hn.symm
    go_enter Tryd.func30, Tryd.ntmps30
    go_wp2
    go_ret
    exact ⟨Below.refl _ _, _, rfl, World.ownsRow_nil _ _ _ _⟩
  · have HN := Lib.hid hn
    clear hn
    go_enter Tryd.func30, Tryd.ntmps30
    go_wp2_with (at_builtin; refine wpL_append _ rfl (.tmp 5) (.tmp 6) _ rfl w.heap.size 3 i0 _ 1 8 Tryd.underlying22 hi0 hz0 hz1 hz2 rfl (by omega) _ 0 [] rfl (World.ownsRow_made _ _ 0 (Nat.le_refl _) (by unfold maxLen; omega) rfl) (some ad) n c (zints l) rfl (by rw [zints_len, Nat.mul_one]; exact HN.out) (h.alloc (Nat.le_refl _) _) (zints_one _) (by unfold maxLen; omega) (by omega) (by simp) ?_; intro v1 w1 hown1 hg1 hat1)
    go_ret
    refine ⟨below_app ((Below.refl _ _).alloc (Nat.le_refl _) _) hg1 (by simp) (World.ownsRow_made (base := w.heap.size) (e := 3) (size := 1) w #[] 0 (Nat.le_refl _) (by unfold maxLen; omega) rfl) (Nat.le_refl _), v1, rfl, ?_⟩
    simpa using hown1

theorem take_snocI {α : Type} {l : List α} {k : Nat} (h : k < l.length) : l.take (k + 1) = l.take k ++ [l[k]] := by
  rw [List.take_add_one, List.getElem?_eq_getElem h]; rfl
noncomputable def valB (s : ByteArray) : Bool := @decide (IsVal s.data.toList) (Classical.propDecidable _)
theorem valB_iff (s : ByteArray) : valB s = true ↔ IsVal s.data.toList := by unfold valB; exact @decide_eq_true_iff _ (Classical.propDecidable _)

set_option maxHeartbeats 800000 in
theorem notval_any (s : ByteArray) (w : World) (hs : s.size ≤ 4000000) (he : Env w) :
    Calls Tryd.prog 39 #[.string s] w fun e w' => Below w.heap.size w w' ∧ e = .returned (.bool (!valB s)) := by
  have VA := value_any s w hs he (valB s) (valB_iff s)
  generalize valB s = q at *
  go_enter Tryd.func39, Tryd.ntmps39
  go_wp2_with fail
  refine VA.mono ?_
  rintro e w1 ⟨hb1, rfl⟩
  go_wp2
  go_ret
  exact ⟨hb1, rfl⟩
set_option maxRecDepth 100000 in
set_option maxHeartbeats 800000 in
theorem idxval_any (A : Option Addr) (c : Nat) (ss : List ByteArray) (w : World) (hm : ss.length ≤ 4000000) (h : Rd w w.heap.size A (strs ss)) (hz : ∀ s ∈ ss, s.size ≤ 4000000) (he : Env w) :
    Calls Tryd.prog 42 #[.slice A ss.length c, .func (.func 39) #[] #[]] w fun e w' => Below w.heap.size w w' ∧ ∃ k : Int, e = .returned (.int .i64 k) ∧ -1 ≤ k ∧ (0 ≤ k ↔ ss.any (fun s => !valB s) = true) := by
  have HF := Lib.hid (fun W s (hs : s ∈ ss) (hW : Below w.heap.size w W) => notval_any s W (hz s hs) (he.next hW))
  clear hz
  go_enter Tryd.func42, Tryd.ntmps42
  go_wp2
  go_loopw [8] (fun i wr => ∃ k : Nat, k ≤ ss.length ∧ i = .int .i64 k ∧ Hid ((ss.take k).any (fun s => !valB s) = false) ∧ Below w.heap.size w wr) (fun i _ => ss.length - (intOf i).toNat)
  case atStart => exact ⟨0, Nat.zero_le _, rfl, rfl, Below.refl _ _⟩
  case round =>
    obtain ⟨k, hk, rfl, HN, hB⟩ := hrel
    by_cases hlt : k < ss.length
    · obtain ⟨ad, rfl, hab, hcell⟩ := (h.below hB).str hlt
      have hmem : ss[k] ∈ ss := List.getElem_mem _
      have HT : Hid ((ss.take (k + 1)).any (fun s => !valB s) = !valB ss[k]) := by
        show _ = _
        rw [take_snocI hlt, List.any_append, HN.out]; simp
      have HA : Hid ((!valB ss[k]) = true → ss.any (fun s => !valB s) = true) := fun e => List.any_eq_true.2 ⟨_, hmem, e⟩
      have HC := Lib.hid (fun W hW => HF.out W ss[k] hmem hW)
      clear hmem
      generalize ss[k] = s at *
      go_wp2_with fail
      refine (HC.out wr hB).mono ?_
      rintro e w1 ⟨hb1, rfl⟩
      have hB1 := hB.trans (hb1.mono hB.size)
      cases hp : !valB s
      · have HN2 : Hid ((ss.take (k + 1)).any (fun s => !valB s) = false) := by show _ = _; rw [HT.out]; exact hp
        clear hp
        go_wp2
        go_roundw
        case rel => exact ⟨k + 1, by omega, by go_num, HN2.out, hB1⟩
        case measure => simp [intOf]; omega
      · have HY := Lib.hid (HA.out hp)
        clear hp
        go_wp2
        go_ret
        exact ⟨hB1, _, rfl, by omega, fun _ => HY.out, fun _ => by omega⟩
    · have HE : Hid (ss.any (fun s => !valB s) = false) := by
        have := HN.out
        rwa [List.take_of_length_le (by omega)] at this
      go_wp2
      go_ret
      exact ⟨hB, -1, rfl, by omega, fun h => by omega, fun h => by rw [HE.out] at h; cases h⟩
set_option maxHeartbeats 800000 in
theorem values_any (A : Option Addr) (c : Nat) (ss : List ByteArray) (w : World) (hm : ss.length ≤ 4000000) (h : Rd w w.heap.size A (strs ss)) (hz : ∀ s ∈ ss, s.size ≤ 4000000) (he : Env w) (q : Bool) (hq : q = true ↔ ∀ s ∈ ss, IsVal s.data.toList) :
    Calls Tryd.prog 34 #[.slice A ss.length c] w fun e w' => Below w.heap.size w w' ∧ e = .returned (.bool q) := by
  have HI := Lib.hid (idxval_any A c ss w hm h hz he)
  have HQ : Hid (q = !ss.any (fun s => !valB s)) := by
    show _ = _
    rw [Bool.eq_iff_iff, hq]
    simp only [Bool.not_eq_true', List.any_eq_false]
    exact ⟨fun h s hs => by simp [(valB_iff s).2 (h s hs)], fun h s hs => (valB_iff s).1 (by have := h s hs; simpa using this)⟩
  clear hz hq h
  generalize ss.any (fun s => !valB s) = r at *
  have CF : Calls Tryd.prog 38 #[.slice A ss.length c, .func (.func 39) #[] #[]] w fun e w' => Below w.heap.size w w' ∧ e = .returned (.bool r) := by
    go_enter Tryd.func38, Tryd.ntmps38
    go_wp2_with fail
    refine HI.out.mono ?_
    rintro e w1 ⟨hb1, k, rfl, h1, h2⟩
    have HE : Hid (decide (0 ≤ k) = r) := by
      show _ = _
      rw [Bool.eq_iff_iff, decide_eq_true_eq]; exact h2
    clear h2
    go_wp2
    go_ret
    exact ⟨hb1, by rw [← HE.out]; rfl⟩
  clear HI
  go_enter Tryd.func34, Tryd.ntmps34
  go_wp2_with fail
  refine CF.mono ?_
  rintro e w1 ⟨hb1, rfl⟩
  go_wp2
  go_ret
  exact ⟨hb1, by rw [HQ.out]; rfl⟩
end Go.Proofs.YtihcefiffblikaaDoor
