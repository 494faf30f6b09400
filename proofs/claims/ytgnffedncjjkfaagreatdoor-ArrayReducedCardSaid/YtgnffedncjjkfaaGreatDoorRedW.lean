/-
  The walk of the law ArrayReduced.
-/
import Derived.Test.YtgnffedncjjkfaaGreatDoorRedX
import Derived.Test.YtgnffedncjjkfaaGreatDoorArxH
import Derived.Test.YtgnffedncjjkfaaGreatDoorArxP
namespace Go.Proofs.YtgnffedncjjkfaaGreatDoor
open Go.RowKit Ar

theorem lengthy_any (L : List ByteArray) (v : Value) (w : World) (h : IsT w w.heap.size v L) (hM : L.length ≤ maxLen) (q : Bool) (hq : q = true ↔ ¬ Slim ([], L)) :
    Calls Tryz.prog 46 #[v] w fun r w' => Below w.heap.size w w' ∧ r = .returned (.bool q) := by
  have WD := Lib.hid (wide_any ([], L) (.agg #[.slice none 0 0, v]) w ⟨_, _, rfl, IsI.nil _ _, h⟩ (by unfold maxLen; simp) hM q hq)
  obtain ⟨A, c, rfl, -⟩ := h.form
  clear h hq
  go_enter Tryz.func46, Tryz.ntmps46
  go_wp2_with fail
  refine WD.out.mono ?_
  rintro e w2 ⟨hb2, rfl⟩
  go_wp2
  go_ret
  exact ⟨hb2, rfl⟩

theorem rev_next {L : List ByteArray} {k : Nat} (h : k < L.length) : L.reverse.take (k + 1) = L.reverse.take k ++ [L[L.length - 1 - k]] := by
  rw [List.take_succ_eq_append_getElem (by rw [List.length_reverse]; exact h)]
  rw [List.getElem_reverse]

set_option maxRecDepth 100000 in
set_option maxHeartbeats 1600000 in
theorem reduced_walk (L : List ByteArray) (red : Int) (v : Value) (w : World) (h : IsT w w.heap.size v L) (hL : L.length ≤ maxLen) (_ : ∀ s ∈ L, s.size ≤ maxLen) (_ : -9223372036854775808 ≤ red) (_ : red ≤ 9223372036854775807) (he : Env w) (her : EnvR w) :
    Calls Tryz.prog 9 #[v, .int .i64 red] w fun r w' => Below w.heap.size w w' ∧ r = .returned (.bool true) := by
  obtain ⟨q, hq⟩ : ∃ b : Bool, b = true ↔ ¬ Slim ([], L) := by classical exact ⟨decide _, decide_eq_true_iff⟩
  have LE := Lib.hid (lengthy_any L v w h hL q hq)
  have SN := Lib.hid (fun W (hW : Below w.heap.size w W) => sane_any W (he.next hW))
  obtain ⟨A, c, rfl, hc⟩ := h.form
  cases q
  rotate_left
  · clear hq h he her
    go_enter Tryz.func9, Tryz.ntmps9
    go_wp2_with fail
    refine LE.out.mono ?_
    rintro e w2 ⟨hb2, rfl⟩
    go_wp2_with fail
    refine (SN.out w2 hb2).mono ?_
    rintro e w3 ⟨hb3, rfl⟩
    go_wp2
    go_ret
    exact ⟨hb2.trans (hb3.mono hb2.size), rfl⟩
  · have hs : Slim ([], L) := by
      apply Classical.byContradiction
      intro h'
      have := hq.2 h'
      cases this
    obtain ⟨-, hl1, hl2⟩ := hs
    simp only at hl1 hl2
    have P1 := Lib.hid (fun W (hW : Below w.heap.size w W) => preduced_any L red _ W (h.next hW) (he.next hW) (her.next hW) (by omega) (fun s hs => by have := hl2 s hs; omega))
    have P2 := Lib.hid (fun W (hW : Below w.heap.size w W) => rreduced_any L red _ W (h.next hW) (by omega) (fun s hs => by have := hl2 s hs; omega))
    have P3 := Lib.hid (fun W (hW : Below w.heap.size w W) u (hu : IsT W W.heap.size u L.reverse) => show Calls Tryz.prog 47 #[u, .int .i64 red] W fun e w' => Below W.heap.size W w' ∧ e = .returned (.tuple #[.string (redR L red).1, .int .i64 (redR L red).2]) from by
      have := preduced_any L.reverse red u W hu (he.next hW) (her.next hW) (by rw [List.length_reverse]; omega) (fun s hs => by have := hl2 s (List.mem_reverse.1 hs); omega)
      rwa [redR_rev] at this)
    have hr := h.rd
    have HCELL := Lib.hid (fun k (hk : k < L.length) => show ∃ ad, A = some ad ∧ ad.block < w.heap.size ∧ w.cell? (ad.add (L.length - 1 - k)) = some (.string (L[L.length - 1 - k])) from hr.str (by omega))
    have HREV := Lib.hid (fun k (hk : k < L.length) => rev_next hk)
    have HALL : Hid (L.reverse.take L.length = L.reverse) := List.take_of_length_le (by rw [List.length_reverse]; exact Nat.le_refl _)
    have HTL : Hid (∀ k, k ≤ L.length → (L.reverse.take k).length = k) := fun k hk => by rw [List.length_take, List.length_reverse]; omega
    obtain ⟨i0, hi0, hz0, hz1, hz2⟩ := info_parts Tryz.str_info
    generalize redR L red = R at *
    obtain ⟨R1, R2⟩ := R
    simp only at P1 P2 P3
    have e1 : (R1.toList == R1.toList) = true := by simp
    have e2 : (R2 == R2) = true := by simp
    clear hq h he her hl2 hr
    obtain ⟨n, hn⟩ : ∃ n, n = L.length := ⟨_, rfl⟩
    have HN := Lib.hid hn
    go_enter Tryz.func9, Tryz.ntmps9
    go_wp2_with fail
    refine LE.out.mono ?_
    rintro e w2 ⟨hb2, rfl⟩
    go_wp2_with fail
    refine (P1.out w2 hb2).mono ?_
    rintro e w3 ⟨hb3, rfl⟩
    have hB3 := hb2.trans (hb3.mono hb2.size)
    go_wp2_with fail
    refine (P2.out w3 hB3).mono ?_
    rintro e w4 ⟨hb4, rfl⟩
    have hB4 := hB3.trans (hb4.mono hB3.size)
    clear hb2 hb3 hb4 hB3 LE P1 P2
    go_wp2_with fail
    go_loopw [9, 10] (fun u i wr => ∃ k : Nat, k ≤ L.length ∧ i = .int .i64 ((L.length : Int) - 1 - k) ∧ wr.ownsRow w.heap.size 9 1 u k (strs (L.reverse.take k)) ∧ Below w.heap.size w wr) (fun _ i _ => (intOf i + 1).toNat)
    case atStart => exact ⟨0, Nat.zero_le _, by simp, World.ownsRow_nil _ _ _ _, hB4⟩
    case round =>
      clear hB4
      obtain ⟨k, hk, rfl, hO, hB⟩ := hrel
      by_cases hlt : k < L.length
      · obtain ⟨ad, rfl, hab, hcx0⟩ := HCELL.out k hlt
        have hcx := (hB.cell (p := ad.add (L.length - 1 - k)) (by rw [addr_block]; exact hab)).trans hcx0
        have hix : (L.length : Int) - 1 - k = ((L.length - 1 - k : Nat) : Int) := by omega
        have HR := Lib.hid (HREV.out k hlt)
        generalize L[L.length - 1 - k] = s at *
        have HO := Lib.hid hO
        rw [hix]
        clear hcx0 hO
        have hl6 : L.length ≤ 100 := hl1
        generalize L.length - 1 - k = m at *
        have HOA := Lib.hid (HO.out.alloc (.cells #[.string s] 9))
        clear HO
        go_wp2_with (at_builtin; go_loud (have hz := hB.size; refine wpL_append _ rfl (.tmp 35) (.tmp 40) _ rfl w.heap.size 9 i0 _ 1 16 Tryz.underlying23 hi0 hz0 hz1 hz2 rfl (by omega) _ k _ rfl HOA.out _ 1 1 [.string s] rfl rfl (Rd.of_new wr [.string s] 9) (strs_one [s]) (by unfold maxLen; omega) (by omega) (by simp only [World.size_alloc]; omega) ?_; intro v1 w7 hown2 hg1 hat1; have hB2 := below_app (hB.alloc hz _) hg1 (by simp only [World.size_alloc]; omega) HOA.out (Nat.le_refl _); clear hg1 hat1))
        have HO2 : Hid (w7.ownsRow w.heap.size 9 1 v1 (k + 1) (strs (L.reverse.take (k + 1)))) := by
          show w7.ownsRow _ _ _ _ _ _
          rw [HR.out, strs_app]; exact hown2
        clear hown2 HOA HR hB
        go_wp2
        go_roundw
        case rel => exact ⟨k + 1, by omega, by (congr 1; omega), HO2.out, hB2⟩
        case measure => simp [intOf] <;> omega
      · obtain rfl : k = L.length := by omega
        rw [HALL.out] at hO
        have hT := IsT.of_own hO
        obtain ⟨Au, cu, hu, -⟩ := hT.form
        rw [List.length_reverse] at hu
        subst hu
        have PP := Lib.hid (P3.out wr hB _ hT)
        clear HCELL HREV HALL HTL hO hT P3
        have hm1 : (L.length : Int) - 1 - (L.length : Nat) = -1 := by omega
        rw [hm1]
        go_wp2_with fail
        refine PP.out.mono ?_
        rintro e w6 ⟨hb6, rfl⟩
        have hB6 := hB.trans (hb6.mono hB.size)
        go_wp2_with fail
        refine (SN.out w6 hB6).mono ?_
        rintro e w7 ⟨hb7, rfl⟩
        go_wp2
        go_ret
        exact ⟨hB6.trans (hb7.mono hB6.size), rfl⟩
end Go.Proofs.YtgnffedncjjkfaaGreatDoor
