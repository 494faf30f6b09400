/-
  Walks: package array: how far elements lie from each other; places; indexes in a shape.
-/
import Derived.Test.YtihcefiffblikaaDoorArrB
namespace Go.Proofs.YtihcefiffblikaaDoor
open Go.RowKit Ix Ar

theorem strides_drop {S : List Nat} {j : Nat} (h : j < S.length) : (strides S).drop j = Ix.prod (S.drop (j + 1)) :: (strides S).drop (j + 1) := by
  have hl : j < (strides S).length := by rw [strides_len]; exact h
  rw [List.drop_eq_getElem_cons hl]
  congr 1
  have := strides_at S j h
  rw [List.getD_eq_getElem?_getD, List.getElem?_eq_getElem hl] at this
  exact this
theorem Sz4.drop {S : List Nat} (h : Sz4 S) (k : Nat) : Sz4 (S.drop k) := ⟨by have := h.len; rw [List.length_drop]; omega, fun s hs => h.le s (List.mem_of_mem_drop hs)⟩

set_option maxRecDepth 100000 in
set_option maxHeartbeats 1600000 in
theorem strides_any (S : List Nat) (A : Option Addr) (c : Nat) (w : World) (hS : Sz4 S) (hr : Rd w w.heap.size A (ints .i64 S)) :
    Calls Tryd.prog 17 #[.slice A S.length c] w fun e w' => Below w.heap.size w w' ∧ e = .returned (.slice (some ⟨w.heap.size, 0, none⟩) S.length S.length) ∧ Bk w' w.heap.size 3 (ints .i64 (strides S)).toArray := by
  have hl4 := hS.len
  obtain ⟨i0, hi0, hz0, hz1, hz2⟩ := info_parts Tryd.int_info
  have hmk := make_ints (P := Tryd.prog) 22 3 i0 .i64 Tryd.underlying22 hi0 hz0 hz1 (by omega) .i64 .i64 S.length (S.length : Int) rfl (by omega)
  go_enter Tryd.func17, Tryd.ntmps17
  go_wp2_with fail
  have hB1 := below_alloc w (.cells (ints .i64 (List.replicate S.length 0)).toArray 3)
  have k1 := Bk.new w 3 (ints .i64 (List.replicate S.length 0)).toArray
  have HR := Lib.hid hr
  clear hmk hr
  generalize w.alloc (.cells (ints .i64 (List.replicate S.length 0)).toArray 3) = w1 at *
  go_loopw [4, 5] (fun n j wr => ∃ m : Nat, m ≤ S.length ∧ j = .int .i64 ((m : Int) - 1) ∧ n = .int .i64 (Ix.prod (S.drop m) : Nat) ∧ Bk wr w.heap.size 3 (ints .i64 (List.replicate m 0 ++ (strides S).drop m)).toArray ∧ Below w.heap.size w wr) (fun _ j _ => (intOf j + 1).toNat)
  case atStart => exact ⟨S.length, Nat.le_refl _, rfl, by rw [List.drop_length]; rfl, by rw [List.drop_of_length_le (by rw [strides_len]; exact Nat.le_refl _), List.append_nil]; exact k1, hB1⟩
  case round =>
    obtain ⟨m, hm, rfl, rfl, kb, hB⟩ := hrel
    rcases m with _ | j
    · have k0 : Bk wr w.heap.size 3 (ints .i64 (strides S)).toArray := kb
      clear kb
      go_wp2
      go_ret
      exact ⟨hB, rfl, k0⟩
    · have e : (((j + 1 : Nat) : Int) - 1) = (j : Int) := by omega
      rw [e]
      have hj : j < S.length := by omega
      obtain ⟨ad, rfl, hab, hcs⟩ := (HR.out.below hB).int hj
      have hs := getD_le hS j
      have hp := (hS.drop (j + 1)).prod
      have hp2 := (hS.drop j).prod
      have HP : Hid (Ix.prod (S.drop j) = S.getD j 0 * Ix.prod (S.drop (j + 1))) := prod_drop hj
      have k4 := kb.put j (.int .i64 ((Ix.prod (S.drop (j + 1)) : Nat) : Int))
      rw [ints_set] at k4
      have HL : Hid ((List.replicate (j + 1) 0 ++ (strides S).drop (j + 1)).set j (Ix.prod (S.drop (j + 1))) = List.replicate j 0 ++ (strides S).drop j) := by
        show _ = _
        rw [strides_drop hj, List.replicate_succ', List.append_assoc]
        exact set_mid _ _ _ _ _ (by simp)
      rw [HL.out] at k4
      have hcs4 := (World.cell?_setCell_other wr ⟨w.heap.size, j, none⟩ (ad.add j) (.int .i64 ((Ix.prod (S.drop (j + 1)) : Nat) : Int)) (fun e => by have h1 := addr_block ad j; rw [← e] at h1; have h2 : w.heap.size = ad.block := h1; omega)).trans hcs
      have hB4 := hB.setCell (p := ⟨w.heap.size, j, none⟩) (Nat.le_refl _) (.int .i64 ((Ix.prod (S.drop (j + 1)) : Nat) : Int))
      have hc0 := kb.cell j
      rw [ints_getD .i64 _ (by rw [List.length_append, List.length_replicate]; omega)] at hc0
      have hf0 := kb.frozen j
      have hk4 := Lib.hid k4
      rw [HP.out] at hp2
      obtain ⟨q, hq⟩ : ∃ q : Nat, q = Ix.prod (S.drop j) := ⟨_, rfl⟩
      have HQ := Lib.hid hq
      rw [HP.out] at hq
      generalize Ix.prod (S.drop (j + 1)) = p at *
      generalize S.getD j 0 = s at *
      have ww : IntKind.i64.wrap ((p : Int) * (s : Int)) = (q : Int) := by
        rw [show (p : Int) * (s : Int) = (q : Int) by rw [hq, Nat.mul_comm]; push_cast; rfl]
        exact IntWalk.i64_in _ (by rw [hq]; omega)
      clear hq hp2 HP e kb k4 HL hcs
      go_wp2
      go_roundw
      case rel => exact ⟨j, by omega, rfl, by rw [← HQ.out], hk4.out, hB4⟩
      case measure => simp [intOf]

/-- Ints read at their places. -/
theorem dot_snoc : ∀ (I D : List Nat) (i d : Nat), I.length = D.length → dot (I ++ [i]) (D ++ [d]) = dot I D + i * d
  | [], [], i, d, _ => by show i * d + 0 = 0 + i * d; omega
  | [], _ :: _, _, _, h => by simp at h
  | _ :: _, [], _, _, h => by simp at h
  | x :: I, y :: D, i, d, h => by
    show x * y + dot (I ++ [i]) (D ++ [d]) = x * y + dot I D + i * d
    rw [dot_snoc I D i d (by simpa using h)]; omega
theorem dot_take {I D : List Nat} (h : I.length = D.length) {k : Nat} (hk : k < I.length) : dot (I.take (k + 1)) (D.take (k + 1)) = dot (I.take k) (D.take k) + I.getD k 0 * D.getD k 0 := by
  rw [take_getD hk, take_getD (by omega), dot_snoc _ _ _ _ (by rw [List.length_take, List.length_take]; omega)]
theorem dot_le {M : Nat} : ∀ (I D : List Nat), dot I D ≤ M → ∀ k, dot (I.take k) (D.take k) ≤ M
  | [], _, _, k => by simp [dot]
  | _ :: _, [], _, k => by cases k <;> simp [dot]
  | x :: I, y :: D, h, 0 => Nat.zero_le _
  | x :: I, y :: D, h, k + 1 => by
    have h : x * y + dot I D ≤ M := h
    have := dot_le (M := M - x * y) I D (by omega) k
    show x * y + dot (I.take k) (D.take k) ≤ M
    omega

set_option maxRecDepth 100000 in
set_option maxHeartbeats 1600000 in
/-- The place of an index, for strides d. -/
theorem place_any (I D : List Nat) (A A' : Option Addr) (c c' B B' : Nat) (w : World) (hl : I.length = D.length) (h4 : I.length ≤ 4) (hd : dot I D ≤ 1000000000000) (hr : Rd w B A (ints .i64 I)) (hr' : Rd w B' A' (ints .i64 D)) :
    Calls Tryd.prog 21 #[.slice A I.length c, .slice A' D.length c'] w fun e w' => w = w' ∧ e = .returned (.int .i64 (dot I D : Nat)) := by
  have HL := Lib.hid hl
  rw [← hl]
  clear hl
  go_enter Tryd.func21, Tryd.ntmps21
  go_wp2_with fail
  go_loop [5, 10] (fun n i => ∃ k : Nat, k ≤ I.length ∧ i = .int .i64 k ∧ n = .int .i64 (dot (I.take k) (D.take k) : Nat)) (fun _ i => I.length - (intOf i).toNat)
  case atStart => exact ⟨0, Nat.zero_le _, rfl, rfl⟩
  case round =>
    obtain ⟨k, hk, rfl, rfl⟩ := hrel
    by_cases hlt : k < I.length
    · obtain ⟨ad, rfl, hab, hcell⟩ := hr.int hlt
      obtain ⟨ad', rfl, hab', hcell'⟩ := hr'.int (j := k) (by rw [← HL.out]; exact hlt)
      have hp := dot_le I D hd k
      have hp2 := dot_le I D hd (k + 1)
      have HP : Hid (dot (I.take (k + 1)) (D.take (k + 1)) = dot (I.take k) (D.take k) + I.getD k 0 * D.getD k 0) := dot_take HL.out hlt
      rw [HP.out] at hp2
      generalize dot (I.take k) (D.take k) = p at *
      generalize I.getD k 0 = x at *
      generalize D.getD k 0 = y at *
      obtain ⟨q, hq⟩ : ∃ q : Nat, q = x * y := ⟨_, rfl⟩
      rw [← hq] at hp2 HP
      have ww : IntKind.i64.wrap ((x : Int) * (y : Int)) = (q : Int) := by
        rw [show (x : Int) * (y : Int) = (q : Int) by rw [hq]; push_cast; rfl]
        exact IntWalk.i64_in _ (by omega)
      clear hq
      go_wp2
      go_round
      case rel => exact ⟨k + 1, by omega, by go_num, by rw [HP.out]; go_num⟩
      case measure => simp [intOf]; omega
    · have HE : Hid (dot (I.take k) (D.take k) = dot I D) := by
        show _ = _
        rw [List.take_of_length_le (by omega), List.take_of_length_le (by rw [← HL.out]; omega)]
      rw [HE.out]
      clear HE
      go_wp2
      go_ret
      exact ⟨rfl, rfl⟩
end Go.Proofs.YtihcefiffblikaaDoor
