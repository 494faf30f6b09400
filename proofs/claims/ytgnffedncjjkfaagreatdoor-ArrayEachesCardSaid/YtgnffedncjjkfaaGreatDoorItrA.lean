/-
  Walks: package array's cells, indexes and the iterator that it makes.
-/
import Derived.Test.YtgnffedncjjkfaaGreatDoorRngL
import Derived.Test.YtgnffedncjjkfaaGreatDoorArrW
import Derived.Test.YtgnffedncjjkfaaGreatDoorProg
import Derived.Shelf.Abstract
import Derived.Shelf.RegionOpen
import Derived.OwnWalkIn
import Derived.TacticsInMore
import Derived.LoopNIn
import Derived.LoopIn
import Derived.LoopTactic
import Derived.WalkKit
import Derived.IntWalk
namespace Go.Proofs.YtgnffedncjjkfaaGreatDoor
open Go.RowKit Ix

theorem Tryz.int_info : (Tryz.prog.info? 3).map (fun i => (i.zero, i.size, i.bytes)) = some (some (.int .i64 0), 1, 8) := by kernel_rfl
/-- Small sizes. -/
structure Sz4 (S : List Nat) : Prop where
  len : S.length ≤ 4
  le : ∀ s ∈ S, s ≤ 1024
theorem Sz4.prod {S : List Nat} (h : Sz4 S) : prod S ≤ 1099511627776 := by
  have h1 := prod_le S h.le
  have h2 : 1024 ^ S.length ≤ 1024 ^ 4 := Nat.pow_le_pow_right (by decide) h.len
  omega
theorem Sz4.take {S : List Nat} (h : Sz4 S) (k : Nat) : Sz4 (S.take k) := ⟨by have := h.len; rw [List.length_take]; omega, fun s hs => h.le s (List.mem_of_mem_take hs)⟩
theorem prod_take {S : List Nat} {k : Nat} (h : k < S.length) : Ix.prod (S.take (k + 1)) = Ix.prod (S.take k) * S.getD k 0 := by
  rw [List.take_add_one, List.getElem?_eq_getElem h, prod_app, List.getD_eq_getElem?_getD, List.getElem?_eq_getElem h]
  show _ * (S[k] * 1) = _ * S[k]
  rw [Nat.mul_one]
theorem getD_mem {S : List Nat} {k : Nat} (h : k < S.length) : S.getD k 0 ∈ S := by
  rw [List.getD_eq_getElem?_getD, List.getElem?_eq_getElem h]; exact List.getElem_mem _

set_option maxRecDepth 100000 in
set_option maxHeartbeats 800000 in
theorem cells_any (S : List Nat) (A : Option Addr) (c B : Nat) (w : World) (hS : Sz4 S) (hr : Rd w B A (ints .i64 S)) :
    Calls Tryz.prog 84 #[.slice A S.length c] w fun e w' => w = w' ∧ e = .returned (.int .i64 (Ix.prod S : Nat)) := by
  have hl4 := hS.len
  go_enter Tryz.func84, Tryz.ntmps84
  go_wp2_with fail
  go_loop [3, 8] (fun n i => ∃ k : Nat, k ≤ S.length ∧ i = .int .i64 k ∧ n = .int .i64 (Ix.prod (S.take k) : Nat)) (fun _ i => S.length - (intOf i).toNat)
  case atStart => exact ⟨0, Nat.zero_le _, rfl, rfl⟩
  case round =>
    obtain ⟨k, hk, rfl, rfl⟩ := hrel
    by_cases hlt : k < S.length
    · obtain ⟨ad, rfl, hab, hcell⟩ := hr.int hlt
      have hs := hS.le _ (getD_mem hlt)
      have hp := (hS.take k).prod
      have hp2 := (hS.take (k + 1)).prod
      have HP : Hid (Ix.prod (S.take (k + 1)) = Ix.prod (S.take k) * S.getD k 0) := prod_take hlt
      rw [HP.out] at hp2
      generalize Ix.prod (S.take k) = p at *
      generalize S.getD k 0 = s at *
      obtain ⟨q, hq⟩ : ∃ q : Nat, q = p * s := ⟨_, rfl⟩
      have ww : IntKind.i64.wrap ((p : Int) * (s : Int)) = (q : Int) := by
        rw [show (p : Int) * (s : Int) = (q : Int) by rw [hq]; push_cast; rfl]
        exact IntWalk.i64_in _ (by omega)
      have HQ := Lib.hid (HP.out.trans hq.symm)
      clear HP hq hp2
      go_wp2
      go_round
      case rel => exact ⟨k + 1, by omega, by go_num, by rw [HQ.out]⟩
      case measure => simp [intOf]; omega
    · have hkl : k = S.length := by omega
      subst hkl
      go_wp2
      go_ret
      exact ⟨rfl, rfl⟩

theorem indexes_any (A : Option Addr) (n c : Nat) (w : World) :
    Calls Tryz.prog 75 #[.slice A n c] w fun e w' => w' = w.alloc (.cells #[.slice A n c] 22) ∧ e = .returned (.func (.func 117) #[] #[.pointer (some ⟨w.heap.size, 0, none⟩)]) := by
  go_enter Tryz.func75, Tryz.ntmps75
  go_wp2
  go_ret
  exact ⟨rfl, rfl⟩
/-- What the iterator hands to a round: the place and the index. -/
def idxArgs (S : List Nat) (X k : Nat) : Array Value := #[.int .i64 k, .slice (some ⟨X, 0, none⟩) S.length S.length]
/-- What it wants kept. -/
def IdxKeep (S : List Nat) (Bs n₀ : Nat) (A : Option Addr) (c X k : Nat) (W : World) : Prop :=
  Bk W X 3 (ints .i64 (idx S k)).toArray ∧ W.cell? ⟨Bs, 0, none⟩ = some (.slice A S.length c) ∧ Rd W n₀ A (ints .i64 S)
/-- The index is on its way to the next one: all dimensions from m on have come round. -/
def Rolled (S I : List Nat) (m : Nat) : Prop := (inc (S.drop m) (I.drop m)).2 = true
def rolledList (S I : List Nat) (m : Nat) : List Nat := I.take m ++ (inc (S.drop m) (I.drop m)).1
theorem rolled_start (S I : List Nat) (h : I.length = S.length) : Rolled S I S.length ∧ rolledList S I S.length = I := by
  unfold Rolled rolledList
  rw [inc_end S I h]
  exact ⟨rfl, by rw [List.append_nil, List.take_of_length_le (by omega)]⟩
theorem take_getD {l : List Nat} {j : Nat} (h : j < l.length) : l.take (j + 1) = l.take j ++ [l.getD j 0] := by
  rw [List.take_add_one, List.getElem?_eq_getElem h, List.getD_eq_getElem?_getD, List.getElem?_eq_getElem h]; rfl
theorem rolled_len {S I : List Nat} (h : I.length = S.length) (m : Nat) : (rolledList S I m).length = S.length := by
  unfold rolledList
  rw [List.length_append, inc_len _ _ (by simp [h]), List.length_take, List.length_drop]; omega
theorem rolled_at {S I : List Nat} (h : I.length = S.length) {j : Nat} (hj : j < S.length) : (rolledList S I (j + 1)).getD j 0 = I.getD j 0 := by
  unfold rolledList
  rw [List.getD_eq_getElem?_getD, List.getElem?_append_left (by rw [List.length_take]; omega), List.getElem?_take_of_lt (by omega), List.getD_eq_getElem?_getD]
theorem set_mid {α : Type} (a : List α) (x y : α) (b : List α) (j : Nat) (h : a.length = j) : (a ++ x :: b).set j y = a ++ y :: b := by
  subst h; simp
theorem rolled_split {S I : List Nat} (h : I.length = S.length) {j : Nat} (hj : j < S.length) (y : Nat) : (rolledList S I (j + 1)).set j y = I.take j ++ y :: (inc (S.drop (j + 1)) (I.drop (j + 1))).1 := by
  unfold rolledList
  rw [take_getD (by omega), List.append_assoc]
  exact set_mid _ _ _ _ _ (by rw [List.length_take]; omega)
theorem rolled_break {S I : List Nat} (h : I.length = S.length) {j : Nat} (hj : j < S.length) (hr : Rolled S I (j + 1)) (h1 : I.getD j 0 + 1 < S.getD j 0) : (rolledList S I (j + 1)).set j (I.getD j 0 + 1) = (inc S I).1 := by
  rw [rolled_split h hj]
  exact (inc_break S I j h hj hr h1).1.symm
theorem rolled_next {S I : List Nat} (h : I.length = S.length) {j : Nat} (hj : j < S.length) (hr : Rolled S I (j + 1)) (h1 : S.getD j 0 ≤ I.getD j 0 + 1) : Rolled S I j ∧ (rolledList S I (j + 1)).set j 0 = rolledList S I j := by
  have := inc_roll (S := S) (I := I) h hj hr h1
  refine ⟨this.2, ?_⟩
  rw [rolled_split h hj]
  unfold rolledList
  rw [this.1]
theorem rolled_zero (S I : List Nat) : rolledList S I 0 = (inc S I).1 := by unfold rolledList; simp
/-- Between two rounds. -/
def IdxAt (S : List Nat) (Bs n₀ : Nat) (A : Option Addr) (c X k : Nat) (W : World) : Prop :=
  (∃ I : List Nat, I.length = S.length ∧ (k < Ix.prod S → I = idx S k) ∧ Bk W X 3 (ints .i64 I).toArray) ∧ W.cell? ⟨Bs, 0, none⟩ = some (.slice A S.length c) ∧ Rd W n₀ A (ints .i64 S)
/-- In the middle of a step. -/
def IdxMid (S : List Nat) (Bs n₀ : Nat) (A : Option Addr) (c X k m : Nat) (W : World) : Prop :=
  Rolled S (idx S k) m ∧ Bk W X 3 (ints .i64 (rolledList S (idx S k) m)).toArray ∧ W.cell? ⟨Bs, 0, none⟩ = some (.slice A S.length c) ∧ Rd W n₀ A (ints .i64 S)
theorem getD_le {S : List Nat} (hS : Sz4 S) (j : Nat) : S.getD j 0 ≤ 1024 := by
  rcases Nat.lt_or_ge j S.length with h | h
  · exact hS.le _ (getD_mem h)
  · rw [List.getD_eq_getElem?_getD, List.getElem?_eq_none h]; exact Nat.zero_le _
theorem idx_lt {S : List Nat} {k j : Nat} (hk : k < Ix.prod S) (hj : j < S.length) : (idx S k).getD j 0 < S.getD j 0 := ((inside_iff _ _).1 (idx_inside S k hk)).2 j hj

set_option maxRecDepth 100000 in
set_option maxHeartbeats 6400000 in
theorem indexes1_gives (S : List Nat) (A : Option Addr) (c Bs n₀ n : Nat) (w : World) (hn : 1 ≤ n) (hS : Sz4 S) (hBs : Bs < w.heap.size) (hn₀ : n₀ ≤ w.heap.size) (hbox : w.cell? ⟨Bs, 0, none⟩ = some (.slice A S.length c)) (hr : Rd w n₀ A (ints .i64 S)) :
    IdxGives Fence.wide n Tryz.prog 117 #[.pointer (some ⟨Bs, 0, none⟩)] (idxArgs S) (IdxKeep S Bs n₀ A c) (Ix.prod S) w := fun l J W hW hJ hY h0 => by
  have hbox' := (hW.cell (p := ⟨Bs, 0, none⟩) hBs).trans hbox
  have hr' := hr.below (hW.mono hn₀)
  have hl4 := hS.len
  have HJ := Lib.hid hJ
  have HY := Lib.hid hY
  obtain ⟨i0, hi0, hz0, hz1, hz2⟩ := info_parts Tryz.int_info
  have hmk := make_ints (P := Tryz.prog) 22 3 i0 .i64 Tryz.underlying22 hi0 hz0 hz1 (by omega) .i64 .i64 S.length (S.length : Int) rfl (by omega)
  have hBsW : Bs < W.heap.size := by have := hW.size; omega
  have HI0 : Hid (idx S 0 = List.replicate S.length 0) := idx_zero S
  clear hbox hr hJ hY
  refine callsIn_of_wp Tryz.func117 rfl trivial ?_ rfl
  simp only [Tryz.ntmps117, List.size_toArray, List.length_cons, List.length_nil, Nat.reduceAdd, Nat.reduceSub, Array.replicate_succ, Array.replicate_zero, List.push_toArray, List.append_toArray, List.nil_append, List.cons_append]
  gi_wp2_with fail
  have hb1 : Below W.heap.size W (W.alloc (.cells (ints .i64 (List.replicate S.length 0)).toArray 3)) := (Below.refl _ _).alloc (Nat.le_refl _) _
  have k1 := Bk.new W 3 (ints .i64 (List.replicate S.length 0)).toArray
  have hJ1 : J W.heap.size 0 (W.alloc (.cells (ints .i64 (List.replicate S.length 0)).toArray 3)) := HJ.out _ _ _ _ none (Nat.le_refl _) (h0 _) (World.grownBy_alloc _ _ _) (fun r e => by cases e)
  have hbox1 := (hb1.cell (p := ⟨Bs, 0, none⟩) (by have := hW.size; show Bs < _; omega)).trans hbox'
  have hr1 := hr'.below (hb1.mono (by have := hW.size; omega))
  have hIA : IdxAt S Bs n₀ A c W.heap.size 0 (W.alloc (.cells (ints .i64 (List.replicate S.length 0)).toArray 3)) := ⟨⟨_, by rw [List.length_replicate], fun _ => HI0.out.symm, k1⟩, hbox1, hr1⟩
  clear hb1 k1 hbox' hr' h0 hmk HI0
  generalize W.alloc (.cells (ints .i64 (List.replicate S.length 0)).toArray 3) = W1 at *
  have CC := Lib.hid (callsIn_wide (n := n - 1) |>.2 (cells_any S A c n₀ W1 hS hr1))
  refine ⟨trivial, CC.out.mono ?_⟩
  rintro e w' ⟨rfl, rfl⟩
  clear CC hbox1 hr1
  have hpb := hS.prod
  obtain ⟨N, hN⟩ : ∃ N, N = Ix.prod S := ⟨_, rfl⟩
  rw [← hN] at hpb ⊢
  have HN := Lib.hid hN
  clear hN
  gi_wp2_with fail
  gi_loopw [11] (fun i wr => ∃ k : Nat, k ≤ N ∧ i = .int .i64 k ∧ J W.heap.size k wr ∧ IdxAt S Bs n₀ A c W.heap.size k wr) (fun i _ => N - (intOf i).toNat)
  case atStart => exact ⟨0, Nat.zero_le _, rfl, hJ1, hIA⟩
  case round =>
    clear hJ1 hIA
    obtain ⟨k, hk, rfl, hJk, ⟨I, hIl, hI, kI⟩, hbx, hrd⟩ := hrel
    by_cases hlt : k < N
    · have hI' : I = idx S k := hI (by rw [← HN.out]; exact hlt)
      subst hI'
      obtain ⟨fn, tmps, assign, body, hy, hR⟩ := HY.out W.heap.size k wr (Nat.le_refl _) hJk ⟨kI, hbx, hrd⟩ (by rw [← HN.out]; exact hlt)
      dsimp only [idxArgs] at hy
      clear hI
      gi_wp2_with fail
      refine hR.mono ?_
      rintro e W3 ⟨rfl, hJ3, kI3, hbx3, hrd3⟩
      have hBsX : Bs ≠ W.heap.size := by omega
      obtain ⟨st1, st2⟩ := rolled_start S (idx S k) hIl
      have hM : IdxMid S Bs n₀ A c W.heap.size k S.length W3 := ⟨st1, by rw [st2]; exact kI3, hbx3, hrd3⟩
      clear hR hy hJk kI hbx hrd kI3 st1 st2 hrd3
      gi_wp2_with fail
      gi_loopw [5] (fun j wq => ∃ m : Nat, m ≤ S.length ∧ j = .int .i64 ((m : Int) - 1) ∧ J W.heap.size (k + 1) wq ∧ IdxMid S Bs n₀ A c W.heap.size k m wq) (fun j _ => (intOf j + 1).toNat)
      case atStart => exact ⟨S.length, Nat.le_refl _, rfl, hJ3, hM⟩
      case round =>
        clear hJ3 hM hbx3
        obtain ⟨m, hm, rfl, hJm, hR, kI, hbx, hrd⟩ := hrel
        rcases m with _ | j
        · rw [rolled_zero] at kI
          have HI := Lib.hid (inc_idx S k (by rw [← HN.out]; exact hlt))
          have HIA : Hid (IdxAt S Bs n₀ A c W.heap.size (k + 1) wr) := by
            refine ⟨⟨_, inc_len S _ hIl, fun h => ?_, kI⟩, hbx, hrd⟩
            rw [HI.out, Nat.mod_eq_of_lt h]
          clear kI hrd HI hR
          gi_wp2
          go_roundw
          case rel => exact ⟨k + 1, by omega, by go_num, hJm, HIA.out⟩
          case measure => simp [intOf]; omega
        · have e : (((j + 1 : Nat) : Int) - 1) = (j : Int) := by omega
          rw [e]
          have hj : j < S.length := by omega
          have hx1 := idx_lt (by rw [← HN.out]; exact hlt) hj
          have hx2 := getD_le hS j
          obtain ⟨ad, rfl, hab, hcs⟩ := hrd.int hj
          have hc0 := kI.cell j
          rw [ints_getD .i64 _ (by rw [rolled_len hIl]; exact hj), rolled_at hIl hj] at hc0
          have hf0 := kI.frozen j
          have k4 := kI.put j (.int .i64 (((idx S k).getD j 0 + 1 : Nat) : Int))
          rw [ints_set] at k4
          have hg4 := grown_setCell wr ⟨W.heap.size, j, none⟩ (.int .i64 (((idx S k).getD j 0 + 1 : Nat) : Int))
          have hJ4 := HJ.out _ _ _ _ _ (Nat.le_refl _) hJm hg4 (fun r e => by cases e; rfl)
          have hcs4 := (World.cell?_setCell_other wr ⟨W.heap.size, j, none⟩ (ad.add j) (.int .i64 (((idx S k).getD j 0 + 1 : Nat) : Int)) (fun e => by have h1 := addr_block ad j; rw [← e] at h1; have h2 : W.heap.size = ad.block := h1; have := hW.size; omega)).trans hcs
          have hbx4 := (World.cell?_setCell_other wr ⟨W.heap.size, j, none⟩ ⟨Bs, 0, none⟩ (.int .i64 (((idx S k).getD j 0 + 1 : Nat) : Int)) (fun e => by cases e; omega)).trans hbx
          have hrd4 := hrd.setCell (p := ⟨W.heap.size, j, none⟩) (by have := hW.size; show n₀ ≤ W.heap.size; omega) (.int .i64 (((idx S k).getD j 0 + 1 : Nat) : Int))
          have HB := Lib.hid (fun h => rolled_break hIl hj hR h)
          have HX := Lib.hid (fun h => rolled_next hIl hj hR h)
          have HI := Lib.hid (inc_idx S k (by rw [← HN.out]; exact hlt))
          have ey : ((((idx S k).getD j 0 + 1 : Nat)) : Int) = (((idx S k).getD j 0 : Nat) : Int) + 1 := rfl
          rw [ey] at k4 hJ4 hcs4 hbx4 hrd4
          clear ey
          generalize hxx : (idx S k).getD j 0 = x at *
          generalize hss : S.getD j 0 = s at *
          clear e hR kI hrd hg4 hxx hss hJm
          have hc4 := k4.cell j
          rw [ints_getD .i64 _ (by rw [List.length_set, rolled_len hIl]; exact hj), List.getD_eq_getElem?_getD, List.getElem?_set_self (by rw [rolled_len hIl]; exact hj), show ((Option.getD (some (x + 1)) 0 : Nat) : Int) = (x : Int) + 1 from rfl] at hc4
          gi_wp2_with fail
          generalize wr.setCell ⟨W.heap.size, j, none⟩ (.int .i64 ((x : Int) + 1)) = w4 at *
          clear hc0 hf0 hcs hbx
          have hJ5 : J W.heap.size (k + 1) w4.drew := HJ.out _ _ _ _ none (Nat.le_refl _) hJ4 (grown_drewN w4 1 none) (fun r e => by cases e)
          by_cases hb : x + 1 < s
          · have hb' : decide ((x : Int) + 1 < (s : Int)) = true := decide_eq_true (by omega)
            have HIA : Hid (IdxAt S Bs n₀ (some ad) c W.heap.size (k + 1) w4.drew) := by
              refine ⟨⟨_, inc_len S _ hIl, fun h => ?_, ?_⟩, hbx4, hrd4⟩
              · rw [HI.out, Nat.mod_eq_of_lt h]
              · rw [HB.out hb] at k4; exact k4
            clear HB HX HI k4 hJ4 hrd4
            gi_region
            gi_wp2
            go_roundw
            case rel => exact ⟨k + 1, by omega, by go_num, hJ5, HIA.out⟩
            case measure => simp [intOf]; omega
          · have hb' : decide ((x : Int) + 1 < (s : Int)) = false := decide_eq_false (by omega)
            obtain ⟨q1, q2⟩ := HX.out (by omega)
            have k6 := (show Bk w4.drew _ _ _ from k4).put j (.int .i64 ((0 : Nat) : Int))
            rw [ints_set, List.set_set, q2] at k6
            have hg6 := grown_setCell w4.drew ⟨W.heap.size, j, none⟩ (.int .i64 ((0 : Nat) : Int))
            have hJ6 := HJ.out _ _ _ _ _ (Nat.le_refl _) hJ5 hg6 (fun r e => by cases e; rfl)
            have hbx6 := (World.cell?_setCell_other w4.drew ⟨W.heap.size, j, none⟩ ⟨Bs, 0, none⟩ (.int .i64 ((0 : Nat) : Int)) (fun e => by cases e; omega)).trans hbx4
            have hrd6 := (show Rd w4.drew n₀ _ _ from hrd4).setCell (p := ⟨W.heap.size, j, none⟩) (by have := hW.size; show n₀ ≤ W.heap.size; omega) (.int .i64 ((0 : Nat) : Int))
            have HM : Hid (IdxMid S Bs n₀ (some ad) c W.heap.size k j (w4.drew.setCell ⟨W.heap.size, j, none⟩ (.int .i64 ((0 : Nat) : Int)))) := ⟨q1, k6, hbx6, hrd6⟩
            have hf4 := k4.frozen j
            clear HB HX HI q1 q2 k6 hg6 hbx6 hrd6 k4 hJ4 hrd4 hJ5
            gi_region
            gi_wp2
            go_roundw
            case rel => exact ⟨j, by omega, rfl, hJ6, HM.out⟩
            case measure => simp [intOf]
    · have hkl : k = N := by omega
      subst hkl
      clear hI kI hbx hrd
      gi_wp2
      go_end0
      exact ⟨⟨_, rfl⟩, _, Nat.le_refl _, by rw [← HN.out]; exact hJk⟩
end Go.Proofs.YtgnffedncjjkfaaGreatDoor
