/-
  Plain law: dimensions in another order.
  Walks: distinct on both sides; the reference's picked.
  Walk: package array: Spread.
  Walk: the reference's Spread.
  Plain law of Move. Walk: package array: Move.
  Walk: the reference's Move.
-/
import Derived.Test.YtgnffedncjjkfaaGreatDoorSlab
import Derived.Test.YtgnffedncjjkfaaGreatDoorStpA
namespace Ix

/-- An order of r dimensions. -/
def Perm (r : Nat) (X : List Nat) : Prop := X.length = r ∧ (∀ x ∈ X, x < r) ∧ X.Nodup
/-- The elements at some places. -/
def pk {α : Type} (X : List Nat) (l : List α) (d : α) : List α := X.map fun x => l.getD x d
def iv (X : List Nat) : List Nat := (List.range X.length).map fun j => X.idxOf j
theorem nodup_le : ∀ (r : Nat) (l : List Nat), l.Nodup → (∀ x ∈ l, x < r) → l.length ≤ r
  | 0, l, _, h => by
    cases l with
    | nil => simp
    | cons a l => exact absurd (h a (by simp)) (Nat.not_lt_zero _)
  | r + 1, l, hn, h => by
    by_cases hr : r ∈ l
    · have h1 := nodup_le r (l.erase r) (hn.erase r) (fun x hx => by
        obtain ⟨h2, h3⟩ := (hn.mem_erase_iff).1 hx
        have := h x h3; omega)
      rw [List.length_erase_of_mem hr] at h1
      omega
    · have := nodup_le r l hn (fun x hx => by
        have := h x hx
        have : x ≠ r := fun e => hr (e ▸ hx)
        omega)
      omega
theorem perm_mem {r : Nat} {X : List Nat} (h : Perm r X) {j : Nat} (hj : j < r) : j ∈ X := by
  by_cases hm : j ∈ X
  · exact hm
  · have := nodup_le r (j :: X) (List.nodup_cons.2 ⟨hm, h.2.2⟩) (fun x hx => by
      rcases List.mem_cons.1 hx with rfl | hx
      · exact hj
      · exact h.2.1 x hx)
    rw [List.length_cons, h.1] at this
    omega
theorem iv_len (X : List Nat) : (iv X).length = X.length := by simp [iv]
theorem getD_in {l : List Nat} {j : Nat} (h : j < l.length) : l.getD j 0 = l[j] := by rw [List.getD_eq_getElem?_getD, List.getElem?_eq_getElem h]; rfl
theorem iv_at {X : List Nat} {j : Nat} (hj : j < X.length) : (iv X).getD j 0 = X.idxOf j := by
  rw [getD_in (by rw [iv_len]; exact hj)]
  simp [iv]
theorem iv_left {r : Nat} {X : List Nat} (h : Perm r X) {k : Nat} (hk : k < r) : (iv X).getD (X.getD k 0) 0 = k := by
  have hk' : k < X.length := by rw [h.1]; exact hk
  rw [getD_in hk', iv_at (by rw [h.1]; exact h.2.1 _ (List.getElem_mem _))]
  exact h.2.2.idxOf_getElem k hk'
theorem iv_right {r : Nat} {X : List Nat} (h : Perm r X) {j : Nat} (hj : j < r) : X.getD ((iv X).getD j 0) 0 = j := by
  rw [iv_at (by rw [h.1]; exact hj)]
  have hm := List.idxOf_lt_length_of_mem (perm_mem h hj)
  rw [getD_in hm]
  exact List.getElem_idxOf hm
theorem iv_perm {r : Nat} {X : List Nat} (h : Perm r X) : Perm r (iv X) := by
  refine ⟨by rw [iv_len, h.1], fun x hx => ?_, ?_⟩
  · obtain ⟨j, hj, rfl⟩ := List.mem_map.1 hx
    rw [List.mem_range, h.1] at hj
    have := List.idxOf_lt_length_of_mem (perm_mem h hj)
    rwa [h.1] at this
  · unfold iv
    refine List.pairwise_map.2 (List.Pairwise.imp_of_mem (fun {a b} ha hb hab e => hab ?_) (List.nodup_range (n := X.length)))
    rw [List.mem_range, h.1] at ha hb
    have h1 := iv_right h ha
    have h2 := iv_right h hb
    rw [iv_at (by rw [h.1]; exact ha)] at h1
    rw [iv_at (by rw [h.1]; exact hb)] at h2
    rw [← h1, ← h2, e]
theorem getD_ext {l m : List Nat} (hl : l.length = m.length) (h : ∀ j, j < l.length → l.getD j 0 = m.getD j 0) : l = m := by
  apply List.ext_getElem hl
  intro i h1 h2
  have := h i h1
  rwa [getD_in h1, getD_in h2] at this
theorem iv_iv {r : Nat} {X : List Nat} (h : Perm r X) : iv (iv X) = X := by
  have hp := iv_perm h
  refine getD_ext (by rw [iv_len, iv_len]) (fun j hj => ?_)
  rw [iv_len, iv_len, h.1] at hj
  have h1 := iv_left hp (k := X.getD j 0) (by rw [getD_in (by rw [h.1]; exact hj)]; exact h.2.1 _ (List.getElem_mem _))
  rw [iv_left h hj] at h1
  exact h1
theorem pk_len {α : Type} (X : List Nat) (l : List α) (d : α) : (pk X l d).length = X.length := by simp [pk]
theorem pk_at {X l : List Nat} {j : Nat} (hj : j < X.length) : (pk X l 0).getD j 0 = l.getD (X.getD j 0) 0 := by
  rw [getD_in (by rw [pk_len]; exact hj), getD_in hj]
  simp [pk]
theorem pk_iv {r : Nat} {X : List Nat} (h : Perm r X) {l : List Nat} (hl : l.length = r) : pk (iv X) (pk X l 0) 0 = l := by
  have hp := iv_perm h
  refine getD_ext (by rw [pk_len, iv_len, h.1, hl]) (fun j hj => ?_)
  rw [pk_len, iv_len, h.1] at hj
  have h2 : (iv X).getD j 0 < r := by rw [getD_in (by rw [hp.1]; exact hj)]; exact hp.2.1 _ (List.getElem_mem _)
  rw [pk_at (by rw [hp.1]; exact hj), pk_at (by rw [h.1]; exact h2), iv_right h hj]
theorem prod_perm {l m : List Nat} (h : l.Perm m) : prod l = prod m := by
  induction h with
  | nil => rfl
  | cons x _ ih => show x * prod _ = x * prod _; rw [ih]
  | swap x y l => show y * (x * prod l) = x * (y * prod l); exact Nat.mul_left_comm _ _ _
  | trans _ _ h1 h2 => exact h1.trans h2
theorem prod_pk {r : Nat} {X : List Nat} (h : Perm r X) {S : List Nat} (hS : S.length = r) : prod (pk X S 0) = prod S := by
  have h1 : X.Perm (List.range r) := by
    rw [List.perm_iff_count]
    intro a
    rw [h.2.2.count, (List.nodup_range (n := r)).count]
    by_cases ha : a < r
    · rw [if_pos (perm_mem h ha), if_pos (List.mem_range.2 ha)]
    · rw [if_neg (fun hm => ha (h.2.1 a hm)), if_neg (fun hm => ha (List.mem_range.1 hm))]
  have h2 : (List.range r).map (fun x => S.getD x 0) = S := by
    refine getD_ext (by simp [hS]) (fun j hj => ?_)
    have hj' : j < r := by simpa using hj
    rw [getD_in hj]
    simp
  have h3 := prod_perm (h1.map fun x => S.getD x 0)
  rw [h2] at h3
  exact h3
theorem pk_inside {X S I : List Nat} (hX : ∀ x ∈ X, x < S.length) (h : Inside S I) : Inside (pk X S 0) (pk X I 0) := by
  refine (inside_iff _ _).2 ⟨by rw [pk_len, pk_len], fun j hj => ?_⟩
  rw [pk_len] at hj
  rw [pk_at hj, pk_at hj]
  exact ((inside_iff _ _).1 h).2 _ (by rw [getD_in hj]; exact hX _ (List.getElem_mem _))
/-- The elements with the dimensions in another order. -/
def moved {α : Type} (S X : List Nat) (V : List α) (d : α) : List α := tab (pk X S 0) fun I => V.getD (place S (pk (iv X) I 0)) d
theorem moved_back {α : Type} {r : Nat} {S X : List Nat} (h : Perm r X) (hS : S.length = r) {V : List α} (d : α) (hV : V.length = prod S) : moved (pk X S 0) (iv X) (moved S X V d) d = V := by
  unfold moved
  rw [pk_iv h hS, iv_iv h]
  refine Eq.trans (tab_congr S (g := fun I => V.getD (place S I) d) fun I hI => ?_) (tab_self S V d hV)
  have h1 : Inside (pk X S 0) (pk X I 0) := pk_inside (by rw [hS]; exact h.2.1) hI
  have hI2 := inside_len _ _ hI
  rw [List.getD_eq_getElem?_getD (l := tab _ _), tab_at _ _ h1]
  show V.getD (place S (pk (iv X) (pk X I 0) 0)) d = _
  rw [pk_iv h (by rw [hI2, hS])]
end Ix

namespace Go.Proofs.YtgnffedncjjkfaaGreatDoor
open Go.RowKit Ix Ar

theorem Tryz.bool_info : (Tryz.prog.info? 4).map (fun i => (i.zero, i.size, i.bytes)) = some (some (.bool false), 1, 1) := by kernel_rfl
/-- Truths as cells. -/
def bls (l : List Bool) : List Value := l.map Value.bool
theorem bls_len (l : List Bool) : (bls l).length = l.length := List.length_map _
theorem bls_set (l : List Bool) (i : Nat) (x : Bool) : (bls l).toArray.setIfInBounds i (.bool x) = (bls (l.set i x)).toArray := by simp [bls, List.map_set]
theorem bls_at {l : List Bool} {i : Nat} (h : i < l.length) : (bls l).toArray[i]? = some (.bool l[i]) := by simp [bls, List.getElem?_eq_getElem h]
theorem make_bools (n : Nat) (hn : n ≤ 4000000) (w : World) :
    (Instr.makeSlice 101 (.int .i64 (n : Int)) (.int .i64 (n : Int))).run Tryz.prog w = .ok (.slice (some ⟨w.heap.size, 0, none⟩) n n) (w.alloc (.cells (bls (List.replicate n false)).toArray 4)) := by
  obtain ⟨i0, hi0, hz0, hz1, hz2⟩ := info_parts Tryz.bool_info
  have hr := run_make (P := Tryz.prog) w 101 4 i0 (.bool false) Tryz.underlying101 hi0 hz0 .i64 .i64 n n (by omega) (by omega) (by rw [hz2]; omega) (by omega)
  rw [hr, hz1]
  have e1 : madeCells (Value.cells (.bool false)) ((n : Int).toNat * 1) = (bls (List.replicate n false)).toArray := by
    apply Array.ext'
    have : Value.cells (.bool false) = #[.bool false] := rfl
    rw [this, toList_madeCells_one]
    simp [bls]
  rw [e1]
  simp
/-- Numbers from 0 to below n, no one twice. -/
def Dist (X : List Int) (n : Nat) : Prop := (∀ x ∈ X, 0 ≤ x ∧ x < (n : Int)) ∧ X.Nodup
theorem Dist.take {X : List Int} {n : Nat} (h : Dist X n) (k : Nat) : Dist (X.take k) n := ⟨fun x hx => h.1 x (List.mem_of_mem_take hx), h.2.sublist (List.take_sublist k X)⟩
theorem dist_snoc {X : List Int} {n k : Nat} (hk : k < X.length) : Dist (X.take (k + 1)) n ↔ Dist (X.take k) n ∧ (0 ≤ X[k] ∧ X[k] < (n : Int)) ∧ X[k] ∉ X.take k := by
  rw [take_snocI hk]
  unfold Dist
  rw [List.nodup_append]
  constructor
  · rintro ⟨h1, h2, h3, h4⟩
    exact ⟨⟨fun x hx => h1 x (List.mem_append_left _ hx), h2⟩, h1 _ (List.mem_append_right _ (by simp)), fun hm => h4 _ hm _ (by simp) rfl⟩
  · rintro ⟨⟨h1, h2⟩, h3, h4⟩
    refine ⟨fun x hx => ?_, h2, by simp, fun a ha b hb e => ?_⟩
    · rcases List.mem_append.1 hx with h | h
      · exact h1 x h
      · simp at h; subst h; exact h3
    · simp at hb; subst hb; subst e; exact h4 ha
/-- Which numbers came up. -/
def seenL (Y : List Int) (n : Nat) : List Bool := (List.range n).map fun (j : Nat) => decide ((j : Int) ∈ Y)
theorem seenL_len (Y : List Int) (n : Nat) : (seenL Y n).length = n := by simp [seenL]
theorem seenL_at (Y : List Int) {n j : Nat} (h : j < n) : (seenL Y n)[j]'(by rw [seenL_len]; exact h) = decide ((j : Int) ∈ Y) := by simp [seenL]
theorem seenL_nil (n : Nat) : seenL [] n = List.replicate n false := by
  apply List.ext_getElem (by simp [seenL])
  intro i h1 h2
  simp [seenL]
theorem seenL_set (Y : List Int) {n m : Nat} : (seenL Y n).set m true = seenL (Y ++ [(m : Int)]) n := by
  apply List.ext_getElem (by rw [List.length_set, seenL_len, seenL_len])
  intro i h1 h2
  rw [seenL_len] at h2
  rw [seenL_at _ h2, List.getElem_set]
  by_cases e : m = i
  · subst e; simp
  · rw [if_neg e, seenL_at _ h2]
    have : ¬ ((i : Int) = (m : Int)) := by omega
    simp [this]

set_option maxRecDepth 100000 in
set_option maxHeartbeats 3200000 in
theorem distinct_any (X : List Int) (n : Nat) (A : Option Addr) (c B : Nat) (w : World) (hr : Rd w B A (zints X)) (hB : B ≤ w.heap.size) (hn : n ≤ 4000000) (hL : X.length ≤ maxLen) (q : Bool) (hq : q = true ↔ Dist X n) :
    Calls Tryz.prog 86 #[.slice A X.length c, .int .i64 n] w fun e w' => Below w.heap.size w w' ∧ e = .returned (.bool q) := by
  unfold maxLen at hL
  have HQ := Lib.hid hq
  have hmk := make_bools n hn
  clear hq
  go_enter Tryz.func86, Tryz.ntmps86
  go_wp2_with fail
  have hB1 := below_alloc w (.cells (bls (List.replicate n false)).toArray 4)
  have k1 : Bk (w.alloc (.cells (bls (List.replicate n false)).toArray 4)) w.heap.size 4 (bls (seenL (X.take 0) n)).toArray := by rw [List.take_zero, seenL_nil]; exact Bk.new _ _ _
  clear hmk
  generalize w.alloc (.cells (bls (List.replicate n false)).toArray 4) = w1 at *
  go_loopw [12] (fun i wr => ∃ k : Nat, k ≤ X.length ∧ i = .int .i64 k ∧ Hid (Dist (X.take k) n) ∧ Bk wr w.heap.size 4 (bls (seenL (X.take k) n)).toArray ∧ Below w.heap.size w wr) (fun i _ => X.length - (intOf i).toNat)
  case atStart => exact ⟨0, Nat.zero_le _, rfl, ⟨fun x hx => by simp at hx, by simp⟩, k1, hB1⟩
  case round =>
    clear k1 hB1
    obtain ⟨k, hk, rfl, HT, kb, hb⟩ := hrel
    by_cases hlt : k < X.length
    · obtain ⟨ad, rfl, hab, hx⟩ := (hr.below (hb.mono hB)).zint hlt
      have HD := Lib.hid (dist_snoc (n := n) hlt)
      have HT2 := Lib.hid (take_snocI hlt)
      have HE : Hid (¬ (0 ≤ X[k] ∧ X[k] < (n : Int)) ∨ X[k] ∈ X.take k → q = false) := fun h => bool_no HQ.out fun hd => by
        have := HD.out.1 (hd.take (k + 1))
        rcases h with h | h
        · exact h this.2.1
        · exact this.2.2 h
      generalize X[k] = x at *
      by_cases c1 : x < 0
      · have hqf := HE.out (.inl (by omega))
        subst hqf
        clear HE HD HT2
        go_wp2
        go_ret
        exact ⟨hb, rfl⟩
      by_cases c2 : (n : Int) ≤ x
      · have hqf := HE.out (.inl (by omega))
        subst hqf
        clear HE HD HT2
        go_wp2
        go_ret
        exact ⟨hb, rfl⟩
      obtain ⟨m, rfl⟩ : ∃ m : Nat, x = (m : Int) := ⟨x.toNat, by omega⟩
      have hm : m < n := by omega
      have hc := kb.cell m
      rw [bls_at (by rw [seenL_len]; exact hm), seenL_at _ hm] at hc
      have hf := kb.frozen m
      by_cases c3 : (m : Int) ∈ X.take k
      · rw [decide_eq_true c3] at hc
        have hqf := HE.out (.inr c3)
        subst hqf
        clear HE HD HT2 c3
        go_wp2
        go_ret
        exact ⟨hb, rfl⟩
      · rw [decide_eq_false c3] at hc
        have HOK := Lib.hid (HD.out.2 ⟨HT.out, ⟨by omega, by omega⟩, c3⟩)
        have k2 := kb.put m (.bool true)
        rw [bls_set, seenL_set, ← HT2.out] at k2
        have hb2 := hb.setCell (p := ⟨w.heap.size, m, none⟩) (Nat.le_refl _) (.bool true)
        have K2 := Lib.hid k2
        clear HE HD HT2 c3 k2 kb
        go_wp2
        go_roundw
        case rel => exact ⟨k + 1, by omega, by go_num, HOK.out, K2.out, hb2⟩
        case measure => simp [intOf]; omega
    · have hqt : q = true := HQ.out.2 (by have := HT.out; rwa [List.take_of_length_le (by omega)] at this)
      subst hqt
      clear HT HQ
      go_wp2
      go_ret
      exact ⟨hb, rfl⟩

set_option maxRecDepth 100000 in
set_option maxHeartbeats 6400000 in
theorem rdistinct_any (X : List Int) (r n : Nat) (A : Option Addr) (c B : Nat) (w : World) (hr : Rd w B A (zints X)) (hB : B ≤ w.heap.size) (hL : X.length ≤ maxLen) (q : Bool) (hq : q = true ↔ X.length = r ∧ Dist X n) :
    Calls Tryz.prog 88 #[.slice A X.length c, .int .i64 r, .int .i64 n] w fun e w' => Below w.heap.size w w' ∧ e = .returned (.bool q) := by
  unfold maxLen at hL
  by_cases hlen : X.length = r
  rotate_left
  · have hqf : q = false := bool_no hq fun h => hlen h.1
    have hne : ((X.length : Int) != (r : Int)) = true := by simp; omega
    subst hqf
    clear hq hlen
    go_enter Tryz.func88, Tryz.ntmps88
    go_wp2
    go_ret
    exact ⟨Below.refl _ _, rfl⟩
  subst hlen
  have HQ : Hid (q = true ↔ Dist X n) := by show _ ↔ _; rw [hq]; exact ⟨fun h => h.2, fun h => ⟨rfl, h⟩⟩
  clear hq
  go_enter Tryz.func88, Tryz.ntmps88
  go_wp2_with fail
  go_loopw [7] (fun i wr => ∃ k : Nat, k ≤ X.length ∧ i = .int .i64 k ∧ Hid (Dist (X.take k) n) ∧ Below w.heap.size w wr) (fun i _ => X.length - (intOf i).toNat)
  case atStart => exact ⟨0, Nat.zero_le _, rfl, ⟨fun x hx => by simp at hx, by simp⟩, Below.refl _ _⟩
  case round =>
    obtain ⟨k, hk, rfl, HT, hb⟩ := hrel
    by_cases hlt : k < X.length
    · obtain ⟨ad, rfl, hab, hx⟩ := (hr.below (hb.mono hB)).zint hlt
      have HX := Lib.hid hx
      have HD := Lib.hid (dist_snoc (n := n) hlt)
      have HE : Hid (¬ (0 ≤ X[k] ∧ X[k] < (n : Int)) ∨ X[k] ∈ X.take k → q = false) := fun h => bool_no HQ.out fun hd => by
        have := HD.out.1 (hd.take (k + 1))
        rcases h with h | h
        · exact h this.2.1
        · exact this.2.2 h
      generalize X[k] = x at *
      by_cases c1 : x < 0
      · have hqf := HE.out (.inl (by omega))
        subst hqf
        clear HE HD
        go_wp2
        go_ret
        exact ⟨hb, rfl⟩
      by_cases c2 : (n : Int) ≤ x
      · have hqf := HE.out (.inl (by omega))
        subst hqf
        clear HE HD
        go_wp2
        go_ret
        exact ⟨hb, rfl⟩
      go_wp2_with fail
      go_loopw [8] (fun i ws => ∃ j : Nat, j ≤ k ∧ i = .int .i64 j ∧ Hid (∀ y ∈ X.take j, y ≠ x) ∧ Below wr.heap.size wr ws) (fun i _ => k - (intOf i).toNat)
      case atStart => exact ⟨0, Nat.zero_le _, rfl, (fun y hy => by simp at hy), Below.refl _ _⟩
      case round =>
        obtain ⟨j, hj, rfl, HJ, hbs⟩ := hrel
        have hb2 := hb.trans (hbs.mono hb.size)
        by_cases hjk : j < k
        · obtain ⟨ad', e', hab', hy⟩ := (hr.below (hb2.mono hB)).zint (j := j) (by omega)
          cases e'
          have hx2 := (hbs.cell (p := ad.add k) (by rw [addr_block]; have := hb.size; omega)).trans HX.out
          have HJ2 : Hid (X[j]'(by omega) ≠ x → ∀ y ∈ X.take (j + 1), y ≠ x) := fun h y hy => by
            rw [take_snocI (show j < X.length by omega)] at hy
            rcases List.mem_append.1 hy with h1 | h1
            · exact HJ.out y h1
            · simp at h1; subst h1; exact h
          have HJ3 : Hid (X[j]'(by omega) = x → x ∈ X.take k) := fun h => by
            rw [← h]
            exact List.mem_of_getElem? (i := j) (by rw [List.getElem?_take_of_lt hjk, List.getElem?_eq_getElem])
          generalize X[j]'(by omega) = y at *
          by_cases hxy : y = x
          · have y1 : (y == x) = true := by simp [hxy]
            have hqf := HE.out (.inr (HJ3.out hxy))
            subst hqf
            clear HJ2 HJ3 hxy HE HD
            go_wp2_with fail
            go_quiet (fail)
            go_wp2
            go_ret
            exact ⟨below_drewN hb2 _, rfl⟩
          · have y1 : (y == x) = false := by simp [hxy]
            have HOK := Lib.hid (HJ2.out hxy)
            clear HJ2 HJ3 hxy HD
            go_wp2_with fail
            go_quiet (fail)
            have hbs2 := below_drewN hbs nq
            go_wp2
            go_roundw
            case rel => exact ⟨j + 1, by omega, by go_num, HOK.out, hbs2⟩
            case measure => simp [intOf]; omega
        · obtain rfl : j = k := by omega
          have HOK := Lib.hid (HD.out.2 ⟨HT.out, ⟨by omega, by omega⟩, fun hm => HJ.out x hm rfl⟩)
          clear HE HD HJ
          go_wp2
          go_roundw
          case rel => exact ⟨j + 1, by omega, by go_num, HOK.out, hb2⟩
          case measure => simp [intOf]; omega
    · have hqt : q = true := HQ.out.2 (by have := HT.out; rwa [List.take_of_length_le (by omega)] at this)
      subst hqt
      clear HT HQ
      go_wp2
      go_ret
      exact ⟨hb, rfl⟩

/-- The elements at some places, in ints. -/
def pkI (X l : List Int) : List Int := X.map fun x => l.getD x.toNat 0
theorem pkI_len (X l : List Int) : (pkI X l).length = X.length := List.length_map _
/-- .. being written. -/
def pmid (X l : List Int) (k : Nat) : List Int := (pkI X l).take k ++ List.replicate (X.length - k) 0
theorem pmid_next {X l : List Int} {k : Nat} (h : k < X.length) : (pmid X l k).set k (l.getD X[k].toNat 0) = pmid X l (k + 1) := by
  have h' : k < (pkI X l).length := by rw [pkI_len]; exact h
  unfold pmid
  rw [List.set_append_right _ _ (by rw [List.length_take]; omega), List.length_take, Nat.min_eq_left (by omega), Nat.sub_self, show X.length - k = (X.length - (k + 1)) + 1 by omega, List.replicate_succ, List.set_cons_zero, take_snocI h', List.append_assoc]
  congr 1
  simp [pkI]
theorem pmid_len {X l : List Int} {k : Nat} (h : k ≤ X.length) : (pmid X l k).length = X.length := by
  unfold pmid
  rw [List.length_append, List.length_take, List.length_replicate, pkI_len]; omega

set_option maxRecDepth 100000 in
set_option maxHeartbeats 3200000 in
theorem picked_any (X l : List Int) (A A' : Option Addr) (c c' B B' : Nat) (w : World) (hr : Rd w B A (zints l)) (hr' : Rd w B' A' (zints X)) (hB : B ≤ w.heap.size) (hB' : B' ≤ w.heap.size) (hL : X.length ≤ 1000000) (hX : ∀ x ∈ X, 0 ≤ x ∧ x < (l.length : Int)) :
    Calls Tryz.prog 89 #[.slice A l.length c, .slice A' X.length c'] w fun e w' => Below w.heap.size w w' ∧ e = .returned (.slice (some ⟨w.heap.size, 0, none⟩) X.length X.length) ∧ Bk w' w.heap.size 3 (zints (pkI X l)).toArray := by
  obtain ⟨i0, hi0, hz0, hz1, hz2⟩ := info_parts Tryz.int_info
  have hmk := make_ints (P := Tryz.prog) 22 3 i0 .i64 Tryz.underlying22 hi0 hz0 hz1 (by omega) .i64 .i64 X.length (X.length : Int) rfl (by omega)
  have HW0 : Hid (ints .i64 (List.replicate X.length 0) = zints (pmid X l 0)) := by
    show _ = _
    unfold pmid
    rw [List.take_zero, List.nil_append, Nat.sub_zero]
    simp [ints, zints]
  have HWE : Hid (pmid X l X.length = pkI X l) := by
    show _ = _
    unfold pmid
    rw [List.take_of_length_le (by rw [pkI_len]; exact Nat.le_refl _), Nat.sub_self, List.replicate_zero, List.append_nil]
  have HX := Lib.hid hX
  have HR := Lib.hid hr
  clear hX hr
  go_enter Tryz.func89, Tryz.ntmps89
  go_wp2_with fail
  have hB1 := below_alloc w (.cells (ints .i64 (List.replicate X.length 0)).toArray 3)
  have k1 : Bk (w.alloc (.cells (ints .i64 (List.replicate X.length 0)).toArray 3)) w.heap.size 3 (zints (pmid X l 0)).toArray := by rw [← HW0.out]; exact Bk.new _ _ _
  clear hmk HW0
  generalize w.alloc (.cells (ints .i64 (List.replicate X.length 0)).toArray 3) = w1 at *
  go_loopw [6] (fun i wr => ∃ k : Nat, k ≤ X.length ∧ i = .int .i64 k ∧ Bk wr w.heap.size 3 (zints (pmid X l k)).toArray ∧ Below w.heap.size w wr) (fun i _ => X.length - (intOf i).toNat)
  case atStart => exact ⟨0, Nat.zero_le _, rfl, k1, hB1⟩
  case round =>
    clear k1 hB1
    obtain ⟨k, hk, rfl, kb, hb⟩ := hrel
    by_cases hlt : k < X.length
    · obtain ⟨ad, rfl, hab, hx⟩ := (hr'.below (hb.mono hB')).zint hlt
      have hxr := HX.out _ (List.getElem_mem hlt)
      have HN := Lib.hid (pmid_next (l := l) hlt)
      generalize X[k] = x at *
      obtain ⟨m, rfl⟩ : ∃ m : Nat, x = (m : Int) := ⟨x.toNat, by omega⟩
      have hm : m < l.length := by omega
      obtain ⟨ad', rfl, hab', hy⟩ := (HR.out.below (hb.mono hB)).zint hm
      have hgm : l.getD (m : Int).toNat 0 = l[m] := by rw [Int.toNat_natCast, List.getD_eq_getElem?_getD, List.getElem?_eq_getElem hm]; rfl
      rw [hgm] at HN
      generalize l[m] = y at *
      have k2 := kb.put k (.int .i64 y)
      rw [zints_set, HN.out] at k2
      have hc0 := kb.cell k
      rw [show (zints (pmid X l k)).toArray[k]? = some (.int .i64 ((pmid X l k).getD k 0)) from by
        have h := pmid_len (X := X) (l := l) (k := k) (by omega)
        simp [zints, List.getD_eq_getElem?_getD, List.getElem?_eq_getElem (show k < (pmid X l k).length by omega)]] at hc0
      have hf0 := kb.frozen k
      have hb2 := hb.setCell (p := ⟨w.heap.size, k, none⟩) (Nat.le_refl _) (.int .i64 y)
      have K2 := Lib.hid k2
      clear k2 kb HN hgm
      go_wp2
      go_roundw
      case rel => exact ⟨k + 1, by omega, by go_num, K2.out, hb2⟩
      case measure => simp [intOf]; omega
    · obtain rfl : k = X.length := by omega
      rw [HWE.out] at kb
      clear HWE
      go_wp2
      go_ret
      exact ⟨hb, rfl, kb⟩
end Go.Proofs.YtgnffedncjjkfaaGreatDoor

namespace Go.Proofs.YtgnffedncjjkfaaGreatDoor
open Go.RowKit Ix Ar

theorem pkI_nat (X l : List Int) : (pkI X l).map Int.toNat = pk (X.map Int.toNat) (l.map Int.toNat) 0 := by
  unfold pkI pk
  rw [List.map_map, List.map_map]
  refine List.map_congr_left fun x _ => ?_
  show (l.getD x.toNat 0).toNat = (l.map Int.toNat).getD x.toNat 0
  rw [getD_map]
/-- What is said of spreading an array. -/
noncomputable def spreadR (a : Arr) (X T : List Int) : Arr × Int :=
  open Classical in if VA a ∧ VS T then (if X.length = a.1.length ∧ Dist X T.length then (if pkI X T = a.1 then ((T, tab (T.map Int.toNat) fun I => a.2.getD (place (a.1.map Int.toNat) (pk (X.map Int.toNat) I 0)) ⟨#[]⟩), 0) else (([], []), 60)) else (([], []), 2)) else (([], []), 60)
theorem spreadR_shape {a : Arr} {X T : List Int} (h : ¬ (VA a ∧ VS T)) : spreadR a X T = (([], []), 60) := by unfold spreadR; rw [if_neg h]
theorem spreadR_arg {a : Arr} {X T : List Int} (h : VA a ∧ VS T) (k : ¬ (X.length = a.1.length ∧ Dist X T.length)) : spreadR a X T = (([], []), 2) := by unfold spreadR; rw [if_pos h, if_neg k]
theorem spreadR_other {a : Arr} {X T : List Int} (h : VA a ∧ VS T) (k : X.length = a.1.length ∧ Dist X T.length) (l : pkI X T ≠ a.1) : spreadR a X T = (([], []), 60) := by unfold spreadR; rw [if_pos h, if_pos k, if_neg l]
theorem spreadR_ok {a : Arr} {X T : List Int} (h : VA a ∧ VS T) (k : X.length = a.1.length ∧ Dist X T.length) (l : pkI X T = a.1) : spreadR a X T = ((T, tab (T.map Int.toNat) fun I => a.2.getD (place (a.1.map Int.toNat) (pk (X.map Int.toNat) I 0)) ⟨#[]⟩), 0) := by unfold spreadR; rw [if_pos h, if_pos k, if_pos l]
theorem spreadR_in {a : Arr} {X T : List Int} (h : InA a) (hT : T.length ≤ maxLen) : InA (spreadR a X T).1 := by
  have hz : InA (([], []) : Arr) := ⟨Nat.zero_le _, Nat.zero_le _, fun s hs => by cases hs⟩
  by_cases h1 : VA a ∧ VS T
  · by_cases h2 : X.length = a.1.length ∧ Dist X T.length
    · by_cases h3 : pkI X T = a.1
      · rw [spreadR_ok h1 h2 h3]
        refine ⟨hT, ?_, fun s hs => ?_⟩
        · show (tab (T.map Int.toNat) (fun I => a.2.getD (place (a.1.map Int.toNat) (pk (X.map Int.toNat) I 0)) (⟨#[]⟩ : ByteArray))).length ≤ _
          rw [tab_len]; have := h1.2.2.2; omega
        · unfold tab at hs
          obtain ⟨j, _, rfl⟩ := List.mem_map.1 hs
          dsimp only
          rw [List.getD_eq_getElem?_getD]
          cases e : a.2[place (a.1.map Int.toNat) (pk (X.map Int.toNat) (idx (T.map Int.toNat) j) 0)]? with
          | none => exact Nat.zero_le _
          | some x => exact h.texts x (List.mem_of_getElem? e)
      · rw [spreadR_other h1 h2 h3]; exact hz
    · rw [spreadR_arg h1 h2]; exact hz
  · rw [spreadR_shape h1]; exact hz
/-- The picked index lies inside. -/
theorem spread_in {S X T : List Int} {I : List Nat} (hD : Dist X T.length) (he : pkI X T = S) (hI : Inside (T.map Int.toNat) I) : Inside (S.map Int.toNat) (pk (X.map Int.toNat) I 0) := by
  rw [← he, pkI_nat]
  refine pk_inside (fun x hx => ?_) hI
  obtain ⟨y, hy, rfl⟩ := List.mem_map.1 hx
  have := hD.1 y hy
  rw [List.length_map]; omega

set_option maxRecDepth 100000 in
set_option maxHeartbeats 3200000 in
theorem spread1_any (S : List Int) (V : List ByteArray) (X : List Int) (I : List Nat) (xb fb ab g IX B : Nat) (Ax A' : Option Addr) (cx c' : Nat) (w : World) (hV : VS S) (hl : V.length = Ix.prod (S.map Int.toNat)) (hXl : X.length = S.length) (hI : Inside (S.map Int.toNat) (pk (X.map Int.toNat) I 0)) (hXr : ∀ x ∈ X, 0 ≤ x ∧ x < (I.length : Int))
    (h0 : w.cell? ⟨xb, 0, none⟩ = some (.slice Ax X.length cx)) (h1 : w.cell? ⟨fb, 0, none⟩ = some (.slice (some ⟨g, 0, none⟩) S.length S.length)) (h2 : w.cell? ⟨ab, 1, none⟩ = some (.slice A' V.length c'))
    (hx : Rd w B Ax (zints X)) (hr' : Rd w B A' (strs V)) (hg : Rd w B (some ⟨g, 0, none⟩) (ints .i64 (strides (S.map Int.toNat)))) (hIX : Bk w IX 3 (ints .i64 I).toArray) (hB : B ≤ w.heap.size) :
    Calls Tryz.prog 87 #[.slice (some ⟨IX, 0, none⟩) I.length I.length, .pointer (some ⟨xb, 0, none⟩), .pointer (some ⟨fb, 0, none⟩), .pointer (some ⟨ab, 0, none⟩)] w fun e w' => Below w.heap.size w w' ∧ e = .returned (.string (V.getD (place (S.map Int.toNat) (pk (X.map Int.toNat) I 0)) ⟨#[]⟩)) := by
  have hdot := dot_eq (S.map Int.toNat) (pk (X.map Int.toNat) I 0) (inside_len _ _ hI)
  have hpl := place_lt _ _ hI
  have hp4 := hV.2.2
  obtain ⟨D, hD⟩ : ∃ D, D = strides (S.map Int.toNat) := ⟨_, rfl⟩
  obtain ⟨P, hP⟩ : ∃ P, P = pk (X.map Int.toNat) I 0 := ⟨_, rfl⟩
  have hDl : D.length = S.length := by rw [hD, strides_len, List.length_map]
  have hPl : P.length = X.length := by rw [hP, pk_len, List.length_map]
  have hdle : dot P D ≤ 1000000000000 := by rw [hP, hD, hdot]; omega
  rw [← hD] at hg
  have HPk : Hid (∀ k (h : k < X.length), P.getD k 0 = I.getD X[k].toNat 0) := fun k h => by
    rw [hP, pk_at (by rw [List.length_map]; exact h), getD_in (show k < (X.map Int.toNat).length by rw [List.length_map]; exact h)]
    simp
  have HDT := Lib.hid (fun k (h : k < X.length) => dot_take (I := P) (D := D) (by rw [hPl, hDl, hXl]) (k := k) (by rw [hPl]; exact h))
  have HDE : Hid (dot (P.take X.length) (D.take X.length) = place (S.map Int.toNat) (pk (X.map Int.toNat) I 0)) := by
    show _ = _
    rw [List.take_of_length_le (by rw [hPl]; exact Nat.le_refl _), List.take_of_length_le (by rw [hDl, hXl]; exact Nat.le_refl _), ← hdot, hP, hD]
  have HDL := Lib.hid (fun k => dot_le P D hdle k)
  obtain ⟨m, hm⟩ : ∃ m, m = place (S.map Int.toNat) (pk (X.map Int.toNat) I 0) := ⟨_, rfl⟩
  rw [← hm] at HDE hpl ⊢
  have hmV : m < V.length := by rw [hl]; exact hpl
  obtain ⟨ad, rfl, hadb, hcv⟩ := hr'.str hmV
  have hgv : V.getD m ⟨#[]⟩ = V[m] := by rw [List.getD_eq_getElem?_getD, List.getElem?_eq_getElem hmV]; rfl
  rw [hgv]
  generalize V[m] = tx at *
  have i1 : (0 : Int) ≤ (m : Int) := by omega
  have i2 : (m : Int) < (V.length : Int) := by omega
  have hX4 : X.length ≤ 4 := by have := hV.1; omega
  have HXr := Lib.hid hXr
  have HXl := Lib.hid hXl
  have HDl := Lib.hid hDl
  have l0 := World.block_lt_of_cell? _ _ h0
  have l1 := World.block_lt_of_cell? _ _ h1
  have l2 := World.block_lt_of_cell? _ _ h2
  have lI := hIX.lt
  simp only at l0 l1 l2
  clear hdot hpl hp4 hD hP hDl hPl hdle hm hmV hgv hV hl hXl hI hXr hr'
  go_enter Tryz.func87, Tryz.ntmps87
  go_wp2_with fail
  go_loopw [6, 11] (fun n i wr => ∃ k : Nat, k ≤ X.length ∧ i = .int .i64 k ∧ n = .int .i64 (dot (P.take k) (D.take k) : Nat) ∧ Below w.heap.size w wr) (fun _ i _ => X.length - (intOf i).toNat)
  case atStart => exact ⟨0, Nat.zero_le _, rfl, rfl, Below.refl _ _⟩
  case round =>
    obtain ⟨k, hk, rfl, rfl, hb⟩ := hrel
    have f1 := (hb.cell (p := ⟨fb, 0, none⟩) l1).trans h1
    by_cases hlt : k < X.length
    · obtain ⟨adx, rfl, habx, hcx⟩ := (hx.below (hb.mono hB)).zint hlt
      have hxr := HXr.out _ (List.getElem_mem hlt)
      have HPk2 := Lib.hid (HPk.out k hlt)
      have HDT2 := Lib.hid (HDT.out k hlt)
      have hp := HDL.out k
      have hp2 := HDL.out (k + 1)
      rw [HDT2.out, HPk2.out] at hp2
      rw [HPk2.out] at HDT2
      generalize X[k] = x at *
      obtain ⟨j, rfl⟩ : ∃ j : Nat, x = (j : Int) := ⟨x.toNat, by omega⟩
      have hj : j < I.length := by omega
      rw [Int.toNat_natCast] at hp2 HDT2
      have hcI := (hb.cell (p := ⟨IX, j, none⟩) lI).trans (hIX.cell j)
      rw [ints_getD .i64 _ hj] at hcI
      obtain ⟨adg, eg, habg, hcg⟩ := (hg.below (hb.mono hB)).int (j := k) (by rw [HDl.out, ← HXl.out]; exact hlt)
      injection eg with eg
      subst eg
      rw [addr_mk, Nat.zero_add] at hcg
      generalize dot (P.take k) (D.take k) = p at *
      generalize I.getD j 0 = a at *
      generalize D.getD k 0 = y at *
      obtain ⟨q, hq⟩ : ∃ q : Nat, q = a * y := ⟨_, rfl⟩
      rw [← hq] at hp2 HDT2
      have ww : IntKind.i64.wrap ((a : Int) * (y : Int)) = (q : Int) := by
        rw [show (a : Int) * (y : Int) = (q : Int) by rw [hq]; push_cast; rfl]
        exact IntWalk.i64_in _ (by omega)
      have ww2 : IntKind.i64.wrap ((p : Int) + (q : Int)) = (p : Int) + (q : Int) := IntWalk.i64_in _ (by omega)
      have hkS : (k : Int) < (S.length : Int) := by rw [← HXl.out]; omega
      clear hq HPk2 hxr hp hp2
      go_wp2_with fail
      go_quiet (fail)
      have hb2 := below_drewN hb nq
      go_wp2
      go_roundw
      case rel => exact ⟨k + 1, by omega, by go_num, by rw [HDT2.out]; push_cast; rfl, hb2⟩
      case measure => simp [intOf]; omega
    · obtain rfl : k = X.length := by omega
      rw [HDE.out]
      have f2 := (hb.cell (p := ⟨ab, 1, none⟩) l2).trans h2
      have f3 := (hb.cell (p := ad.add m) (by rw [addr_block]; omega)).trans hcv
      clear HDE HDT HDL HPk
      go_wp2
      go_ret
      exact ⟨hb, rfl⟩

theorem pkI_eq {X T S : List Int} (hl : X.length = S.length) (h : ∀ j, j < X.length → S.getD j 0 = T.getD (X.getD j 0).toNat 0) : pkI X T = S := by
  apply List.ext_getElem (by rw [pkI_len, hl])
  intro i h1 h2
  rw [pkI_len] at h1
  have := h i h1
  rw [← getD_zint h2, ← getD_zint h1] at this
  rw [this]
  simp [pkI]
theorem pkI_get {X T : List Int} {j : Nat} (h : j < X.length) : (pkI X T).getD j 0 = T.getD (X.getD j 0).toNat 0 := by
  rw [← getD_zint (by rw [pkI_len]; exact h), ← getD_zint h]
  simp [pkI]

set_option maxRecDepth 100000 in
set_option maxHeartbeats 12800000 in
theorem spread_any (a : Arr) (X T : List Int) (va vx vt : Value) (w : World) (ha : IsA w w.heap.size va a) (hX : IsI w w.heap.size vx X) (hT : IsI w w.heap.size vt T) (hi : InA a) (hXL : X.length ≤ maxLen) (hTL : T.length ≤ maxLen) (he : Env w) :
    Calls Tryz.prog 33 #[va, vx, vt] w fun e w' => Below w.heap.size w w' ∧ ∃ u, e = .returned (.tuple #[u, .int .i64 (spreadR a X T).2]) ∧ IsA w' w'.heap.size u (spreadR a X T).1 := by
  obtain ⟨A, c, A', c', rfl, hc, hc'⟩ := ha.form
  obtain ⟨Ax, cx, rfl, -⟩ := hX.form
  obtain ⟨At, ct, rfl, -⟩ := hT.form
  have hha := ha
  obtain ⟨hS, hV⟩ := ha.parts
  obtain ⟨S, V⟩ := a
  simp only at hS hV hc hc'
  obtain ⟨qv, hqv⟩ : ∃ b : Bool, b = true ↔ VA (S, V) := by classical exact ⟨decide _, decide_eq_true_iff⟩
  obtain ⟨qs, hqs⟩ : ∃ b : Bool, b = true ↔ VS T := by classical exact ⟨decide _, decide_eq_true_iff⟩
  obtain ⟨qd, hqd⟩ : ∃ b : Bool, b = true ↔ Dist X T.length := by classical exact ⟨decide _, decide_eq_true_iff⟩
  have VV := Lib.hid (fun W (hW : Below w.heap.size w W) => valid_any (S, V) (.agg #[.slice A S.length c, .slice A' V.length c']) W (hha.next hW) hi (he.next hW) qv hqv)
  have SS := Lib.hid (fun W (hW : Below w.heap.size w W) => validshape_any T At ct w.heap.size W (hT.rd.below hW) hTL qs hqs)
  have B0 := BxW.start3 w 25 22 25 #[.slice A S.length c, .slice A' V.length c'] #[.slice Ax X.length cx] #[.slice none 0 0, .slice none 0 0]
  have i1 := hi.shape
  have hXL' := hXL
  unfold maxLen at hXL'
  cases hv : qv
  · have hna : ¬ (VA (S, V) ∧ VS T) := fun h => by rw [hqv.2 h.1] at hv; cases hv
    rw [spreadR_shape hna]
    subst hv
    clear hqv hqs hqd hna ha hha hX hT hS hV hi
    go_enter Tryz.func33, Tryz.ntmps33
    go_wp2_with fail
    generalize (((w.alloc (.cells #[.slice A S.length c, .slice A' V.length c'] 25)).alloc (.cells #[.slice Ax X.length cx] 22)).alloc (.cells #[.slice none 0 0, .slice none 0 0] 25)) = W0 at *
    refine (VV.out W0 B0.below).mono ?_
    rintro e w1 ⟨hb1, rfl⟩
    have B1 := B0.next hb1
    obtain ⟨d0, d1⟩ := bkA B1.three
    have f0 := B1.three.frozen 0
    have f1 := B1.three.frozen 1
    go_wp2
    refine bodyPost_ret (v := .tuple #[.agg #[.slice none 0 0, .slice none 0 0], .int .i64 60]) (by simp [results, Tryz.results33, go_sem, d0, d1]) rfl ?_
    exact ⟨(B1.below.setCell (p := ⟨w.heap.size + 2, 0, none⟩) (by simp) _).setCell (p := ⟨w.heap.size + 2, 1, none⟩) (by simp) _, _, rfl, IsA.zero _ _⟩
  have hva := hqv.1 hv
  subst hv
  cases hs : qs
  · have hna : ¬ (VA (S, V) ∧ VS T) := fun h => by rw [hqs.2 h.2] at hs; cases hs
    rw [spreadR_shape hna]
    subst hs
    clear hqv hqs hqd hna ha hha hX hT hS hV hi hva
    go_enter Tryz.func33, Tryz.ntmps33
    go_wp2_with fail
    generalize (((w.alloc (.cells #[.slice A S.length c, .slice A' V.length c'] 25)).alloc (.cells #[.slice Ax X.length cx] 22)).alloc (.cells #[.slice none 0 0, .slice none 0 0] 25)) = W0 at *
    refine (VV.out W0 B0.below).mono ?_
    rintro e w1 ⟨hb1, rfl⟩
    have B1 := B0.next hb1
    go_wp2_with fail
    refine (SS.out w1 B1.below).mono ?_
    rintro e w' ⟨rfl, rfl⟩
    obtain ⟨d0, d1⟩ := bkA B1.three
    have f0 := B1.three.frozen 0
    have f1 := B1.three.frozen 1
    go_wp2
    refine bodyPost_ret (v := .tuple #[.agg #[.slice none 0 0, .slice none 0 0], .int .i64 60]) (by simp [results, Tryz.results33, go_sem, d0, d1]) rfl ?_
    exact ⟨(B1.below.setCell (p := ⟨w.heap.size + 2, 0, none⟩) (by simp) _).setCell (p := ⟨w.heap.size + 2, 1, none⟩) (by simp) _, _, rfl, IsA.zero _ _⟩
  have hTS := hqs.1 hs
  subst hs
  have hVS : VS S := hva.1
  have hS4 := hVS.1
  have hT4 := hTS.1
  by_cases hlen : X.length = S.length
  rotate_left
  · rw [spreadR_arg ⟨hva, hTS⟩ (fun h => hlen h.1)]
    have hne : ((X.length : Int) != (S.length : Int)) = true := by simp; omega
    clear hqv hqs hqd ha hha hX hT hS hV hi hva hTS hVS hlen
    go_enter Tryz.func33, Tryz.ntmps33
    go_wp2_with fail
    generalize (((w.alloc (.cells #[.slice A S.length c, .slice A' V.length c'] 25)).alloc (.cells #[.slice Ax X.length cx] 22)).alloc (.cells #[.slice none 0 0, .slice none 0 0] 25)) = W0 at *
    refine (VV.out W0 B0.below).mono ?_
    rintro e w1 ⟨hb1, rfl⟩
    have B1 := B0.next hb1
    go_wp2_with fail
    refine (SS.out w1 B1.below).mono ?_
    rintro e w' ⟨rfl, rfl⟩
    obtain ⟨b0, b1⟩ := bkA B1.one
    have x0 : w1.cell? ⟨w.heap.size + 1, 0, none⟩ = some (Value.slice Ax X.length cx) := B1.two.cell 0
    obtain ⟨d0, d1⟩ := bkA B1.three
    have f0 := B1.three.frozen 0
    have f1 := B1.three.frozen 1
    go_wp2
    refine bodyPost_ret (v := .tuple #[.agg #[.slice none 0 0, .slice none 0 0], .int .i64 2]) (by simp [results, Tryz.results33, go_sem, d0, d1]) rfl ?_
    exact ⟨(B1.below.setCell (p := ⟨w.heap.size + 2, 0, none⟩) (by simp) _).setCell (p := ⟨w.heap.size + 2, 1, none⟩) (by simp) _, _, rfl, IsA.zero _ _⟩
  have hne : ((X.length : Int) != (S.length : Int)) = false := by simp; omega
  have DD := Lib.hid (fun W (hW : Below w.heap.size w W) => distinct_any X T.length Ax cx w.heap.size W (hX.rd.below hW) hW.size (by omega) hXL qd hqd)
  cases hd : qd
  · have hno : ¬ Dist X T.length := fun h => by rw [hqd.2 h] at hd; cases hd
    rw [spreadR_arg ⟨hva, hTS⟩ (fun h => hno h.2)]
    subst hd
    clear hqv hqs hqd ha hha hX hT hS hV hi hva hTS hVS hlen hno
    go_enter Tryz.func33, Tryz.ntmps33
    go_wp2_with fail
    generalize (((w.alloc (.cells #[.slice A S.length c, .slice A' V.length c'] 25)).alloc (.cells #[.slice Ax X.length cx] 22)).alloc (.cells #[.slice none 0 0, .slice none 0 0] 25)) = W0 at *
    refine (VV.out W0 B0.below).mono ?_
    rintro e w1 ⟨hb1, rfl⟩
    have B1 := B0.next hb1
    go_wp2_with fail
    refine (SS.out w1 B1.below).mono ?_
    rintro e w' ⟨rfl, rfl⟩
    obtain ⟨b0, b1⟩ := bkA B1.one
    have x0 : w1.cell? ⟨w.heap.size + 1, 0, none⟩ = some (Value.slice Ax X.length cx) := B1.two.cell 0
    go_wp2_with fail
    refine (DD.out w1 B1.below).mono ?_
    rintro e w2 ⟨hb2, rfl⟩
    have B2 := B1.next hb2
    clear b0 b1 x0
    obtain ⟨d0, d1⟩ := bkA B2.three
    have f0 := B2.three.frozen 0
    have f1 := B2.three.frozen 1
    go_wp2
    refine bodyPost_ret (v := .tuple #[.agg #[.slice none 0 0, .slice none 0 0], .int .i64 2]) (by simp [results, Tryz.results33, go_sem, d0, d1]) rfl ?_
    exact ⟨(B2.below.setCell (p := ⟨w.heap.size + 2, 0, none⟩) (by simp) _).setCell (p := ⟨w.heap.size + 2, 1, none⟩) (by simp) _, _, rfl, IsA.zero _ _⟩
  have hDX := hqd.1 hd
  subst hd
  have HBAD := Lib.hid (fun (k : Nat) (hk : k < X.length) (h : S.getD k 0 ≠ T.getD (X.getD k 0).toNat 0) => spreadR_other (a := (S, V)) ⟨hva, hTS⟩ ⟨hlen, hDX⟩ (fun e => h (by rw [← pkI_get hk]; exact (congrArg (List.getD · k 0) e).symm)))
  have HGOOD := Lib.hid (fun (h : ∀ j, j < X.length → S.getD j 0 = T.getD (X.getD j 0).toNat 0) => And.intro (pkI_eq hlen h) (spreadR_ok (a := (S, V)) ⟨hva, hTS⟩ ⟨hlen, hDX⟩ (pkI_eq hlen h)))
  have hl : V.length = Ix.prod (S.map Int.toNat) := hva.2.1
  have ST := Lib.hid (fun W (hW : Below w.heap.size w W) => strides_any (S.map Int.toNat) A c W hVS.sz (by rw [← hVS.cells]; exact ((hS.below hW).more hW.size).rd))
  rw [List.length_map] at ST
  have HS := Lib.hid (fun W (hW : Below w.heap.size w W) => hS.rd.below hW)
  have HV := Lib.hid (fun W (hW : Below w.heap.size w W) => hV.rd.below hW)
  have HX := Lib.hid (fun W (hW : Below w.heap.size w W) => hX.rd.below hW)
  have HT := Lib.hid (fun W (hW : Below w.heap.size w W) => hT.rd.below hW)
  have HH := Lib.hid (And.intro hVS (And.intro hl (And.intro hlen (And.intro hTS hDX))))
  have HTi := Lib.hid hTS
  obtain ⟨fa, hfa⟩ : ∃ fa, fa = (spreadR (S, V) X T).1 := ⟨_, rfl⟩
  obtain ⟨fe, hfe⟩ : ∃ fe, fe = (spreadR (S, V) X T).2 := ⟨_, rfl⟩
  have HFA := Lib.hid hfa
  have HFE := Lib.hid hfe
  rw [← hfa, ← hfe]
  clear hqv hqs hqd ha hha hX hT hS hV hi hva hTS hVS hlen hDX hl hfa hfe hXL
  go_enter Tryz.func33, Tryz.ntmps33
  go_wp2_with fail
  generalize (((w.alloc (.cells #[.slice A S.length c, .slice A' V.length c'] 25)).alloc (.cells #[.slice Ax X.length cx] 22)).alloc (.cells #[.slice none 0 0, .slice none 0 0] 25)) = W0 at *
  refine (VV.out W0 B0.below).mono ?_
  rintro e w1 ⟨hb1, rfl⟩
  have B1 := B0.next hb1
  go_wp2_with fail
  refine (SS.out w1 B1.below).mono ?_
  rintro e w' ⟨rfl, rfl⟩
  obtain ⟨b0, b1⟩ := bkA B1.one
  have x0 : w1.cell? ⟨w.heap.size + 1, 0, none⟩ = some (Value.slice Ax X.length cx) := B1.two.cell 0
  go_wp2_with fail
  refine (DD.out w1 B1.below).mono ?_
  rintro e w2 ⟨hb2, rfl⟩
  have B2 := B1.next hb2
  clear b0 b1 x0 hb1 hb2 B0 B1 VV SS DD
  have x0 : w2.cell? ⟨w.heap.size + 1, 0, none⟩ = some (Value.slice Ax X.length cx) := B2.two.cell 0
  go_wp2_with fail
  clear x0
  go_loopw [38] (fun i wr => ∃ k : Nat, k ≤ X.length ∧ i = .int .i64 k ∧ Hid (∀ j, j < k → S.getD j 0 = T.getD (X.getD j 0).toNat 0) ∧ BxW w [(w.heap.size, 25, #[.slice A S.length c, .slice A' V.length c']), (w.heap.size + 1, 22, #[.slice Ax X.length cx]), (w.heap.size + 2, 25, #[.slice none 0 0, .slice none 0 0])] wr) (fun i _ => X.length - (intOf i).toNat)
  case atStart => exact ⟨0, Nat.zero_le _, rfl, (fun j hj => absurd hj (Nat.not_lt_zero _)), B2⟩
  case round =>
    clear B2
    obtain ⟨k, hk, rfl, HJ, BR⟩ := hrel
    obtain ⟨b0, b1⟩ := bkA BR.one
    by_cases hlt : k < X.length
    · obtain ⟨adx, rfl, habx, hcx⟩ := (HX.out wr BR.below).zint hlt
      have hxr := HH.out.2.2.2.2.1 _ (List.getElem_mem hlt)
      rw [getD_zint hlt] at hcx hxr
      obtain ⟨ads, rfl, habs, hcs⟩ := (HS.out wr BR.below).zint (j := k) (by rw [← HH.out.2.2.1]; exact hlt)
      rw [getD_zint] at hcs
      have HB2 := Lib.hid (HBAD.out k hlt)
      have HN : Hid (S.getD k 0 = T.getD (X.getD k 0).toNat 0 → ∀ j, j < k + 1 → S.getD j 0 = T.getD (X.getD j 0).toNat 0) := fun h j hj => by
        rcases Nat.lt_or_ge j k with h1 | h1
        · exact HJ.out j h1
        · obtain rfl : j = k := by omega
          exact h
      have hkS : (k : Int) < (S.length : Int) := by rw [← HH.out.2.2.1]; omega
      generalize X.getD k 0 = x at *
      obtain ⟨m, rfl⟩ : ∃ m : Nat, x = (m : Int) := ⟨x.toNat, by omega⟩
      have hmT : m < T.length := by omega
      obtain ⟨adt, rfl, habt, hct⟩ := (HT.out wr BR.below).zint hmT
      rw [getD_zint] at hct
      rw [Int.toNat_natCast] at HB2 HN
      generalize T.getD m 0 = y at *
      generalize S.getD k 0 = s at *
      by_cases hsy : s = y
      · subst hsy
        have y1 : (s != s) = false := by simp
        have HOK := Lib.hid (HN.out rfl)
        clear HN HB2 HBAD HGOOD
        go_wp2_with fail
        go_quiet (fail)
        have BN : BxW w [(w.heap.size, 25, #[.slice (some ads) S.length c, .slice A' V.length c']), (w.heap.size + 1, 22, #[.slice (some adx) X.length cx]), (w.heap.size + 2, 25, #[.slice none 0 0, .slice none 0 0])] (wr.drewN nq) := ⟨below_drewN BR.below nq, BR.keep⟩
        go_wp2
        go_roundw
        case rel => exact ⟨k + 1, by omega, by go_num, HOK.out, BN⟩
        case measure => simp [intOf]; omega
      · have y1 : (s != y) = true := by simp [hsy]
        have e9 := HB2.out hsy
        have e1 := HFA.out
        have e2 := HFE.out
        rw [e9] at e1 e2
        simp only at e1 e2
        subst e1
        subst e2
        clear HN HB2 HBAD HGOOD e9 hsy
        go_wp2_with fail
        go_quiet (fail)
        have BN : BxW w [(w.heap.size, 25, #[.slice (some ads) S.length c, .slice A' V.length c']), (w.heap.size + 1, 22, #[.slice (some adx) X.length cx]), (w.heap.size + 2, 25, #[.slice none 0 0, .slice none 0 0])] (wr.drewN nq) := ⟨below_drewN BR.below nq, BR.keep⟩
        clear b0 b1 hcx hcs hct
        obtain ⟨d0, d1⟩ := bkA BN.three
        have f0 := BN.three.frozen 0
        have f1 := BN.three.frozen 1
        generalize wr.drewN nq = ws at *
        go_wp2
        refine bodyPost_ret (v := .tuple #[.agg #[.slice none 0 0, .slice none 0 0], .int .i64 60]) (by simp [results, Tryz.results33, go_sem, d0, d1]) rfl ?_
        exact ⟨(BN.below.setCell (p := ⟨w.heap.size + 2, 0, none⟩) (by simp) _).setCell (p := ⟨w.heap.size + 2, 1, none⟩) (by simp) _, _, rfl, IsA.zero _ _⟩
    · obtain ⟨hpk, hok⟩ := HGOOD.out fun j hj => HJ.out j (by omega)
      have HPK := Lib.hid hpk
      obtain ⟨M, hM⟩ : ∃ M, M = tab (T.map Int.toNat) fun I => V.getD (place (S.map Int.toNat) (pk (X.map Int.toNat) I 0)) ⟨#[]⟩ := ⟨_, rfl⟩
      have e1 := HFA.out
      have e2 := HFE.out
      rw [hok] at e1 e2
      simp only at e1 e2
      rw [← hM] at e1
      subst e1
      subst e2
      have HM := Lib.hid hM
      clear HBAD HGOOD HFA HFE hpk hok hM HJ
      go_wp2_with fail
      refine (ST.out wr BR.below).mono ?_
      rintro e w3 ⟨hb3, rfl, hg3⟩
      have B3 := BR.next hb3
      clear b0 b1 hb3 ST
      have hs3 : wr.heap.size < w3.heap.size := hg3.lt
      have b3 := below_alloc w3 (.cells #[.slice (some ⟨wr.heap.size, 0, none⟩) S.length S.length] 22)
      have B4 := B3.next b3
      have k4 := Bk.new w3 22 #[Value.slice (some ⟨wr.heap.size, 0, none⟩) S.length S.length]
      have hg4 := hg3.next' b3
      have MK := Lib.hid (made_any T 87 #[.pointer (some ⟨w.heap.size + 1, 0, none⟩), .pointer (some ⟨w3.heap.size, 0, none⟩), .pointer (some ⟨w.heap.size, 0, none⟩)] (enters_of Tryz.func87 (by kernel_rfl) rfl)
        (fun k => V.getD (place (S.map Int.toNat) (pk (X.map Int.toNat) (idx (T.map Int.toNat) k) 0)) ⟨#[]⟩) At ct (w3.alloc (.cells #[.slice (some ⟨wr.heap.size, 0, none⟩) S.length S.length] 22)) HTi.out ((HT.out _ B4.below).more B4.below.size) (fun k IX W hW hk hX hbX => by
          obtain ⟨j1, j2, j3, j4, j5⟩ := HH.out
          have B6 := B4.next hW
          have hg6 := hg4.next' hW
          have k6 := k4.next' hW
          have hBW := B6.below
          have hin := idx_inside (T.map Int.toNat) k hk
          have hil : (idx (T.map Int.toNat) k).length = T.length := by rw [idx_len, List.length_map]
          have h := spread1_any S V X (idx (T.map Int.toNat) k) (w.heap.size + 1) w3.heap.size w.heap.size wr.heap.size IX W.heap.size Ax A' cx c' W j1 j2 j3 (spread_in j5 HPK.out hin) (fun x hx => by rw [hil]; exact j5.1 x hx)
            (B6.two.cell 0) (k6.cell 0) (bkA B6.one).2 ((HX.out W hBW).more hBW.size) ((HV.out W hBW).more hBW.size) (by simpa using hg6.rd) hbX (Nat.le_refl _)
          rw [hil] at h
          exact h.mono (fun e w' h => ⟨h.1, h.2⟩)))
      have HCL := Lib.hid (show (List.range (Ix.prod (T.map Int.toNat))).map (fun k => V.getD (place (S.map Int.toNat) (pk (X.map Int.toNat) (idx (T.map Int.toNat) k) 0)) ⟨#[]⟩) = M from HM.out.symm)
      clear hg3 hg4 k4 BR
      go_wp2_with fail
      refine MK.out.mono ?_
      rintro e w6 ⟨hb6, v6, rfl, hv6⟩
      rw [HCL.out] at hv6
      have B6 := B4.next hb6
      clear MK HCL
      obtain ⟨A1, c1, A2, c2, rfl, hc1, hc2⟩ := hv6.form
      obtain ⟨d0, d1⟩ := bkA B6.three
      have f0 := B6.three.frozen 0
      have f1 := B6.three.frozen 1
      go_wp2
      refine bodyPost_ret (v := .tuple #[.agg #[.slice A1 T.length c1, .slice A2 M.length c2], .int .i64 0]) (by simp [results, Tryz.results33, go_sem, d0, d1]) rfl ?_
      exact ⟨(B6.below.setCell (p := ⟨w.heap.size + 2, 0, none⟩) (by simp) _).setCell (p := ⟨w.heap.size + 2, 1, none⟩) (by simp) _, _, rfl, hv6.ret d0 d1 _ _⟩
end Go.Proofs.YtgnffedncjjkfaaGreatDoor

namespace Go.Proofs.YtgnffedncjjkfaaGreatDoor
open Go.RowKit Ix Ar

theorem pkI_ofNat (X : List Int) (I : List Nat) : pkI X (I.map Int.ofNat) = (pk (X.map Int.toNat) I 0).map Int.ofNat := by
  unfold pkI pk
  rw [List.map_map, List.map_map]
  refine List.map_congr_left fun x _ => ?_
  show (I.map Int.ofNat).getD x.toNat 0 = Int.ofNat (I.getD x.toNat 0)
  rw [List.getD_eq_getElem?_getD, List.getD_eq_getElem?_getD, List.getElem?_map]
  cases I[x.toNat]? <;> rfl
set_option maxRecDepth 100000 in
set_option maxHeartbeats 12800000 in
theorem rspread_any (a : Arr) (X T : List Int) (va vx vt : Value) (w : World) (ha : IsA w w.heap.size va a) (hX : IsI w w.heap.size vx X) (hT : IsI w w.heap.size vt T) (hi : InA a) (hXL : X.length ≤ 1000000) (hTL : T.length ≤ maxLen) :
    Calls Tryz.prog 34 #[va, vx, vt] w fun e w' => Below w.heap.size w w' ∧ ∃ u, e = .returned (.tuple #[u, .int .i64 (spreadR a X T).2]) ∧ IsA w' w'.heap.size u (spreadR a X T).1 := by
  obtain ⟨A, c, A', c', rfl, hc, hc'⟩ := ha.form
  obtain ⟨Ax, cx, rfl, -⟩ := hX.form
  obtain ⟨At, ct, rfl, -⟩ := hT.form
  obtain ⟨i0, hi0, hz0, hz1, hz2⟩ := info_parts Tryz.str_info
  have hha := ha
  obtain ⟨hS, hV⟩ := ha.parts
  obtain ⟨S, V⟩ := a
  simp only at hS hV hc hc'
  obtain ⟨qv, hqv⟩ : ∃ b : Bool, b = true ↔ VA (S, V) := by classical exact ⟨decide _, decide_eq_true_iff⟩
  obtain ⟨qs, hqs⟩ : ∃ b : Bool, b = true ↔ VS T := by classical exact ⟨decide _, decide_eq_true_iff⟩
  obtain ⟨qd, hqd⟩ : ∃ b : Bool, b = true ↔ X.length = S.length ∧ Dist X T.length := by classical exact ⟨decide _, decide_eq_true_iff⟩
  have VV := Lib.hid (fun W (hW : Below w.heap.size w W) => rarr_any (S, V) (.agg #[.slice A S.length c, .slice A' V.length c']) W (hha.next hW) hi qv hqv)
  have SS := Lib.hid (fun W (hW : Below w.heap.size w W) => rvalidshape_any T At ct w.heap.size W (hT.rd.below hW) hTL qs hqs)
  have DD := Lib.hid (fun W (hW : Below w.heap.size w W) => rdistinct_any X S.length T.length Ax cx w.heap.size W (hX.rd.below hW) hW.size (by unfold maxLen; omega) qd hqd)
  have B0 := BxW.start2 w 25 25 #[.slice A S.length c, .slice A' V.length c'] #[.slice none 0 0, .slice none 0 0]
  have i1 := hi.shape
  cases hv : qv
  · have hna : ¬ (VA (S, V) ∧ VS T) := fun h => by rw [hqv.2 h.1] at hv; cases hv
    rw [spreadR_shape hna]
    subst hv
    clear hqv hqs hqd hna ha hha hX hT hS hV hi DD
    go_enter Tryz.func34, Tryz.ntmps34
    go_wp2_with fail
    generalize ((w.alloc (.cells #[.slice A S.length c, .slice A' V.length c'] 25)).alloc (.cells #[.slice none 0 0, .slice none 0 0] 25)) = W0 at *
    refine (VV.out W0 B0.below).mono ?_
    rintro e w1 ⟨hb1, rfl⟩
    have B1 := B0.next hb1
    obtain ⟨d0, d1⟩ := bkA B1.two
    have f0 := B1.two.frozen 0
    have f1 := B1.two.frozen 1
    go_wp2
    refine bodyPost_ret (v := .tuple #[.agg #[.slice none 0 0, .slice none 0 0], .int .i64 60]) (by simp [results, Tryz.results34, go_sem, d0, d1]) rfl ?_
    exact ⟨(B1.below.setCell (p := ⟨w.heap.size + 1, 0, none⟩) (by simp) _).setCell (p := ⟨w.heap.size + 1, 1, none⟩) (by simp) _, _, rfl, IsA.zero _ _⟩
  have hva := hqv.1 hv
  subst hv
  cases hs : qs
  · have hna : ¬ (VA (S, V) ∧ VS T) := fun h => by rw [hqs.2 h.2] at hs; cases hs
    rw [spreadR_shape hna]
    subst hs
    clear hqv hqs hqd hna ha hha hX hT hS hV hi hva DD
    go_enter Tryz.func34, Tryz.ntmps34
    go_wp2_with fail
    generalize ((w.alloc (.cells #[.slice A S.length c, .slice A' V.length c'] 25)).alloc (.cells #[.slice none 0 0, .slice none 0 0] 25)) = W0 at *
    refine (VV.out W0 B0.below).mono ?_
    rintro e w1 ⟨hb1, rfl⟩
    have B1 := B0.next hb1
    go_wp2_with fail
    refine (SS.out w1 B1.below).mono ?_
    rintro e w' ⟨rfl, rfl⟩
    obtain ⟨d0, d1⟩ := bkA B1.two
    have f0 := B1.two.frozen 0
    have f1 := B1.two.frozen 1
    go_wp2
    refine bodyPost_ret (v := .tuple #[.agg #[.slice none 0 0, .slice none 0 0], .int .i64 60]) (by simp [results, Tryz.results34, go_sem, d0, d1]) rfl ?_
    exact ⟨(B1.below.setCell (p := ⟨w.heap.size + 1, 0, none⟩) (by simp) _).setCell (p := ⟨w.heap.size + 1, 1, none⟩) (by simp) _, _, rfl, IsA.zero _ _⟩
  have hTS := hqs.1 hs
  subst hs
  have hVS : VS S := hva.1
  have hS4 := hVS.1
  have hT4 := hTS.1
  cases hd : qd
  · have hno : ¬ (X.length = S.length ∧ Dist X T.length) := fun h => by rw [hqd.2 h] at hd; cases hd
    rw [spreadR_arg ⟨hva, hTS⟩ hno]
    subst hd
    clear hqv hqs hqd ha hha hX hT hS hV hi hva hTS hVS hno
    go_enter Tryz.func34, Tryz.ntmps34
    go_wp2_with fail
    generalize ((w.alloc (.cells #[.slice A S.length c, .slice A' V.length c'] 25)).alloc (.cells #[.slice none 0 0, .slice none 0 0] 25)) = W0 at *
    refine (VV.out W0 B0.below).mono ?_
    rintro e w1 ⟨hb1, rfl⟩
    have B1 := B0.next hb1
    go_wp2_with fail
    refine (SS.out w1 B1.below).mono ?_
    rintro e w' ⟨rfl, rfl⟩
    obtain ⟨b0, b1⟩ := bkA B1.one
    go_wp2_with fail
    refine (DD.out w1 B1.below).mono ?_
    rintro e w2 ⟨hb2, rfl⟩
    have B2 := B1.next hb2
    clear b0 b1
    obtain ⟨d0, d1⟩ := bkA B2.two
    have f0 := B2.two.frozen 0
    have f1 := B2.two.frozen 1
    go_wp2
    refine bodyPost_ret (v := .tuple #[.agg #[.slice none 0 0, .slice none 0 0], .int .i64 2]) (by simp [results, Tryz.results34, go_sem, d0, d1]) rfl ?_
    exact ⟨(B2.below.setCell (p := ⟨w.heap.size + 1, 0, none⟩) (by simp) _).setCell (p := ⟨w.heap.size + 1, 1, none⟩) (by simp) _, _, rfl, IsA.zero _ _⟩
  have hDX := hqd.1 hd
  subst hd
  have hX4 : X.length ≤ 4 := by have := hDX.1; omega
  obtain ⟨qe, hqe⟩ : ∃ b : Bool, b = true ↔ pkI X T = S := by classical exact ⟨decide _, decide_eq_true_iff⟩
  have PK := Lib.hid (fun W (hW : Below w.heap.size w W) => picked_any X T At Ax ct cx w.heap.size w.heap.size W (hT.rd.below hW) (hX.rd.below hW) hW.size hW.size (by omega) hDX.2.1)
  have EQ := Lib.hid (fun W (hW : Below w.heap.size w W) (u : Value) (h9 : IsI W W.heap.size u (pkI X T)) => sameshape_any (pkI X T) S u (.slice A S.length c) W h9 (hS.next hW) (by rw [pkI_len]; unfold maxLen; omega) qe hqe)
  have HPL : Hid ((pkI X T).length = X.length) := pkI_len X T
  cases he : qe
  · have hno : pkI X T ≠ S := fun h => by rw [hqe.2 h] at he; cases he
    rw [spreadR_other ⟨hva, hTS⟩ hDX hno]
    subst he
    clear hqv hqs hqd hqe ha hha hX hT hS hV hi hva hTS hVS hno hDX
    go_enter Tryz.func34, Tryz.ntmps34
    go_wp2_with fail
    generalize ((w.alloc (.cells #[.slice A S.length c, .slice A' V.length c'] 25)).alloc (.cells #[.slice none 0 0, .slice none 0 0] 25)) = W0 at *
    refine (VV.out W0 B0.below).mono ?_
    rintro e w1 ⟨hb1, rfl⟩
    have B1 := B0.next hb1
    go_wp2_with fail
    refine (SS.out w1 B1.below).mono ?_
    rintro e w' ⟨rfl, rfl⟩
    obtain ⟨b0, b1⟩ := bkA B1.one
    go_wp2_with fail
    refine (DD.out w1 B1.below).mono ?_
    rintro e w2 ⟨hb2, rfl⟩
    have B2 := B1.next hb2
    clear b0 b1
    obtain ⟨b0, b1⟩ := bkA B2.one
    go_wp2_with fail
    refine wp_region_held_drew (S := fun Y => (Y.cell? ⟨w.heap.size, 0, none⟩ = some (.slice A S.length c) ∧ Y.cell? ⟨w.heap.size, 1, none⟩ = some (.slice A' V.length c')) ∧ Below w.heap.size w Y) (by kernel_rfl) ⟨⟨b0, b1⟩, B2.below.drew⟩ (fun hS => ?_)
    clear b0 b1
    have B3 := B2.drew
    refine takeA (i := 0) (v := ?_) rfl (by kernel_rfl) (by kernel_rfl) (by kernel_rfl) (fun _ _ _ h => h) (by rfl) (by assumption) ?_ ?_
    rotate_left
    · intro w hSw; (try dsimp only at hSw); go_simp <;> with_reducible rfl
    try simp only [Act.put, List.setIfInBounds_toArray, List.set_cons_zero, List.set_cons_succ]
    refine takeA (i := 1) (v := ?_) rfl (by kernel_rfl) (by kernel_rfl) (by kernel_rfl) (fun _ _ _ h => h) (by rfl) (by assumption) ?_ ?_
    rotate_left
    · intro w hSw; (try dsimp only at hSw); go_simp <;> with_reducible rfl
    try simp only [Act.put, List.setIfInBounds_toArray, List.set_cons_zero, List.set_cons_succ]
    refine takeA (i := 3) (v := ?_) rfl (by kernel_rfl) (by kernel_rfl) (by kernel_rfl) (fun _ _ _ h => h) (by rfl) (by assumption) ?_ ?_
    rotate_left
    · intro w hSw; (try dsimp only at hSw); go_simp <;> with_reducible rfl
    try simp only [Act.put, List.setIfInBounds_toArray, List.set_cons_zero, List.set_cons_succ]
    refine takeA (i := 4) (v := ?_) rfl (by kernel_rfl) (by kernel_rfl) (by kernel_rfl) (fun _ _ _ h => h) (by rfl) (by assumption) ?_ ?_
    rotate_left
    · intro w hSw; (try dsimp only at hSw); go_simp <;> with_reducible rfl
    try simp only [Act.put, List.setIfInBounds_toArray, List.set_cons_zero, List.set_cons_succ]
    refine stepA (i := 2) rfl (by kernel_rfl) (fun K0 hK0 => ?_)
    go_simp
    refine (PK.out _ B3.below).mono ?_
    rintro e w4 ⟨hb4, rfl, hg4⟩
    have B4 := B3.next hb4
    have hI9 := IsI.of_bk hg4
    rw [HPL.out] at hI9
    dsimp only
    refine hK0.out _ _ ⟨bkA B4.one, B4.below⟩ (fun hS4' => ?_)
    clear hK0 K0 hS hg4 hb4 PK
    try simp only [Act.put, List.setIfInBounds_toArray, List.set_cons_zero, List.set_cons_succ]
    have EQ4 := Lib.hid (EQ.out w4 B4.below _ hI9)
    clear hI9 EQ
    refine stepA (i := 5) rfl (by kernel_rfl) (fun K0 hK0 => ?_)
    go_simp
    refine EQ4.out.mono ?_
    rintro e w5 ⟨hb5, rfl⟩
    have B5 := B4.next hb5
    dsimp only
    refine hK0.out _ _ ⟨bkA B5.one, B5.below⟩ (fun hS5 => ?_)
    clear hK0 K0 hS4' hb5 EQ4
    try simp only [Act.put, List.setIfInBounds_toArray, List.set_cons_zero, List.set_cons_succ]
    refine takeA (i := 6) (v := ?_) rfl (by kernel_rfl) (by kernel_rfl) (by kernel_rfl) (fun _ _ _ h => h) (by rfl) (by assumption) ?_ ?_
    rotate_left
    · intro w hSw; (try dsimp only at hSw); go_simp <;> with_reducible rfl
    try simp only [Act.put, List.setIfInBounds_toArray, List.set_cons_zero, List.set_cons_succ]
    refine wpAnyH_done (by kernel_rfl) ?_ _
    clear hS5
    obtain ⟨d0, d1⟩ := bkA B5.two
    have f0 := B5.two.frozen 0
    have f1 := B5.two.frozen 1
    go_wp2
    refine bodyPost_ret (v := .tuple #[.agg #[.slice none 0 0, .slice none 0 0], .int .i64 60]) (by simp [results, Tryz.results34, go_sem, d0, d1]) rfl ?_
    exact ⟨(B5.below.setCell (p := ⟨w.heap.size + 1, 0, none⟩) (by simp) _).setCell (p := ⟨w.heap.size + 1, 1, none⟩) (by simp) _, _, rfl, IsA.zero _ _⟩
  have hpe := hqe.1 he
  subst he
  rw [spreadR_ok ⟨hva, hTS⟩ hDX hpe]
  have hl : V.length = Ix.prod (S.map Int.toNat) := hva.2.1
  obtain ⟨N, hN⟩ : ∃ N, N = Ix.prod (T.map Int.toNat) := ⟨_, rfl⟩
  have hN2 : N ≤ 4096 := by rw [hN]; exact hTS.2.2
  obtain ⟨f, hf⟩ : ∃ f, f = fun k => V.getD (place (S.map Int.toNat) (pk (X.map Int.toNat) (idx (T.map Int.toNat) k) 0)) ⟨#[]⟩ := ⟨_, rfl⟩
  have htab : (tab (T.map Int.toNat) fun I => V.getD (place (S.map Int.toNat) (pk (X.map Int.toNat) I 0)) ⟨#[]⟩) = (List.range N).map f := by rw [hN, hf]; rfl
  simp only
  rw [htab]
  have hXS : X.length = S.length := hDX.1
  have CC := Lib.hid (fun W (hW : Below w.heap.size w W) => rcount_any (T.map Int.toNat) At ct w.heap.size W hTS.sz (by rw [← hTS.cells]; exact hT.rd.below hW))
  rw [List.length_map, ← hN] at CC
  have IX := Lib.hid (fun W (hW : Below w.heap.size w W) (k : Nat) (hk : k < N) => rindex_any (T.map Int.toNat) k At ct W hTS.sz (by rw [← hN]; exact hk) (by rw [← hTS.cells]; exact ((hT.below hW).more hW.size).rd))
  rw [List.length_map] at IX
  have CP := Lib.hid (fun W (hW : Below w.heap.size w W) => copied_any At T.length ct T W rfl (by omega) ((hT.below hW).more hW.size).rd)
  have HIN := Lib.hid (fun k (hk : k < N) => spread_in hDX.2 hpe (idx_inside (T.map Int.toNat) k (by rw [← hN]; exact hk)))
  have PI := Lib.hid (fun (k : Nat) (Y : Nat) (W : World) (hW : Below w.heap.size w W) (hY : Bk W Y 3 (ints .i64 (idx (T.map Int.toNat) k)).toArray) => show Calls Tryz.prog 89 #[.slice (some ⟨Y, 0, none⟩) T.length T.length, .slice Ax X.length cx] W fun e w' => Below W.heap.size W w' ∧ e = .returned (.slice (some ⟨W.heap.size, 0, none⟩) X.length X.length) ∧ Bk w' W.heap.size 3 (ints .i64 (pk (X.map Int.toNat) (idx (T.map Int.toNat) k) 0)).toArray from by
    have hil : (idx (T.map Int.toNat) k).length = T.length := by rw [idx_len, List.length_map]
    have h := picked_any X ((idx (T.map Int.toNat) k).map Int.ofNat) (some ⟨Y, 0, none⟩) Ax T.length cx W.heap.size w.heap.size W (by rw [zints_nat]; simpa using hY.rd) (hX.rd.below hW) (Nat.le_refl _) hW.size (by omega) (fun x hx => by rw [List.length_map, hil]; exact hDX.2.1 x hx)
    rw [List.length_map, hil, pkI_ofNat, zints_nat] at h
    exact h)
  have PL := Lib.hid (fun (k : Nat) (hk : k < N) (Y : Nat) (W : World) (hW : Below w.heap.size w W) (hY : Bk W Y 3 (ints .i64 (pk (X.map Int.toNat) (idx (T.map Int.toNat) k) 0)).toArray) => show Calls Tryz.prog 69 #[.slice A S.length c, .slice (some ⟨Y, 0, none⟩) X.length X.length] W fun e w' => Below W.heap.size W w' ∧ e = .returned (.int .i64 (place (S.map Int.toNat) (pk (X.map Int.toNat) (idx (T.map Int.toNat) k) 0) : Nat)) from by
    have h := rplace_any (S.map Int.toNat) (pk (X.map Int.toNat) (idx (T.map Int.toNat) k) 0) A (some ⟨Y, 0, none⟩) c X.length w.heap.size W.heap.size W hVS.sz (HIN.out k hk) (by rw [← hVS.cells]; exact hS.rd.below hW) (by simpa using hY.rd) hW.size (Nat.le_refl _)
    rw [List.length_map, show Value.slice (some ⟨Y, 0, none⟩) S.length X.length = .slice (some ⟨Y, 0, none⟩) X.length X.length from by rw [hXS]] at h
    exact h)
  have HV := Lib.hid (fun (k : Nat) (hk : k < N) => show ∃ ad, A' = some ad ∧ ad.block < w.heap.size ∧ place (S.map Int.toNat) (pk (X.map Int.toNat) (idx (T.map Int.toNat) k) 0) < V.length ∧ w.cell? (ad.add (place (S.map Int.toNat) (pk (X.map Int.toNat) (idx (T.map Int.toNat) k) 0))) = some (.string (f k)) from by
    have hmV : place (S.map Int.toNat) (pk (X.map Int.toNat) (idx (T.map Int.toNat) k) 0) < V.length := by rw [hl]; exact place_lt _ _ (HIN.out k hk)
    obtain ⟨ad, e1, e2, e3⟩ := hV.rd.str hmV
    exact ⟨ad, e1, e2, hmV, by rw [hf]; show _ = some (Value.string (V.getD _ _)); rw [List.getD_eq_getElem?_getD, List.getElem?_eq_getElem hmV]; exact e3⟩)
  clear hqv hqs hqd hqe ha hha hX hT hS hV hi hva hTS hVS hl hf htab hN hDX hpe hXS HIN
  go_enter Tryz.func34, Tryz.ntmps34
  go_wp2_with fail
  generalize ((w.alloc (.cells #[.slice A S.length c, .slice A' V.length c'] 25)).alloc (.cells #[.slice none 0 0, .slice none 0 0] 25)) = W0 at *
  refine (VV.out W0 B0.below).mono ?_
  rintro e w1 ⟨hb1, rfl⟩
  have B1 := B0.next hb1
  go_wp2_with fail
  refine (SS.out w1 B1.below).mono ?_
  rintro e w' ⟨rfl, rfl⟩
  obtain ⟨b0, b1⟩ := bkA B1.one
  go_wp2_with fail
  refine (DD.out w1 B1.below).mono ?_
  rintro e w2 ⟨hb2, rfl⟩
  have B2 := B1.next hb2
  clear b0 b1
  obtain ⟨b0, b1⟩ := bkA B2.one
  go_wp2_with fail
  refine wp_region_held_drew (S := fun Y => (Y.cell? ⟨w.heap.size, 0, none⟩ = some (.slice A S.length c) ∧ Y.cell? ⟨w.heap.size, 1, none⟩ = some (.slice A' V.length c')) ∧ Below w.heap.size w Y) (by kernel_rfl) ⟨⟨b0, b1⟩, B2.below.drew⟩ (fun hS => ?_)
  clear b0 b1 hb1 hb2 B0 B1 VV SS DD
  have B3 := B2.drew
  clear B2
  refine takeA (i := 0) (v := ?_) rfl (by kernel_rfl) (by kernel_rfl) (by kernel_rfl) (fun _ _ _ h => h) (by rfl) (by assumption) ?_ ?_
  rotate_left
  · intro w hSw; (try dsimp only at hSw); go_simp <;> with_reducible rfl
  try simp only [Act.put, List.setIfInBounds_toArray, List.set_cons_zero, List.set_cons_succ]
  refine takeA (i := 1) (v := ?_) rfl (by kernel_rfl) (by kernel_rfl) (by kernel_rfl) (fun _ _ _ h => h) (by rfl) (by assumption) ?_ ?_
  rotate_left
  · intro w hSw; (try dsimp only at hSw); go_simp <;> with_reducible rfl
  try simp only [Act.put, List.setIfInBounds_toArray, List.set_cons_zero, List.set_cons_succ]
  refine takeA (i := 3) (v := ?_) rfl (by kernel_rfl) (by kernel_rfl) (by kernel_rfl) (fun _ _ _ h => h) (by rfl) (by assumption) ?_ ?_
  rotate_left
  · intro w hSw; (try dsimp only at hSw); go_simp <;> with_reducible rfl
  try simp only [Act.put, List.setIfInBounds_toArray, List.set_cons_zero, List.set_cons_succ]
  refine takeA (i := 4) (v := ?_) rfl (by kernel_rfl) (by kernel_rfl) (by kernel_rfl) (fun _ _ _ h => h) (by rfl) (by assumption) ?_ ?_
  rotate_left
  · intro w hSw; (try dsimp only at hSw); go_simp <;> with_reducible rfl
  try simp only [Act.put, List.setIfInBounds_toArray, List.set_cons_zero, List.set_cons_succ]
  refine stepA (i := 2) rfl (by kernel_rfl) (fun K0 hK0 => ?_)
  go_simp
  refine (PK.out _ B3.below).mono ?_
  rintro e w4 ⟨hb4, rfl, hg4⟩
  have B4 := B3.next hb4
  have hI9 := IsI.of_bk hg4
  rw [HPL.out] at hI9
  dsimp only
  refine hK0.out _ _ ⟨bkA B4.one, B4.below⟩ (fun hS4' => ?_)
  clear hK0 K0 hS hg4 hb4 PK B3
  try simp only [Act.put, List.setIfInBounds_toArray, List.set_cons_zero, List.set_cons_succ]
  have EQ4 := Lib.hid (EQ.out w4 B4.below _ hI9)
  clear hI9 EQ
  refine stepA (i := 5) rfl (by kernel_rfl) (fun K0 hK0 => ?_)
  go_simp
  refine EQ4.out.mono ?_
  rintro e w5 ⟨hb5, rfl⟩
  have B5 := B4.next hb5
  dsimp only
  refine hK0.out _ _ ⟨bkA B5.one, B5.below⟩ (fun hS5 => ?_)
  clear hK0 K0 hS4' hb5 EQ4 B4
  try simp only [Act.put, List.setIfInBounds_toArray, List.set_cons_zero, List.set_cons_succ]
  refine takeA (i := 6) (v := ?_) rfl (by kernel_rfl) (by kernel_rfl) (by kernel_rfl) (fun _ _ _ h => h) (by rfl) (by assumption) ?_ ?_
  rotate_left
  · intro w hSw; (try dsimp only at hSw); go_simp <;> with_reducible rfl
  try simp only [Act.put, List.setIfInBounds_toArray, List.set_cons_zero, List.set_cons_succ]
  refine wpAnyH_done (by kernel_rfl) ?_ _
  clear hS5
  go_wp2_with fail
  refine (CP.out w5 B5.below).mono ?_
  rintro e w6 ⟨hb6, v9, rfl, hown⟩
  have B6 := B5.next hb6
  have hI := IsI.of_own hown
  obtain ⟨A9, c9, rfl, -⟩ := hI.form
  have hb7 := below_alloc w6 (.cells #[.slice A9 T.length c9, .slice none 0 0] 25)
  have B7 := B6.next hb7
  have l1 := B6.one.lt
  have l2 := B6.two.lt
  have M0 := AppAt.start (w := w) (ob := w6.heap.size) (ks := [(w.heap.size, 25, #[.slice A S.length c, .slice A' V.length c']), (w.heap.size + 1, 25, #[.slice none 0 0, .slice none 0 0])]) B7.below B7.keep (Bk.new w6 25 #[Value.slice A9 T.length c9, .slice none 0 0]) (hI.next hb7) B6.below.size (fun p hp => by
    simp at hp
    rcases hp with rfl | rfl
    · show w.heap.size ≠ w6.heap.size; simp only at l1; omega
    · show w.heap.size + 1 ≠ w6.heap.size; simp only at l2; omega)
  clear hown hI hb7 hb6 B5 B6 B7 CP l1 l2
  go_wp2_with fail
  generalize w6.alloc (.cells #[.slice A9 T.length c9, .slice none 0 0] 25) = w7 at *
  generalize w6.heap.size = ob at *
  go_loopw [9] (fun i wr => ∃ (k : Nat) (x : Value), k ≤ N ∧ i = .int .i64 k ∧ AppAt w w7.heap.size ob [(w.heap.size, 25, #[.slice A S.length c, .slice A' V.length c']), (w.heap.size + 1, 25, #[.slice none 0 0, .slice none 0 0])] (.slice A9 T.length c9) T x ((List.range k).map f) wr) (fun i _ => N - (intOf i).toNat)
  case atStart => exact ⟨0, _, Nat.zero_le _, rfl, M0⟩
  case round =>
    clear M0
    obtain ⟨k, x, hk, rfl, M⟩ := hrel
    obtain ⟨xA, xc, rfl⟩ := own_formV M.own
    rw [map_len] at M
    obtain ⟨b0, b1⟩ := bkA M.box
    go_wp2_with fail
    refine (CC.out wr M.below).mono ?_
    rintro e w' ⟨rfl, rfl⟩
    by_cases hlt : k < N
    · obtain ⟨ad, rfl, hab, hmV, hcv⟩ := HV.out k hlt
      have KA := M.keep (w.heap.size, 25, #[.slice A S.length c, .slice (some ad) V.length c']) (by simp)
      obtain ⟨a0, a1⟩ := bkA KA
      have PLK := Lib.hid (PL.out k hlt)
      have i1' : (0 : Int) ≤ ((place (S.map Int.toNat) (pk (X.map Int.toNat) (idx (T.map Int.toNat) k) 0) : Nat) : Int) := by omega
      have i2' : ((place (S.map Int.toNat) (pk (X.map Int.toNat) (idx (T.map Int.toNat) k) 0) : Nat) : Int) < (V.length : Int) := by omega
      generalize place (S.map Int.toNat) (pk (X.map Int.toNat) (idx (T.map Int.toNat) k) 0) = m at *
      have hcvr := (M.below.cell (p := ad.add m) (by rw [addr_block]; exact hab)).trans hcv
      generalize hfx : f k = x at *
      have HFK := Lib.hid hfx
      clear hfx
      go_wp2_with fail
      refine wp_region_M 17 (by kernel_rfl) (fun Y => ((Y.cell? ⟨ob, 0, none⟩ = some (.slice A9 T.length c9) ∧ Y.cell? ⟨ob, 1, none⟩ = some (.slice xA k xc)) ∧ (Y.cell? ⟨w.heap.size, 0, none⟩ = some (.slice A S.length c) ∧ Y.cell? ⟨w.heap.size, 1, none⟩ = some (.slice (some ad) V.length c'))) ∧ Y.cell? (ad.add m) = some (.string x)) ⟨⟨⟨b0, b1⟩, ⟨a0, a1⟩⟩, hcvr⟩ (fun hS0 => ?_)
      clear b0 b1 a0 a1 hcvr KA
      have Md := M.drew
      clear M
      refine takeM (i := 0) (v := ?_) rfl (by kernel_rfl) (by decide) (by kernel_rfl) (by kernel_rfl) (by kernel_rfl) (fun _ _ _ h => h) (by rfl) (by assumption) ?_ ?_
      rotate_left
      · intro w hSw; (try dsimp only at hSw); go_simp <;> with_reducible rfl
      try simp only [Act.put, List.setIfInBounds_toArray, List.set_cons_zero, List.set_cons_succ]
      refine takeM (i := 1) (v := ?_) rfl (by kernel_rfl) (by decide) (by kernel_rfl) (by kernel_rfl) (by kernel_rfl) (fun _ _ _ h => h) (by rfl) (by assumption) ?_ ?_
      rotate_left
      · intro w hSw; (try dsimp only at hSw); go_simp <;> with_reducible rfl
      try simp only [Act.put, List.setIfInBounds_toArray, List.set_cons_zero, List.set_cons_succ]
      refine takeM (i := 2) (v := ?_) rfl (by kernel_rfl) (by decide) (by kernel_rfl) (by kernel_rfl) (by kernel_rfl) (fun _ _ _ h => h) (by rfl) (by assumption) ?_ ?_
      rotate_left
      · intro w hSw; (try dsimp only at hSw); go_simp <;> with_reducible rfl
      try simp only [Act.put, List.setIfInBounds_toArray, List.set_cons_zero, List.set_cons_succ]
      refine takeM (i := 3) (v := ?_) rfl (by kernel_rfl) (by decide) (by kernel_rfl) (by kernel_rfl) (by kernel_rfl) (fun _ _ _ h => h) (by rfl) (by assumption) ?_ ?_
      rotate_left
      · intro w hSw; (try dsimp only at hSw); go_simp <;> with_reducible rfl
      try simp only [Act.put, List.setIfInBounds_toArray, List.set_cons_zero, List.set_cons_succ]
      refine takeM (i := 4) (v := ?_) rfl (by kernel_rfl) (by decide) (by kernel_rfl) (by kernel_rfl) (by kernel_rfl) (fun _ _ _ h => h) (by rfl) (by assumption) ?_ ?_
      rotate_left
      · intro w hSw; (try dsimp only at hSw); go_simp <;> with_reducible rfl
      try simp only [Act.put, List.setIfInBounds_toArray, List.set_cons_zero, List.set_cons_succ]
      refine takeM (i := 5) (v := ?_) rfl (by kernel_rfl) (by decide) (by kernel_rfl) (by kernel_rfl) (by kernel_rfl) (fun _ _ _ h => h) (by rfl) (by assumption) ?_ ?_
      rotate_left
      · intro w hSw; (try dsimp only at hSw); go_simp <;> with_reducible rfl
      try simp only [Act.put, List.setIfInBounds_toArray, List.set_cons_zero, List.set_cons_succ]
      refine takeM (i := 6) (v := ?_) rfl (by kernel_rfl) (by decide) (by kernel_rfl) (by kernel_rfl) (by kernel_rfl) (fun _ _ _ h => h) (by rfl) (by assumption) ?_ ?_
      rotate_left
      · intro w hSw; (try dsimp only at hSw); go_simp <;> with_reducible rfl
      try simp only [Act.put, List.setIfInBounds_toArray, List.set_cons_zero, List.set_cons_succ]
      refine takeM (i := 7) (v := ?_) rfl (by kernel_rfl) (by decide) (by kernel_rfl) (by kernel_rfl) (by kernel_rfl) (fun _ _ _ h => h) (by rfl) (by assumption) ?_ ?_
      rotate_left
      · intro w hSw; (try dsimp only at hSw); go_simp <;> with_reducible rfl
      try simp only [Act.put, List.setIfInBounds_toArray, List.set_cons_zero, List.set_cons_succ]
      refine takeM (i := 9) (v := ?_) rfl (by kernel_rfl) (by decide) (by kernel_rfl) (by kernel_rfl) (by kernel_rfl) (fun _ _ _ h => h) (by rfl) (by assumption) ?_ ?_
      rotate_left
      · intro w hSw; (try dsimp only at hSw); go_simp <;> with_reducible rfl
      try simp only [Act.put, List.setIfInBounds_toArray, List.set_cons_zero, List.set_cons_succ]
      clear hS0
      refine stepM (i := 8) rfl (by kernel_rfl) (fun K0 hK0 => ?_)
      go_simp
      refine (IX.out wr.drew Md.below k hlt).mono ?_
      rintro e w8 ⟨hb8, rfl, hX8⟩
      have M8 := Md.next hb8
      have KA := M8.keep (w.heap.size, 25, #[.slice A S.length c, .slice (some ad) V.length c']) (by simp)
      dsimp only
      refine hK0.out _ _ (fun _ => ⟨⟨bkA M8.box, bkA KA⟩, (M8.below.cell (p := ad.add m) (by rw [addr_block]; exact hab)).trans hcv⟩) (fun _ => ?_)
      clear hK0 K0 Md hb8 KA
      try simp only [Act.put, List.setIfInBounds_toArray, List.set_cons_zero, List.set_cons_succ]
      have T8 := Lib.hid (PI.out k wr.drew.heap.size w8 M8.below hX8)
      clear hX8
      refine stepM (i := 10) rfl (by kernel_rfl) (fun K0 hK0 => ?_)
      go_simp
      refine T8.out.mono ?_
      rintro e w9 ⟨hb9, rfl, hX9⟩
      have M9 := M8.next hb9
      have KA := M9.keep (w.heap.size, 25, #[.slice A S.length c, .slice (some ad) V.length c']) (by simp)
      dsimp only
      refine hK0.out _ _ (fun _ => ⟨⟨bkA M9.box, bkA KA⟩, (M9.below.cell (p := ad.add m) (by rw [addr_block]; exact hab)).trans hcv⟩) (fun _ => ?_)
      clear hK0 K0 hb9 KA T8
      try simp only [Act.put, List.setIfInBounds_toArray, List.set_cons_zero, List.set_cons_succ]
      have P9 := Lib.hid (PLK.out w8.heap.size w9 M9.below hX9)
      clear hX9 M8
      refine stepM (i := 11) rfl (by kernel_rfl) (fun K0 hK0 => ?_)
      go_simp
      refine P9.out.mono ?_
      rintro e wa ⟨hba, rfl⟩
      have Ma := M9.next hba
      have KA := Ma.keep (w.heap.size, 25, #[.slice A S.length c, .slice (some ad) V.length c']) (by simp)
      have hSa := And.intro (And.intro (bkA Ma.box) (bkA KA)) ((Ma.below.cell (p := ad.add m) (by rw [addr_block]; exact hab)).trans hcv)
      dsimp only
      refine hK0.out _ _ (fun _ => hSa) (fun _ => ?_)
      clear hK0 K0 M9 hba KA P9
      try simp only [Act.put, List.setIfInBounds_toArray, List.set_cons_zero, List.set_cons_succ]
      refine takeM (i := 12) (v := ?_) rfl (by kernel_rfl) (by decide) (by kernel_rfl) (by kernel_rfl) (by kernel_rfl) (fun _ _ _ h => h) (by rfl) (by assumption) ?_ ?_
      rotate_left
      · intro w hSw; (try dsimp only at hSw); go_simp <;> with_reducible rfl
      try simp only [Act.put, List.setIfInBounds_toArray, List.set_cons_zero, List.set_cons_succ]
      refine takeM (i := 13) (v := ?_) rfl (by kernel_rfl) (by decide) (by kernel_rfl) (by kernel_rfl) (by kernel_rfl) (fun _ _ _ h => h) (by rfl) (by assumption) ?_ ?_
      rotate_left
      · intro w hSw; (try dsimp only at hSw); go_simp <;> with_reducible rfl
      try simp only [Act.put, List.setIfInBounds_toArray, List.set_cons_zero, List.set_cons_succ]
      clear hSa
      have MA := Ma.alloc (.cells #[.string x] 9)
      have KA := MA.keep (w.heap.size, 25, #[.slice A S.length c, .slice (some ad) V.length c']) (by simp)
      have hSb := And.intro (And.intro (bkA MA.box) (bkA KA)) ((MA.below.cell (p := ad.add m) (by rw [addr_block]; exact hab)).trans hcv)
      refine stepM (i := 14) rfl (by kernel_rfl) (fun K0 hK0 => ?_)
      go_simp
      refine hK0.out _ _ (fun _ => hSb) (fun _ => ?_)
      clear hK0 K0 hSb KA
      try simp only [Act.put, List.setIfInBounds_toArray, List.set_cons_zero, List.set_cons_succ]
      have hown0 := MA.own
      rw [map_len] at hown0
      refine stepM (i := 15) rfl (by kernel_rfl) (fun K0 hK0 => ?_)
      rw [if_pos (by rfl)]
      refine step_append_own (.tmp 46) (.tmp 59) 23 rfl w7.heap.size 9 i0 (.string ⟨#[]⟩) 1 16 Tryz.underlying23 hi0 hz0 hz1 hz2 rfl (by omega) (.slice xA k xc) k _ (by rfl) hown0 ⟨wa.heap.size, 0, none⟩ 1 1 [.string x] (by rfl) (by rfl) (new_str wa _ x) (strs_one [x]) (by unfold maxLen; omega) (by omega) MA.size ?_
      intro v1 wb hown1 hg1
      obtain ⟨vA, vc, rfl⟩ := own_formV hown1
      have MM := MA.app (x := x) (by rw [map_len]; exact hown1) hg1
      clear hown1 hg1 hown0 MA Ma
      obtain ⟨g0, g1, gf⟩ := MM.facts
      have KA := MM.keep (w.heap.size, 25, #[.slice A S.length c, .slice (some ad) V.length c']) (by simp)
      have hSc := And.intro (And.intro (And.intro g0 g1) (bkA KA)) ((MM.below.cell (p := ad.add m) (by rw [addr_block]; exact hab)).trans hcv)
      dsimp only
      refine hK0.out _ _ (fun _ => hSc) (fun _ => ?_)
      clear hK0 K0 KA
      try simp only [Act.put, List.setIfInBounds_toArray, List.set_cons_zero, List.set_cons_succ]
      refine takeM (i := 16) (v := ?_) rfl (by kernel_rfl) (by decide) (by kernel_rfl) (by kernel_rfl) (by kernel_rfl) (fun _ _ _ h => h) (by rfl) (by assumption) ?_ ?_
      rotate_left
      · intro w hSw; (try dsimp only at hSw); go_simp <;> with_reducible rfl
      try simp only [Act.put, List.setIfInBounds_toArray, List.set_cons_zero, List.set_cons_succ]
      clear hSc
      refine stepM (i := 17) rfl (by kernel_rfl) (fun K0 hK0 => ?_)
      go_simp
      refine hK0.out _ _ (fun h => absurd rfl h) (fun _ => ?_)
      clear hK0 K0
      try simp only [Act.put, List.setIfInBounds_toArray, List.set_cons_zero, List.set_cons_succ]
      refine doneM (by kernel_rfl) ?_ _
      have MP := MM.put
      have e1 : (List.range k).map f ++ [x] = (List.range (k + 1)).map f := by rw [map_snoc, HFK.out]
      rw [e1] at MP
      clear MM g0 g1 gf hcv
      go_wp2
      go_roundw
      case rel => exact ⟨k + 1, _, by omega, by go_num, MP⟩
      case measure => simp [intOf]; omega
    · obtain rfl : k = N := by omega
      have KR := M.keep (w.heap.size + 1, 25, #[.slice none 0 0, .slice none 0 0]) (by simp)
      obtain ⟨d0, d1⟩ := bkA KR
      have f0 := KR.frozen 0
      have f1 := KR.frozen 1
      have hA := M.isA
      have hb := M.below
      go_wp2
      refine bodyPost_ret (v := .tuple #[.agg #[.slice A9 T.length c9, .slice xA k xc], .int .i64 0]) (by simp [results, Tryz.results34, go_sem, d0, d1]) rfl ?_
      exact ⟨(hb.setCell (p := ⟨w.heap.size + 1, 0, none⟩) (by simp) _).setCell (p := ⟨w.heap.size + 1, 1, none⟩) (by simp) _, _, rfl, hA.ret d0 d1 _ _⟩
end Go.Proofs.YtgnffedncjjkfaaGreatDoor

namespace Go.Proofs.YtgnffedncjjkfaaGreatDoor
open Go.RowKit Ix Ar

/-- Numbers that are put at the places that X names, the first k of them. -/
def scat (X : List Nat) (r : Nat) (g : Nat → Nat) (k : Nat) : List Nat := (List.range r).map fun j => if j ∈ X.take k then g (X.idxOf j) else 0
theorem scat_len (X : List Nat) (r : Nat) (g : Nat → Nat) (k : Nat) : (scat X r g k).length = r := by simp [scat]
theorem scat_zero (X : List Nat) (r : Nat) (g : Nat → Nat) : scat X r g 0 = List.replicate r 0 := by
  apply List.ext_getElem (by simp [scat])
  intro i h1 h2
  simp [scat]
theorem scat_next {r : Nat} {X : List Nat} (h : Perm r X) (g : Nat → Nat) {k : Nat} (hk : k < r) : (scat X r g k).set (X.getD k 0) (g k) = scat X r g (k + 1) := by
  have hk' : k < X.length := by rw [h.1]; exact hk
  have hx := h.2.1 _ (List.getElem_mem hk')
  rw [getD_in hk']
  apply List.ext_getElem (by rw [List.length_set, scat_len, scat_len])
  intro i h1 h2
  rw [scat_len] at h2
  rw [List.getElem_set]
  have e1 : X.take (k + 1) = X.take k ++ [X[k]] := by rw [List.take_add_one, List.getElem?_eq_getElem hk']; rfl
  by_cases e : X[k] = i
  · rw [if_pos e]
    have : i ∈ X.take (k + 1) := by rw [e1]; exact List.mem_append_right _ (by simp [e])
    simp only [scat, List.getElem_map, List.getElem_range, if_pos this]
    rw [← e, h.2.2.idxOf_getElem k hk']
  · rw [if_neg e]
    simp only [scat, List.getElem_map, List.getElem_range]
    have : (i ∈ X.take (k + 1)) ↔ i ∈ X.take k := by
      rw [e1, List.mem_append]
      exact ⟨fun h => h.elim id (fun h => absurd (List.mem_singleton.1 h) (fun h2 : i = X[k] => e h2.symm)), .inl⟩
    by_cases hi : i ∈ X.take k
    · rw [if_pos hi, if_pos (this.2 hi)]
    · rw [if_neg hi, if_neg (fun h => hi (this.1 h))]
theorem scat_all {r : Nat} {X : List Nat} (h : Perm r X) (g : Nat → Nat) : scat X r g r = (iv X).map g := by
  unfold scat iv
  rw [List.map_map, h.1]
  refine List.map_congr_left fun j hj => ?_
  have hj := List.mem_range.1 hj
  rw [List.take_of_length_le (by rw [h.1]; exact Nat.le_refl _), if_pos (perm_mem h hj)]
  rfl
theorem dist_perm {X : List Int} {r : Nat} (hl : X.length = r) (h : Dist X r) : Perm r (X.map Int.toNat) := by
  refine ⟨by rw [List.length_map, hl], fun x hx => ?_, ?_⟩
  · obtain ⟨y, hy, rfl⟩ := List.mem_map.1 hx
    have := h.1 y hy; omega
  · refine List.pairwise_map.2 (List.Pairwise.imp_of_mem (fun {a b} ha hb hab e => hab ?_) h.2)
    have := h.1 a ha
    have := h.1 b hb
    omega
theorem perm_dist {X : List Nat} {r : Nat} (h : Perm r X) : (X.map Int.ofNat).length = r ∧ Dist (X.map Int.ofNat) r := by
  refine ⟨by rw [List.length_map, h.1], fun x hx => ?_, ?_⟩
  · obtain ⟨y, hy, rfl⟩ := List.mem_map.1 hx
    have := h.2.1 y hy
    exact ⟨Int.natCast_nonneg _, by show (y : Int) < r; omega⟩
  · exact List.pairwise_map.2 (List.Pairwise.imp (fun {a b} hab e => hab (by injection e)) h.2.2)
theorem back_nat (X : List Nat) : (X.map Int.ofNat).map Int.toNat = X := by
  rw [List.map_map]
  exact (List.map_congr_left fun x _ => rfl).trans (List.map_id _)
/-- The inverse order, in ints. -/
def ivI (X : List Int) : List Int := (iv (X.map Int.toNat)).map Int.ofNat
theorem ivI_nat (X : List Int) : (ivI X).map Int.toNat = iv (X.map Int.toNat) := back_nat _
theorem ivI_len (X : List Int) : (ivI X).length = X.length := by unfold ivI; rw [List.length_map, iv_len, List.length_map]
/-- What is said of moving dimensions. -/
noncomputable def moveR (a : Arr) (X : List Int) : Arr × Int :=
  open Classical in if VA a then (if X.length = a.1.length ∧ Dist X a.1.length then ((pkI X a.1, moved (a.1.map Int.toNat) (X.map Int.toNat) a.2 ⟨#[]⟩), 0) else (([], []), 2)) else (([], []), 60)
theorem moveR_shape {a : Arr} {X : List Int} (h : ¬ VA a) : moveR a X = (([], []), 60) := by unfold moveR; rw [if_neg h]
theorem moveR_arg {a : Arr} {X : List Int} (h : VA a) (k : ¬ (X.length = a.1.length ∧ Dist X a.1.length)) : moveR a X = (([], []), 2) := by unfold moveR; rw [if_pos h, if_neg k]
theorem moveR_ok {a : Arr} {X : List Int} (h : VA a) (k : X.length = a.1.length ∧ Dist X a.1.length) : moveR a X = ((pkI X a.1, moved (a.1.map Int.toNat) (X.map Int.toNat) a.2 ⟨#[]⟩), 0) := by unfold moveR; rw [if_pos h, if_pos k]
theorem pkI_VS {S X : List Int} (h : VS S) (hl : X.length = S.length) (hD : Dist X S.length) : VS (pkI X S) := by
  refine ⟨by rw [pkI_len, hl]; exact h.1, fun s hs => ?_, ?_⟩
  · obtain ⟨x, hx, rfl⟩ := List.mem_map.1 hs
    have h1 := hD.1 x hx
    have h2 : x.toNat < S.length := by omega
    rw [← getD_zint h2]
    exact h.2.1 _ (List.getElem_mem _)
  · rw [pkI_nat, prod_pk (dist_perm hl hD) (by rw [List.length_map])]
    exact h.2.2
theorem pkI_back {S X : List Int} (hS : ∀ s ∈ S, 0 ≤ s) (hl : X.length = S.length) (hD : Dist X S.length) : pkI (ivI X) (pkI X S) = S := by
  have hp := dist_perm hl hD
  have h1 : (pkI (ivI X) (pkI X S)).map Int.toNat = S.map Int.toNat := by
    rw [pkI_nat, pkI_nat, ivI_nat]
    exact pk_iv hp (by rw [List.length_map])
  have pos : ∀ {Y l : List Int}, (∀ s ∈ l, 0 ≤ s) → ∀ s ∈ pkI Y l, 0 ≤ s := fun hl s hs => by
    obtain ⟨x, _, rfl⟩ := List.mem_map.1 hs
    rw [List.getD_eq_getElem?_getD]
    cases e : (_ : List Int)[x.toNat]? with
    | none => exact Int.le_refl _
    | some y => exact hl y (List.mem_of_getElem? e)
  have e1 := congrArg (List.map Int.ofNat) h1
  rw [nats_back (pos (pos hS)), nats_back hS] at e1
  exact e1
theorem moved_mem {S X : List Nat} {V : List ByteArray} {s : ByteArray} (h : s ∈ moved S X V ⟨#[]⟩) : s ∈ V ∨ s = ⟨#[]⟩ := by
  unfold moved tab at h
  obtain ⟨j, _, rfl⟩ := List.mem_map.1 h
  dsimp only
  rw [List.getD_eq_getElem?_getD]
  cases e : V[place S (pk (iv X) (idx (pk X S 0) j) 0)]? with
  | none => exact .inr rfl
  | some x => exact .inl (List.mem_of_getElem? e)
theorem move_VA {a : Arr} {X : List Int} (h : VA a) (hl : X.length = a.1.length) (hD : Dist X a.1.length) : VA (pkI X a.1, moved (a.1.map Int.toNat) (X.map Int.toNat) a.2 ⟨#[]⟩) := by
  refine ⟨pkI_VS h.1 hl hD, ?_, fun s hs => ?_⟩
  · show (moved _ _ _ _).length = Ix.prod ((pkI X a.1).map Int.toNat)
    rw [pkI_nat]; exact tab_len _ _
  · rcases moved_mem hs with h1 | rfl
    · exact h.2.2 s h1
    · exact isVal_empty
theorem move_spread {a : Arr} {X : List Int} (h : VA a) (hl : X.length = a.1.length) (hD : Dist X a.1.length) : spreadR a (ivI X) (pkI X a.1) = moveR a X := by
  have hp := iv_perm (dist_perm hl hD)
  have hd := perm_dist hp
  rw [moveR_ok h ⟨hl, hD⟩, spreadR_ok ⟨h, pkI_VS h.1 hl hD⟩ ⟨by rw [ivI_len, hl], by rw [pkI_len, hl]; exact hd.2⟩ (pkI_back (fun s hs => (h.1.2.1 s hs).1) hl hD), pkI_nat, ivI_nat]
  rfl
theorem moveR_in {a : Arr} {X : List Int} (h : InA a) (hL : X.length ≤ maxLen) : InA (moveR a X).1 := by
  have hz : InA (([], []) : Arr) := ⟨Nat.zero_le _, Nat.zero_le _, fun s hs => by cases hs⟩
  by_cases h1 : VA a
  · by_cases h2 : X.length = a.1.length ∧ Dist X a.1.length
    · have h3 := move_VA h1 h2.1 h2.2
      rw [moveR_ok h1 h2]
      refine ⟨by show (pkI X a.1).length ≤ _; rw [pkI_len]; exact hL, ?_, fun s hs => ?_⟩
      · have h5 := h3.2.1
        have h6 := h3.1.2.2
        simp only at h5 h6 ⊢
        omega
      · rcases moved_mem hs with h4 | rfl
        · exact h.texts s h4
        · exact Nat.zero_le _
    · rw [moveR_arg h1 h2]; exact hz
  · rw [moveR_shape h1]; exact hz
theorem moveR_err {a : Arr} {X : List Int} (h : (moveR a X).2 = 0) : VA a ∧ X.length = a.1.length ∧ Dist X a.1.length := by
  by_cases h1 : VA a
  · by_cases h2 : X.length = a.1.length ∧ Dist X a.1.length
    · exact ⟨h1, h2⟩
    · rw [moveR_arg h1 h2] at h; cases h
  · rw [moveR_shape h1] at h; cases h
/-- The inverse order moves the dimensions back. -/
theorem move_law {a : Arr} {X : List Int} (h : (moveR a X).2 = 0) : moveR (moveR a X).1 (ivI X) = (a, 0) := by
  obtain ⟨va, hl, hD⟩ := moveR_err h
  have hp := dist_perm hl hD
  have hd := perm_dist (iv_perm hp)
  rw [moveR_ok va ⟨hl, hD⟩, moveR_ok (move_VA va hl hD) ⟨by show (ivI X).length = (pkI X a.1).length; rw [ivI_len, pkI_len], by show Dist _ (pkI X a.1).length; rw [pkI_len, hl]; exact hd.2⟩]
  show ((pkI (ivI X) (pkI X a.1), moved ((pkI X a.1).map Int.toNat) ((ivI X).map Int.toNat) (moved (a.1.map Int.toNat) (X.map Int.toNat) a.2 ⟨#[]⟩) ⟨#[]⟩), (0 : Int)) = (a, 0)
  rw [pkI_back (fun s hs => (va.1.2.1 s hs).1) hl hD, pkI_nat, ivI_nat, moved_back hp (by rw [List.length_map]) ⟨#[]⟩ va.2.1]

set_option maxRecDepth 100000 in
set_option maxHeartbeats 12800000 in
theorem move_any (a : Arr) (X : List Int) (va vx : Value) (w : World) (ha : IsA w w.heap.size va a) (hX : IsI w w.heap.size vx X) (hi : InA a) (hXL : X.length ≤ maxLen) (he : Env w) :
    Calls Tryz.prog 35 #[va, vx] w fun e w' => Below w.heap.size w w' ∧ ∃ u, e = .returned (.tuple #[u, .int .i64 (moveR a X).2]) ∧ IsA w' w'.heap.size u (moveR a X).1 := by
  obtain ⟨A, c, A', c', rfl, hc, hc'⟩ := ha.form
  obtain ⟨Ax, cx, rfl, -⟩ := hX.form
  have hha := ha
  obtain ⟨hS, hV⟩ := ha.parts
  obtain ⟨S, V⟩ := a
  simp only at hS hV hc hc'
  obtain ⟨qv, hqv⟩ : ∃ b : Bool, b = true ↔ VA (S, V) := by classical exact ⟨decide _, decide_eq_true_iff⟩
  obtain ⟨qd, hqd⟩ : ∃ b : Bool, b = true ↔ Dist X S.length := by classical exact ⟨decide _, decide_eq_true_iff⟩
  have VV := Lib.hid (fun W (hW : Below w.heap.size w W) => valid_any (S, V) (.agg #[.slice A S.length c, .slice A' V.length c']) W (hha.next hW) hi (he.next hW) qv hqv)
  have B0 := BxW.start2 w 25 25 #[.slice A S.length c, .slice A' V.length c'] #[.slice none 0 0, .slice none 0 0]
  have i1 := hi.shape
  have hXL' := hXL
  unfold maxLen at hXL' i1
  cases hv : qv
  · have hna : ¬ VA (S, V) := fun h => by rw [hqv.2 h] at hv; cases hv
    rw [moveR_shape hna]
    subst hv
    clear hqv hqd hna ha hha hX hS hV hi
    go_enter Tryz.func35, Tryz.ntmps35
    go_wp2_with fail
    generalize ((w.alloc (.cells #[.slice A S.length c, .slice A' V.length c'] 25)).alloc (.cells #[.slice none 0 0, .slice none 0 0] 25)) = W0 at *
    refine (VV.out W0 B0.below).mono ?_
    rintro e w1 ⟨hb1, rfl⟩
    have B1 := B0.next hb1
    obtain ⟨d0, d1⟩ := bkA B1.two
    have f0 := B1.two.frozen 0
    have f1 := B1.two.frozen 1
    go_wp2
    refine bodyPost_ret (v := .tuple #[.agg #[.slice none 0 0, .slice none 0 0], .int .i64 60]) (by simp [results, Tryz.results35, go_sem, d0, d1]) rfl ?_
    exact ⟨(B1.below.setCell (p := ⟨w.heap.size + 1, 0, none⟩) (by simp) _).setCell (p := ⟨w.heap.size + 1, 1, none⟩) (by simp) _, _, rfl, IsA.zero _ _⟩
  have hva := hqv.1 hv
  subst hv
  have hVS : VS S := hva.1
  have hS4 := hVS.1
  by_cases hlen : X.length = S.length
  rotate_left
  · rw [moveR_arg hva (fun h => hlen h.1)]
    have hne : ((X.length : Int) != (S.length : Int)) = true := by simp; omega
    clear hqv hqd ha hha hX hS hV hi hva hVS hlen
    go_enter Tryz.func35, Tryz.ntmps35
    go_wp2_with fail
    generalize ((w.alloc (.cells #[.slice A S.length c, .slice A' V.length c'] 25)).alloc (.cells #[.slice none 0 0, .slice none 0 0] 25)) = W0 at *
    refine (VV.out W0 B0.below).mono ?_
    rintro e w1 ⟨hb1, rfl⟩
    have B1 := B0.next hb1
    obtain ⟨b0, b1⟩ := bkA B1.one
    obtain ⟨d0, d1⟩ := bkA B1.two
    have f0 := B1.two.frozen 0
    have f1 := B1.two.frozen 1
    go_wp2
    refine bodyPost_ret (v := .tuple #[.agg #[.slice none 0 0, .slice none 0 0], .int .i64 2]) (by simp [results, Tryz.results35, go_sem, d0, d1]) rfl ?_
    exact ⟨(B1.below.setCell (p := ⟨w.heap.size + 1, 0, none⟩) (by simp) _).setCell (p := ⟨w.heap.size + 1, 1, none⟩) (by simp) _, _, rfl, IsA.zero _ _⟩
  have hne : ((X.length : Int) != (S.length : Int)) = false := by simp; omega
  have DD := Lib.hid (fun W (hW : Below w.heap.size w W) => distinct_any X S.length Ax cx w.heap.size W (hX.rd.below hW) hW.size (by omega) hXL qd hqd)
  cases hd : qd
  · have hno : ¬ Dist X S.length := fun h => by rw [hqd.2 h] at hd; cases hd
    rw [moveR_arg hva (fun h => hno h.2)]
    subst hd
    clear hqv hqd ha hha hX hS hV hi hva hVS hlen hno
    go_enter Tryz.func35, Tryz.ntmps35
    go_wp2_with fail
    generalize ((w.alloc (.cells #[.slice A S.length c, .slice A' V.length c'] 25)).alloc (.cells #[.slice none 0 0, .slice none 0 0] 25)) = W0 at *
    refine (VV.out W0 B0.below).mono ?_
    rintro e w1 ⟨hb1, rfl⟩
    have B1 := B0.next hb1
    obtain ⟨b0, b1⟩ := bkA B1.one
    go_wp2_with fail
    refine (DD.out w1 B1.below).mono ?_
    rintro e w2 ⟨hb2, rfl⟩
    have B2 := B1.next hb2
    clear b0 b1
    obtain ⟨d0, d1⟩ := bkA B2.two
    have f0 := B2.two.frozen 0
    have f1 := B2.two.frozen 1
    go_wp2
    refine bodyPost_ret (v := .tuple #[.agg #[.slice none 0 0, .slice none 0 0], .int .i64 2]) (by simp [results, Tryz.results35, go_sem, d0, d1]) rfl ?_
    exact ⟨(B2.below.setCell (p := ⟨w.heap.size + 1, 0, none⟩) (by simp) _).setCell (p := ⟨w.heap.size + 1, 1, none⟩) (by simp) _, _, rfl, IsA.zero _ _⟩
  have hDX := hqd.1 hd
  subst hd
  have hX4 : X.length ≤ 4 := by omega
  obtain ⟨i0, hi0, hz0, hz1, hz2⟩ := info_parts Tryz.int_info
  have hmk := make_ints (P := Tryz.prog) 22 3 i0 .i64 Tryz.underlying22 hi0 hz0 hz1 (by omega) .i64 .i64 X.length (X.length : Int) rfl (by omega)
  have hp := dist_perm hlen hDX
  have HZ0 : Hid (ints .i64 (List.replicate X.length 0) = zints (pmid X S 0)) := by
    show _ = _
    unfold pmid
    rw [List.take_zero, List.nil_append, Nat.sub_zero]
    simp [ints, zints]
  have HZ1 : Hid (List.replicate X.length 0 = scat (X.map Int.toNat) X.length id 0) := (scat_zero _ _ _).symm
  have HSC := Lib.hid (fun k (hk : k < X.length) => show (scat (X.map Int.toNat) X.length id k).set ((X.getD k 0).toNat) k = scat (X.map Int.toNat) X.length id (k + 1) from by
    have := scat_next (by rw [hlen]; exact hp) id hk
    rwa [getD_map] at this)
  have HSE : Hid (ints .i64 (scat (X.map Int.toNat) X.length id X.length) = zints (ivI X)) := by
    show _ = _
    rw [scat_all (by rw [hlen]; exact hp) id, List.map_id]
    unfold ivI
    rw [zints_nat]
  have HPE : Hid (pmid X S X.length = pkI X S) := by
    show _ = _
    unfold pmid
    rw [List.take_of_length_le (by rw [pkI_len]; exact Nat.le_refl _), Nat.sub_self, List.replicate_zero, List.append_nil]
  have HX := Lib.hid (fun W (hW : Below w.heap.size w W) => hX.rd.below hW)
  have HS := Lib.hid (fun W (hW : Below w.heap.size w W) => hS.rd.below hW)
  have HDX := Lib.hid hDX
  have SP := Lib.hid (fun W (hW : Below w.heap.size w W) (u v : Value) (hu : IsI W W.heap.size u (ivI X)) (hv : IsI W W.heap.size v (pkI X S)) => show Calls Tryz.prog 33 #[.agg #[.slice A S.length c, .slice A' V.length c'], u, v] W fun e w' => Below W.heap.size W w' ∧ ∃ u, e = .returned (.tuple #[u, .int .i64 (moveR (S, V) X).2]) ∧ IsA w' w'.heap.size u (moveR (S, V) X).1 from by
    have h := spread_any (S, V) (ivI X) (pkI X S) _ u v W (hha.next hW) hu hv hi (by rw [ivI_len]; exact hXL) (by rw [pkI_len]; exact hXL) (he.next hW)
    rw [move_spread hva hlen hDX] at h
    exact h)
  have HIL : Hid ((ivI X).length = X.length) := ivI_len X
  have HPL : Hid ((pkI X S).length = X.length) := pkI_len X S
  have HXS := Lib.hid hlen
  generalize (moveR (S, V) X).2 = fe at *
  generalize (moveR (S, V) X).1 = fa at *
  clear hqv hqd ha hha hX hS hV hi hva hVS hlen hDX hp
  go_enter Tryz.func35, Tryz.ntmps35
  go_wp2_with fail
  generalize ((w.alloc (.cells #[.slice A S.length c, .slice A' V.length c'] 25)).alloc (.cells #[.slice none 0 0, .slice none 0 0] 25)) = W0 at *
  refine (VV.out W0 B0.below).mono ?_
  rintro e w1 ⟨hb1, rfl⟩
  have B1 := B0.next hb1
  obtain ⟨b0, b1⟩ := bkA B1.one
  go_wp2_with fail
  refine (DD.out w1 B1.below).mono ?_
  rintro e w2 ⟨hb2, rfl⟩
  have B2 := B1.next hb2
  clear b0 b1 hb1 hb2 B0 B1 VV DD
  go_wp2_with fail
  go_cut [6, 7] from 31 to 36 (fun x y wx => ∃ sb ib, x = .slice (some ⟨sb, 0, none⟩) X.length X.length ∧ y = .slice (some ⟨ib, 0, none⟩) X.length X.length ∧ BxW w [(w.heap.size, 25, #[.slice A S.length c, .slice A' V.length c']), (w.heap.size + 1, 25, #[.slice none 0 0, .slice none 0 0])] wx ∧ Bk wx sb 3 (ints .i64 (List.replicate X.length 0)).toArray ∧ Bk wx ib 3 (ints .i64 (List.replicate X.length 0)).toArray ∧ sb ≠ ib ∧ w.heap.size + 1 < sb ∧ w.heap.size + 1 < ib)
  case first =>
    refine wp_region_held_drew (S := fun Y => Below w.heap.size w Y) (by kernel_rfl) B2.below.drew (fun hS => ?_)
    have B3 := B2.drew
    clear B2
    generalize w2.drew = wd at *
    have l1 := B3.two.lt
    refine takeA (i := 0) (v := ?_) rfl (by kernel_rfl) (by kernel_rfl) (by kernel_rfl) (fun _ _ _ h => h) (by rfl) (by assumption) ?_ ?_
    rotate_left
    · intro w hSw; (try dsimp only at hSw); go_simp <;> with_reducible rfl
    try simp only [Act.put, List.setIfInBounds_toArray, List.set_cons_zero, List.set_cons_succ]
    refine takeA (i := 1) (v := ?_) rfl (by kernel_rfl) (by kernel_rfl) (by kernel_rfl) (fun _ _ _ h => h) (by rfl) (by assumption) ?_ ?_
    rotate_left
    · intro w hSw; (try dsimp only at hSw); go_simp <;> with_reducible rfl
    try simp only [Act.put, List.setIfInBounds_toArray, List.set_cons_zero, List.set_cons_succ]
    refine takeA (i := 3) (v := ?_) rfl (by kernel_rfl) (by kernel_rfl) (by kernel_rfl) (fun _ _ _ h => h) (by rfl) (by assumption) ?_ ?_
    rotate_left
    · intro w hSw; (try dsimp only at hSw); go_simp <;> with_reducible rfl
    try simp only [Act.put, List.setIfInBounds_toArray, List.set_cons_zero, List.set_cons_succ]
    refine takeA (i := 4) (v := ?_) rfl (by kernel_rfl) (by kernel_rfl) (by kernel_rfl) (fun _ _ _ h => h) (by rfl) (by assumption) ?_ ?_
    rotate_left
    · intro w hSw; (try dsimp only at hSw); go_simp <;> with_reducible rfl
    try simp only [Act.put, List.setIfInBounds_toArray, List.set_cons_zero, List.set_cons_succ]
    have K1 := Bk.new wd 3 (ints .i64 (List.replicate X.length 0)).toArray
    have B4 := B3.next (below_alloc wd (.cells (ints .i64 (List.replicate X.length 0)).toArray 3))
    have hz : (wd.alloc (.cells (ints .i64 (List.replicate X.length 0)).toArray 3)).heap.size = wd.heap.size + 1 := by simp
    have K2 := Bk.new (wd.alloc (.cells (ints .i64 (List.replicate X.length 0)).toArray 3)) 3 (ints .i64 (List.replicate X.length 0)).toArray
    have B5 := B4.next (below_alloc (wd.alloc (.cells (ints .i64 (List.replicate X.length 0)).toArray 3)) (.cells (ints .i64 (List.replicate X.length 0)).toArray 3))
    have K1' := K1.alloc (.cells (ints .i64 (List.replicate X.length 0)).toArray 3)
    refine stepA2 (i := 2) (j := 5) rfl rfl (by kernel_rfl) (fun K0 hK0 => ?_) (fun K0 hK0 => ?_)
    · go_simp
      refine hK0.out _ _ B4.below (fun hS4 => ?_)
      clear hK0 K0
      try simp only [Act.put, List.setIfInBounds_toArray, List.set_cons_zero, List.set_cons_succ]
      refine takeA (i := 6) (v := ?_) rfl (by kernel_rfl) (by kernel_rfl) (by kernel_rfl) (fun _ _ _ h => h) (by rfl) (by assumption) ?_ ?_
      rotate_left
      · intro w hSw; (try dsimp only at hSw); go_simp <;> with_reducible rfl
      try simp only [Act.put, List.setIfInBounds_toArray, List.set_cons_zero, List.set_cons_succ]
      refine stepA (i := 5) rfl (by kernel_rfl) (fun K0 hK0 => ?_)
      go_simp
      refine hK0.out _ _ B5.below (fun hS5 => ?_)
      clear hK0 K0
      try simp only [Act.put, List.setIfInBounds_toArray, List.set_cons_zero, List.set_cons_succ]
      refine takeA (i := 7) (v := ?_) rfl (by kernel_rfl) (by kernel_rfl) (by kernel_rfl) (fun _ _ _ h => h) (by rfl) (by assumption) ?_ ?_
      rotate_left
      · intro w hSw; (try dsimp only at hSw); go_simp <;> with_reducible rfl
      try simp only [Act.put, List.setIfInBounds_toArray, List.set_cons_zero, List.set_cons_succ]
      refine wpAnyH_done (by kernel_rfl) ?_ _
      go_wp2_with fail
      go_meet
      case rel => exact ⟨wd.heap.size, _, rfl, rfl, B5, K1', by simpa using K2, by simp, l1, by simp at l1 ⊢; omega⟩
    · go_simp
      refine hK0.out _ _ B4.below (fun hS4 => ?_)
      clear hK0 K0
      try simp only [Act.put, List.setIfInBounds_toArray, List.set_cons_zero, List.set_cons_succ]
      refine stepA (i := 2) rfl (by kernel_rfl) (fun K0 hK0 => ?_)
      go_simp
      refine hK0.out _ _ B5.below (fun hS5 => ?_)
      clear hK0 K0
      try simp only [Act.put, List.setIfInBounds_toArray, List.set_cons_zero, List.set_cons_succ]
      refine takeA (i := 6) (v := ?_) rfl (by kernel_rfl) (by kernel_rfl) (by kernel_rfl) (fun _ _ _ h => h) (by rfl) (by assumption) ?_ ?_
      rotate_left
      · intro w hSw; (try dsimp only at hSw); go_simp <;> with_reducible rfl
      try simp only [Act.put, List.setIfInBounds_toArray, List.set_cons_zero, List.set_cons_succ]
      refine takeA (i := 7) (v := ?_) rfl (by kernel_rfl) (by kernel_rfl) (by kernel_rfl) (fun _ _ _ h => h) (by rfl) (by assumption) ?_ ?_
      rotate_left
      · intro w hSw; (try dsimp only at hSw); go_simp <;> with_reducible rfl
      try simp only [Act.put, List.setIfInBounds_toArray, List.set_cons_zero, List.set_cons_succ]
      refine wpAnyH_done (by kernel_rfl) ?_ _
      go_wp2_with fail
      go_meet
      case rel => exact ⟨_, wd.heap.size, rfl, rfl, B5, by simpa using K2, K1', by simp, by simp at l1 ⊢; omega, l1⟩
  case rest =>
    obtain ⟨sb, ib, rfl, rfl, BC, KS, KI, hne2, hsb, hib⟩ := hcut
    rw [HZ0.out] at KS
    rw [HZ1.out] at KI
    clear HZ0 HZ1 hmk B2
    go_wp2_with fail
    go_loopw [39] (fun i wr => ∃ k : Nat, k ≤ X.length ∧ i = .int .i64 k ∧ BxW w [(w.heap.size, 25, #[.slice A S.length c, .slice A' V.length c']), (w.heap.size + 1, 25, #[.slice none 0 0, .slice none 0 0])] wr ∧ Bk wr sb 3 (zints (pmid X S k)).toArray ∧ Bk wr ib 3 (ints .i64 (scat (X.map Int.toNat) X.length id k)).toArray) (fun i _ => X.length - (intOf i).toNat)
    case atStart => exact ⟨0, Nat.zero_le _, rfl, BC, KS, KI⟩
    case round =>
      clear BC KS KI
      obtain ⟨k, hk, rfl, BR, KS, KI⟩ := hrel
      obtain ⟨b0, b1⟩ := bkA BR.one
      by_cases hlt : k < X.length
      · obtain ⟨adx, rfl, habx, hcx⟩ := (HX.out wr BR.below).zint hlt
        have hxr := HDX.out.1 _ (List.getElem_mem hlt)
        have HPN := Lib.hid (pmid_next (l := S) hlt)
        have HSN := Lib.hid (HSC.out k hlt)
        rw [← getD_zint hlt] at HSN
        generalize X[k] = x at *
        obtain ⟨m, rfl⟩ : ∃ m : Nat, x = (m : Int) := ⟨x.toNat, by omega⟩
        have hmS : m < S.length := by omega
        obtain ⟨ads, rfl, habs, hcs⟩ := (HS.out wr BR.below).zint hmS
        rw [Int.toNat_natCast] at HPN HSN
        rw [show S.getD m 0 = S[m] from (getD_zint hmS).symm] at HPN
        generalize S[m] = y at *
        have k1 := (KS.put k (.int .i64 y)).far (p := ⟨ib, m, none⟩) (by show sb ≠ ib; exact hne2) (.int .i64 (k : Int))
        rw [zints_set, HPN.out] at k1
        have k2 := (KI.far (p := ⟨sb, k, none⟩) (by show ib ≠ sb; exact Ne.symm hne2) (.int .i64 y)).put m (.int .i64 (k : Int))
        rw [ints_set, HSN.out] at k2
        have hcS := KS.cell k
        rw [show (zints (pmid X S k)).toArray[k]? = some (.int .i64 ((pmid X S k).getD k 0)) from by
          have h := pmid_len (X := X) (l := S) (k := k) (by omega)
          simp [zints, List.getD_eq_getElem?_getD, List.getElem?_eq_getElem (show k < (pmid X S k).length by omega)]] at hcS
        have hfS := KS.frozen k
        have hmX : m < X.length := by rw [HXS.out]; exact hmS
        have hKI := KI.far (p := ⟨sb, k, none⟩) (by show ib ≠ sb; exact Ne.symm hne2) (.int .i64 y)
        have hcI := hKI.cell m
        rw [ints_getD .i64 _ (by rw [scat_len]; exact hmX)] at hcI
        have hfI := hKI.frozen m
        have BN : BxW w [(w.heap.size, 25, #[.slice (some ads) S.length c, .slice A' V.length c']), (w.heap.size + 1, 25, #[.slice none 0 0, .slice none 0 0])] ((wr.setCell ⟨sb, k, none⟩ (.int .i64 y)).setCell ⟨ib, m, none⟩ (.int .i64 (k : Int))) :=
          ⟨(BR.below.setCell (p := ⟨sb, k, none⟩) (by show w.heap.size ≤ sb; omega) _).setCell (p := ⟨ib, m, none⟩) (by show w.heap.size ≤ ib; omega) _, fun p hp => by
            have hb : p.1 ≤ w.heap.size + 1 := by simp at hp; rcases hp with rfl | rfl <;> simp
            exact ((BR.keep p hp).far (p := ⟨sb, k, none⟩) (by show p.1 ≠ sb; omega) _).far (p := ⟨ib, m, none⟩) (by show p.1 ≠ ib; omega) _⟩
        have K1 := Lib.hid k1
        have K2 := Lib.hid k2
        clear k1 k2 KS KI HPN HSN hKI BR hxr
        go_wp2
        go_roundw
        case rel => exact ⟨k + 1, by omega, by go_num, BN, K1.out, K2.out⟩
        case measure => simp [intOf]; omega
      · obtain rfl : k = X.length := by omega
        rw [HPE.out] at KS
        rw [HSE.out] at KI
        have IS := IsI.of_bk KS
        have II := IsI.of_bk KI
        rw [HPL.out] at IS
        rw [HIL.out] at II
        have SP2 := Lib.hid (SP.out wr BR.below _ _ II IS)
        clear HPE HSE IS II KS KI HSC
        go_wp2_with fail
        refine SP2.out.mono ?_
        rintro e w6 ⟨hb6, v6, rfl, hv6⟩
        have B6 := BR.next hb6
        obtain ⟨A1, c1, A2, c2, rfl, hc1, hc2⟩ := hv6.form
        obtain ⟨d0, d1⟩ := bkA B6.two
        have f0 := B6.two.frozen 0
        have f1 := B6.two.frozen 1
        clear b0 b1
        go_wp2
        refine bodyPost_ret (v := .tuple #[.agg #[.slice A1 fa.1.length c1, .slice A2 fa.2.length c2], .int .i64 fe]) (by simp [results, Tryz.results35, go_sem, d0, d1]) rfl ?_
        exact ⟨(B6.below.setCell (p := ⟨w.heap.size + 1, 0, none⟩) (by simp) _).setCell (p := ⟨w.heap.size + 1, 1, none⟩) (by simp) _, _, rfl, hv6.ret d0 d1 _ _⟩
end Go.Proofs.YtgnffedncjjkfaaGreatDoor

namespace Go.Proofs.YtgnffedncjjkfaaGreatDoor
open Go.RowKit Ix Ar

set_option maxRecDepth 100000 in
set_option maxHeartbeats 12800000 in
theorem rmove_any (a : Arr) (X : List Int) (va vx : Value) (w : World) (ha : IsA w w.heap.size va a) (hX : IsI w w.heap.size vx X) (hi : InA a) (hXL : X.length ≤ 1000000) :
    Calls Tryz.prog 36 #[va, vx] w fun e w' => Below w.heap.size w w' ∧ ∃ u, e = .returned (.tuple #[u, .int .i64 (moveR a X).2]) ∧ IsA w' w'.heap.size u (moveR a X).1 := by
  obtain ⟨A, c, A', c', rfl, hc, hc'⟩ := ha.form
  obtain ⟨Ax, cx, rfl, -⟩ := hX.form
  obtain ⟨i0, hi0, hz0, hz1, hz2⟩ := info_parts Tryz.str_info
  have hha := ha
  obtain ⟨hS, hV⟩ := ha.parts
  obtain ⟨S, V⟩ := a
  simp only at hS hV hc hc'
  obtain ⟨qv, hqv⟩ : ∃ b : Bool, b = true ↔ VA (S, V) := by classical exact ⟨decide _, decide_eq_true_iff⟩
  obtain ⟨qd, hqd⟩ : ∃ b : Bool, b = true ↔ X.length = S.length ∧ Dist X S.length := by classical exact ⟨decide _, decide_eq_true_iff⟩
  have VV := Lib.hid (fun W (hW : Below w.heap.size w W) => rarr_any (S, V) (.agg #[.slice A S.length c, .slice A' V.length c']) W (hha.next hW) hi qv hqv)
  have DD := Lib.hid (fun W (hW : Below w.heap.size w W) => rdistinct_any X S.length S.length Ax cx w.heap.size W (hX.rd.below hW) hW.size (by unfold maxLen; omega) qd hqd)
  have B0 := BxW.start2 w 25 25 #[.slice A S.length c, .slice A' V.length c'] #[.slice none 0 0, .slice none 0 0]
  cases hv : qv
  · have hna : ¬ VA (S, V) := fun h => by rw [hqv.2 h] at hv; cases hv
    rw [moveR_shape hna]
    subst hv
    clear hqv hqd hna ha hha hX hS hV hi DD
    go_enter Tryz.func36, Tryz.ntmps36
    go_wp2_with fail
    generalize ((w.alloc (.cells #[.slice A S.length c, .slice A' V.length c'] 25)).alloc (.cells #[.slice none 0 0, .slice none 0 0] 25)) = W0 at *
    refine (VV.out W0 B0.below).mono ?_
    rintro e w1 ⟨hb1, rfl⟩
    have B1 := B0.next hb1
    obtain ⟨d0, d1⟩ := bkA B1.two
    have f0 := B1.two.frozen 0
    have f1 := B1.two.frozen 1
    go_wp2
    refine bodyPost_ret (v := .tuple #[.agg #[.slice none 0 0, .slice none 0 0], .int .i64 60]) (by simp [results, Tryz.results36, go_sem, d0, d1]) rfl ?_
    exact ⟨(B1.below.setCell (p := ⟨w.heap.size + 1, 0, none⟩) (by simp) _).setCell (p := ⟨w.heap.size + 1, 1, none⟩) (by simp) _, _, rfl, IsA.zero _ _⟩
  have hva := hqv.1 hv
  subst hv
  have hVS : VS S := hva.1
  have hS4 := hVS.1
  cases hd : qd
  · have hno : ¬ (X.length = S.length ∧ Dist X S.length) := fun h => by rw [hqd.2 h] at hd; cases hd
    rw [moveR_arg hva hno]
    subst hd
    clear hqv hqd ha hha hX hS hV hi hva hVS hno
    go_enter Tryz.func36, Tryz.ntmps36
    go_wp2_with fail
    generalize ((w.alloc (.cells #[.slice A S.length c, .slice A' V.length c'] 25)).alloc (.cells #[.slice none 0 0, .slice none 0 0] 25)) = W0 at *
    refine (VV.out W0 B0.below).mono ?_
    rintro e w1 ⟨hb1, rfl⟩
    have B1 := B0.next hb1
    obtain ⟨b0, b1⟩ := bkA B1.one
    go_wp2_with fail
    refine (DD.out w1 B1.below).mono ?_
    rintro e w2 ⟨hb2, rfl⟩
    have B2 := B1.next hb2
    clear b0 b1
    obtain ⟨d0, d1⟩ := bkA B2.two
    have f0 := B2.two.frozen 0
    have f1 := B2.two.frozen 1
    go_wp2
    refine bodyPost_ret (v := .tuple #[.agg #[.slice none 0 0, .slice none 0 0], .int .i64 2]) (by simp [results, Tryz.results36, go_sem, d0, d1]) rfl ?_
    exact ⟨(B2.below.setCell (p := ⟨w.heap.size + 1, 0, none⟩) (by simp) _).setCell (p := ⟨w.heap.size + 1, 1, none⟩) (by simp) _, _, rfl, IsA.zero _ _⟩
  have hDX := hqd.1 hd
  subst hd
  rw [moveR_ok hva hDX]
  have hlen := hDX.1
  have hX4 : X.length ≤ 4 := by omega
  have hp := dist_perm hlen hDX.2
  have hPV := pkI_VS hVS hlen hDX.2
  have hl : V.length = Ix.prod (S.map Int.toNat) := hva.2.1
  obtain ⟨PS, hPS⟩ : ∃ PS, PS = pk (X.map Int.toNat) (S.map Int.toNat) 0 := ⟨_, rfl⟩
  have hPl : PS.length = X.length := by rw [hPS, pk_len, List.length_map]
  have hPn : (pkI X S).map Int.toNat = PS := by rw [hPS, pkI_nat]
  have hzc : zints (pkI X S) = ints .i64 PS := by rw [hPV.cells, hPn]
  have hsz : Sz4 PS := by have := hPV.sz; rwa [hPn] at this
  obtain ⟨N, hN⟩ : ∃ N, N = Ix.prod PS := ⟨_, rfl⟩
  have hN2 : N ≤ 4096 := by rw [hN, ← hPn]; exact hPV.2.2
  obtain ⟨f, hf⟩ : ∃ f, f = fun k => V.getD (place (S.map Int.toNat) (pk (iv (X.map Int.toNat)) (idx PS k) 0)) ⟨#[]⟩ := ⟨_, rfl⟩
  have htab : moved (S.map Int.toNat) (X.map Int.toNat) V ⟨#[]⟩ = (List.range N).map f := by rw [hN, hf, hPS]; rfl
  simp only
  rw [htab]
  have hD2 := perm_dist (iv_perm hp)
  have HIN := Lib.hid (fun k (hk : k < N) => show Inside (S.map Int.toNat) (pk (iv (X.map Int.toNat)) (idx PS k) 0) from by
    have h := spread_in (X := ivI X) (T := pkI X S) (S := S) (I := idx PS k) (by rw [pkI_len, hlen]; exact hD2.2) (pkI_back (fun s hs => (hVS.2.1 s hs).1) hlen hDX.2) (by rw [hPn]; exact idx_inside _ k (by rw [← hN]; exact hk))
    rwa [ivI_nat] at h)
  have PK := Lib.hid (fun W (hW : Below w.heap.size w W) => picked_any X S A Ax c cx w.heap.size w.heap.size W (hS.rd.below hW) (hX.rd.below hW) hW.size hW.size (by omega) hDX.2.1)
  have CC := Lib.hid (fun (W : World) (g : Nat) (hg : Bk W g 3 (zints (pkI X S)).toArray) => rcount_any PS (some ⟨g, 0, none⟩) X.length W.heap.size W hsz (by rw [← hzc]; simpa using hg.rd))
  rw [hPl, ← hN] at CC
  have IX := Lib.hid (fun (W : World) (g : Nat) (hg : Bk W g 3 (zints (pkI X S)).toArray) (k : Nat) (hk : k < N) => rindex_any PS k (some ⟨g, 0, none⟩) X.length W hsz (by rw [← hN]; exact hk) (by rw [← hzc]; simpa using hg.rd))
  rw [hPl] at IX
  have HIL := Lib.hid (fun k => show (idx PS k).length = X.length from by rw [idx_len, hPl])
  have PL := Lib.hid (fun (k : Nat) (hk : k < N) (Y : Nat) (W : World) (hW : Below w.heap.size w W) (hY : Bk W Y 3 (ints .i64 (pk (iv (X.map Int.toNat)) (idx PS k) 0)).toArray) => show Calls Tryz.prog 69 #[.slice A S.length c, .slice (some ⟨Y, 0, none⟩) X.length X.length] W fun e w' => Below W.heap.size W w' ∧ e = .returned (.int .i64 (place (S.map Int.toNat) (pk (iv (X.map Int.toNat)) (idx PS k) 0) : Nat)) from by
    have h := rplace_any (S.map Int.toNat) (pk (iv (X.map Int.toNat)) (idx PS k) 0) A (some ⟨Y, 0, none⟩) c X.length w.heap.size W.heap.size W hVS.sz (HIN.out k hk) (by rw [← hVS.cells]; exact hS.rd.below hW) (by simpa using hY.rd) hW.size (Nat.le_refl _)
    rw [List.length_map, show Value.slice (some ⟨Y, 0, none⟩) S.length X.length = .slice (some ⟨Y, 0, none⟩) X.length X.length from by rw [hlen]] at h
    exact h)
  have HV := Lib.hid (fun (k : Nat) (hk : k < N) => show ∃ ad, A' = some ad ∧ ad.block < w.heap.size ∧ place (S.map Int.toNat) (pk (iv (X.map Int.toNat)) (idx PS k) 0) < V.length ∧ w.cell? (ad.add (place (S.map Int.toNat) (pk (iv (X.map Int.toNat)) (idx PS k) 0))) = some (.string (f k)) from by
    have hmV : place (S.map Int.toNat) (pk (iv (X.map Int.toNat)) (idx PS k) 0) < V.length := by rw [hl]; exact place_lt _ _ (HIN.out k hk)
    obtain ⟨ad, e1, e2, e3⟩ := hV.rd.str hmV
    exact ⟨ad, e1, e2, hmV, by rw [hf]; show _ = some (Value.string (V.getD _ _)); rw [List.getD_eq_getElem?_getD, List.getElem?_eq_getElem hmV]; exact e3⟩)
  obtain ⟨i1, hi1, hy0, hy1, hy2⟩ := info_parts Tryz.int_info
  have hmk := make_ints (P := Tryz.prog) 22 3 i1 .i64 Tryz.underlying22 hi1 hy0 hy1 (by omega) .i64 .i64 X.length (X.length : Int) rfl (by omega)
  have HZ1 := Lib.hid (fun (g : Nat → Nat) => show List.replicate X.length 0 = scat (X.map Int.toNat) X.length g 0 from (scat_zero _ _ _).symm)
  have HSC := Lib.hid (fun (g : Nat → Nat) k (hk : k < X.length) => show (scat (X.map Int.toNat) X.length g k).set ((X.getD k 0).toNat) (g k) = scat (X.map Int.toNat) X.length g (k + 1) from by
    have := scat_next (by rw [hlen]; exact hp) g hk
    rwa [getD_map] at this)
  have HSE := Lib.hid (fun k => show scat (X.map Int.toNat) X.length (fun j => (idx PS k).getD j 0) X.length = pk (iv (X.map Int.toNat)) (idx PS k) 0 from by
    rw [scat_all (by rw [hlen]; exact hp)]
    rfl)
  have HX := Lib.hid (fun W (hW : Below w.heap.size w W) => hX.rd.below hW)
  have HDX := Lib.hid hDX.2
  have HXS := Lib.hid hlen
  have HPL : Hid ((pkI X S).length = X.length) := pkI_len X S
  clear hqv hqd ha hha hX hS hV hi hva hVS hl hf htab hN hDX hlen hp hPV hPS hPl hPn hzc hsz hD2 HIN
  go_enter Tryz.func36, Tryz.ntmps36
  go_wp2_with fail
  generalize ((w.alloc (.cells #[.slice A S.length c, .slice A' V.length c'] 25)).alloc (.cells #[.slice none 0 0, .slice none 0 0] 25)) = W0 at *
  refine (VV.out W0 B0.below).mono ?_
  rintro e w1 ⟨hb1, rfl⟩
  have B1 := B0.next hb1
  obtain ⟨b0, b1⟩ := bkA B1.one
  go_wp2_with fail
  refine (DD.out w1 B1.below).mono ?_
  rintro e w2 ⟨hb2, rfl⟩
  have B2 := B1.next hb2
  clear b0 b1
  obtain ⟨b0, b1⟩ := bkA B2.one
  go_wp2_with fail
  refine (PK.out w2 B2.below).mono ?_
  rintro e w3 ⟨hb3, rfl, hg3⟩
  have B3 := B2.next hb3
  clear b0 b1
  have hb4 := below_alloc w3 (.cells #[.slice (some ⟨w2.heap.size, 0, none⟩) X.length X.length, .slice none 0 0] 25)
  have hg4 := hg3.next' hb4
  have B4 := B3.next hb4
  have l1 := B3.one.lt
  have l2 := B3.two.lt
  have l3 := hg3.lt
  have hI3 : IsI (w3.alloc (.cells #[.slice (some ⟨w2.heap.size, 0, none⟩) X.length X.length, .slice none 0 0] 25)) (w3.alloc (.cells #[.slice (some ⟨w2.heap.size, 0, none⟩) X.length X.length, .slice none 0 0] 25)).heap.size (.slice (some ⟨w2.heap.size, 0, none⟩) X.length X.length) (pkI X S) := by
    have := IsI.of_bk hg4
    rwa [HPL.out] at this
  have M0 := AppAt.start (w := w) (ob := w3.heap.size) (ks := [(w.heap.size, 25, #[.slice A S.length c, .slice A' V.length c']), (w.heap.size + 1, 25, #[.slice none 0 0, .slice none 0 0]), (w2.heap.size, 3, (zints (pkI X S)).toArray)]) B4.below (fun p hp => by
    simp at hp
    rcases hp with rfl | rfl | rfl
    · exact B4.one
    · exact B4.two
    · exact hg4) (Bk.new w3 25 #[Value.slice (some ⟨w2.heap.size, 0, none⟩) X.length X.length, .slice none 0 0]) hI3 B3.below.size (fun p hp => by
    simp at hp
    rcases hp with rfl | rfl | rfl
    · show w.heap.size ≠ w3.heap.size; simp only at l1; omega
    · show w.heap.size + 1 ≠ w3.heap.size; simp only at l2; omega
    · show w2.heap.size ≠ w3.heap.size; omega)
  clear hI3 hg3 hg4 hb4 hb3 hb2 hb1 B0 B1 B2 B3 B4 VV DD PK HPL l3
  go_wp2_with fail
  generalize w3.alloc (.cells #[.slice (some ⟨w2.heap.size, 0, none⟩) X.length X.length, .slice none 0 0] 25) = w4 at *
  generalize w2.heap.size = g2 at *
  generalize w3.heap.size = ob at *
  go_loopw [7] (fun i wr => ∃ (k : Nat) (x : Value), k ≤ N ∧ i = .int .i64 k ∧ AppAt w w4.heap.size ob [(w.heap.size, 25, #[.slice A S.length c, .slice A' V.length c']), (w.heap.size + 1, 25, #[.slice none 0 0, .slice none 0 0]), (g2, 3, (zints (pkI X S)).toArray)] (.slice (some ⟨g2, 0, none⟩) X.length X.length) (pkI X S) x ((List.range k).map f) wr) (fun i _ => N - (intOf i).toNat)
  case atStart => exact ⟨0, _, Nat.zero_le _, rfl, M0⟩
  case round =>
    clear M0
    obtain ⟨k, x, hk, rfl, M⟩ := hrel
    obtain ⟨xA, xc, rfl⟩ := own_formV M.own
    rw [map_len] at M
    have KG := M.keep (g2, 3, (zints (pkI X S)).toArray) (by simp)
    obtain ⟨b0, b1⟩ := bkA M.box
    go_wp2_with fail
    refine (CC.out wr g2 KG).mono ?_
    rintro e w' ⟨rfl, rfl⟩
    by_cases hlt : k < N
    · obtain ⟨ad, rfl, hab, hmV, hcv⟩ := HV.out k hlt
      have PLK := Lib.hid (PL.out k hlt)
      have HSK := HSE.out k
      have i1' : (0 : Int) ≤ ((place (S.map Int.toNat) (pk (iv (X.map Int.toNat)) (idx PS k) 0) : Nat) : Int) := by omega
      have i2' : ((place (S.map Int.toNat) (pk (iv (X.map Int.toNat)) (idx PS k) 0) : Nat) : Int) < (V.length : Int) := by omega
      generalize place (S.map Int.toNat) (pk (iv (X.map Int.toNat)) (idx PS k) 0) = m at *
      generalize hfx : f k = x at *
      have HFK := Lib.hid hfx
      clear hfx
      go_wp2_with fail
      refine (IX.out wr g2 KG k hlt).mono ?_
      rintro e w5 ⟨hb5, rfl, hX5⟩
      have M5 := M.next hb5
      have lX := hX5.lt
      clear b0 b1 M KG hb5
      go_wp2_with fail
      have hba := below_alloc w5 (.cells (ints .i64 (List.replicate X.length 0)).toArray 3)
      have K9 := Bk.new w5 3 (ints .i64 (List.replicate X.length 0)).toArray
      generalize w5.alloc (.cells (ints .i64 (List.replicate X.length 0)).toArray 3) = w6 at *
      have HIK := HIL.out k
      generalize htg : idx PS k = tg at *
      clear htg
      rw [HZ1.out (fun j => tg.getD j 0)] at K9
      generalize hXb : wr.heap.size = xb at *
      clear hXb
      go_loopw [10] (fun i wq => ∃ j : Nat, j ≤ X.length ∧ i = .int .i64 j ∧ Below w5.heap.size w5 wq ∧ Bk wq w5.heap.size 3 (ints .i64 (scat (X.map Int.toNat) X.length (fun j => tg.getD j 0) j)).toArray) (fun i _ => X.length - (intOf i).toNat)
      case atStart => exact ⟨0, Nat.zero_le _, rfl, hba, K9⟩
      case round =>
        clear hba K9
        obtain ⟨j, hj, rfl, hbq, K9⟩ := hrel
        have M6 := M5.next hbq
        have hX6 := hX5.next' hbq
        by_cases hlj : j < X.length
        · obtain ⟨adx, rfl, habx, hcx⟩ := (HX.out wr M6.below).zint hlj
          have hxr := HDX.out.1 _ (List.getElem_mem hlj)
          have HSN := Lib.hid (HSC.out (fun j => tg.getD j 0) j hlj)
          rw [← getD_zint hlj] at HSN
          generalize X[j] = y at *
          obtain ⟨q, rfl⟩ : ∃ q : Nat, y = (q : Int) := ⟨y.toNat, by omega⟩
          have hqX : q < X.length := by rw [HXS.out]; omega
          rw [Int.toNat_natCast] at HSN
          have hct := hX6.cell j
          rw [ints_getD .i64 _ (by rw [HIK]; exact hlj)] at hct
          generalize tg.getD j 0 = tj at *
          have k2 := (show Bk wr.drew w5.heap.size 3 (ints .i64 (scat (X.map Int.toNat) X.length (fun j => tg.getD j 0) j)).toArray from K9).put q (.int .i64 (tj : Int))
          rw [ints_set, HSN.out] at k2
          have hcI := K9.cell q
          rw [ints_getD .i64 _ (by rw [scat_len]; exact hqX)] at hcI
          have hfI := K9.frozen q
          have hbn := hbq.drew.setCell (p := ⟨w5.heap.size, q, none⟩) (Nat.le_refl _) (.int .i64 (tj : Int))
          have K2 := Lib.hid k2
          have HBN := Lib.hid hbn
          clear k2 K9 HSN hxr hbq M6 hX6 M5 hX5 hbn HSC
          go_wp2_with fail
          refine wp_region_M 10 (by kernel_rfl) (fun Y => Y.cell? (adx.add j) = some (.int .i64 (q : Int)) ∧ Y.cell? ⟨xb, j, none⟩ = some (.int .i64 (tj : Int))) ⟨hcx, hct⟩ (fun hS0 => ?_)
          refine takeM (i := 0) (v := ?_) rfl (by kernel_rfl) (by decide) (by kernel_rfl) (by kernel_rfl) (by kernel_rfl) (fun _ _ _ h => h) (by rfl) (by assumption) ?_ ?_
          rotate_left
          · intro w hSw; (try dsimp only at hSw); go_simp <;> with_reducible rfl
          try simp only [Act.put, List.setIfInBounds_toArray, List.set_cons_zero, List.set_cons_succ]
          refine takeM (i := 1) (v := ?_) rfl (by kernel_rfl) (by decide) (by kernel_rfl) (by kernel_rfl) (by kernel_rfl) (fun _ _ _ h => h) (by rfl) (by assumption) ?_ ?_
          rotate_left
          · intro w hSw; (try dsimp only at hSw); go_simp <;> with_reducible rfl
          try simp only [Act.put, List.setIfInBounds_toArray, List.set_cons_zero, List.set_cons_succ]
          refine takeM (i := 2) (v := ?_) rfl (by kernel_rfl) (by decide) (by kernel_rfl) (by kernel_rfl) (by kernel_rfl) (fun _ _ _ h => h) (by rfl) (by assumption) ?_ ?_
          rotate_left
          · intro w hSw; (try dsimp only at hSw); go_simp <;> with_reducible rfl
          try simp only [Act.put, List.setIfInBounds_toArray, List.set_cons_zero, List.set_cons_succ]
          refine takeM (i := 3) (v := ?_) rfl (by kernel_rfl) (by decide) (by kernel_rfl) (by kernel_rfl) (by kernel_rfl) (fun _ _ _ h => h) (by rfl) (by assumption) ?_ ?_
          rotate_left
          · intro w hSw; (try dsimp only at hSw); go_simp <;> with_reducible rfl
          try simp only [Act.put, List.setIfInBounds_toArray, List.set_cons_zero, List.set_cons_succ]
          refine takeM (i := 4) (v := ?_) rfl (by kernel_rfl) (by decide) (by kernel_rfl) (by kernel_rfl) (by kernel_rfl) (fun _ _ _ h => h) (by rfl) (by assumption) ?_ ?_
          rotate_left
          · intro w hSw; (try dsimp only at hSw); go_simp <;> with_reducible rfl
          try simp only [Act.put, List.setIfInBounds_toArray, List.set_cons_zero, List.set_cons_succ]
          refine takeM (i := 5) (v := ?_) rfl (by kernel_rfl) (by decide) (by kernel_rfl) (by kernel_rfl) (by kernel_rfl) (fun _ _ _ h => h) (by rfl) (by assumption) ?_ ?_
          rotate_left
          · intro w hSw; (try dsimp only at hSw); go_simp <;> with_reducible rfl
          try simp only [Act.put, List.setIfInBounds_toArray, List.set_cons_zero, List.set_cons_succ]
          refine takeM (i := 6) (v := ?_) rfl (by kernel_rfl) (by decide) (by kernel_rfl) (by kernel_rfl) (by kernel_rfl) (fun _ _ _ h => h) (by rfl) (by assumption) ?_ ?_
          rotate_left
          · intro w hSw; (try dsimp only at hSw); go_simp <;> with_reducible rfl
          try simp only [Act.put, List.setIfInBounds_toArray, List.set_cons_zero, List.set_cons_succ]
          refine takeM (i := 7) (v := ?_) rfl (by kernel_rfl) (by decide) (by kernel_rfl) (by kernel_rfl) (by kernel_rfl) (fun _ _ _ h => h) (by rfl) (by assumption) ?_ ?_
          rotate_left
          · intro w hSw; (try dsimp only at hSw); go_simp <;> with_reducible rfl
          try simp only [Act.put, List.setIfInBounds_toArray, List.set_cons_zero, List.set_cons_succ]
          refine takeM (i := 8) (v := ?_) rfl (by kernel_rfl) (by decide) (by kernel_rfl) (by kernel_rfl) (by kernel_rfl) (fun _ _ _ h => h) (by rfl) (by assumption) ?_ ?_
          rotate_left
          · intro w hSw; (try dsimp only at hSw); go_simp <;> with_reducible rfl
          try simp only [Act.put, List.setIfInBounds_toArray, List.set_cons_zero, List.set_cons_succ]
          refine takeM (i := 9) (v := ?_) rfl (by kernel_rfl) (by decide) (by kernel_rfl) (by kernel_rfl) (by kernel_rfl) (fun _ _ _ h => h) (by rfl) (by assumption) ?_ ?_
          rotate_left
          · intro w hSw; (try dsimp only at hSw); go_simp <;> with_reducible rfl
          try simp only [Act.put, List.setIfInBounds_toArray, List.set_cons_zero, List.set_cons_succ]
          clear hS0
          refine stepM (i := 10) rfl (by kernel_rfl) (fun K0 hK0 => ?_)
          go_simp
          refine hK0.out _ _ (fun h => absurd rfl h) (fun _ => ?_)
          clear hK0 K0
          try simp only [Act.put, List.setIfInBounds_toArray, List.set_cons_zero, List.set_cons_succ]
          refine doneM (by kernel_rfl) ?_ _
          go_wp2
          go_roundw
          case rel => exact ⟨j + 1, by omega, by go_num, HBN.out, K2.out⟩
          case measure => simp [intOf]; omega
        · obtain rfl : j = X.length := by omega
          rw [HSK] at K9
          clear hX6 hX5 hbq M5 HSK HSC HIK
          obtain ⟨b0, b1⟩ := bkA M6.box
          have KA := M6.keep (w.heap.size, 25, #[.slice A S.length c, .slice (some ad) V.length c']) (by simp)
          obtain ⟨a0, a1⟩ := bkA KA
          have hcvr := (M6.below.cell (p := ad.add m) (by rw [addr_block]; exact hab)).trans hcv
          generalize w5.heap.size = fb at *
          go_wp2_with fail
          refine wp_region_M 13 (by kernel_rfl) (fun Y => ((Y.cell? ⟨ob, 0, none⟩ = some (.slice (some ⟨g2, 0, none⟩) X.length X.length) ∧ Y.cell? ⟨ob, 1, none⟩ = some (.slice xA k xc)) ∧ (Y.cell? ⟨w.heap.size, 0, none⟩ = some (.slice A S.length c) ∧ Y.cell? ⟨w.heap.size, 1, none⟩ = some (.slice (some ad) V.length c'))) ∧ Y.cell? (ad.add m) = some (.string x)) ⟨⟨⟨b0, b1⟩, ⟨a0, a1⟩⟩, hcvr⟩ (fun hS0 => ?_)
          clear b0 b1 a0 a1 hcvr KA
          have Md := M6.drew
          clear M6
          refine takeM (i := 0) (v := ?_) rfl (by kernel_rfl) (by decide) (by kernel_rfl) (by kernel_rfl) (by kernel_rfl) (fun _ _ _ h => h) (by rfl) (by assumption) ?_ ?_
          rotate_left
          · intro w hSw; (try dsimp only at hSw); go_simp <;> with_reducible rfl
          try simp only [Act.put, List.setIfInBounds_toArray, List.set_cons_zero, List.set_cons_succ]
          refine takeM (i := 1) (v := ?_) rfl (by kernel_rfl) (by decide) (by kernel_rfl) (by kernel_rfl) (by kernel_rfl) (fun _ _ _ h => h) (by rfl) (by assumption) ?_ ?_
          rotate_left
          · intro w hSw; (try dsimp only at hSw); go_simp <;> with_reducible rfl
          try simp only [Act.put, List.setIfInBounds_toArray, List.set_cons_zero, List.set_cons_succ]
          refine takeM (i := 2) (v := ?_) rfl (by kernel_rfl) (by decide) (by kernel_rfl) (by kernel_rfl) (by kernel_rfl) (fun _ _ _ h => h) (by rfl) (by assumption) ?_ ?_
          rotate_left
          · intro w hSw; (try dsimp only at hSw); go_simp <;> with_reducible rfl
          try simp only [Act.put, List.setIfInBounds_toArray, List.set_cons_zero, List.set_cons_succ]
          refine takeM (i := 3) (v := ?_) rfl (by kernel_rfl) (by decide) (by kernel_rfl) (by kernel_rfl) (by kernel_rfl) (fun _ _ _ h => h) (by rfl) (by assumption) ?_ ?_
          rotate_left
          · intro w hSw; (try dsimp only at hSw); go_simp <;> with_reducible rfl
          try simp only [Act.put, List.setIfInBounds_toArray, List.set_cons_zero, List.set_cons_succ]
          refine takeM (i := 4) (v := ?_) rfl (by kernel_rfl) (by decide) (by kernel_rfl) (by kernel_rfl) (by kernel_rfl) (fun _ _ _ h => h) (by rfl) (by assumption) ?_ ?_
          rotate_left
          · intro w hSw; (try dsimp only at hSw); go_simp <;> with_reducible rfl
          try simp only [Act.put, List.setIfInBounds_toArray, List.set_cons_zero, List.set_cons_succ]
          refine takeM (i := 5) (v := ?_) rfl (by kernel_rfl) (by decide) (by kernel_rfl) (by kernel_rfl) (by kernel_rfl) (fun _ _ _ h => h) (by rfl) (by assumption) ?_ ?_
          rotate_left
          · intro w hSw; (try dsimp only at hSw); go_simp <;> with_reducible rfl
          try simp only [Act.put, List.setIfInBounds_toArray, List.set_cons_zero, List.set_cons_succ]
          refine takeM (i := 6) (v := ?_) rfl (by kernel_rfl) (by decide) (by kernel_rfl) (by kernel_rfl) (by kernel_rfl) (fun _ _ _ h => h) (by rfl) (by assumption) ?_ ?_
          rotate_left
          · intro w hSw; (try dsimp only at hSw); go_simp <;> with_reducible rfl
          try simp only [Act.put, List.setIfInBounds_toArray, List.set_cons_zero, List.set_cons_succ]
          clear hS0
          have P6 := Lib.hid (PLK.out fb wr.drew Md.below K9)
          refine stepM (i := 7) rfl (by kernel_rfl) (fun K0 hK0 => ?_)
          go_simp
          refine P6.out.mono ?_
          rintro e w7 ⟨hb7, rfl⟩
          have M7 := Md.next hb7
          have KA := M7.keep (w.heap.size, 25, #[.slice A S.length c, .slice (some ad) V.length c']) (by simp)
          have hS7 := And.intro (And.intro (bkA M7.box) (bkA KA)) ((M7.below.cell (p := ad.add m) (by rw [addr_block]; exact hab)).trans hcv)
          dsimp only
          refine hK0.out _ _ (fun _ => hS7) (fun _ => ?_)
          clear hK0 K0 Md hb7 KA P6 K9
          try simp only [Act.put, List.setIfInBounds_toArray, List.set_cons_zero, List.set_cons_succ]
          refine takeM (i := 8) (v := ?_) rfl (by kernel_rfl) (by decide) (by kernel_rfl) (by kernel_rfl) (by kernel_rfl) (fun _ _ _ h => h) (by rfl) (by assumption) ?_ ?_
          rotate_left
          · intro w hSw; (try dsimp only at hSw); go_simp <;> with_reducible rfl
          try simp only [Act.put, List.setIfInBounds_toArray, List.set_cons_zero, List.set_cons_succ]
          refine takeM (i := 9) (v := ?_) rfl (by kernel_rfl) (by decide) (by kernel_rfl) (by kernel_rfl) (by kernel_rfl) (fun _ _ _ h => h) (by rfl) (by assumption) ?_ ?_
          rotate_left
          · intro w hSw; (try dsimp only at hSw); go_simp <;> with_reducible rfl
          try simp only [Act.put, List.setIfInBounds_toArray, List.set_cons_zero, List.set_cons_succ]
          clear hS7
          have MA := M7.alloc (.cells #[.string x] 9)
          have KA := MA.keep (w.heap.size, 25, #[.slice A S.length c, .slice (some ad) V.length c']) (by simp)
          have hS8 := And.intro (And.intro (bkA MA.box) (bkA KA)) ((MA.below.cell (p := ad.add m) (by rw [addr_block]; exact hab)).trans hcv)
          refine stepM (i := 10) rfl (by kernel_rfl) (fun K0 hK0 => ?_)
          go_simp
          refine hK0.out _ _ (fun _ => hS8) (fun _ => ?_)
          clear hK0 K0 hS8 KA
          try simp only [Act.put, List.setIfInBounds_toArray, List.set_cons_zero, List.set_cons_succ]
          have hown0 := MA.own
          rw [map_len] at hown0
          refine stepM (i := 11) rfl (by kernel_rfl) (fun K0 hK0 => ?_)
          rw [if_pos (by rfl)]
          refine step_append_own (.tmp 61) (.tmp 70) 23 rfl w4.heap.size 9 i0 (.string ⟨#[]⟩) 1 16 Tryz.underlying23 hi0 hz0 hz1 hz2 rfl (by omega) (.slice xA k xc) k _ (by rfl) hown0 ⟨w7.heap.size, 0, none⟩ 1 1 [.string x] (by rfl) (by rfl) (new_str w7 _ x) (strs_one [x]) (by unfold maxLen; omega) (by omega) MA.size ?_
          intro v1 w8 hown1 hg1
          obtain ⟨vA, vc, rfl⟩ := own_formV hown1
          have MM := MA.app (x := x) (by rw [map_len]; exact hown1) hg1
          clear hown1 hg1 hown0 MA M7
          obtain ⟨g0, g1, gf⟩ := MM.facts
          have KA := MM.keep (w.heap.size, 25, #[.slice A S.length c, .slice (some ad) V.length c']) (by simp)
          have hS9 := And.intro (And.intro (And.intro g0 g1) (bkA KA)) ((MM.below.cell (p := ad.add m) (by rw [addr_block]; exact hab)).trans hcv)
          dsimp only
          refine hK0.out _ _ (fun _ => hS9) (fun _ => ?_)
          clear hK0 K0 KA
          try simp only [Act.put, List.setIfInBounds_toArray, List.set_cons_zero, List.set_cons_succ]
          refine takeM (i := 12) (v := ?_) rfl (by kernel_rfl) (by decide) (by kernel_rfl) (by kernel_rfl) (by kernel_rfl) (fun _ _ _ h => h) (by rfl) (by assumption) ?_ ?_
          rotate_left
          · intro w hSw; (try dsimp only at hSw); go_simp <;> with_reducible rfl
          try simp only [Act.put, List.setIfInBounds_toArray, List.set_cons_zero, List.set_cons_succ]
          clear hS9
          refine stepM (i := 13) rfl (by kernel_rfl) (fun K0 hK0 => ?_)
          go_simp
          refine hK0.out _ _ (fun h => absurd rfl h) (fun _ => ?_)
          clear hK0 K0
          try simp only [Act.put, List.setIfInBounds_toArray, List.set_cons_zero, List.set_cons_succ]
          refine doneM (by kernel_rfl) ?_ _
          have MP := MM.put
          have e1 : (List.range k).map f ++ [x] = (List.range (k + 1)).map f := by rw [map_snoc, HFK.out]
          rw [e1] at MP
          clear MM g0 g1 gf hcv
          go_wp2
          go_roundw
          case rel => exact ⟨k + 1, _, by omega, by go_num, MP⟩
          case measure => simp [intOf]; omega
    · obtain rfl : k = N := by omega
      have KR := M.keep (w.heap.size + 1, 25, #[.slice none 0 0, .slice none 0 0]) (by simp)
      obtain ⟨d0, d1⟩ := bkA KR
      have f0 := KR.frozen 0
      have f1 := KR.frozen 1
      have hA := M.isA
      have hb := M.below
      go_wp2
      refine bodyPost_ret (v := .tuple #[.agg #[.slice (some ⟨g2, 0, none⟩) X.length X.length, .slice xA k xc], .int .i64 0]) (by simp [results, Tryz.results36, go_sem, d0, d1]) rfl ?_
      exact ⟨(hb.setCell (p := ⟨w.heap.size + 1, 0, none⟩) (by simp) _).setCell (p := ⟨w.heap.size + 1, 1, none⟩) (by simp) _, _, rfl, hA.ret d0 d1 _ _⟩
end Go.Proofs.YtgnffedncjjkfaaGreatDoor
