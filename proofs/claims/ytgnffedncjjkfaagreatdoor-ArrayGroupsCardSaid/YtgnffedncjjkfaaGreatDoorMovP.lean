/-
  Plain law: dimensions in another order.
  Walks: distinct on both sides; the reference's picked.
-/
import Derived.Test.YtgnffedncjjkfaaGreatDoorSlab
import Derived.Test.YtgnffedncjjkfaaGreatDoorStpA
namespace Ix

/-- An order of r dimensions. -/
def Perm (r : Nat) (X : List Nat) : Prop := X.length = r ∧ (∀ x ∈ X, x < r) ∧ X.Nodup
/-- The elements at some places. -/
def pk {α : Type} (X : List Nat) (l : List α) (d : α) : List α := X.map fun x => l.getD x d
def iv (X : List Nat) : List Nat := (List.range X.length).map fun j => X.idxOf j
theorem nodup_le : ∀ (r : Nat) (l : List Nat), l.Nodup → (∀ x ∈ l, x < r) → l.length ≤ r
  | 0, l, _, h => by
    cases l with
    | nil => simp
    | cons a l => exact absurd (h a (by simp)) (Nat.not_lt_zero _)
  | r + 1, l, hn, h => by
    by_cases hr : r ∈ l
    · have h1 := nodup_le r (l.erase r) (hn.erase r) (fun x hx => by
        obtain ⟨h2, h3⟩ := (hn.mem_erase_iff).1 hx
        have := h x h3; omega)
      rw [List.length_erase_of_mem hr] at h1
      omega
    · have := nodup_le r l hn (fun x hx => by
        have := h x hx
        have : x ≠ r := fun e => hr (e ▸ hx)
        omega)
      omega
theorem perm_mem {r : Nat} {X : List Nat} (h : Perm r X) {j : Nat} (hj : j < r) : j ∈ X := by
  by_cases hm : j ∈ X
  · exact hm
  · have := nodup_le r (j :: X) (List.nodup_cons.2 ⟨hm, h.2.2⟩) (fun x hx => by
      rcases List.mem_cons.1 hx with rfl | hx
      · exact hj
      · exact h.2.1 x hx)
    rw [List.length_cons, h.1] at this
    omega
theorem iv_len (X : List Nat) : (iv X).length = X.length := by simp [iv]
theorem getD_in {l : List Nat} {j : Nat} (h : j < l.length) : l.getD j 0 = l[j] := by rw [List.getD_eq_getElem?_getD, List.getElem?_eq_getElem h]; rfl
theorem iv_at {X : List Nat} {j : Nat} (hj : j < X.length) : (iv X).getD j 0 = X.idxOf j := by
  rw [getD_in (by rw [iv_len]; exact hj)]
  simp [iv]
theorem iv_left {r : Nat} {X : List Nat} (h : Perm r X) {k : Nat} (hk : k < r) : (iv X).getD (X.getD k 0) 0 = k := by
  have hk' : k < X.length := by rw [h.1]; exact hk
  rw [getD_in hk', iv_at (by rw [h.1]; exact h.2.1 _ (List.getElem_mem _))]
  exact h.2.2.idxOf_getElem k hk'
theorem iv_right {r : Nat} {X : List Nat} (h : Perm r X) {j : Nat} (hj : j < r) : X.getD ((iv X).getD j 0) 0 = j := by
  rw [iv_at (by rw [h.1]; exact hj)]
  have hm := List.idxOf_lt_length_of_mem (perm_mem h hj)
  rw [getD_in hm]
  exact List.getElem_idxOf hm
theorem iv_perm {r : Nat} {X : List Nat} (h : Perm r X) : Perm r (iv X) := by
  refine ⟨by rw [iv_len, h.1], fun x hx => ?_, ?_⟩
  · obtain ⟨j, hj, rfl⟩ := List.mem_map.1 hx
    rw [List.mem_range, h.1] at hj
    have := List.idxOf_lt_length_of_mem (perm_mem h hj)
    rwa [h.1] at this
  · unfold iv
    refine List.pairwise_map.2 (List.Pairwise.imp_of_mem (fun {a b} ha hb hab e => hab ?_) (List.nodup_range (n := X.length)))
    rw [List.mem_range, h.1] at ha hb
    have h1 := iv_right h ha
    have h2 := iv_right h hb
    rw [iv_at (by rw [h.1]; exact ha)] at h1
    rw [iv_at (by rw [h.1]; exact hb)] at h2
    rw [← h1, ← h2, e]
theorem getD_ext {l m : List Nat} (hl : l.length = m.length) (h : ∀ j, j < l.length → l.getD j 0 = m.getD j 0) : l = m := by
  apply List.ext_getElem hl
  intro i h1 h2
  have := h i h1
  rwa [getD_in h1, getD_in h2] at this
theorem iv_iv {r : Nat} {X : List Nat} (h : Perm r X) : iv (iv X) = X := by
  have hp := iv_perm h
  refine getD_ext (by rw [iv_len, iv_len]) (fun j hj => ?_)
  rw [iv_len, iv_len, h.1] at hj
  have h1 := iv_left hp (k := X.getD j 0) (by rw [getD_in (by rw [h.1]; exact hj)]; exact h.2.1 _ (List.getElem_mem _))
  rw [iv_left h hj] at h1
  exact h1
theorem pk_len {α : Type} (X : List Nat) (l : List α) (d : α) : (pk X l d).length = X.length := by simp [pk]
theorem pk_at {X l : List Nat} {j : Nat} (hj : j < X.length) : (pk X l 0).getD j 0 = l.getD (X.getD j 0) 0 := by
  rw [getD_in (by rw [pk_len]; exact hj), getD_in hj]
  simp [pk]
theorem pk_iv {r : Nat} {X : List Nat} (h : Perm r X) {l : List Nat} (hl : l.length = r) : pk (iv X) (pk X l 0) 0 = l := by
  have hp := iv_perm h
  refine getD_ext (by rw [pk_len, iv_len, h.1, hl]) (fun j hj => ?_)
  rw [pk_len, iv_len, h.1] at hj
  have h2 : (iv X).getD j 0 < r := by rw [getD_in (by rw [hp.1]; exact hj)]; exact hp.2.1 _ (List.getElem_mem _)
  rw [pk_at (by rw [hp.1]; exact hj), pk_at (by rw [h.1]; exact h2), iv_right h hj]
theorem prod_perm {l m : List Nat} (h : l.Perm m) : prod l = prod m := by
  induction h with
  | nil => rfl
  | cons x _ ih => show x * prod _ = x * prod _; rw [ih]
  | swap x y l => show y * (x * prod l) = x * (y * prod l); exact Nat.mul_left_comm _ _ _
  | trans _ _ h1 h2 => exact h1.trans h2
theorem prod_pk {r : Nat} {X : List Nat} (h : Perm r X) {S : List Nat} (hS : S.length = r) : prod (pk X S 0) = prod S := by
  have h1 : X.Perm (List.range r) := by
    rw [List.perm_iff_count]
    intro a
    rw [h.2.2.count, (List.nodup_range (n := r)).count]
    by_cases ha : a < r
    · rw [if_pos (perm_mem h ha), if_pos (List.mem_range.2 ha)]
    · rw [if_neg (fun hm => ha (h.2.1 a hm)), if_neg (fun hm => ha (List.mem_range.1 hm))]
  have h2 : (List.range r).map (fun x => S.getD x 0) = S := by
    refine getD_ext (by simp [hS]) (fun j hj => ?_)
    have hj' : j < r := by simpa using hj
    rw [getD_in hj]
    simp
  have h3 := prod_perm (h1.map fun x => S.getD x 0)
  rw [h2] at h3
  exact h3
theorem pk_inside {X S I : List Nat} (hX : ∀ x ∈ X, x < S.length) (h : Inside S I) : Inside (pk X S 0) (pk X I 0) := by
  refine (inside_iff _ _).2 ⟨by rw [pk_len, pk_len], fun j hj => ?_⟩
  rw [pk_len] at hj
  rw [pk_at hj, pk_at hj]
  exact ((inside_iff _ _).1 h).2 _ (by rw [getD_in hj]; exact hX _ (List.getElem_mem _))
/-- The elements with the dimensions in another order. -/
def moved {α : Type} (S X : List Nat) (V : List α) (d : α) : List α := tab (pk X S 0) fun I => V.getD (place S (pk (iv X) I 0)) d
theorem moved_back {α : Type} {r : Nat} {S X : List Nat} (h : Perm r X) (hS : S.length = r) {V : List α} (d : α) (hV : V.length = prod S) : moved (pk X S 0) (iv X) (moved S X V d) d = V := by
  unfold moved
  rw [pk_iv h hS, iv_iv h]
  refine Eq.trans (tab_congr S (g := fun I => V.getD (place S I) d) fun I hI => ?_) (tab_self S V d hV)
  have h1 : Inside (pk X S 0) (pk X I 0) := pk_inside (by rw [hS]; exact h.2.1) hI
  have hI2 := inside_len _ _ hI
  rw [List.getD_eq_getElem?_getD (l := tab _ _), tab_at _ _ h1]
  show V.getD (place S (pk (iv X) (pk X I 0) 0)) d = _
  rw [pk_iv h (by rw [hI2, hS])]
end Ix

namespace Go.Proofs.YtgnffedncjjkfaaGreatDoor
open Go.RowKit Ix Ar

theorem Tryz.bool_info : (Tryz.prog.info? 4).map (fun i => (i.zero, i.size, i.bytes)) = some (some (.bool false), 1, 1) := by kernel_rfl
/-- Truths as cells. -/
def bls (l : List Bool) : List Value := l.map Value.bool
theorem bls_len (l : List Bool) : (bls l).length = l.length := List.length_map _
theorem bls_set (l : List Bool) (i : Nat) (x : Bool) : (bls l).toArray.setIfInBounds i (.bool x) = (bls (l.set i x)).toArray := by simp [bls, List.map_set]
theorem bls_at {l : List Bool} {i : Nat} (h : i < l.length) : (bls l).toArray[i]? = some (.bool l[i]) := by simp [bls, List.getElem?_eq_getElem h]
theorem make_bools (n : Nat) (hn : n ≤ 4000000) (w : World) :
    (Instr.makeSlice 101 (.int .i64 (n : Int)) (.int .i64 (n : Int))).run Tryz.prog w = .ok (.slice (some ⟨w.heap.size, 0, none⟩) n n) (w.alloc (.cells (bls (List.replicate n false)).toArray 4)) := by
  obtain ⟨i0, hi0, hz0, hz1, hz2⟩ := info_parts Tryz.bool_info
  have hr := run_make (P := Tryz.prog) w 101 4 i0 (.bool false) Tryz.underlying101 hi0 hz0 .i64 .i64 n n (by omega) (by omega) (by rw [hz2]; omega) (by omega)
  rw [hr, hz1]
  have e1 : madeCells (Value.cells (.bool false)) ((n : Int).toNat * 1) = (bls (List.replicate n false)).toArray := by
    apply Array.ext'
    have : Value.cells (.bool false) = #[.bool false] := rfl
    rw [this, toList_madeCells_one]
    simp [bls]
  rw [e1]
  simp
/-- Numbers from 0 to below n, no one twice. -/
def Dist (X : List Int) (n : Nat) : Prop := (∀ x ∈ X, 0 ≤ x ∧ x < (n : Int)) ∧ X.Nodup
theorem Dist.take {X : List Int} {n : Nat} (h : Dist X n) (k : Nat) : Dist (X.take k) n := ⟨fun x hx => h.1 x (List.mem_of_mem_take hx), h.2.sublist (List.take_sublist k X)⟩
theorem dist_snoc {X : List Int} {n k : Nat} (hk : k < X.length) : Dist (X.take (k + 1)) n ↔ Dist (X.take k) n ∧ (0 ≤ X[k] ∧ X[k] < (n : Int)) ∧ X[k] ∉ X.take k := by
  rw [take_snocI hk]
  unfold Dist
  rw [List.nodup_append]
  constructor
  · rintro ⟨h1, h2, h3, h4⟩
    exact ⟨⟨fun x hx => h1 x (List.mem_append_left _ hx), h2⟩, h1 _ (List.mem_append_right _ (by simp)), fun hm => h4 _ hm _ (by simp) rfl⟩
  · rintro ⟨⟨h1, h2⟩, h3, h4⟩
    refine ⟨fun x hx => ?_, h2, by simp, fun a ha b hb e => ?_⟩
    · rcases List.mem_append.1 hx with h | h
      · exact h1 x h
      · simp at h; subst h; exact h3
    · simp at hb; subst hb; subst e; exact h4 ha
/-- Which numbers came up. -/
def seenL (Y : List Int) (n : Nat) : List Bool := (List.range n).map fun (j : Nat) => decide ((j : Int) ∈ Y)
theorem seenL_len (Y : List Int) (n : Nat) : (seenL Y n).length = n := by simp [seenL]
theorem seenL_at (Y : List Int) {n j : Nat} (h : j < n) : (seenL Y n)[j]'(by rw [seenL_len]; exact h) = decide ((j : Int) ∈ Y) := by simp [seenL]
theorem seenL_nil (n : Nat) : seenL [] n = List.replicate n false := by
  apply List.ext_getElem (by simp [seenL])
  intro i h1 h2
  simp [seenL]
theorem seenL_set (Y : List Int) {n m : Nat} : (seenL Y n).set m true = seenL (Y ++ [(m : Int)]) n := by
  apply List.ext_getElem (by rw [List.length_set, seenL_len, seenL_len])
  intro i h1 h2
  rw [seenL_len] at h2
  rw [seenL_at _ h2, List.getElem_set]
  by_cases e : m = i
  · subst e; simp
  · rw [if_neg e, seenL_at _ h2]
    have : ¬ ((i : Int) = (m : Int)) := by omega
    simp [this]

set_option maxRecDepth 100000 in
set_option maxHeartbeats 3200000 in
theorem distinct_any (X : List Int) (n : Nat) (A : Option Addr) (c B : Nat) (w : World) (hr : Rd w B A (zints X)) (hB : B ≤ w.heap.size) (hn : n ≤ 4000000) (hL : X.length ≤ maxLen) (q : Bool) (hq : q = true ↔ Dist X n) :
    Calls Tryz.prog 86 #[.slice A X.length c, .int .i64 n] w fun e w' => Below w.heap.size w w' ∧ e = .returned (.bool q) := by
  unfold maxLen at hL
  have HQ := Lib.hid hq
  have hmk := make_bools n hn
  clear hq
  go_enter Tryz.func86, Tryz.ntmps86
  go_wp2_with fail
  have hB1 := below_alloc w (.cells (bls (List.replicate n false)).toArray 4)
  have k1 : Bk (w.alloc (.cells (bls (List.replicate n false)).toArray 4)) w.heap.size 4 (bls (seenL (X.take 0) n)).toArray := by rw [List.take_zero, seenL_nil]; exact Bk.new _ _ _
  clear hmk
  generalize w.alloc (.cells (bls (List.replicate n false)).toArray 4) = w1 at *
  go_loopw [12] (fun i wr => ∃ k : Nat, k ≤ X.length ∧ i = .int .i64 k ∧ Hid (Dist (X.take k) n) ∧ Bk wr w.heap.size 4 (bls (seenL (X.take k) n)).toArray ∧ Below w.heap.size w wr) (fun i _ => X.length - (intOf i).toNat)
  case atStart => exact ⟨0, Nat.zero_le _, rfl, ⟨fun x hx => by simp at hx, by simp⟩, k1, hB1⟩
  case round =>
    clear k1 hB1
    obtain ⟨k, hk, rfl, HT, kb, hb⟩ := hrel
    by_cases hlt : k < X.length
    · obtain ⟨ad, rfl, hab, hx⟩ := (hr.below (hb.mono hB)).zint hlt
      have HD := Lib.hid (dist_snoc (n := n) hlt)
      have HT2 := Lib.hid (take_snocI hlt)
      have HE : Hid (¬ (0 ≤ X[k] ∧ X[k] < (n : Int)) ∨ X[k] ∈ X.take k → q = false) := fun h => bool_no HQ.out fun hd => by
        have := HD.out.1 (hd.take (k + 1))
        rcases h with h | h
        · exact h this.2.1
        · exact this.2.2 h
      generalize X[k] = x at *
      by_cases c1 : x < 0
      · have hqf := HE.out (.inl (by omega))
        subst hqf
        clear HE HD HT2
        go_wp2
        go_ret
        exact ⟨hb, rfl⟩
      by_cases c2 : (n : Int) ≤ x
      · have hqf := HE.out (.inl (by omega))
        subst hqf
        clear HE HD HT2
        go_wp2
        go_ret
        exact ⟨hb, rfl⟩
      obtain ⟨m, rfl⟩ : ∃ m : Nat, x = (m : Int) := ⟨x.toNat, by omega⟩
      have hm : m < n := by omega
      have hc := kb.cell m
      rw [bls_at (by rw [seenL_len]; exact hm), seenL_at _ hm] at hc
      have hf := kb.frozen m
      by_cases c3 : (m : Int) ∈ X.take k
      · rw [decide_eq_true c3] at hc
        have hqf := HE.out (.inr c3)
        subst hqf
        clear HE HD HT2 c3
        go_wp2
        go_ret
        exact ⟨hb, rfl⟩
      · rw [decide_eq_false c3] at hc
        have HOK := Lib.hid (HD.out.2 ⟨HT.out, ⟨by omega, by omega⟩, c3⟩)
        have k2 := kb.put m (.bool true)
        rw [bls_set, seenL_set, ← HT2.out] at k2
        have hb2 := hb.setCell (p := ⟨w.heap.size, m, none⟩) (Nat.le_refl _) (.bool true)
        have K2 := Lib.hid k2
        clear HE HD HT2 c3 k2 kb
        go_wp2
        go_roundw
        case rel => exact ⟨k + 1, by omega, by go_num, HOK.out, K2.out, hb2⟩
        case measure => simp [intOf]; omega
    · have hqt : q = true := HQ.out.2 (by have := HT.out; rwa [List.take_of_length_le (by omega)] at this)
      subst hqt
      clear HT HQ
      go_wp2
      go_ret
      exact ⟨hb, rfl⟩

set_option maxRecDepth 100000 in
set_option maxHeartbeats 6400000 in
theorem rdistinct_any (X : List Int) (r n : Nat) (A : Option Addr) (c B : Nat) (w : World) (hr : Rd w B A (zints X)) (hB : B ≤ w.heap.size) (hL : X.length ≤ maxLen) (q : Bool) (hq : q = true ↔ X.length = r ∧ Dist X n) :
    Calls Tryz.prog 88 #[.slice A X.length c, .int .i64 r, .int .i64 n] w fun e w' => Below w.heap.size w w' ∧ e = .returned (.bool q) := by
  unfold maxLen at hL
  by_cases hlen : X.length = r
  rotate_left
  · have hqf : q = false := bool_no hq fun h => hlen h.1
    have hne : ((X.length : Int) != (r : Int)) = true := by simp; omega
    subst hqf
    clear hq hlen
    go_enter Tryz.func88, Tryz.ntmps88
    go_wp2
    go_ret
    exact ⟨Below.refl _ _, rfl⟩
  subst hlen
  have HQ : Hid (q = true ↔ Dist X n) := by show _ ↔ _; rw [hq]; exact ⟨fun h => h.2, fun h => ⟨rfl, h⟩⟩
  clear hq
  go_enter Tryz.func88, Tryz.ntmps88
  go_wp2_with fail
  go_loopw [7] (fun i wr => ∃ k : Nat, k ≤ X.length ∧ i = .int .i64 k ∧ Hid (Dist (X.take k) n) ∧ Below w.heap.size w wr) (fun i _ => X.length - (intOf i).toNat)
  case atStart => exact ⟨0, Nat.zero_le _, rfl, ⟨fun x hx => by simp at hx, by simp⟩, Below.refl _ _⟩
  case round =>
    obtain ⟨k, hk, rfl, HT, hb⟩ := hrel
    by_cases hlt : k < X.length
    · obtain ⟨ad, rfl, hab, hx⟩ := (hr.below (hb.mono hB)).zint hlt
      have HX := Lib.hid hx
      have HD := Lib.hid (dist_snoc (n := n) hlt)
      have HE : Hid (¬ (0 ≤ X[k] ∧ X[k] < (n : Int)) ∨ X[k] ∈ X.take k → q = false) := fun h => bool_no HQ.out fun hd => by
        have := HD.out.1 (hd.take (k + 1))
        rcases h with h | h
        · exact h this.2.1
        · exact this.2.2 h
      generalize X[k] = x at *
      by_cases c1 : x < 0
      · have hqf := HE.out (.inl (by omega))
        subst hqf
        clear HE HD
        go_wp2
        go_ret
        exact ⟨hb, rfl⟩
      by_cases c2 : (n : Int) ≤ x
      · have hqf := HE.out (.inl (by omega))
        subst hqf
        clear HE HD
        go_wp2
        go_ret
        exact ⟨hb, rfl⟩
      go_wp2_with fail
      go_loopw [8] (fun i ws => ∃ j : Nat, j ≤ k ∧ i = .int .i64 j ∧ Hid (∀ y ∈ X.take j, y ≠ x) ∧ Below wr.heap.size wr ws) (fun i _ => k - (intOf i).toNat)
      case atStart => exact ⟨0, Nat.zero_le _, rfl, (fun y hy => by simp at hy), Below.refl _ _⟩
      case round =>
        obtain ⟨j, hj, rfl, HJ, hbs⟩ := hrel
        have hb2 := hb.trans (hbs.mono hb.size)
        by_cases hjk : j < k
        · obtain ⟨ad', e', hab', hy⟩ := (hr.below (hb2.mono hB)).zint (j := j) (by omega)
          cases e'
          have hx2 := (hbs.cell (p := ad.add k) (by rw [addr_block]; have := hb.size; omega)).trans HX.out
          have HJ2 : Hid (X[j]'(by omega) ≠ x → ∀ y ∈ X.take (j + 1), y ≠ x) := fun h y hy => by
            rw [take_snocI (show j < X.length by omega)] at hy
            rcases List.mem_append.1 hy with h1 | h1
            · exact HJ.out y h1
            · simp at h1; subst h1; exact h
          have HJ3 : Hid (X[j]'(by omega) = x → x ∈ X.take k) := fun h => by
            rw [← h]
            exact List.mem_of_getElem? (i := j) (by rw [List.getElem?_take_of_lt hjk, List.getElem?_eq_getElem])
          generalize X[j]'(by omega) = y at *
          by_cases hxy : y = x
          · have y1 : (y == x) = true := by simp [hxy]
            have hqf := HE.out (.inr (HJ3.out hxy))
            subst hqf
            clear HJ2 HJ3 hxy HE HD
            go_wp2_with fail
            go_quiet (fail)
            go_wp2
            go_ret
            exact ⟨below_drewN hb2 _, rfl⟩
          · have y1 : (y == x) = false := by simp [hxy]
            have HOK := Lib.hid (HJ2.out hxy)
            clear HJ2 HJ3 hxy HD
            go_wp2_with fail
            go_quiet (fail)
            have hbs2 := below_drewN hbs nq
            go_wp2
            go_roundw
            case rel => exact ⟨j + 1, by omega, by go_num, HOK.out, hbs2⟩
            case measure => simp [intOf]; omega
        · obtain rfl : j = k := by omega
          have HOK := Lib.hid (HD.out.2 ⟨HT.out, ⟨by omega, by omega⟩, fun hm => HJ.out x hm rfl⟩)
          clear HE HD HJ
          go_wp2
          go_roundw
          case rel => exact ⟨j + 1, by omega, by go_num, HOK.out, hb2⟩
          case measure => simp [intOf]; omega
    · have hqt : q = true := HQ.out.2 (by have := HT.out; rwa [List.take_of_length_le (by omega)] at this)
      subst hqt
      clear HT HQ
      go_wp2
      go_ret
      exact ⟨hb, rfl⟩

/-- The elements at some places, in ints. -/
def pkI (X l : List Int) : List Int := X.map fun x => l.getD x.toNat 0
theorem pkI_len (X l : List Int) : (pkI X l).length = X.length := List.length_map _
/-- .. being written. -/
def pmid (X l : List Int) (k : Nat) : List Int := (pkI X l).take k ++ List.replicate (X.length - k) 0
theorem pmid_next {X l : List Int} {k : Nat} (h : k < X.length) : (pmid X l k).set k (l.getD X[k].toNat 0) = pmid X l (k + 1) := by
  have h' : k < (pkI X l).length := by rw [pkI_len]; exact h
  unfold pmid
  rw [List.set_append_right _ _ (by rw [List.length_take]; omega), List.length_take, Nat.min_eq_left (by omega), Nat.sub_self, show X.length - k = (X.length - (k + 1)) + 1 by omega, List.replicate_succ, List.set_cons_zero, take_snocI h', List.append_assoc]
  congr 1
  simp [pkI]
theorem pmid_len {X l : List Int} {k : Nat} (h : k ≤ X.length) : (pmid X l k).length = X.length := by
  unfold pmid
  rw [List.length_append, List.length_take, List.length_replicate, pkI_len]; omega

set_option maxRecDepth 100000 in
set_option maxHeartbeats 3200000 in
theorem picked_any (X l : List Int) (A A' : Option Addr) (c c' B B' : Nat) (w : World) (hr : Rd w B A (zints l)) (hr' : Rd w B' A' (zints X)) (hB : B ≤ w.heap.size) (hB' : B' ≤ w.heap.size) (hL : X.length ≤ 1000000) (hX : ∀ x ∈ X, 0 ≤ x ∧ x < (l.length : Int)) :
    Calls Tryz.prog 89 #[.slice A l.length c, .slice A' X.length c'] w fun e w' => Below w.heap.size w w' ∧ e = .returned (.slice (some ⟨w.heap.size, 0, none⟩) X.length X.length) ∧ Bk w' w.heap.size 3 (zints (pkI X l)).toArray := by
  obtain ⟨i0, hi0, hz0, hz1, hz2⟩ := info_parts Tryz.int_info
  have hmk := make_ints (P := Tryz.prog) 22 3 i0 .i64 Tryz.underlying22 hi0 hz0 hz1 (by omega) .i64 .i64 X.length (X.length : Int) rfl (by omega)
  have HW0 : Hid (ints .i64 (List.replicate X.length 0) = zints (pmid X l 0)) := by
    show _ = _
    unfold pmid
    rw [List.take_zero, List.nil_append, Nat.sub_zero]
    simp [ints, zints]
  have HWE : Hid (pmid X l X.length = pkI X l) := by
    show _ = _
    unfold pmid
    rw [List.take_of_length_le (by rw [pkI_len]; exact Nat.le_refl _), Nat.sub_self, List.replicate_zero, List.append_nil]
  have HX := Lib.hid hX
  have HR := Lib.hid hr
  clear hX hr
  go_enter Tryz.func89, Tryz.ntmps89
  go_wp2_with fail
  have hB1 := below_alloc w (.cells (ints .i64 (List.replicate X.length 0)).toArray 3)
  have k1 : Bk (w.alloc (.cells (ints .i64 (List.replicate X.length 0)).toArray 3)) w.heap.size 3 (zints (pmid X l 0)).toArray := by rw [← HW0.out]; exact Bk.new _ _ _
  clear hmk HW0
  generalize w.alloc (.cells (ints .i64 (List.replicate X.length 0)).toArray 3) = w1 at *
  go_loopw [6] (fun i wr => ∃ k : Nat, k ≤ X.length ∧ i = .int .i64 k ∧ Bk wr w.heap.size 3 (zints (pmid X l k)).toArray ∧ Below w.heap.size w wr) (fun i _ => X.length - (intOf i).toNat)
  case atStart => exact ⟨0, Nat.zero_le _, rfl, k1, hB1⟩
  case round =>
    clear k1 hB1
    obtain ⟨k, hk, rfl, kb, hb⟩ := hrel
    by_cases hlt : k < X.length
    · obtain ⟨ad, rfl, hab, hx⟩ := (hr'.below (hb.mono hB')).zint hlt
      have hxr := HX.out _ (List.getElem_mem hlt)
      have HN := Lib.hid (pmid_next (l := l) hlt)
      generalize X[k] = x at *
      obtain ⟨m, rfl⟩ : ∃ m : Nat, x = (m : Int) := ⟨x.toNat, by omega⟩
      have hm : m < l.length := by omega
      obtain ⟨ad', rfl, hab', hy⟩ := (HR.out.below (hb.mono hB)).zint hm
      have hgm : l.getD (m : Int).toNat 0 = l[m] := by rw [Int.toNat_natCast, List.getD_eq_getElem?_getD, List.getElem?_eq_getElem hm]; rfl
      rw [hgm] at HN
      generalize l[m] = y at *
      have k2 := kb.put k (.int .i64 y)
      rw [zints_set, HN.out] at k2
      have hc0 := kb.cell k
      rw [show (zints (pmid X l k)).toArray[k]? = some (.int .i64 ((pmid X l k).getD k 0)) from by
        have h := pmid_len (X := X) (l := l) (k := k) (by omega)
        simp [zints, List.getD_eq_getElem?_getD, List.getElem?_eq_getElem (show k < (pmid X l k).length by omega)]] at hc0
      have hf0 := kb.frozen k
      have hb2 := hb.setCell (p := ⟨w.heap.size, k, none⟩) (Nat.le_refl _) (.int .i64 y)
      have K2 := Lib.hid k2
      clear k2 kb HN hgm
      go_wp2
      go_roundw
      case rel => exact ⟨k + 1, by omega, by go_num, K2.out, hb2⟩
      case measure => simp [intOf]; omega
    · obtain rfl : k = X.length := by omega
      rw [HWE.out] at kb
      clear HWE
      go_wp2
      go_ret
      exact ⟨hb, rfl, kb⟩
end Go.Proofs.YtgnffedncjjkfaaGreatDoor
