/-
  Walks: package array: copies, equality; which shapes and arrays are valid.
  Walks: package array: which shapes and arrays are valid; how far elements lie from each other; places.
  Walks: package array: how far elements lie from each other; places; indexes in a shape.
  Words for memory: slabs. Walks: package array: fits, counts, within, inside.
  Walks: package array: counts, within, inside.
-/
import Derived.Test.YtgnffedncjjkfaaGreatDoorItrA
import Derived.Test.YtgnffedncjjkfaaGreatDoorValA
import Derived.Test.YtgnffedncjjkfaaGreatDoorHeldT
import Derived.BigQuiet
import Derived.Deep.QuietTactic
namespace Go.Proofs.YtgnffedncjjkfaaGreatDoor
open Go.RowKit Ix Ar

theorem Tryz.str_info : (Tryz.prog.info? 9).map (fun i => (i.zero, i.size, i.bytes)) = some (some (.string ⟨#[]⟩), 1, 16) := by kernel_rfl
/-- A slice that came in nil, or lies in memory. -/
theorem rd_none {w : World} {B : Nat} {xs : List Value} (h : Rd w B none xs) : xs = [] := by
  rcases Classical.em (xs = []) with h0 | h0
  · exact h0
  · obtain ⟨_, h2, _⟩ := h h0; cases h2
set_option maxHeartbeats 400000 in
theorem clonez_any (A : Option Addr) (n c : Nat) (l : List Int) (w : World) (hn : l.length = n) (hm : n ≤ 1000000) (h : Rd w w.heap.size A (zints l)) :
    Calls Tryz.prog 73 #[.slice A n c] w fun e w' => Below w.heap.size w w' ∧ ∃ v, e = .returned v ∧ w'.ownsRow w.heap.size 3 1 v n (zints l) := by
  obtain ⟨i0, hi0, hz0, hz1, hz2⟩ := info_parts Tryz.int_info
  have hnil := fun W => Lib.run_eql_slice_nil (P := Tryz.prog) W 22 3 A n c 0 0 Tryz.underlying22
  rcases A with _ | ad
  · have hl : l = [] := by simpa [zints] using rd_none h
    subst hl
    obtain rfl : n = 0 := by simpa using hn.symm
    go_enter Tryz.func73, Tryz.ntmps73
    go_wp2
    go_ret
    exact ⟨Below.refl _ _, _, rfl, World.ownsRow_nil _ _ _ _⟩
  · have HN := Lib.hid hn
    clear hn
    go_enter Tryz.func73, Tryz.ntmps73
    go_wp2_with (at_builtin; refine wpL_append _ rfl (.tmp 5) (.tmp 6) _ rfl w.heap.size 3 i0 _ 1 8 Tryz.underlying22 hi0 hz0 hz1 hz2 rfl (by omega) _ 0 [] rfl (World.ownsRow_made _ _ 0 (Nat.le_refl _) (by unfold maxLen; omega) rfl) (some ad) n c (zints l) rfl (by rw [zints_len, Nat.mul_one]; exact HN.out) (h.alloc (Nat.le_refl _) _) (zints_one _) (by unfold maxLen; omega) (by omega) (by simp) ?_; intro v1 w1 hown1 hg1 hat1)
    go_ret
    refine ⟨below_app ((Below.refl _ _).alloc (Nat.le_refl _) _) hg1 (by simp) (World.ownsRow_made (base := w.heap.size) (e := 3) (size := 1) w #[] 0 (Nat.le_refl _) (by unfold maxLen; omega) rfl) (Nat.le_refl _), v1, rfl, ?_⟩
    simpa using hown1
set_option maxHeartbeats 400000 in
theorem clones_any (A : Option Addr) (n c : Nat) (l : List ByteArray) (w : World) (hn : l.length = n) (hm : n ≤ 1000000) (h : Rd w w.heap.size A (strs l)) :
    Calls Tryz.prog 74 #[.slice A n c] w fun e w' => Below w.heap.size w w' ∧ ∃ v, e = .returned v ∧ w'.ownsRow w.heap.size 9 1 v n (strs l) := by
  obtain ⟨i0, hi0, hz0, hz1, hz2⟩ := info_parts Tryz.str_info
  have hnil := fun W => Lib.run_eql_slice_nil (P := Tryz.prog) W 23 9 A n c 0 0 Tryz.underlying23
  rcases A with _ | ad
  · have hl : l = [] := by simpa [strs] using rd_none h
    subst hl
    obtain rfl : n = 0 := by simpa using hn.symm
    go_enter Tryz.func74, Tryz.ntmps74
    go_wp2
    go_ret
    exact ⟨Below.refl _ _, _, rfl, World.ownsRow_nil _ _ _ _⟩
  · have HN := Lib.hid hn
    clear hn
    go_enter Tryz.func74, Tryz.ntmps74
    go_wp2_with (at_builtin; refine wpL_append _ rfl (.tmp 5) (.tmp 6) _ rfl w.heap.size 9 i0 _ 1 16 Tryz.underlying23 hi0 hz0 hz1 hz2 rfl (by omega) _ 0 [] rfl (World.ownsRow_made _ _ 0 (Nat.le_refl _) (by unfold maxLen; omega) rfl) (some ad) n c (strs l) rfl (by rw [strs_len, Nat.mul_one]; exact HN.out) (h.alloc (Nat.le_refl _) _) (strs_one _) (by unfold maxLen; omega) (by omega) (by simp) ?_; intro v1 w1 hown1 hg1 hat1)
    go_ret
    refine ⟨below_app ((Below.refl _ _).alloc (Nat.le_refl _) _) hg1 (by simp) (World.ownsRow_made (base := w.heap.size) (e := 9) (size := 1) w #[] 0 (Nat.le_refl _) (by unfold maxLen; omega) rfl) (Nat.le_refl _), v1, rfl, ?_⟩
    simpa using hown1

theorem take_snocI {α : Type} {l : List α} {k : Nat} (h : k < l.length) : l.take (k + 1) = l.take k ++ [l[k]] := by
  rw [List.take_add_one, List.getElem?_eq_getElem h]; rfl
noncomputable def valB (s : ByteArray) : Bool := @decide (IsVal s.data.toList) (Classical.propDecidable _)
theorem valB_iff (s : ByteArray) : valB s = true ↔ IsVal s.data.toList := by unfold valB; exact @decide_eq_true_iff _ (Classical.propDecidable _)

set_option maxHeartbeats 800000 in
theorem notval_any (s : ByteArray) (w : World) (hs : s.size ≤ 4000000) (he : Env w) :
    Calls Tryz.prog 121 #[.string s] w fun e w' => Below w.heap.size w w' ∧ e = .returned (.bool (!valB s)) := by
  have VA := value_any s w hs he (valB s) (valB_iff s)
  generalize valB s = q at *
  go_enter Tryz.func121, Tryz.ntmps121
  go_wp2_with fail
  refine VA.mono ?_
  rintro e w1 ⟨hb1, rfl⟩
  go_wp2
  go_ret
  exact ⟨hb1, rfl⟩
set_option maxRecDepth 100000 in
set_option maxHeartbeats 800000 in
theorem idxval_any (A : Option Addr) (c : Nat) (ss : List ByteArray) (w : World) (hm : ss.length ≤ 4000000) (h : Rd w w.heap.size A (strs ss)) (hz : ∀ s ∈ ss, s.size ≤ 4000000) (he : Env w) :
    Calls Tryz.prog 152 #[.slice A ss.length c, .func (.func 121) #[] #[]] w fun e w' => Below w.heap.size w w' ∧ ∃ k : Int, e = .returned (.int .i64 k) ∧ -1 ≤ k ∧ (0 ≤ k ↔ ss.any (fun s => !valB s) = true) := by
  have HF := Lib.hid (fun W s (hs : s ∈ ss) (hW : Below w.heap.size w W) => notval_any s W (hz s hs) (he.next hW))
  clear hz
  go_enter Tryz.func152, Tryz.ntmps152
  go_wp2
  go_loopw [8] (fun i wr => ∃ k : Nat, k ≤ ss.length ∧ i = .int .i64 k ∧ Hid ((ss.take k).any (fun s => !valB s) = false) ∧ Below w.heap.size w wr) (fun i _ => ss.length - (intOf i).toNat)
  case atStart => exact ⟨0, Nat.zero_le _, rfl, rfl, Below.refl _ _⟩
  case round =>
    obtain ⟨k, hk, rfl, HN, hB⟩ := hrel
    by_cases hlt : k < ss.length
    · obtain ⟨ad, rfl, hab, hcell⟩ := (h.below hB).str hlt
      have hmem : ss[k] ∈ ss := List.getElem_mem _
      have HT : Hid ((ss.take (k + 1)).any (fun s => !valB s) = !valB ss[k]) := by
        show _ = _
        rw [take_snocI hlt, List.any_append, HN.out]; simp
      have HA : Hid ((!valB ss[k]) = true → ss.any (fun s => !valB s) = true) := fun e => List.any_eq_true.2 ⟨_, hmem, e⟩
      have HC := Lib.hid (fun W hW => HF.out W ss[k] hmem hW)
      clear hmem
      generalize ss[k] = s at *
      go_wp2_with fail
      refine (HC.out wr hB).mono ?_
      rintro e w1 ⟨hb1, rfl⟩
      have hB1 := hB.trans (hb1.mono hB.size)
      cases hp : !valB s
      · have HN2 : Hid ((ss.take (k + 1)).any (fun s => !valB s) = false) := by show _ = _; rw [HT.out]; exact hp
        clear hp
        go_wp2
        go_roundw
        case rel => exact ⟨k + 1, by omega, by go_num, HN2.out, hB1⟩
        case measure => simp [intOf]; omega
      · have HY := Lib.hid (HA.out hp)
        clear hp
        go_wp2
        go_ret
        exact ⟨hB1, _, rfl, by omega, fun _ => HY.out, fun _ => by omega⟩
    · have HE : Hid (ss.any (fun s => !valB s) = false) := by
        have := HN.out
        rwa [List.take_of_length_le (by omega)] at this
      go_wp2
      go_ret
      exact ⟨hB, -1, rfl, by omega, fun h => by omega, fun h => by rw [HE.out] at h; cases h⟩
set_option maxHeartbeats 800000 in
theorem values_any (A : Option Addr) (c : Nat) (ss : List ByteArray) (w : World) (hm : ss.length ≤ 4000000) (h : Rd w w.heap.size A (strs ss)) (hz : ∀ s ∈ ss, s.size ≤ 4000000) (he : Env w) (q : Bool) (hq : q = true ↔ ∀ s ∈ ss, IsVal s.data.toList) :
    Calls Tryz.prog 85 #[.slice A ss.length c] w fun e w' => Below w.heap.size w w' ∧ e = .returned (.bool q) := by
  have HI := Lib.hid (idxval_any A c ss w hm h hz he)
  have HQ : Hid (q = !ss.any (fun s => !valB s)) := by
    show _ = _
    rw [Bool.eq_iff_iff, hq]
    simp only [Bool.not_eq_true', List.any_eq_false]
    exact ⟨fun h s hs => by simp [(valB_iff s).2 (h s hs)], fun h s hs => (valB_iff s).1 (by have := h s hs; simpa using this)⟩
  clear hz hq h
  generalize ss.any (fun s => !valB s) = r at *
  have CF : Calls Tryz.prog 120 #[.slice A ss.length c, .func (.func 121) #[] #[]] w fun e w' => Below w.heap.size w w' ∧ e = .returned (.bool r) := by
    go_enter Tryz.func120, Tryz.ntmps120
    go_wp2_with fail
    refine HI.out.mono ?_
    rintro e w1 ⟨hb1, k, rfl, h1, h2⟩
    have HE : Hid (decide (0 ≤ k) = r) := by
      show _ = _
      rw [Bool.eq_iff_iff, decide_eq_true_eq]; exact h2
    clear h2
    go_wp2
    go_ret
    exact ⟨hb1, by rw [← HE.out]; rfl⟩
  clear HI
  go_enter Tryz.func85, Tryz.ntmps85
  go_wp2_with fail
  refine CF.mono ?_
  rintro e w1 ⟨hb1, rfl⟩
  go_wp2
  go_ret
  exact ⟨hb1, by rw [HQ.out]; rfl⟩
end Go.Proofs.YtgnffedncjjkfaaGreatDoor

namespace Go.Proofs.YtgnffedncjjkfaaGreatDoor
open Go.RowKit Ix Ar

/-- Small sizes that came in as ints. -/
theorem VS.sz {S : List Int} (h : VS S) : Sz4 (S.map Int.toNat) := ⟨by rw [List.length_map]; exact h.1, fun s hs => by
  obtain ⟨x, hx, rfl⟩ := List.mem_map.1 hs
  have := h.2.1 x hx; omega⟩
theorem zints_nats {S : List Int} (h : ∀ s ∈ S, 0 ≤ s) : zints S = ints .i64 (S.map Int.toNat) := by rw [← zints_nat, nats_back h]

set_option maxRecDepth 100000 in
set_option maxHeartbeats 1600000 in
theorem validshape_any (S : List Int) (A : Option Addr) (c B : Nat) (w : World) (hr : Rd w B A (zints S)) (hL : S.length ≤ maxLen) (q : Bool) (hq : q = true ↔ VS S) :
    Calls Tryz.prog 29 #[.slice A S.length c] w fun e w' => w = w' ∧ e = .returned (.bool q) := by
  unfold maxLen at hL
  have HQ := Lib.hid hq
  clear hq
  by_cases h4 : 4 < S.length
  · have hqf : q = false := by
      cases hh : q with
      | false => rfl
      | true => have := (HQ.out.1 hh).1; omega
    subst hqf
    go_enter Tryz.func29, Tryz.ntmps29
    go_wp2
    go_ret
    exact ⟨rfl, rfl⟩
  go_enter Tryz.func29, Tryz.ntmps29
  go_wp2_with fail
  go_loop [10] (fun i => ∃ k : Nat, k ≤ S.length ∧ i = .int .i64 k ∧ Hid (∀ s ∈ S.take k, 0 ≤ s ∧ s ≤ 1024)) (fun i => S.length - (intOf i).toNat)
  case atStart => exact ⟨0, Nat.zero_le _, rfl, (fun s hs => by simp at hs)⟩
  case round =>
    obtain ⟨k, hk, rfl, HT⟩ := hrel
    by_cases hlt : k < S.length
    · obtain ⟨ad, rfl, hab, hcell⟩ := hr.zint hlt
      have hmem : S[k] ∈ S := List.getElem_mem _
      have HN : Hid (0 ≤ S[k] ∧ S[k] ≤ 1024 → ∀ s ∈ S.take (k + 1), 0 ≤ s ∧ s ≤ 1024) := fun h s hs => by
        rw [take_snocI hlt] at hs
        rcases List.mem_append.1 hs with h1 | h1
        · exact HT.out s h1
        · simp at h1; subst h1; exact h
      have HB : Hid (¬ (0 ≤ S[k] ∧ S[k] ≤ 1024) → q = false) := fun h => by
        cases hh : q with
        | false => rfl
        | true => exact absurd ((HQ.out.1 hh).2.1 _ hmem) h
      clear hmem
      generalize S[k] = s at *
      by_cases h0 : s < 0
      · have hqf := HB.out (by omega)
        subst hqf
        clear HN HB
        go_wp2
        go_ret
        exact ⟨rfl, rfl⟩
      by_cases h1 : 1024 < s
      · have hqf := HB.out (by omega)
        subst hqf
        clear HN HB
        go_wp2
        go_ret
        exact ⟨rfl, rfl⟩
      have HN2 := Lib.hid (HN.out ⟨by omega, by omega⟩)
      clear HN HB
      go_wp2
      go_round
      case rel => exact ⟨k + 1, by omega, by go_num, HN2.out⟩
      case measure => simp [intOf]; omega
    · have hall : ∀ s ∈ S, 0 ≤ s ∧ s ≤ 1024 := by have := HT.out; rwa [List.take_of_length_le (by omega)] at this
      have hz : Sz4 (S.map Int.toNat) := ⟨by rw [List.length_map]; omega, fun s hs => by
        obtain ⟨x, hx, rfl⟩ := List.mem_map.1 hs
        have := hall x hx; omega⟩
      have hr2 : Rd w B A (ints .i64 (S.map Int.toNat)) := by rw [← zints_nats fun s hs => (hall s hs).1]; exact hr
      have CC := cells_any (S.map Int.toNat) A c B w hz hr2
      rw [List.length_map] at CC
      have hp := hz.prod
      have HQ2 : Hid (q = decide (Ix.prod (S.map Int.toNat) ≤ 4096)) := by
        show _ = _
        rw [Bool.eq_iff_iff, HQ.out, decide_eq_true_eq]
        exact ⟨fun h => h.2.2, fun h => ⟨by omega, hall, h⟩⟩
      generalize Ix.prod (S.map Int.toNat) = p at *
      have CC := Lib.hid CC
      clear hall hz hr2 HQ HT
      by_cases hp2 : p ≤ 4096
      · have hqt := HQ2.out
        rw [decide_eq_true hp2] at hqt
        subst hqt
        clear HQ2
        go_wp2_with fail
        refine CC.out.mono ?_
        rintro e w' ⟨rfl, rfl⟩
        go_wp2
        go_ret
        exact ⟨rfl, ret_bool (decide_eq_true (by omega))⟩
      · have hqt := HQ2.out
        rw [decide_eq_false hp2] at hqt
        subst hqt
        clear HQ2
        go_wp2_with fail
        refine CC.out.mono ?_
        rintro e w' ⟨rfl, rfl⟩
        go_wp2
        go_ret
        exact ⟨rfl, ret_bool (decide_eq_false (by omega))⟩

/-- A valid array. -/
def VA (a : Arr) : Prop := VS a.1 ∧ a.2.length = Ix.prod (a.1.map Int.toNat) ∧ ∀ s ∈ a.2, IsVal s.data.toList
/-- What came in, in sizes that a machine has. -/
structure InA (a : Arr) : Prop where
  shape : a.1.length ≤ maxLen
  vals : a.2.length ≤ 4000000
  texts : ∀ s ∈ a.2, s.size ≤ 4000000
/-- Two cells of a block. -/
theorem bkA {w : World} {g : Nat} {t : TypeId} {x y : Value} (h : Bk w g t #[x, y]) : w.cell? ⟨g, 0, none⟩ = some x ∧ w.cell? ⟨g, 1, none⟩ = some y := ⟨h.cell 0, h.cell 1⟩

set_option maxRecDepth 100000 in
set_option maxHeartbeats 3200000 in
theorem valid_any (a : Arr) (v : Value) (w : World) (h : IsA w w.heap.size v a) (hi : InA a) (he : Env w) (q : Bool) (hq : q = true ↔ VA a) :
    Calls Tryz.prog 31 #[v] w fun e w' => Below w.heap.size w w' ∧ e = .returned (.bool q) := by
  obtain ⟨A, c, A', c', rfl, hc, hc'⟩ := h.form
  obtain ⟨h1, h2⟩ := h.parts
  obtain ⟨S, V⟩ := a
  simp only at h1 h2 hc hc' hq ⊢
  have i1 := hi.shape
  have i2 := hi.vals
  have i3 := hi.texts
  simp only at i1 i2 i3
  obtain ⟨qs, hqs⟩ : ∃ b : Bool, b = true ↔ VS S := by classical exact ⟨decide _, decide_eq_true_iff⟩
  obtain ⟨qv, hqv⟩ : ∃ b : Bool, b = true ↔ ∀ s ∈ V, IsVal s.data.toList := by classical exact ⟨decide _, decide_eq_true_iff⟩
  have hA0 := below_alloc w (.cells #[.slice A S.length c, .slice A' V.length c'] 25)
  have k0 := Bk.new w 25 #[.slice A S.length c, .slice A' V.length c']
  have VS1 := Lib.hid (fun W (hW : Below w.heap.size w W) => validshape_any S A c w.heap.size W (h1.rd.below hW) i1 qs hqs)
  have VV := Lib.hid (fun W (hW : Below w.heap.size w W) => values_any A' c' V W i2 (((h2.below hW).more hW.size).rd) i3 (he.next hW) qv hqv)
  unfold maxLen at i1
  obtain ⟨d0, d1⟩ := bkA k0
  cases hs : qs
  · have hqf : q = false := by
      cases hh : q with
      | false => rfl
      | true => have := hqs.2 (hq.1 hh).1; rw [hs] at this; cases this
    subst hqf
    subst hs
    clear hq hqs hqv h h1 h2 VV hi i3
    go_enter Tryz.func31, Tryz.ntmps31
    go_wp2_with fail
    refine wp_region_held_drew (S := fun X => (X.cell? ⟨w.heap.size, 0, none⟩ = some (.slice A S.length c) ∧ X.cell? ⟨w.heap.size, 1, none⟩ = some (.slice A' V.length c')) ∧ Below w.heap.size w X) (by kernel_rfl) ⟨⟨d0, d1⟩, hA0.drew⟩ (fun hS => ?_)
    clear d0 d1 hA0 k0
    refine takeA (i := 0) (v := ?_) rfl (by kernel_rfl) (by kernel_rfl) (by kernel_rfl) (fun _ _ _ h => h) (by rfl) (by assumption) ?_ ?_
    rotate_left
    · intro w hSw; (try dsimp only at hSw); go_simp <;> with_reducible rfl
    try simp only [Act.put, List.setIfInBounds_toArray, List.set_cons_zero, List.set_cons_succ]
    refine takeA (i := 1) (v := ?_) rfl (by kernel_rfl) (by kernel_rfl) (by kernel_rfl) (fun _ _ _ h => h) (by rfl) (by assumption) ?_ ?_
    rotate_left
    · intro w hSw; (try dsimp only at hSw); go_simp <;> with_reducible rfl
    try simp only [Act.put, List.setIfInBounds_toArray, List.set_cons_zero, List.set_cons_succ]
    refine stepA (i := 2) rfl (by kernel_rfl) (fun K0 hK0 => ?_)
    go_simp
    refine (VS1.out _ hS.2).mono ?_
    rintro e w' ⟨rfl, rfl⟩
    dsimp only
    refine hK0.out _ _ hS (fun _ => ?_)
    clear hK0 K0
    try simp only [Act.put, List.setIfInBounds_toArray, List.set_cons_zero, List.set_cons_succ]
    refine takeA (i := 3) (v := ?_) rfl (by kernel_rfl) (by kernel_rfl) (by kernel_rfl) (fun _ _ _ h => h) (by rfl) (by assumption) ?_ ?_
    rotate_left
    · intro w hSw; (try dsimp only at hSw); go_simp <;> with_reducible rfl
    try simp only [Act.put, List.setIfInBounds_toArray, List.set_cons_zero, List.set_cons_succ]
    refine skipA (i := 4) rfl (by kernel_rfl) (by kernel_rfl) (by kernel_rfl) (fun _ _ _ h => h) (by rfl) (by assumption) ?_
    try simp only [Act.put, List.setIfInBounds_toArray, List.set_cons_zero, List.set_cons_succ]
    refine skipA (i := 5) rfl (by kernel_rfl) (by kernel_rfl) (by kernel_rfl) (fun _ _ _ h => h) (by rfl) (by assumption) ?_
    try simp only [Act.put, List.setIfInBounds_toArray, List.set_cons_zero, List.set_cons_succ]
    refine skipA (i := 6) rfl (by kernel_rfl) (by kernel_rfl) (by kernel_rfl) (fun _ _ _ h => h) (by rfl) (by assumption) ?_
    try simp only [Act.put, List.setIfInBounds_toArray, List.set_cons_zero, List.set_cons_succ]
    refine skipA (i := 7) rfl (by kernel_rfl) (by kernel_rfl) (by kernel_rfl) (fun _ _ _ h => h) (by rfl) (by assumption) ?_
    try simp only [Act.put, List.setIfInBounds_toArray, List.set_cons_zero, List.set_cons_succ]
    refine skipA (i := 8) rfl (by kernel_rfl) (by kernel_rfl) (by kernel_rfl) (fun _ _ _ h => h) (by rfl) (by assumption) ?_
    try simp only [Act.put, List.setIfInBounds_toArray, List.set_cons_zero, List.set_cons_succ]
    refine skipA (i := 9) rfl (by kernel_rfl) (by kernel_rfl) (by kernel_rfl) (fun _ _ _ h => h) (by rfl) (by assumption) ?_
    try simp only [Act.put, List.setIfInBounds_toArray, List.set_cons_zero, List.set_cons_succ]
    refine skipA (i := 10) rfl (by kernel_rfl) (by kernel_rfl) (by kernel_rfl) (fun _ _ _ h => h) (by rfl) (by assumption) ?_
    try simp only [Act.put, List.setIfInBounds_toArray, List.set_cons_zero, List.set_cons_succ]
    refine takeA (i := 11) (v := ?_) rfl (by kernel_rfl) (by kernel_rfl) (by kernel_rfl) (fun _ _ _ h => h) (by rfl) (by assumption) ?_ ?_
    rotate_left
    · intro w hSw; (try dsimp only at hSw); go_simp <;> with_reducible rfl
    try simp only [Act.put, List.setIfInBounds_toArray, List.set_cons_zero, List.set_cons_succ]
    refine takeA (i := 12) (v := ?_) rfl (by kernel_rfl) (by kernel_rfl) (by kernel_rfl) (fun _ _ _ h => h) (by rfl) (by assumption) ?_ ?_
    rotate_left
    · intro w hSw; (try dsimp only at hSw); go_simp <;> with_reducible rfl
    try simp only [Act.put, List.setIfInBounds_toArray, List.set_cons_zero, List.set_cons_succ]
    refine skipA (i := 13) rfl (by kernel_rfl) (by kernel_rfl) (by kernel_rfl) (fun _ _ _ h => h) (by rfl) (by assumption) ?_
    try simp only [Act.put, List.setIfInBounds_toArray, List.set_cons_zero, List.set_cons_succ]
    refine skipA (i := 14) rfl (by kernel_rfl) (by kernel_rfl) (by kernel_rfl) (fun _ _ _ h => h) (by rfl) (by assumption) ?_
    try simp only [Act.put, List.setIfInBounds_toArray, List.set_cons_zero, List.set_cons_succ]
    refine skipA (i := 15) rfl (by kernel_rfl) (by kernel_rfl) (by kernel_rfl) (fun _ _ _ h => h) (by rfl) (by assumption) ?_
    try simp only [Act.put, List.setIfInBounds_toArray, List.set_cons_zero, List.set_cons_succ]
    refine takeA (i := 16) (v := ?_) rfl (by kernel_rfl) (by kernel_rfl) (by kernel_rfl) (fun _ _ _ h => h) (by rfl) (by assumption) ?_ ?_
    rotate_left
    · intro w hSw; (try dsimp only at hSw); go_simp <;> with_reducible rfl
    try simp only [Act.put, List.setIfInBounds_toArray, List.set_cons_zero, List.set_cons_succ]
    refine takeA (i := 17) (v := ?_) rfl (by kernel_rfl) (by kernel_rfl) (by kernel_rfl) (fun _ _ _ h => h) (by rfl) (by assumption) ?_ ?_
    rotate_left
    · intro w hSw; (try dsimp only at hSw); go_simp <;> with_reducible rfl
    try simp only [Act.put, List.setIfInBounds_toArray, List.set_cons_zero, List.set_cons_succ]
    refine wpAnyH_done (by kernel_rfl) ?_ _
    go_wp2
    go_ret
    exact ⟨hS.2, rfl⟩
  · subst hs
    have hS := hqs.1 rfl
    have CC := Lib.hid (fun W (hW : Below w.heap.size w W) => cells_any (S.map Int.toNat) A c w.heap.size W hS.sz (by rw [← hS.cells]; exact h1.rd.below hW))
    rw [List.length_map] at CC
    have hp := hS.sz.prod
    have HQ : Hid (q = true ↔ V.length = Ix.prod (S.map Int.toNat) ∧ qv = true) := by
      show _ ↔ _
      rw [hq, hqv]
      exact ⟨fun h => h.2, fun h => ⟨hS, h⟩⟩
    generalize Ix.prod (S.map Int.toNat) = p at *
    clear hq hqs hqv hS h h1 h2 hi i3
    by_cases hl : V.length = p
    · have HL := Lib.hid hl
      have hqq : q = qv := by rw [Bool.eq_iff_iff, HQ.out]; exact ⟨fun h => h.2, fun h => ⟨hl, h⟩⟩
      subst hqq
      rw [← hl] at CC
      clear hl HQ HL
      go_enter Tryz.func31, Tryz.ntmps31
      go_wp2_with fail
      go_region_held3 (fun X => (X.cell? ⟨w.heap.size, 0, none⟩ = some (.slice A S.length c) ∧ X.cell? ⟨w.heap.size, 1, none⟩ = some (.slice A' V.length c')))
        (first | with_reducible exact bkA k1 | go_keep)
        (first
          | (go_at_call 29; ((with_reducible refine (VS1.out _ hA0.drew).mono ?_)); rintro e w' ⟨rfl, rfl⟩)
          | (go_at_call 84; ((with_reducible refine (CC.out _ hA0.drew).mono ?_)); rintro e w' ⟨rfl, rfl⟩)
          | (go_at_call 85; ((with_reducible refine (VV.out _ hA0.drew).mono ?_)); rintro e w1 ⟨hb1, rfl⟩; have k1 := k0.drew.below hb1 (by simp)))
      go_wp2
      go_ret
      exact ⟨hA0.drew.trans (hb1.mono (by simp)), rfl⟩
    · have hqf : q = false := by
        cases hh : q with
        | false => rfl
        | true => exact absurd (HQ.out.1 hh).1 hl
      subst hqf
      have hl1 : ¬ (V.length : Int) = (p : Int) := by omega
      have hl2 : ((V.length : Int) == (p : Int)) = false := by simpa using hl1
      clear HQ VV
      go_enter Tryz.func31, Tryz.ntmps31
      go_wp2_with fail
      refine wp_region_held_drew (S := fun X => (X.cell? ⟨w.heap.size, 0, none⟩ = some (.slice A S.length c) ∧ X.cell? ⟨w.heap.size, 1, none⟩ = some (.slice A' V.length c')) ∧ Below w.heap.size w X) (by kernel_rfl) ⟨⟨d0, d1⟩, hA0.drew⟩ (fun hS => ?_)
      clear d0 d1 hA0 k0
      refine takeA (i := 0) (v := ?_) rfl (by kernel_rfl) (by kernel_rfl) (by kernel_rfl) (fun _ _ _ h => h) (by rfl) (by assumption) ?_ ?_
      rotate_left
      · intro w hSw; (try dsimp only at hSw); go_simp <;> with_reducible rfl
      try simp only [Act.put, List.setIfInBounds_toArray, List.set_cons_zero, List.set_cons_succ]
      refine takeA (i := 1) (v := ?_) rfl (by kernel_rfl) (by kernel_rfl) (by kernel_rfl) (fun _ _ _ h => h) (by rfl) (by assumption) ?_ ?_
      rotate_left
      · intro w hSw; (try dsimp only at hSw); go_simp <;> with_reducible rfl
      try simp only [Act.put, List.setIfInBounds_toArray, List.set_cons_zero, List.set_cons_succ]
      refine stepA (i := 2) rfl (by kernel_rfl) (fun K0 hK0 => ?_)
      go_simp
      refine (VS1.out _ hS.2).mono ?_
      rintro e w' ⟨rfl, rfl⟩
      dsimp only
      refine hK0.out _ _ hS (fun _ => ?_)
      clear hK0 K0
      try simp only [Act.put, List.setIfInBounds_toArray, List.set_cons_zero, List.set_cons_succ]
      refine takeA (i := 3) (v := ?_) rfl (by kernel_rfl) (by kernel_rfl) (by kernel_rfl) (fun _ _ _ h => h) (by rfl) (by assumption) ?_ ?_
      rotate_left
      · intro w hSw; (try dsimp only at hSw); go_simp <;> with_reducible rfl
      try simp only [Act.put, List.setIfInBounds_toArray, List.set_cons_zero, List.set_cons_succ]
      refine takeA (i := 4) (v := ?_) rfl (by kernel_rfl) (by kernel_rfl) (by kernel_rfl) (fun _ _ _ h => h) (by rfl) (by assumption) ?_ ?_
      rotate_left
      · intro w hSw; (try dsimp only at hSw); go_simp <;> with_reducible rfl
      try simp only [Act.put, List.setIfInBounds_toArray, List.set_cons_zero, List.set_cons_succ]
      refine takeA (i := 5) (v := ?_) rfl (by kernel_rfl) (by kernel_rfl) (by kernel_rfl) (fun _ _ _ h => h) (by rfl) (by assumption) ?_ ?_
      rotate_left
      · intro w hSw; (try dsimp only at hSw); go_simp <;> with_reducible rfl
      try simp only [Act.put, List.setIfInBounds_toArray, List.set_cons_zero, List.set_cons_succ]
      refine takeA (i := 6) (v := ?_) rfl (by kernel_rfl) (by kernel_rfl) (by kernel_rfl) (fun _ _ _ h => h) (by rfl) (by assumption) ?_ ?_
      rotate_left
      · intro w hSw; (try dsimp only at hSw); go_simp <;> with_reducible rfl
      try simp only [Act.put, List.setIfInBounds_toArray, List.set_cons_zero, List.set_cons_succ]
      refine takeA (i := 7) (v := ?_) rfl (by kernel_rfl) (by kernel_rfl) (by kernel_rfl) (fun _ _ _ h => h) (by rfl) (by assumption) ?_ ?_
      rotate_left
      · intro w hSw; (try dsimp only at hSw); go_simp <;> with_reducible rfl
      try simp only [Act.put, List.setIfInBounds_toArray, List.set_cons_zero, List.set_cons_succ]
      refine takeA (i := 8) (v := ?_) rfl (by kernel_rfl) (by kernel_rfl) (by kernel_rfl) (fun _ _ _ h => h) (by rfl) (by assumption) ?_ ?_
      rotate_left
      · intro w hSw; (try dsimp only at hSw); go_simp <;> with_reducible rfl
      try simp only [Act.put, List.setIfInBounds_toArray, List.set_cons_zero, List.set_cons_succ]
      refine stepA (i := 9) rfl (by kernel_rfl) (fun K0 hK0 => ?_)
      go_simp
      refine (CC.out _ hS.2).mono ?_
      rintro e w' ⟨rfl, rfl⟩
      dsimp only
      refine hK0.out _ _ hS (fun _ => ?_)
      clear hK0 K0
      try simp only [Act.put, List.setIfInBounds_toArray, List.set_cons_zero, List.set_cons_succ]
      refine takeA (i := 10) (v := ?_) rfl (by kernel_rfl) (by kernel_rfl) (by kernel_rfl) (fun _ _ _ h => h) (by rfl) (by assumption) ?_ ?_
      rotate_left
      · intro w hSw; (try dsimp only at hSw); go_simp <;> with_reducible rfl
      try simp only [Act.put, List.setIfInBounds_toArray, List.set_cons_zero, List.set_cons_succ]
      try simp only [hl2]
      refine takeA (i := 11) (v := ?_) rfl (by kernel_rfl) (by kernel_rfl) (by kernel_rfl) (fun _ _ _ h => h) (by rfl) (by assumption) ?_ ?_
      rotate_left
      · intro w hSw; (try dsimp only at hSw); go_simp <;> with_reducible rfl
      try simp only [Act.put, List.setIfInBounds_toArray, List.set_cons_zero, List.set_cons_succ]
      refine takeA (i := 12) (v := ?_) rfl (by kernel_rfl) (by kernel_rfl) (by kernel_rfl) (fun _ _ _ h => h) (by rfl) (by assumption) ?_ ?_
      rotate_left
      · intro w hSw; (try dsimp only at hSw); go_simp <;> with_reducible rfl
      try simp only [Act.put, List.setIfInBounds_toArray, List.set_cons_zero, List.set_cons_succ]
      refine skipA (i := 13) rfl (by kernel_rfl) (by kernel_rfl) (by kernel_rfl) (fun _ _ _ h => h) (by rfl) (by assumption) ?_
      try simp only [Act.put, List.setIfInBounds_toArray, List.set_cons_zero, List.set_cons_succ]
      refine skipA (i := 14) rfl (by kernel_rfl) (by kernel_rfl) (by kernel_rfl) (fun _ _ _ h => h) (by rfl) (by assumption) ?_
      try simp only [Act.put, List.setIfInBounds_toArray, List.set_cons_zero, List.set_cons_succ]
      refine skipA (i := 15) rfl (by kernel_rfl) (by kernel_rfl) (by kernel_rfl) (fun _ _ _ h => h) (by rfl) (by assumption) ?_
      try simp only [Act.put, List.setIfInBounds_toArray, List.set_cons_zero, List.set_cons_succ]
      refine takeA (i := 16) (v := ?_) rfl (by kernel_rfl) (by kernel_rfl) (by kernel_rfl) (fun _ _ _ h => h) (by rfl) (by assumption) ?_ ?_
      rotate_left
      · intro w hSw; (try dsimp only at hSw); go_simp <;> with_reducible rfl
      try simp only [Act.put, List.setIfInBounds_toArray, List.set_cons_zero, List.set_cons_succ]
      refine takeA (i := 17) (v := ?_) rfl (by kernel_rfl) (by kernel_rfl) (by kernel_rfl) (fun _ _ _ h => h) (by rfl) (by assumption) ?_ ?_
      rotate_left
      · intro w hSw; (try dsimp only at hSw); go_simp <;> with_reducible rfl
      try simp only [Act.put, List.setIfInBounds_toArray, List.set_cons_zero, List.set_cons_succ]
      refine wpAnyH_done (by kernel_rfl) ?_ _
      go_wp2
      go_ret
      exact ⟨hS.2, rfl⟩
end Go.Proofs.YtgnffedncjjkfaaGreatDoor

namespace Go.Proofs.YtgnffedncjjkfaaGreatDoor
open Go.RowKit Ix Ar

theorem strides_drop {S : List Nat} {j : Nat} (h : j < S.length) : (strides S).drop j = Ix.prod (S.drop (j + 1)) :: (strides S).drop (j + 1) := by
  have hl : j < (strides S).length := by rw [strides_len]; exact h
  rw [List.drop_eq_getElem_cons hl]
  congr 1
  have := strides_at S j h
  rw [List.getD_eq_getElem?_getD, List.getElem?_eq_getElem hl] at this
  exact this
theorem Sz4.drop {S : List Nat} (h : Sz4 S) (k : Nat) : Sz4 (S.drop k) := ⟨by have := h.len; rw [List.length_drop]; omega, fun s hs => h.le s (List.mem_of_mem_drop hs)⟩

set_option maxRecDepth 100000 in
set_option maxHeartbeats 1600000 in
theorem strides_any (S : List Nat) (A : Option Addr) (c : Nat) (w : World) (hS : Sz4 S) (hr : Rd w w.heap.size A (ints .i64 S)) :
    Calls Tryz.prog 60 #[.slice A S.length c] w fun e w' => Below w.heap.size w w' ∧ e = .returned (.slice (some ⟨w.heap.size, 0, none⟩) S.length S.length) ∧ Bk w' w.heap.size 3 (ints .i64 (strides S)).toArray := by
  have hl4 := hS.len
  obtain ⟨i0, hi0, hz0, hz1, hz2⟩ := info_parts Tryz.int_info
  have hmk := make_ints (P := Tryz.prog) 22 3 i0 .i64 Tryz.underlying22 hi0 hz0 hz1 (by omega) .i64 .i64 S.length (S.length : Int) rfl (by omega)
  go_enter Tryz.func60, Tryz.ntmps60
  go_wp2_with fail
  have hB1 := below_alloc w (.cells (ints .i64 (List.replicate S.length 0)).toArray 3)
  have k1 := Bk.new w 3 (ints .i64 (List.replicate S.length 0)).toArray
  have HR := Lib.hid hr
  clear hmk hr
  generalize w.alloc (.cells (ints .i64 (List.replicate S.length 0)).toArray 3) = w1 at *
  go_loopw [4, 5] (fun n j wr => ∃ m : Nat, m ≤ S.length ∧ j = .int .i64 ((m : Int) - 1) ∧ n = .int .i64 (Ix.prod (S.drop m) : Nat) ∧ Bk wr w.heap.size 3 (ints .i64 (List.replicate m 0 ++ (strides S).drop m)).toArray ∧ Below w.heap.size w wr) (fun _ j _ => (intOf j + 1).toNat)
  case atStart => exact ⟨S.length, Nat.le_refl _, rfl, by rw [List.drop_length]; rfl, by rw [List.drop_of_length_le (by rw [strides_len]; exact Nat.le_refl _), List.append_nil]; exact k1, hB1⟩
  case round =>
    obtain ⟨m, hm, rfl, rfl, kb, hB⟩ := hrel
    rcases m with _ | j
    · have k0 : Bk wr w.heap.size 3 (ints .i64 (strides S)).toArray := kb
      clear kb
      go_wp2
      go_ret
      exact ⟨hB, rfl, k0⟩
    · have e : (((j + 1 : Nat) : Int) - 1) = (j : Int) := by omega
      rw [e]
      have hj : j < S.length := by omega
      obtain ⟨ad, rfl, hab, hcs⟩ := (HR.out.below hB).int hj
      have hs := getD_le hS j
      have hp := (hS.drop (j + 1)).prod
      have hp2 := (hS.drop j).prod
      have HP : Hid (Ix.prod (S.drop j) = S.getD j 0 * Ix.prod (S.drop (j + 1))) := prod_drop hj
      have k4 := kb.put j (.int .i64 ((Ix.prod (S.drop (j + 1)) : Nat) : Int))
      rw [ints_set] at k4
      have HL : Hid ((List.replicate (j + 1) 0 ++ (strides S).drop (j + 1)).set j (Ix.prod (S.drop (j + 1))) = List.replicate j 0 ++ (strides S).drop j) := by
        show _ = _
        rw [strides_drop hj, List.replicate_succ', List.append_assoc]
        exact set_mid _ _ _ _ _ (by simp)
      rw [HL.out] at k4
      have hcs4 := (World.cell?_setCell_other wr ⟨w.heap.size, j, none⟩ (ad.add j) (.int .i64 ((Ix.prod (S.drop (j + 1)) : Nat) : Int)) (fun e => by have h1 := addr_block ad j; rw [← e] at h1; have h2 : w.heap.size = ad.block := h1; omega)).trans hcs
      have hB4 := hB.setCell (p := ⟨w.heap.size, j, none⟩) (Nat.le_refl _) (.int .i64 ((Ix.prod (S.drop (j + 1)) : Nat) : Int))
      have hc0 := kb.cell j
      rw [ints_getD .i64 _ (by rw [List.length_append, List.length_replicate]; omega)] at hc0
      have hf0 := kb.frozen j
      have hk4 := Lib.hid k4
      rw [HP.out] at hp2
      obtain ⟨q, hq⟩ : ∃ q : Nat, q = Ix.prod (S.drop j) := ⟨_, rfl⟩
      have HQ := Lib.hid hq
      rw [HP.out] at hq
      generalize Ix.prod (S.drop (j + 1)) = p at *
      generalize S.getD j 0 = s at *
      have ww : IntKind.i64.wrap ((p : Int) * (s : Int)) = (q : Int) := by
        rw [show (p : Int) * (s : Int) = (q : Int) by rw [hq, Nat.mul_comm]; push_cast; rfl]
        exact IntWalk.i64_in _ (by rw [hq]; omega)
      clear hq hp2 HP e kb k4 HL hcs
      go_wp2
      go_roundw
      case rel => exact ⟨j, by omega, rfl, by rw [← HQ.out], hk4.out, hB4⟩
      case measure => simp [intOf]

/-- Ints read at their places. -/
theorem dot_snoc : ∀ (I D : List Nat) (i d : Nat), I.length = D.length → dot (I ++ [i]) (D ++ [d]) = dot I D + i * d
  | [], [], i, d, _ => by show i * d + 0 = 0 + i * d; omega
  | [], _ :: _, _, _, h => by simp at h
  | _ :: _, [], _, _, h => by simp at h
  | x :: I, y :: D, i, d, h => by
    show x * y + dot (I ++ [i]) (D ++ [d]) = x * y + dot I D + i * d
    rw [dot_snoc I D i d (by simpa using h)]; omega
theorem dot_take {I D : List Nat} (h : I.length = D.length) {k : Nat} (hk : k < I.length) : dot (I.take (k + 1)) (D.take (k + 1)) = dot (I.take k) (D.take k) + I.getD k 0 * D.getD k 0 := by
  rw [take_getD hk, take_getD (by omega), dot_snoc _ _ _ _ (by rw [List.length_take, List.length_take]; omega)]
theorem dot_le {M : Nat} : ∀ (I D : List Nat), dot I D ≤ M → ∀ k, dot (I.take k) (D.take k) ≤ M
  | [], _, _, k => by simp [dot]
  | _ :: _, [], _, k => by cases k <;> simp [dot]
  | x :: I, y :: D, h, 0 => Nat.zero_le _
  | x :: I, y :: D, h, k + 1 => by
    have h : x * y + dot I D ≤ M := h
    have := dot_le (M := M - x * y) I D (by omega) k
    show x * y + dot (I.take k) (D.take k) ≤ M
    omega

set_option maxRecDepth 100000 in
set_option maxHeartbeats 1600000 in
/-- The place of an index, for strides d. -/
theorem place_any (I D : List Nat) (A A' : Option Addr) (c c' B B' : Nat) (w : World) (hl : I.length = D.length) (h4 : I.length ≤ 4) (hd : dot I D ≤ 1000000000000) (hr : Rd w B A (ints .i64 I)) (hr' : Rd w B' A' (ints .i64 D)) :
    Calls Tryz.prog 64 #[.slice A I.length c, .slice A' D.length c'] w fun e w' => w = w' ∧ e = .returned (.int .i64 (dot I D : Nat)) := by
  have HL := Lib.hid hl
  rw [← hl]
  clear hl
  go_enter Tryz.func64, Tryz.ntmps64
  go_wp2_with fail
  go_loop [5, 10] (fun n i => ∃ k : Nat, k ≤ I.length ∧ i = .int .i64 k ∧ n = .int .i64 (dot (I.take k) (D.take k) : Nat)) (fun _ i => I.length - (intOf i).toNat)
  case atStart => exact ⟨0, Nat.zero_le _, rfl, rfl⟩
  case round =>
    obtain ⟨k, hk, rfl, rfl⟩ := hrel
    by_cases hlt : k < I.length
    · obtain ⟨ad, rfl, hab, hcell⟩ := hr.int hlt
      obtain ⟨ad', rfl, hab', hcell'⟩ := hr'.int (j := k) (by rw [← HL.out]; exact hlt)
      have hp := dot_le I D hd k
      have hp2 := dot_le I D hd (k + 1)
      have HP : Hid (dot (I.take (k + 1)) (D.take (k + 1)) = dot (I.take k) (D.take k) + I.getD k 0 * D.getD k 0) := dot_take HL.out hlt
      rw [HP.out] at hp2
      generalize dot (I.take k) (D.take k) = p at *
      generalize I.getD k 0 = x at *
      generalize D.getD k 0 = y at *
      obtain ⟨q, hq⟩ : ∃ q : Nat, q = x * y := ⟨_, rfl⟩
      rw [← hq] at hp2 HP
      have ww : IntKind.i64.wrap ((x : Int) * (y : Int)) = (q : Int) := by
        rw [show (x : Int) * (y : Int) = (q : Int) by rw [hq]; push_cast; rfl]
        exact IntWalk.i64_in _ (by omega)
      clear hq
      go_wp2
      go_round
      case rel => exact ⟨k + 1, by omega, by go_num, by rw [HP.out]; go_num⟩
      case measure => simp [intOf]; omega
    · have HE : Hid (dot (I.take k) (D.take k) = dot I D) := by
        show _ = _
        rw [List.take_of_length_le (by omega), List.take_of_length_le (by rw [← HL.out]; omega)]
      rw [HE.out]
      clear HE
      go_wp2
      go_ret
      exact ⟨rfl, rfl⟩
end Go.Proofs.YtgnffedncjjkfaaGreatDoor

namespace Go.Proofs.YtgnffedncjjkfaaGreatDoor
open Go.RowKit Ix Ar

/-- A slab's cells. -/
def krow (l : List Cut) : List Value := l.flatMap fun c => [.int .i64 c.1, .int .i64 c.2.1, .int .i64 c.2.2]
theorem krow_len (l : List Cut) : (krow l).length = l.length * 3 := by
  induction l with
  | nil => rfl
  | cons s S ih => show ([_, _, _] ++ krow S).length = _; rw [List.length_append, ih]; simp; omega
theorem krow_app (l m : List Cut) : krow (l ++ m) = krow l ++ krow m := List.flatMap_append
theorem krow_at {l : List Cut} {i : Nat} {c : Cut} (h : l[i]? = some c) (j : Nat) (hj : j < 3) : (krow l)[i * 3 + j]? = [Value.int .i64 c.1, .int .i64 c.2.1, .int .i64 c.2.2][j]? := by
  induction l generalizing i with
  | nil => simp at h
  | cons q S ih =>
    show ([_, _, _] ++ krow S)[i * 3 + j]? = _
    cases i with
    | zero =>
      simp at h; subst h
      rw [Nat.zero_mul, Nat.zero_add, List.getElem?_append_left (by simp; omega)]
    | succ i =>
      rw [List.getElem?_append_right (by simp; omega), show (i + 1) * 3 + j - [Value.int .i64 q.1, .int .i64 q.2.1, .int .i64 q.2.2].length = i * 3 + j by simp; omega]
      exact ih (by simpa using h)
theorem addr_plus' (ad : Addr) (m j : Nat) : (⟨(ad.add m).block, (ad.add m).off + (j + 1), none⟩ : Addr) = ad.add (m + (j + 1)) := by
  unfold Addr.add
  rw [if_neg (show m + (j + 1) ≠ 0 by omega)]
  by_cases h : m = 0
  · subst h; simp
  · simp [h, Nat.add_assoc]
/-- Three ints from a place on. -/
structure Tri (w : World) (p : Addr) (c : Cut) : Prop where
  c0 : w.cell? p = some (.int .i64 c.1)
  c1 : w.cell? ⟨p.block, p.off + 1, none⟩ = some (.int .i64 c.2.1)
  c2 : w.cell? ⟨p.block, p.off + 2, none⟩ = some (.int .i64 c.2.2)
theorem Rd.kut {w : World} {B : Nat} {A : Option Addr} {l : List Cut} (h : Rd w B A (krow l)) {i : Nat} (hi : i < l.length) : ∃ ad, A = some ad ∧ ad.block < B ∧ Tri w (ad.add (i * 3)) l[i] := by
  have hc := List.getElem?_eq_getElem hi
  have h0 := krow_at hc 0 (by omega)
  obtain ⟨ad, e, hb, hx⟩ := h (by intro e; rw [e] at h0; simp at h0)
  refine ⟨ad, e, hb, hx _ _ h0, ?_, ?_⟩
  · rw [addr_plus' ad (i * 3) 0]; exact hx _ _ (krow_at hc 1 (by omega))
  · rw [addr_plus' ad (i * 3) 1]; exact hx _ _ (krow_at hc 2 (by omega))
/-- A slab in memory. -/
def IsK (w : World) (B : Nat) (v : Value) (l : List Cut) : Prop := ∃ A c, v = .slice A l.length c ∧ l.length ≤ c ∧ Rd w B A (krow l)
section
variable {w w' : World} {B B' : Nat} {v : Value} {l : List Cut}
theorem IsK.more (h : IsK w B v l) (hB : B ≤ B') : IsK w B' v l := by obtain ⟨A, c, e, h1, h3⟩ := h; exact ⟨A, c, e, h1, h3.more hB⟩
theorem IsK.below (h : IsK w B v l) (hb : Below B w w') : IsK w' B v l := by obtain ⟨A, c, e, h1, h3⟩ := h; exact ⟨A, c, e, h1, h3.below hb⟩
theorem IsK.next (h : IsK w w.heap.size v l) (hb : Below w.heap.size w w') : IsK w' w'.heap.size v l := (h.below hb).more hb.size
theorem IsK.form (h : IsK w B v l) : ∃ A c, v = .slice A l.length c ∧ l.length ≤ c := by obtain ⟨A, c, e, h1, _⟩ := h; exact ⟨A, c, e, h1⟩
theorem IsK.rd {A : Option Addr} {n c : Nat} (h : IsK w B (.slice A n c) l) : Rd w B A (krow l) := by
  obtain ⟨A', c', e, _, h3⟩ := h; cases e; exact h3
theorem IsK.nil (w : World) (B : Nat) : IsK w B (.slice none 0 0) [] := ⟨none, 0, rfl, Nat.le_refl _, Rd.nil⟩
end
/-- Ints of a machine. -/
def In64 (c : Cut) : Prop := (-9223372036854775808 ≤ c.1 ∧ c.1 ≤ 9223372036854775807) ∧ (-9223372036854775808 ≤ c.2.1 ∧ c.2.1 ≤ 9223372036854775807) ∧ (-9223372036854775808 ≤ c.2.2 ∧ c.2.2 ≤ 9223372036854775807)

set_option maxRecDepth 100000 in
set_option maxHeartbeats 6400000 in
theorem fits_any (C : List Cut) (S : List Int) (A A' : Option Addr) (c c' : Nat) (w : World) (hr : Rd w w.heap.size A (krow C)) (hr' : Rd w w.heap.size A' (zints S)) (hS : ∀ s ∈ S, 0 ≤ s ∧ s ≤ 1024) (hC : ∀ x ∈ C, In64 x) (hL : C.length ≤ maxLen) (q : Bool) (hq : q = true ↔ Fit S C) :
    Calls Tryz.prog 59 #[.slice A C.length c, .slice A' S.length c'] w fun e w' => Below w.heap.size w w' ∧ e = .returned (.bool q) := by
  unfold maxLen at hL
  by_cases hlen : C.length = S.length
  rotate_left
  · have hqf : q = false := by
      cases hh : q with
      | false => rfl
      | true => exact absurd (fit_len (hq.1 hh)) hlen
    have hne : ((C.length : Int) != (S.length : Int)) = true := by simp; omega
    subst hqf
    clear hq hS hC hlen
    go_enter Tryz.func59, Tryz.ntmps59
    go_wp2
    go_ret
    exact ⟨Below.refl _ _, rfl⟩
  obtain ⟨n, hn⟩ : ∃ n, n = C.length := ⟨_, rfl⟩
  have HQ : Hid (q = true ↔ ∀ j, j < n → FitC (C.getD j (0, 0, 0)) (S.getD j 0)) := by
    show _ ↔ _
    rw [hq, fit_iff, hn, ← hlen]
    exact ⟨fun h => h.2, fun h => ⟨rfl, h⟩⟩
  have HS : Hid (∀ j, 0 ≤ S.getD j 0 ∧ S.getD j 0 ≤ 1024) := fun j => by
    rcases Nat.lt_or_ge j S.length with h | h
    · rw [List.getD_eq_getElem?_getD, List.getElem?_eq_getElem h]; exact hS _ (List.getElem_mem _)
    · rw [List.getD_eq_getElem?_getD, List.getElem?_eq_none h]; decide
  have HC : Hid (∀ j, In64 (C.getD j (0, 0, 0))) := fun j => by
    rcases Nat.lt_or_ge j C.length with h | h
    · rw [List.getD_eq_getElem?_getD, List.getElem?_eq_getElem h]; exact hC _ (List.getElem_mem _)
    · rw [List.getD_eq_getElem?_getD, List.getElem?_eq_none h]; unfold In64; decide
  rw [← hlen, ← hn]
  have HL := Lib.hid hlen
  have HN := Lib.hid hn
  have hn63 : n ≤ 9223372036854775807 := by omega
  clear hq hS hC hlen hn hL
  go_enter Tryz.func59, Tryz.ntmps59
  go_wp2_with fail
  go_loopw [14] (fun i wr => ∃ k : Nat, k ≤ n ∧ i = .int .i64 k ∧ Hid (∀ j, j < k → FitC (C.getD j (0, 0, 0)) (S.getD j 0)) ∧ Below w.heap.size w wr) (fun i _ => n - (intOf i).toNat)
  case atStart => exact ⟨0, Nat.zero_le _, rfl, (fun j hj => absurd hj (Nat.not_lt_zero _)), Below.refl _ _⟩
  case round =>
    obtain ⟨k, hk, rfl, HT, hB⟩ := hrel
    by_cases hlt : k < n
    · obtain ⟨ad, rfl, hab, t0, t1, t2⟩ := (hr.below hB).kut (i := k) (by rw [← HN.out]; exact hlt)
      obtain ⟨ad', rfl, hab', hs⟩ := (hr'.below hB).zint (j := k) (by rw [← HL.out, ← HN.out]; exact hlt)
      have hsb := HS.out k
      have hcb := HC.out k
      have HNX : Hid (FitC (C.getD k (0, 0, 0)) (S.getD k 0) → ∀ j, j < k + 1 → FitC (C.getD j (0, 0, 0)) (S.getD j 0)) := fun h j hj => by
        rcases Nat.lt_or_ge j k with h1 | h1
        · exact HT.out j h1
        · obtain rfl : j = k := by omega
          exact h
      have HBD : Hid (¬ FitC (C.getD k (0, 0, 0)) (S.getD k 0) → q = false) := fun h => by
        cases hh : q with
        | false => rfl
        | true => exact absurd (HQ.out.1 hh k hlt) h
      have e1 : C[k]'(by rw [← HN.out]; exact hlt) = C.getD k (0, 0, 0) := by rw [List.getD_eq_getElem?_getD, List.getElem?_eq_getElem (by rw [← HN.out]; exact hlt)]; rfl
      have e2 : S[k]'(by rw [← HL.out, ← HN.out]; exact hlt) = S.getD k 0 := by rw [List.getD_eq_getElem?_getD, List.getElem?_eq_getElem (by rw [← HL.out, ← HN.out]; exact hlt)]; rfl
      rw [e1] at t0 t1 t2
      rw [e2] at hs
      clear e1 e2
      generalize C.getD k (0, 0, 0) = x at *
      generalize S.getD k 0 = s at *
      obtain ⟨a, b, d⟩ := x
      obtain ⟨⟨hc1, hc2⟩, ⟨hc3, hc4⟩, hc5, hc6⟩ := hcb
      simp only at hc1 hc2 hc3 hc4 hc5 hc6
      simp only at t0 t1 t2
      go_wp2_with fail
      have hB1 := hB.alloc (by have := hB.size; omega) (.cells #[.int .i64 a, .int .i64 b, .int .i64 d] 80)
      have kx := Bk.new wr 80 #[Value.int .i64 a, .int .i64 b, .int .i64 d]
      have hs1 := ((below_alloc wr (.cells #[.int .i64 a, .int .i64 b, .int .i64 d] 80)).cell (p := ad'.add k) (by rw [addr_block]; have := hB.size; omega)).trans hs
      have x0 : _ = some (Value.int .i64 a) := kx.cell 0
      have x1 : _ = some (Value.int .i64 b) := kx.cell 1
      have x2 : _ = some (Value.int .i64 d) := kx.cell 2
      clear t0 t1 t2 hs kx hB
      generalize wr.alloc (.cells #[.int .i64 a, .int .i64 b, .int .i64 d] 80) = w1 at *
      generalize wr.heap.size = g at *
      have HFC : Hid (FitC (a, b, d) s ↔ 0 ≤ a ∧ 0 ≤ b ∧ 1 ≤ d ∧ a ≤ s ∧ (0 < b → a < s ∧ b - 1 ≤ (s - 1 - a) / d)) := Iff.rfl
      by_cases c1 : a < 0
      · have y1 : decide (a < 0) = true := decide_eq_true c1
        have hqf := HBD.out fun h => by have := HFC.out.1 h; omega
        subst hqf
        clear HNX HBD HFC
        go_quiet (fail)
        go_wp2
        go_ret
        exact ⟨below_drewN hB1 _, rfl⟩
      have y1 : decide (a < 0) = false := decide_eq_false c1
      by_cases c2 : b < 0
      · have y2 : decide (b < 0) = true := decide_eq_true c2
        have hqf := HBD.out fun h => by have := HFC.out.1 h; omega
        subst hqf
        clear HNX HBD HFC
        go_quiet (fail)
        go_wp2
        go_ret
        exact ⟨below_drewN hB1 _, rfl⟩
      have y2 : decide (b < 0) = false := decide_eq_false c2
      by_cases c3 : d < 1
      · have y3 : decide (d < 1) = true := decide_eq_true c3
        have hqf := HBD.out fun h => by have := HFC.out.1 h; omega
        subst hqf
        clear HNX HBD HFC
        go_quiet (fail)
        go_wp2
        go_ret
        exact ⟨below_drewN hB1 _, rfl⟩
      have y3 : decide (d < 1) = false := decide_eq_false c3
      by_cases c4 : s < a
      · have y4 : decide (s < a) = true := decide_eq_true c4
        have hqf := HBD.out fun h => by have := HFC.out.1 h; omega
        subst hqf
        clear HNX HBD HFC
        go_quiet (fail)
        go_wp2
        go_ret
        exact ⟨below_drewN hB1 _, rfl⟩
      have y4 : decide (s < a) = false := decide_eq_false c4
      go_quiet (fail)
      clear y1 y2 y3 y4
      have hB2 := below_drewN hB1 nq
      have hs2 : (w1.drewN nq).cell? (ad'.add k) = some (.int .i64 s) := hs1
      have z0 : (w1.drewN nq).cell? ⟨g, 0, none⟩ = some (.int .i64 a) := x0
      have z1 : (w1.drewN nq).cell? ⟨g, 1, none⟩ = some (.int .i64 b) := x1
      have z2 : (w1.drewN nq).cell? ⟨g, 2, none⟩ = some (.int .i64 d) := x2
      clear hs1 x0 x1 x2 hB1
      generalize w1.drewN nq = w2 at *
      go_wp2_with fail
      by_cases c5 : 0 < b
      · have y5 : decide (0 < b) = true := decide_eq_true c5
        by_cases c6 : s ≤ a
        · have y6 : decide (s ≤ a) = true := decide_eq_true c6
          have hqf := HBD.out fun h => by have := (HFC.out.1 h).2.2.2.2 c5; omega
          subst hqf
          clear HNX HBD HFC
          go_quiet (fail)
          go_wp2
          go_ret
          exact ⟨below_drewN hB2 _, rfl⟩
        · have y6 : decide (s ≤ a) = false := decide_eq_false c6
          have w1' : IntKind.i64.wrap (b - 1) = b - 1 := IntWalk.i64_in _ (by omega)
          have w2' : IntKind.i64.wrap (s - 1) = s - 1 := IntWalk.i64_in _ (by omega)
          have w3' : IntKind.i64.wrap (s - 1 - a) = s - 1 - a := IntWalk.i64_in _ (by omega)
          have w5' : (s - 1 - a).tdiv d = (s - 1 - a) / d := Int.tdiv_eq_ediv_of_nonneg (by omega)
          have w6' : 0 ≤ (s - 1 - a) / d := Int.ediv_nonneg (by omega) (by omega)
          have w7' : (s - 1 - a) / d ≤ s - 1 - a := Int.ediv_le_self _ (by omega)
          have w4' : IntKind.i64.wrap ((s - 1 - a) / d) = (s - 1 - a) / d := IntWalk.i64_in _ (by omega)
          generalize (s - 1 - a) / d = qd at *
          by_cases c7 : qd < b - 1
          · have y7 : decide (qd < b - 1) = true := decide_eq_true c7
            have hqf := HBD.out fun h => by have := (HFC.out.1 h).2.2.2.2 c5; omega
            subst hqf
            clear HNX HBD HFC
            go_quiet (fail)
            go_wp2
            go_ret
            exact ⟨below_drewN hB2 _, rfl⟩
          · have y7 : decide (qd < b - 1) = false := decide_eq_false c7
            have HOK := Lib.hid (HNX.out (HFC.out.2 ⟨by omega, by omega, by omega, by omega, fun h => ⟨by omega, by omega⟩⟩))
            clear HNX HBD HFC
            go_quiet (fail)
            have hB3 := below_drewN hB2 nq
            go_wp2
            go_roundw
            case rel => exact ⟨k + 1, by omega, by go_num, HOK.out, hB3⟩
            case measure => simp [intOf]; omega
      · have y5 : decide (0 < b) = false := decide_eq_false c5
        have HOK := Lib.hid (HNX.out (HFC.out.2 ⟨by omega, by omega, by omega, by omega, fun h => absurd h c5⟩))
        clear HNX HBD HFC
        go_quiet (fail)
        have hB3 := below_drewN hB2 nq
        go_wp2
        go_roundw
        case rel => exact ⟨k + 1, by omega, by go_num, HOK.out, hB3⟩
        case measure => simp [intOf]; omega
    · have hqt : q = true := HQ.out.2 fun j hj => HT.out j (by omega)
      subst hqt
      clear HQ HT
      go_wp2
      go_ret
      exact ⟨hB, rfl⟩
end Go.Proofs.YtgnffedncjjkfaaGreatDoor

namespace Go.Proofs.YtgnffedncjjkfaaGreatDoor
open Go.RowKit Ix Ar

/-- The counts of a slab, as ints. -/
def cntI (C : List Cut) : List Int := C.map fun c => c.2.1
theorem cntI_len (C : List Cut) : (cntI C).length = C.length := List.length_map _
theorem cntI_take {C : List Cut} {k : Nat} (h : k < C.length) : cntI (C.take (k + 1)) = cntI (C.take k) ++ [C[k].2.1] := by
  unfold cntI
  rw [take_snocI h, List.map_append]; rfl

theorem rd_new2 (w : World) (o : Obj) (T : TypeId) (u : Value) : Rd ((w.alloc o).alloc (.cells #[u] T)) (w.heap.size + 2) (some ⟨w.heap.size + 1, 0, none⟩) [u] := by
  have := Rd.of_new (w.alloc o) [u] T
  simpa using this
set_option maxRecDepth 100000 in
set_option maxHeartbeats 3200000 in
theorem counts_any (C : List Cut) (A : Option Addr) (c : Nat) (w : World) (hr : Rd w w.heap.size A (krow C)) (hL : C.length ≤ 1000000) :
    Calls Tryz.prog 62 #[.slice A C.length c] w fun e w' => Below w.heap.size w w' ∧ ∃ v, e = .returned v ∧ w'.ownsRow w.heap.size 3 1 v C.length (zints (cntI C)) := by
  obtain ⟨i0, hi0, hz0, hz1, hz2⟩ := info_parts Tryz.int_info
  obtain ⟨n, hn⟩ : ∃ n, n = C.length := ⟨_, rfl⟩
  rw [← hn]
  have HN := Lib.hid hn
  have hL' : n ≤ 1000000 := by omega
  clear hn hL
  go_enter Tryz.func62, Tryz.ntmps62
  go_wp2_with fail
  go_loopw [3, 8] (fun v i wr => ∃ k : Nat, k ≤ n ∧ i = .int .i64 k ∧ wr.ownsRow w.heap.size 3 1 v k (zints (cntI (C.take k))) ∧ Below w.heap.size w wr) (fun _ i _ => n - (intOf i).toNat)
  case atStart => exact ⟨0, Nat.zero_le _, rfl, World.ownsRow_nil _ _ _ _, Below.refl _ _⟩
  case round =>
    obtain ⟨k, hk, rfl, hown, hB⟩ := hrel
    by_cases hlt : k < n
    · have hlt' : k < C.length := by rw [← HN.out]; exact hlt
      obtain ⟨ad, rfl, hab, t0, t1, t2⟩ := (hr.below hB).kut (i := k) hlt'
      have HT := Lib.hid (cntI_take hlt')
      generalize C[k] = x at *
      clear hlt'
      obtain ⟨a, b, d⟩ := x
      simp only at t0 t1 t2 HT
      have hB1 := hB.alloc (by have := hB.size; omega) (.cells #[.int .i64 a, .int .i64 b, .int .i64 d] 80)
      have hown1 := hown.alloc (.cells #[.int .i64 a, .int .i64 b, .int .i64 d] 80)
      have kx := Bk.new wr 80 #[Value.int .i64 a, .int .i64 b, .int .i64 d]
      have x1 : _ = some (Value.int .i64 b) := kx.cell 1
      go_wp2_with (at_builtin; go_loud (have hz := hB1.size; refine wpL_append _ rfl (.tmp 12) (.tmp 15) _ rfl w.heap.size 3 i0 _ 1 8 Tryz.underlying22 hi0 hz0 hz1 hz2 rfl (by omega) _ k _ rfl (hown1.alloc _) _ 1 1 [.int .i64 b] rfl rfl (rd_new2 wr _ _ _) (zints_one [b]) (by unfold maxLen; omega) (by omega) (by simp only [World.size_alloc] at *; omega) ?_; intro v1 w1 hown2 hg1 hat1; have hB2 := below_app (hB1.alloc hz _) hg1 (by simp only [World.size_alloc] at *; omega) (hown1.alloc _) (Nat.le_refl _); clear hg1 hat1))
      have HO : Hid (w1.ownsRow w.heap.size 3 1 v1 (k + 1) (zints (cntI (C.take (k + 1))))) := by
        show w1.ownsRow _ _ _ _ _ _
        rw [HT.out, zints_app]; exact hown2
      clear hown2 hown1 hown HT x1 kx hB1 t0 t1 t2
      go_roundw
      case rel => exact ⟨k + 1, by omega, by go_num, HO.out, hB2⟩
      case measure => simp [intOf]; omega
    · have HE : Hid (wr.ownsRow w.heap.size 3 1 u3 n (zints (cntI C))) := by
        obtain rfl : k = n := by omega
        have := hown
        rwa [List.take_of_length_le (by rw [HN.out]; exact Nat.le_refl _)] at this
      clear hown
      go_wp2
      go_ret
      exact ⟨hB, _, rfl, HE.out⟩

theorem cnt_at {C : List Cut} {k : Nat} (h : k < C.length) : (cnt C).getD k 0 = (C.getD k (0, 0, 0)).2.1.toNat := by
  unfold cnt
  rw [List.getD_eq_getElem?_getD, List.getD_eq_getElem?_getD, List.getElem?_map, List.getElem?_eq_getElem h]; rfl
/-- In the middle of within. -/
def wmid (C : List Cut) (I : List Nat) (k : Nat) : List Nat := (thr C I).take k ++ List.replicate (I.length - k) 0
theorem wmid_next {C : List Cut} {I : List Nat} (h : I.length = C.length) {k : Nat} (hk : k < I.length) : (wmid C I k).set k ((thr C I).getD k 0) = wmid C I (k + 1) := by
  unfold wmid
  have hl := thr_len (C := C) (I := I) h
  rw [take_getD (by omega), List.append_assoc, show I.length - k = (I.length - (k + 1)) + 1 by omega, List.replicate_succ]
  exact set_mid _ _ _ _ _ (by rw [List.length_take]; omega)
theorem wmid_len {C : List Cut} {I : List Nat} (h : I.length = C.length) {k : Nat} (hk : k ≤ I.length) : (wmid C I k).length = I.length := by
  unfold wmid
  have hl := thr_len (C := C) (I := I) h
  rw [List.length_append, List.length_take, List.length_replicate]; omega

set_option maxRecDepth 100000 in
set_option maxHeartbeats 6400000 in
theorem within_any (C : List Cut) (S : List Int) (I : List Nat) (A A' : Option Addr) (c c' : Nat) (w : World) (hr : Rd w w.heap.size A (krow C)) (hr' : Rd w w.heap.size A' (ints .i64 I)) (hF : Fit S C) (hS : ∀ s ∈ S, 0 ≤ s ∧ s ≤ 1024) (hI : Inside (cnt C) I) (h4 : C.length ≤ 4) (hC : ∀ x ∈ C, In64 x) :
    Calls Tryz.prog 65 #[.slice A C.length c, .slice A' I.length c'] w fun e w' => Below w.heap.size w w' ∧ e = .returned (.slice (some ⟨w.heap.size, 0, none⟩) I.length I.length) ∧ Bk w' w.heap.size 3 (ints .i64 (thr C I)).toArray := by
  have hlI : I.length = C.length := by have := inside_len _ _ hI; rw [this]; unfold cnt; rw [List.length_map]
  have hlS := fit_len hF
  obtain ⟨n, hn⟩ : ∃ n, n = I.length := ⟨_, rfl⟩
  have HB : Hid (∀ k, k < n → 0 ≤ (C.getD k (0, 0, 0)).1 ∧ 0 ≤ ((I.getD k 0 : Nat) : Int) * (C.getD k (0, 0, 0)).2.2 ∧ (C.getD k (0, 0, 0)).1 + ((I.getD k 0 : Nat) : Int) * (C.getD k (0, 0, 0)).2.2 ≤ 1024 ∧ (thr C I).getD k 0 = ((C.getD k (0, 0, 0)).1 + ((I.getD k 0 : Nat) : Int) * (C.getD k (0, 0, 0)).2.2).toNat) := fun k hk => by
    have f1 := ((fit_iff _ _).1 hF).2 k (by omega)
    have f2 := ((inside_iff _ _).1 hI).2 k (by unfold cnt; rw [List.length_map]; omega)
    rw [cnt_at (by omega)] at f2
    have f3 := fitC_at f1 (i := ((I.getD k 0 : Nat) : Int)) (by omega) (by omega)
    have f4 : S.getD k 0 ≤ 1024 := by
      rw [List.getD_eq_getElem?_getD, List.getElem?_eq_getElem (by omega)]
      exact (hS _ (List.getElem_mem _)).2
    exact ⟨f1.1, f3.1, by omega, thr_at (by omega) (by omega)⟩
  have HW : Hid (∀ k, k < n → (wmid C I k).set k ((thr C I).getD k 0) = wmid C I (k + 1)) := fun k hk => wmid_next hlI (by omega)
  have HWL : Hid (∀ k, k ≤ n → (wmid C I k).length = n) := fun k hk => (wmid_len hlI (by omega)).trans hn.symm
  have HWE : Hid (wmid C I n = thr C I) := by
    show _ = _
    unfold wmid
    rw [List.take_of_length_le (by rw [thr_len hlI]; omega), hn, Nat.sub_self, List.replicate_zero, List.append_nil]
  have HW0 : Hid (ints .i64 (List.replicate n 0) = ints .i64 (wmid C I 0)) := by
    show _ = _
    unfold wmid
    rw [List.take_zero, List.nil_append, hn, Nat.sub_zero]
  have HC : Hid (∀ j, In64 (C.getD j (0, 0, 0))) := fun j => by
    rcases Nat.lt_or_ge j C.length with h | h
    · rw [List.getD_eq_getElem?_getD, List.getElem?_eq_getElem h]; exact hC _ (List.getElem_mem _)
    · rw [List.getD_eq_getElem?_getD, List.getElem?_eq_none h]; unfold In64; decide
  have HN := Lib.hid hn
  have HLC : Hid (n = C.length) := hn.trans hlI
  have h4' : n ≤ 4 := by omega
  rw [← hlI, ← hn]
  obtain ⟨i0, hi0, hz0, hz1, hz2⟩ := info_parts Tryz.int_info
  have hmk := make_ints (P := Tryz.prog) 22 3 i0 .i64 Tryz.underlying22 hi0 hz0 hz1 (by omega) .i64 .i64 n (n : Int) rfl (by omega)
  have HR := Lib.hid hr
  have HR' := Lib.hid hr'
  clear hF hS hI hC hlI hlS hn h4 hr hr'
  go_enter Tryz.func65, Tryz.ntmps65
  go_wp2_with fail
  have hB1 := below_alloc w (.cells (ints .i64 (List.replicate n 0)).toArray 3)
  have k1 : Bk (w.alloc (.cells (ints .i64 (List.replicate n 0)).toArray 3)) w.heap.size 3 (ints .i64 (wmid C I 0)).toArray := by rw [← HW0.out]; exact Bk.new _ _ _
  clear hmk
  generalize w.alloc (.cells (ints .i64 (List.replicate n 0)).toArray 3) = w1 at *
  go_loopw [13] (fun i wr => ∃ k : Nat, k ≤ n ∧ i = .int .i64 k ∧ Bk wr w.heap.size 3 (ints .i64 (wmid C I k)).toArray ∧ Below w.heap.size w wr) (fun i _ => n - (intOf i).toNat)
  case atStart => exact ⟨0, Nat.zero_le _, rfl, k1, hB1⟩
  case round =>
    clear k1 hB1
    obtain ⟨k, hk, rfl, kb, hB⟩ := hrel
    by_cases hlt : k < n
    · obtain ⟨ad, rfl, hab, t0, t1, t2⟩ := (HR.out.below hB).kut (i := k) (by rw [← HLC.out]; exact hlt)
      obtain ⟨ad', rfl, hab', hs⟩ := (HR'.out.below hB).int (j := k) (by rw [← HN.out]; exact hlt)
      have e1 : C[k]'(by rw [← HLC.out]; exact hlt) = C.getD k (0, 0, 0) := by rw [List.getD_eq_getElem?_getD, List.getElem?_eq_getElem (by rw [← HLC.out]; exact hlt)]; rfl
      rw [e1] at t0 t1 t2
      obtain ⟨b1, b2, b3, b4⟩ := HB.out k hlt
      have k4 := kb.put k (.int .i64 (((thr C I).getD k 0 : Nat) : Int))
      rw [ints_set, HW.out k hlt] at k4
      have hc0 := kb.cell k
      rw [ints_getD .i64 _ (by rw [HWL.out k (by omega)]; exact hlt)] at hc0
      have hf0 := kb.frozen k
      have hcb := HC.out k
      generalize C.getD k (0, 0, 0) = x at *
      generalize I.getD k 0 = i at *
      generalize (thr C I).getD k 0 = y at *
      obtain ⟨a, b, d⟩ := x
      simp only at t0 t1 t2 b1 b2 b3 b4
      obtain ⟨⟨hc1, hc2⟩, ⟨hc3, hc4⟩, hc5, hc6⟩ := hcb
      simp only at hc1 hc2 hc3 hc4 hc5 hc6
      obtain ⟨m, hm⟩ : ∃ m, m = (i : Int) * d := ⟨_, rfl⟩
      have ww : IntKind.i64.wrap ((i : Int) * d) = m := by rw [IntWalk.i64_in _ (by omega)]; exact hm.symm
      rw [← hm] at b2 b3 b4
      have ww2 : IntKind.i64.wrap (a + m) = a + m := IntWalk.i64_in _ (by omega)
      have hy : (y : Int) = a + m := by omega
      rw [hy] at k4
      have hB4 := (hB.setCell (p := ⟨w.heap.size, k, none⟩) (Nat.le_refl _) (.int .i64 (a + m))).drew
      have K4 : Hid (Bk ((wr.setCell ⟨w.heap.size, k, none⟩ (.int .i64 (a + m))).drew) w.heap.size 3 (ints .i64 (wmid C I (k + 1))).toArray) := k4
      clear b4 hm hy k4 e1 kb
      go_wp2_with fail
      go_region
      go_wp2
      go_roundw
      case rel => exact ⟨k + 1, by omega, by go_num, K4.out, hB4⟩
      case measure => simp [intOf]; omega
    · have hkn : k = n := by omega
      subst hkn
      rw [HWE.out] at kb
      clear HWE HW0
      go_wp2
      go_ret
      exact ⟨hB, rfl, kb⟩
end Go.Proofs.YtgnffedncjjkfaaGreatDoor
