/-
  Words for memory: slabs. Walks: package array: fits, counts, within, inside.
-/
import Derived.Test.YtihcefiffblikaaDoorArrC
namespace Go.Proofs.YtihcefiffblikaaDoor
open Go.RowKit Ix Ar

/-- A slab's cells. -/
def krow (l : List Cut) : List Value := l.flatMap fun c => [.int .i64 c.1, .int .i64 c.2.1, .int .i64 c.2.2]
theorem krow_len (l : List Cut) : (krow l).length = l.length * 3 := by
  induction l with
  | nil => rfl
  | cons s S ih => show ([_, _, _] ++ krow S).length = _; rw [List.length_append, ih]; simp; omega
theorem krow_app (l m : List Cut) : krow (l ++ m) = krow l ++ krow m := List.flatMap_append
theorem krow_at {l : List Cut} {i : Nat} {c : Cut} (h : l[i]? = some c) (j : Nat) (hj : j < 3) : (krow l)[i * 3 + j]? = [Value.int .i64 c.1, .int .i64 c.2.1, .int .i64 c.2.2][j]? := by
  induction l generalizing i with
  | nil => simp at h
  | cons q S ih =>
    show ([_, _, _] ++ krow S)[i * 3 + j]? = _
    cases i with
    | zero =>
      simp at h; subst h
      rw [Nat.zero_mul, Nat.zero_add, List.getElem?_append_left (by simp; omega)]
    | succ i =>
      rw [List.getElem?_append_right (by simp; omega), show (i + 1) * 3 + j - [Value.int .i64 q.1, .int .i64 q.2.1, .int .i64 q.2.2].length = i * 3 + j by simp; omega]
      exact ih (by simpa using h)
theorem addr_plus' (ad : Addr) (m j : Nat) : (⟨(ad.add m).block, (ad.add m).off + (j + 1), none⟩ : Addr) = ad.add (m + (j + 1)) := by
  unfold Addr.add
  rw [if_neg (show m + (j + 1) ≠ 0 by omega)]
  by_cases h : m = 0
  · subst h; simp
  · simp [h, Nat.add_assoc]
/-- Three ints from a place on. -/
structure Tri (w : World) (p : Addr) (c : Cut) : Prop where
  c0 : w.cell? p = some (.int .i64 c.1)
  c1 : w.cell? ⟨p.block, p.off + 1, none⟩ = some (.int .i64 c.2.1)
  c2 : w.cell? ⟨p.block, p.off + 2, none⟩ = some (.int .i64 c.2.2)
theorem Rd.kut {w : World} {B : Nat} {A : Option Addr} {l : List Cut} (h : Rd w B A (krow l)) {i : Nat} (hi : i < l.length) : ∃ ad, A = some ad ∧ ad.block < B ∧ Tri w (ad.add (i * 3)) l[i] := by
  have hc := List.getElem?_eq_getElem hi
  have h0 := krow_at hc 0 (by omega)
  obtain ⟨ad, e, hb, hx⟩ := h (by intro e; rw [e] at h0; simp at h0)
  refine ⟨ad, e, hb, hx _ _ h0, ?_, ?_⟩
  · rw [addr_plus' ad (i * 3) 0]; exact hx _ _ (krow_at hc 1 (by omega))
  · rw [addr_plus' ad (i * 3) 1]; exact hx _ _ (krow_at hc 2 (by omega))
/-- A slab in memory. -/
def IsK (w : World) (B : Nat) (v : Value) (l : List Cut) : Prop := ∃ A c, v = .slice A l.length c ∧ l.length ≤ c ∧ Rd w B A (krow l)
section
variable {w w' : World} {B B' : Nat} {v : Value} {l : List Cut}
theorem IsK.more (h : IsK w B v l) (hB : B ≤ B') : IsK w B' v l := by obtain ⟨A, c, e, h1, h3⟩ := h; exact ⟨A, c, e, h1, h3.more hB⟩
theorem IsK.below (h : IsK w B v l) (hb : Below B w w') : IsK w' B v l := by obtain ⟨A, c, e, h1, h3⟩ := h; exact ⟨A, c, e, h1, h3.below hb⟩
theorem IsK.next (h : IsK w w.heap.size v l) (hb : Below w.heap.size w w') : IsK w' w'.heap.size v l := (h.below hb).more hb.size
theorem IsK.form (h : IsK w B v l) : ∃ A c, v = .slice A l.length c ∧ l.length ≤ c := by obtain ⟨A, c, e, h1, _⟩ := h; exact ⟨A, c, e, h1⟩
theorem IsK.rd {A : Option Addr} {n c : Nat} (h : IsK w B (.slice A n c) l) : Rd w B A (krow l) := by
  obtain ⟨A', c', e, _, h3⟩ := h; cases e; exact h3
theorem IsK.nil (w : World) (B : Nat) : IsK w B (.slice none 0 0) [] := ⟨none, 0, rfl, Nat.le_refl _, Rd.nil⟩
end
/-- Ints of a machine. -/
def In64 (c : Cut) : Prop := (-9223372036854775808 ≤ c.1 ∧ c.1 ≤ 9223372036854775807) ∧ (-9223372036854775808 ≤ c.2.1 ∧ c.2.1 ≤ 9223372036854775807) ∧ (-9223372036854775808 ≤ c.2.2 ∧ c.2.2 ≤ 9223372036854775807)

set_option maxRecDepth 100000 in
set_option maxHeartbeats 6400000 in
theorem fits_any (C : List Cut) (S : List Int) (A A' : Option Addr) (c c' : Nat) (w : World) (hr : Rd w w.heap.size A (krow C)) (hr' : Rd w w.heap.size A' (zints S)) (hS : ∀ s ∈ S, 0 ≤ s ∧ s ≤ 1024) (hC : ∀ x ∈ C, In64 x) (hL : C.length ≤ maxLen) (q : Bool) (hq : q = true ↔ Fit S C) :
    Calls Tryd.prog 16 #[.slice A C.length c, .slice A' S.length c'] w fun e w' => Below w.heap.size w w' ∧ e = .returned (.bool q) := by
  unfold maxLen at hL
  by_cases hlen : C.length = S.length
  rotate_left
  · have hqf : q = false := by
      cases hh : q with
      | false => rfl
      | true => exact absurd (fit_len (hq.1 hh)) hlen
    have hne : ((C.length : Int) != (S.length : Int)) = true := by simp; omega
    subst hqf
    clear hq hS hC hlen
    go_enter Tryd.func16, Tryd.ntmps16
    go_wp2
    go_ret
    exact ⟨Below.refl _ _, rfl⟩
  obtain ⟨n, hn⟩ : ∃ n, n = C.length := ⟨_, rfl⟩
  have HQ : Hid (q = true ↔ ∀ j, j < n → FitC (C.getD j (0, 0, 0)) (S.getD j 0)) := by
    show _ ↔ _
    rw [hq, fit_iff, hn, ← hlen]
    exact ⟨fun h => h.2, fun h => ⟨rfl, h⟩⟩
  have HS : Hid (∀ j, 0 ≤ S.getD j 0 ∧ S.getD j 0 ≤ 1024) := fun j => by
    rcases Nat.lt_or_ge j S.length with h | h
    · rw [List.getD_eq_getElem?_getD, List.getElem?_eq_getElem h]; exact hS _ (List.getElem_mem _)
    · rw [List.getD_eq_getElem?_getD, List.getElem?_eq_none h]; decide
  have HC : Hid (∀ j, In64 (C.getD j (0, 0, 0))) := fun j => by
    rcases Nat.lt_or_ge j C.length with h | h
    · rw [List.getD_eq_getElem?_getD, List.getElem?_eq_getElem h]; exact hC _ (List.getElem_mem _)
    · rw [List.getD_eq_getElem?_getD, List.getElem?_eq_none h]; unfold In64; decide
  rw [← hlen, ← hn]
  have HL := Lib.hid hlen
  have HN := Lib.hid hn
  have hn63 : n ≤ 9223372036854775807 := by omega
  clear hq hS hC hlen hn hL
  go_enter Tryd.func16, Tryd.ntmps16
  go_wp2_with fail
  go_loopw [14] (fun i wr => ∃ k : Nat, k ≤ n ∧ i = .int .i64 k ∧ Hid (∀ j, j < k → FitC (C.getD j (0, 0, 0)) (S.getD j 0)) ∧ Below w.heap.size w wr) (fun i _ => n - (intOf i).toNat)
  case atStart => exact ⟨0, Nat.zero_le _, rfl, (fun j hj => absurd hj (Nat.not_lt_zero _)), Below.refl _ _⟩
  case round =>
    obtain ⟨k, hk, rfl, HT, hB⟩ := hrel
    by_cases hlt : k < n
    · obtain ⟨ad, rfl, hab, t0, t1, t2⟩ := (hr.below hB).kut (i := k) (by rw [← HN.out]; exact hlt)
      obtain ⟨ad', rfl, hab', hs⟩ := (hr'.below hB).zint (j := k) (by rw [← HL.out, ← HN.out]; exact hlt)
      have hsb := HS.out k
      have hcb := HC.out k
      have HNX : Hid (FitC (C.getD k (0, 0, 0)) (S.getD k 0) → ∀ j, j < k + 1 → FitC (C.getD j (0, 0, 0)) (S.getD j 0)) := fun h j hj => by
        rcases Nat.lt_or_ge j k with h1 | h1
        · exact HT.out j h1
        · obtain rfl : j = k := by omega
          exact h
      have HBD : Hid (¬ FitC (C.getD k (0, 0, 0)) (S.getD k 0) → q = false) := fun h => by
        cases hh : q with
        | false => rfl
        | true => exact absurd (HQ.out.1 hh k hlt) h
      have e1 : C[k]'(by rw [← HN.out]; exact hlt) = C.getD k (0, 0, 0) := by rw [List.getD_eq_getElem?_getD, List.getElem?_eq_getElem (by rw [← HN.out]; exact hlt)]; rfl
      have e2 : S[k]'(by rw [← HL.out, ← HN.out]; exact hlt) = S.getD k 0 := by rw [List.getD_eq_getElem?_getD, List.getElem?_eq_getElem (by rw [← HL.out, ← HN.out]; exact hlt)]; rfl
      rw [e1] at t0 t1 t2
      rw [e2] at hs
      clear e1 e2
      generalize C.getD k (0, 0, 0) = x at *
      generalize S.getD k 0 = s at *
      obtain ⟨a, b, d⟩ := x
      obtain ⟨⟨hc1, hc2⟩, ⟨hc3, hc4⟩, hc5, hc6⟩ := hcb
      simp only at hc1 hc2 hc3 hc4 hc5 hc6
      simp only at t0 t1 t2
      go_wp2_with fail
      have hB1 := hB.alloc (by have := hB.size; omega) (.cells #[.int .i64 a, .int .i64 b, .int .i64 d] 35)
      have kx := Bk.new wr 35 #[Value.int .i64 a, .int .i64 b, .int .i64 d]
      have hs1 := ((below_alloc wr (.cells #[.int .i64 a, .int .i64 b, .int .i64 d] 35)).cell (p := ad'.add k) (by rw [addr_block]; have := hB.size; omega)).trans hs
      have x0 : _ = some (Value.int .i64 a) := kx.cell 0
      have x1 : _ = some (Value.int .i64 b) := kx.cell 1
      have x2 : _ = some (Value.int .i64 d) := kx.cell 2
      clear t0 t1 t2 hs kx hB
      generalize wr.alloc (.cells #[.int .i64 a, .int .i64 b, .int .i64 d] 35) = w1 at *
      generalize wr.heap.size = g at *
      have HFC : Hid (FitC (a, b, d) s ↔ 0 ≤ a ∧ 0 ≤ b ∧ 1 ≤ d ∧ a ≤ s ∧ (0 < b → a < s ∧ b - 1 ≤ (s - 1 - a) / d)) := Iff.rfl
      by_cases c1 : a < 0
      · have y1 : decide (a < 0) = true := decide_eq_true c1
        have hqf := HBD.out fun h => by have := HFC.out.1 h; omega
        subst hqf
        clear HNX HBD HFC
        go_quiet (fail)
        go_wp2
        go_ret
        exact ⟨below_drewN hB1 _, rfl⟩
      have y1 : decide (a < 0) = false := decide_eq_false c1
      by_cases c2 : b < 0
      · have y2 : decide (b < 0) = true := decide_eq_true c2
        have hqf := HBD.out fun h => by have := HFC.out.1 h; omega
        subst hqf
        clear HNX HBD HFC
        go_quiet (fail)
        go_wp2
        go_ret
        exact ⟨below_drewN hB1 _, rfl⟩
      have y2 : decide (b < 0) = false := decide_eq_false c2
      by_cases c3 : d < 1
      · have y3 : decide (d < 1) = true := decide_eq_true c3
        have hqf := HBD.out fun h => by have := HFC.out.1 h; omega
        subst hqf
        clear HNX HBD HFC
        go_quiet (fail)
        go_wp2
        go_ret
        exact ⟨below_drewN hB1 _, rfl⟩
      have y3 : decide (d < 1) = false := decide_eq_false c3
      by_cases c4 : s < a
      · have y4 : decide (s < a) = true := decide_eq_true c4
        have hqf := HBD.out fun h => by have := HFC.out.1 h; omega
        subst hqf
        clear HNX HBD HFC
        go_quiet (fail)
        go_wp2
        go_ret
        exact ⟨below_drewN hB1 _, rfl⟩
      have y4 : decide (s < a) = false := decide_eq_false c4
      go_quiet (fail)
      clear y1 y2 y3 y4
      have hB2 := below_drewN hB1 nq
      have hs2 : (w1.drewN nq).cell? (ad'.add k) = some (.int .i64 s) := hs1
      have z0 : (w1.drewN nq).cell? ⟨g, 0, none⟩ = some (.int .i64 a) := x0
      have z1 : (w1.drewN nq).cell? ⟨g, 1, none⟩ = some (.int .i64 b) := x1
      have z2 : (w1.drewN nq).cell? ⟨g, 2, none⟩ = some (.int .i64 d) := x2
      clear hs1 x0 x1 x2 hB1
      generalize w1.drewN nq = w2 at *
      go_wp2_with fail
      by_cases c5 : 0 < b
      · have y5 : decide (0 < b) = true := decide_eq_true c5
        by_cases c6 : s ≤ a
        · have y6 : decide (s ≤ a) = true := decide_eq_true c6
          have hqf := HBD.out fun h => by have := (HFC.out.1 h).2.2.2.2 c5; omega
          subst hqf
          clear HNX HBD HFC
          go_quiet (fail)
          go_wp2
          go_ret
          exact ⟨below_drewN hB2 _, rfl⟩
        · have y6 : decide (s ≤ a) = false := decide_eq_false c6
          have w1' : IntKind.i64.wrap (b - 1) = b - 1 := IntWalk.i64_in _ (by omega)
          have w2' : IntKind.i64.wrap (s - 1) = s - 1 := IntWalk.i64_in _ (by omega)
          have w3' : IntKind.i64.wrap (s - 1 - a) = s - 1 - a := IntWalk.i64_in _ (by omega)
          have w5' : (s - 1 - a).tdiv d = (s - 1 - a) / d := Int.tdiv_eq_ediv_of_nonneg (by omega)
          have w6' : 0 ≤ (s - 1 - a) / d := Int.ediv_nonneg (by omega) (by omega)
          have w7' : (s - 1 - a) / d ≤ s - 1 - a := Int.ediv_le_self _ (by omega)
          have w4' : IntKind.i64.wrap ((s - 1 - a) / d) = (s - 1 - a) / d := IntWalk.i64_in _ (by omega)
          generalize (s - 1 - a) / d = qd at *
          by_cases c7 : qd < b - 1
          · have y7 : decide (qd < b - 1) = true := decide_eq_true c7
            have hqf := HBD.out fun h => by have := (HFC.out.1 h).2.2.2.2 c5; omega
            subst hqf
            clear HNX HBD HFC
            go_quiet (fail)
            go_wp2
            go_ret
            exact ⟨below_drewN hB2 _, rfl⟩
          · have y7 : decide (qd < b - 1) = false := decide_eq_false c7
            have HOK := Lib.hid (HNX.out (HFC.out.2 ⟨by omega, by omega, by omega, by omega, fun h => ⟨by omega, by omega⟩⟩))
            clear HNX HBD HFC
            go_quiet (fail)
            have hB3 := below_drewN hB2 nq
            go_wp2
            go_roundw
            case rel => exact ⟨k + 1, by omega, by go_num, HOK.out, hB3⟩
            case measure => simp [intOf]; omega
      · have y5 : decide (0 < b) = false := decide_eq_false c5
        have HOK := Lib.hid (HNX.out (HFC.out.2 ⟨by omega, by omega, by omega, by omega, fun h => absurd h c5⟩))
        clear HNX HBD HFC
        go_quiet (fail)
        have hB3 := below_drewN hB2 nq
        go_wp2
        go_roundw
        case rel => exact ⟨k + 1, by omega, by go_num, HOK.out, hB3⟩
        case measure => simp [intOf]; omega
    · have hqt : q = true := HQ.out.2 fun j hj => HT.out j (by omega)
      subst hqt
      clear HQ HT
      go_wp2
      go_ret
      exact ⟨hB, rfl⟩
end Go.Proofs.YtihcefiffblikaaDoor
