/-
  Words: the reference's points and lists of them in memory. Walks: the reference's Prod, Quot.
  Walks: the reference's at, corners.
  Walks: the reference's cross, left, between (printed by rpgen.py).
-/
import Derived.Test.YtaihplgfbepgpaaGreatDoorQqU
import Derived.Test.YtaihplgfbepgpaaGreatDoorRegJ
import Derived.Test.YtaihplgfbepgpaaGreatDoorRegL
namespace Go.Proofs.YtaihplgfbepgpaaGreatDoor
open Go.RowKit Ar

/-- A point in memory. -/
def IsRt (w : World) (B : Nat) (s : Sx) (p : Qp) : Prop := IsQ w B (.agg #[.bool s.b1, s.n1, s.d1]) p.1 ∧ IsQ w B (.agg #[.bool s.b2, s.n2, s.d2]) p.2
theorem IsQ.kept {w w' : World} {B : Nat} {v : Value} {q : Rat} (h : IsQ w B v q) (hg : Ints w w') : IsQ w' B v q := by
  obtain ⟨N', D', d, e, k1, k2, k3⟩ := h
  exact ⟨N', D', d, e, k1.kept hg, k2.kept hg, k3⟩
theorem IsRt.kept {w w' : World} {B : Nat} {s : Sx} {p : Qp} (h : IsRt w B s p) (hg : Ints w w') : IsRt w' B s p := ⟨h.1.kept hg, h.2.kept hg⟩
/-- A polygon in memory. -/
def IsRoly (w : World) (B : Nat) (v : Value) (l : List Qp) : Prop :=
  ∃ A c S, v = .slice A l.length c ∧ l.length ≤ c ∧ S.length = l.length ∧ Rd w B A (srow S) ∧ ∀ (i : Nat) (p : Qp), l[i]? = some p → ∃ s, S[i]? = some s ∧ IsRt w B s p
theorem IsRt.more {w : World} {B B' : Nat} {s : Sx} {p : Qp} (h : IsRt w B s p) (hB : B ≤ B') : IsRt w B' s p := ⟨h.1.more hB, h.2.more hB⟩
theorem IsRt.below {w w' : World} {B : Nat} {s : Sx} {p : Qp} (h : IsRt w B s p) (hb : Below B w w') : IsRt w' B s p := ⟨h.1.below hb, h.2.below hb⟩
theorem IsRt.next {w w' : World} {s : Sx} {p : Qp} (h : IsRt w w.heap.size s p) (hb : Below w.heap.size w w') : IsRt w' w'.heap.size s p := (h.below hb).more hb.size
theorem IsRoly.more {w : World} {B B' : Nat} {v : Value} {l : List Qp} (h : IsRoly w B v l) (hB : B ≤ B') : IsRoly w B' v l := by
  obtain ⟨A, c, S, e, h1, h2, h3, h4⟩ := h
  exact ⟨A, c, S, e, h1, h2, h3.more hB, fun i x hx => by obtain ⟨u, k1, k2⟩ := h4 i x hx; exact ⟨u, k1, k2.more hB⟩⟩
theorem IsRoly.below {w w' : World} {B : Nat} {v : Value} {l : List Qp} (h : IsRoly w B v l) (hb : Below B w w') : IsRoly w' B v l := by
  obtain ⟨A, c, S, e, h1, h2, h3, h4⟩ := h
  exact ⟨A, c, S, e, h1, h2, h3.below hb, fun i x hx => by obtain ⟨u, k1, k2⟩ := h4 i x hx; exact ⟨u, k1, k2.below hb⟩⟩
theorem IsRoly.next {w w' : World} {v : Value} {l : List Qp} (h : IsRoly w w.heap.size v l) (hb : Below w.heap.size w w') : IsRoly w' w'.heap.size v l := (h.below hb).more hb.size
/-- A polygon under way: a row of the call's own. -/
def OwnRoly (w : World) (base : Nat) (v : Value) (l : List Qp) : Prop :=
  ∃ S : List Sx, S.length = l.length ∧ w.ownsRow base 135 6 v l.length (srow S) ∧ NoIntB w v.ownBlock ∧ ∀ (i : Nat) (p : Qp), l[i]? = some p → ∃ s, S[i]? = some s ∧ IsRt w w.heap.size s p
theorem OwnRoly.nil (w : World) (base : Nat) : OwnRoly w base (.slice none 0 0) [] := ⟨[], rfl, World.ownsRow_nil _ _ _ _, fun b hb => by simp [Value.ownBlock] at hb, fun i p h => by simp at h⟩
theorem OwnRoly.form {w : World} {base : Nat} {v : Value} {l : List Qp} (h : OwnRoly w base v l) : ∃ A c, v = .slice A l.length c := by
  obtain ⟨S, _, hown, _⟩ := h
  rcases hown.2 with ⟨rfl, e⟩ | ⟨g, cap, cur, rfl, _⟩
  · exact ⟨none, 0, by rw [e]⟩
  · exact ⟨_, _, rfl⟩
theorem OwnRoly.is {w : World} {base : Nat} {v : Value} {l : List Qp} (h : OwnRoly w base v l) : IsRoly w w.heap.size v l := by
  obtain ⟨S, h1, hown, _, h2⟩ := h
  have hrd := hown.2
  obtain ⟨A, c, e, hc⟩ : ∃ A c, v = .slice A l.length c ∧ l.length ≤ c := by
    rcases hrd with ⟨rfl, e⟩ | ⟨g, cap, cur, rfl, _, _, hnc, _⟩
    · exact ⟨none, 0, by rw [e], by omega⟩
    · exact ⟨_, _, rfl, hnc⟩
  subst e
  exact ⟨A, c, S, rfl, hc, h1, Rd.of_own hown, h2⟩
theorem OwnRoly.keep {w w' : World} {base : Nat} {v : Value} {l : List Qp} (h : OwnRoly w base v l) (hb : Below w.heap.size w w') : OwnRoly w' base v l := by
  obtain ⟨S, h1, hown, hni, h2⟩ := h
  refine ⟨S, h1, hown.kept (grown_of_below hb none) ?_, fun b hbk j k i hc => ?_, fun i p hp => ?_⟩
  · cases v.ownBlock with
    | none => exact .inl rfl
    | some g => exact .inr (by simp)
  · have hlt : b < w.heap.size := by
      rcases hown.2 with ⟨rfl, _⟩ | ⟨g, cap, cur, rfl, _, hg, _⟩
      · simp [Value.ownBlock] at hbk
      · have : g = b := by simpa [Value.ownBlock] using hbk
        subst this
        exact (Array.getElem?_eq_some_iff.1 hg).1
    exact hni b hbk j k i ((hb.cell (p := ⟨b, j, none⟩) hlt).symm.trans hc)
  · obtain ⟨s, k1, k2⟩ := h2 i p hp
    exact ⟨s, k1, k2.next hb⟩
theorem OwnRoly.add {w w' : World} {base : Nat} {v v' : Value} {l : List Qp} {p : Qp} {S : List Sx} {s : Sx} (h1 : S.length = l.length) (hni : NoIntB w v.ownBlock) (h2 : ∀ (i : Nat) (p : Qp), l[i]? = some p → ∃ s, S[i]? = some s ∧ IsRt w w.heap.size s p)
    (hs : IsRt w w.heap.size s p) (hown : w'.ownsRow base 135 6 v' (l.length + 1) (srow S ++ s.cells)) (hg : w.grownBy w' v.ownBlock) (hn' : NoIntB w' v'.ownBlock) : OwnRoly w' base v' (l ++ [p]) := by
  have hI := ints_grown hg hni
  refine ⟨S ++ [s], by simp [h1], ?_, hn', fun i q hq => ?_⟩
  · rw [List.length_append, List.length_singleton, srow_app]
    have e : srow [s] = s.cells := by simp [srow]
    rw [e]; exact hown
  · rcases Nat.lt_or_ge i l.length with hi | hi
    · rw [List.getElem?_append_left hi] at hq
      obtain ⟨s', k1, k2⟩ := h2 i q hq
      exact ⟨s', by rw [List.getElem?_append_left (by omega)]; exact k1, (k2.kept hI).more hg.size⟩
    · rw [List.getElem?_append_right hi] at hq
      have hi0 : i - l.length = 0 := by
        rcases Nat.eq_zero_or_pos (i - l.length) with h0 | h0
        · exact h0
        · rw [List.getElem?_eq_none (by simp; omega)] at hq; cases hq
      rw [hi0] at hq
      simp at hq
      subst hq
      exact ⟨s, by rw [List.getElem?_append_right (by omega), h1, hi0]; rfl, (hs.kept hI).more hg.size⟩

theorem IsRt.x {w : World} {B : Nat} {s : Sx} {p : Qp} (h : IsRt w B s p) : IsQ w B (.agg #[.bool s.b1, s.n1, s.d1]) p.1 := h.1
theorem IsRt.y {w : World} {B : Nat} {s : Sx} {p : Qp} (h : IsRt w B s p) : IsQ w B (.agg #[.bool s.b2, s.n2, s.d2]) p.2 := h.2
theorem IsRt.form {w : World} {B : Nat} {s : Sx} {p : Qp} (h : IsRt w B s p) : ∃ t A l c A' l' c' t' A2 l2 c2 A3 l3 c3, s = ⟨t, .slice A l c, .slice A' l' c', t', .slice A2 l2 c2, .slice A3 l3 c3⟩ := by
  obtain ⟨b1, n1, d1, b2, n2, d2⟩ := s
  obtain ⟨h1, h2⟩ := h
  obtain ⟨t, A, l, c, A', l', c', e1⟩ := h1.form
  obtain ⟨t', A2, l2, c2, A3, l3, c3, e2⟩ := h2.form
  simp at e1 e2
  obtain ⟨rfl, rfl, rfl⟩ := e1
  obtain ⟨rfl, rfl, rfl⟩ := e2
  exact ⟨_, _, _, _, _, _, _, _, _, _, _, _, _, _, rfl⟩
theorem IsRt.set3 {w : World} {B b : Nat} {s : Sx} {p : Qp} (h : IsRt w B s p) {T : TypeId} {f : Bool} {A0 A1 : Option Addr} {l0 l1 c0 c1 : Nat} (hb : Bk w b T #[.bool f, .slice A0 l0 c0, .slice A1 l1 c1]) (x y z : Value) : IsRt (set3 w b x y z) B s p :=
  ⟨h.1.set3 hb x y z, h.2.set3 hb x y z⟩
theorem quot_nr (p q : Rat) : p / q = nr (sg p != sg q) (nm p * dn q) (dn p * nm q) := by
  by_cases h : q = 0
  · subst h
    rw [Rat.div_def, Rat.inv_zero, Rat.mul_zero, nm_0, Nat.mul_zero]
    unfold nr
    exact (Rat.mkRat_zero _).symm
  · exact div_nr p q h

set_option maxRecDepth 100000 in
set_option maxHeartbeats 6400000 in
theorem qprod_any (p q : Rat) (v u : Value) (w : World) (h : IsQ w w.heap.size v p) (h' : IsQ w w.heap.size u q) (hl : sz p ≤ 200000000000) (hl' : sz q ≤ 200000000000) :
    Calls Tryz.prog 101 #[v, u] w fun e w' => Below w.heap.size w w' ∧ ∃ v, e = .returned v ∧ IsQ w' w'.heap.size v (p * q) := by
  have hp := h
  have hq := h'
  obtain ⟨N1, D1, d1, rfl, hN1, hD1, _⟩ := h
  obtain ⟨N2, D2, d2, rfl, hN2, hD2, _⟩ := h'
  obtain ⟨A1, l1, c1, rfl⟩ := hN1.form
  obtain ⟨A2, l2, c2, rfl⟩ := hD1.form
  obtain ⟨A3, l3, c3, rfl⟩ := hN2.form
  obtain ⟨A4, l4, c4, rfl⟩ := hD2.form
  have DP : Hid (∀ X, Below w.heap.size w X → Calls Tryz.prog 97 #[.agg #[.bool (sg p), .slice A1 l1 c1, .slice A2 l2 c2]] X fun e w' => Below X.heap.size X w' ∧ ∃ v, e = .returned v ∧ IsN w' w'.heap.size .u64 v (dn p)) := fun X hX => qden_any p _ X (hp.next hX) (by omega)
  have DQ : Hid (∀ X, Below w.heap.size w X → Calls Tryz.prog 97 #[.agg #[.bool (sg q), .slice A3 l3 c3, .slice A4 l4 c4]] X fun e w' => Below X.heap.size X w' ∧ ∃ v, e = .returned v ∧ IsN w' w'.heap.size .u64 v (dn q)) := fun X hX => qden_any q _ X (hq.next hX) (by omega)
  have M1 : Hid (∀ X, Below w.heap.size w X → Calls Tryz.prog 99 #[.slice A1 l1 c1, .slice A3 l3 c3] X fun e w' => Below X.heap.size X w' ∧ ∃ v, e = .returned v ∧ IsN w' w'.heap.size .u64 v (nm p * nm q)) := fun X hX => nmul_any _ _ _ _ X (hN1.next hX) (hN2.next hX) (by have := sz_nm p; omega) (by have := sz_nm q; omega)
  have M2 : Hid (∀ X y z, IsN X X.heap.size .u64 y (dn p) → IsN X X.heap.size .u64 z (dn q) → Calls Tryz.prog 99 #[y, z] X fun e w' => Below X.heap.size X w' ∧ ∃ v, e = .returned v ∧ IsN w' w'.heap.size .u64 v (dn p * dn q)) := fun X y z hy hz => nmul_any _ _ _ _ X hy hz (by have := sz_dn p; omega) (by have := sz_dn q; omega)
  have hsz1 : (limbs (nm p * nm q)).length ≤ 400000000000 := by have := len_mul_le (nm p) (nm q); have := sz_nm p; have := sz_nm q; omega
  have hsz2 : (limbs (dn p * dn q)).length ≤ 400000000000 := by have := len_mul_le (dn p) (dn q); have := sz_dn p; have := sz_dn q; omega
  have HR := Lib.hid (mul_nr p q)
  clear hN1 hN2 hD1 hD2 hl hl' hp hq
  generalize sg p = s1 at *
  generalize sg q = s2 at *
  generalize nm p * nm q = n at *
  generalize dn p * dn q = d at *
  go_enter Tryz.func101, Tryz.ntmps101
  go_wp2_with fail
  refine wp_name (fun W => P2 w (.bool s1) (.slice A1 l1 c1) (.slice A2 l2 c2) (.bool s2) (.slice A3 l3 c3) (.slice A4 l4 c4) W) (P2.start _ _ _ _ _ _ _) ?_
  intro W Z0
  have C0 := Z0.cells
  have hlt := Z0.k3.lt
  go_region_held3 (fun w' => w'.cell? ⟨w.heap.size, 0, none⟩ = some (.bool s1) ∧ w'.cell? ⟨w.heap.size, 1, none⟩ = some (.slice A1 l1 c1) ∧ w'.cell? ⟨w.heap.size, 2, none⟩ = some (.slice A2 l2 c2) ∧
      w'.cell? ⟨w.heap.size + 1, 0, none⟩ = some (.bool s2) ∧ w'.cell? ⟨w.heap.size + 1, 1, none⟩ = some (.slice A3 l3 c3) ∧ w'.cell? ⟨w.heap.size + 1, 2, none⟩ = some (.slice A4 l4 c4))
    (first | with_reducible exact Z1.cells | with_reducible exact Z2.cells | with_reducible exact Z3.cells | with_reducible exact Z4.cells | with_reducible exact Z5.cells | exact bk6 kk1 kk2 | go_keep)
    (first
      | (go_at_call 99; ((with_reducible refine (M1.out _ Z0.drew.below).mono ?_)); rintro e w1 ⟨hb1, x1, rfl, hx1⟩; have Z1 := Z0.drew.next hb1)
      | (go_at_call 97; ((with_reducible refine (DP.out _ Z1.below).mono ?_)); rintro e w2 ⟨hb2, x2, rfl, hx2⟩; have Z2 := Z1.next hb2)
      | (go_at_call 97; ((with_reducible refine (DQ.out _ Z2.below).mono ?_)); rintro e w3 ⟨hb3, x3, rfl, hx3⟩; have Z3 := Z2.next hb3)
      | (go_at_call 99; ((with_reducible refine (M2.out _ _ _ (hx2.next hb3) hx3).mono ?_)); rintro e w4 ⟨hb4, x4, rfl, hx4⟩; have Z4 := Z3.next hb4; have HN4 := ((hx1.next hb2).next hb3).next hb4; have HD4 := hx4)
      | (go_at_call 73; ((with_reducible refine (qmake_any _ n d _ _ _ HN4 HD4 hsz1 hsz2).mono ?_)); rintro e w5 ⟨hb5, x5, rfl, hx5⟩; have Z5 := Z4.next hb5; obtain ⟨t3, A5, l5, c5, A6, l6, c6, rfl⟩ := hx5.form; obtain ⟨e0, e1, e2⟩ := bk3 Z5.k3; have f0 := Z5.k3.frozen 0; have f1 := Z5.k3.frozen 1; have f2 := Z5.k3.frozen 2; have kk1 := bk_far3 (b' := w.heap.size + 1 + 1) (x := .bool t3) (y := .slice A5 l5 c5) (z := .slice A6 l6 c6) Z5.k1 (by omega); have kk2 := bk_far3 (b' := w.heap.size + 1 + 1) (x := .bool t3) (y := .slice A5 l5 c5) (z := .slice A6 l6 c6) Z5.k2 (by omega)))
  go_wp2
  refine bodyPost_ret (v := .agg #[.bool t3, .slice A5 l5 c5, .slice A6 l6 c6]) (by simp [results, Tryz.results101, go_sem, e0, e1, e2]) rfl ?_
  have ST := hx5.stored (w := w) Z5.k3 Z5.below (by omega)
  refine ⟨ST.1, _, rfl, ?_⟩
  have e : p * q = nr (!s1 == s2) n d := HR.out
  rw [e]
  exact ST.2

set_option maxRecDepth 100000 in
set_option maxHeartbeats 6400000 in
theorem qquot_any (p q : Rat) (v u : Value) (w : World) (h : IsQ w w.heap.size v p) (h' : IsQ w w.heap.size u q) (hl : sz p ≤ 200000000000) (hl' : sz q ≤ 200000000000) :
    Calls Tryz.prog 61 #[v, u] w fun e w' => Below w.heap.size w w' ∧ ∃ v, e = .returned v ∧ IsQ w' w'.heap.size v (p / q) := by
  have hp := h
  have hq := h'
  obtain ⟨N1, D1, d1, rfl, hN1, hD1, _⟩ := h
  obtain ⟨N2, D2, d2, rfl, hN2, hD2, _⟩ := h'
  obtain ⟨A1, l1, c1, rfl⟩ := hN1.form
  obtain ⟨A2, l2, c2, rfl⟩ := hD1.form
  obtain ⟨A3, l3, c3, rfl⟩ := hN2.form
  obtain ⟨A4, l4, c4, rfl⟩ := hD2.form
  have DP : Hid (∀ X, Below w.heap.size w X → Calls Tryz.prog 97 #[.agg #[.bool (sg p), .slice A1 l1 c1, .slice A2 l2 c2]] X fun e w' => Below X.heap.size X w' ∧ ∃ v, e = .returned v ∧ IsN w' w'.heap.size .u64 v (dn p)) := fun X hX => qden_any p _ X (hp.next hX) (by omega)
  have DQ : Hid (∀ X, Below w.heap.size w X → Calls Tryz.prog 97 #[.agg #[.bool (sg q), .slice A3 l3 c3, .slice A4 l4 c4]] X fun e w' => Below X.heap.size X w' ∧ ∃ v, e = .returned v ∧ IsN w' w'.heap.size .u64 v (dn q)) := fun X hX => qden_any q _ X (hq.next hX) (by omega)
  have M1 : Hid (∀ X y, Below w.heap.size w X → IsN X X.heap.size .u64 y (dn q) → Calls Tryz.prog 99 #[.slice A1 l1 c1, y] X fun e w' => Below X.heap.size X w' ∧ ∃ v, e = .returned v ∧ IsN w' w'.heap.size .u64 v (nm p * dn q)) := fun X y hX hy => nmul_any _ _ _ _ X (hN1.next hX) hy (by have := sz_nm p; omega) (by have := sz_dn q; omega)
  have M2 : Hid (∀ X y, Below w.heap.size w X → IsN X X.heap.size .u64 y (dn p) → Calls Tryz.prog 99 #[y, .slice A3 l3 c3] X fun e w' => Below X.heap.size X w' ∧ ∃ v, e = .returned v ∧ IsN w' w'.heap.size .u64 v (dn p * nm q)) := fun X y hX hy => nmul_any _ _ _ _ X hy (hN2.next hX) (by have := sz_dn p; omega) (by have := sz_nm q; omega)
  have hsz1 : (limbs (nm p * dn q)).length ≤ 400000000000 := by have := len_mul_le (nm p) (dn q); have := sz_nm p; have := sz_dn q; omega
  have hsz2 : (limbs (dn p * nm q)).length ≤ 400000000000 := by have := len_mul_le (dn p) (nm q); have := sz_dn p; have := sz_nm q; omega
  have HR := Lib.hid (quot_nr p q)
  clear hN1 hN2 hD1 hD2 hl hl' hp hq
  generalize sg p = s1 at *
  generalize sg q = s2 at *
  generalize nm p * dn q = n at *
  generalize dn p * nm q = d at *
  go_enter Tryz.func61, Tryz.ntmps61
  go_wp2_with fail
  refine wp_name (fun W => P2 w (.bool s1) (.slice A1 l1 c1) (.slice A2 l2 c2) (.bool s2) (.slice A3 l3 c3) (.slice A4 l4 c4) W) (P2.start _ _ _ _ _ _ _) ?_
  intro W Z0
  have C0 := Z0.cells
  have hlt := Z0.k3.lt
  go_region_held3 (fun w' => w'.cell? ⟨w.heap.size, 0, none⟩ = some (.bool s1) ∧ w'.cell? ⟨w.heap.size, 1, none⟩ = some (.slice A1 l1 c1) ∧ w'.cell? ⟨w.heap.size, 2, none⟩ = some (.slice A2 l2 c2) ∧
      w'.cell? ⟨w.heap.size + 1, 0, none⟩ = some (.bool s2) ∧ w'.cell? ⟨w.heap.size + 1, 1, none⟩ = some (.slice A3 l3 c3) ∧ w'.cell? ⟨w.heap.size + 1, 2, none⟩ = some (.slice A4 l4 c4))
    (first | with_reducible exact Z1.cells | with_reducible exact Z2.cells | with_reducible exact Z3.cells | with_reducible exact Z4.cells | with_reducible exact Z5.cells | exact bk6 kk1 kk2 | go_keep)
    (first
      | (go_at_call 97; ((with_reducible refine (DQ.out _ Z0.drew.below).mono ?_)); rintro e w1 ⟨hb1, x1, rfl, hx1⟩; have Z1 := Z0.drew.next hb1)
      | (go_at_call 99; ((with_reducible refine (M1.out _ _ Z1.below hx1).mono ?_)); rintro e w2 ⟨hb2, x2, rfl, hx2⟩; have Z2 := Z1.next hb2)
      | (go_at_call 97; ((with_reducible refine (DP.out _ Z2.below).mono ?_)); rintro e w3 ⟨hb3, x3, rfl, hx3⟩; have Z3 := Z2.next hb3)
      | (go_at_call 99; ((with_reducible refine (M2.out _ _ Z3.below hx3).mono ?_)); rintro e w4 ⟨hb4, x4, rfl, hx4⟩; have Z4 := Z3.next hb4; have HN4 := (hx2.next hb3).next hb4; have HD4 := hx4)
      | (go_at_call 73; ((with_reducible refine (qmake_any _ n d _ _ _ HN4 HD4 hsz1 hsz2).mono ?_)); rintro e w5 ⟨hb5, x5, rfl, hx5⟩; have Z5 := Z4.next hb5; obtain ⟨t3, A5, l5, c5, A6, l6, c6, rfl⟩ := hx5.form; obtain ⟨e0, e1, e2⟩ := bk3 Z5.k3; have f0 := Z5.k3.frozen 0; have f1 := Z5.k3.frozen 1; have f2 := Z5.k3.frozen 2; have kk1 := bk_far3 (b' := w.heap.size + 1 + 1) (x := .bool t3) (y := .slice A5 l5 c5) (z := .slice A6 l6 c6) Z5.k1 (by omega); have kk2 := bk_far3 (b' := w.heap.size + 1 + 1) (x := .bool t3) (y := .slice A5 l5 c5) (z := .slice A6 l6 c6) Z5.k2 (by omega)))
  go_wp2
  refine bodyPost_ret (v := .agg #[.bool t3, .slice A5 l5 c5, .slice A6 l6 c6]) (by simp [results, Tryz.results61, go_sem, e0, e1, e2]) rfl ?_
  have ST := hx5.stored (w := w) Z5.k3 Z5.below (by omega)
  refine ⟨ST.1, _, rfl, ?_⟩
  have e : p / q = nr (!s1 == s2) n d := HR.out
  rw [e]
  exact ST.2
end Go.Proofs.YtaihplgfbepgpaaGreatDoor

namespace Go.Proofs.YtaihplgfbepgpaaGreatDoor
open Go.RowKit Ar

theorem Tryz.rpoint_info : (Tryz.prog.info? 135).map (fun i => (i.zero, i.size, i.bytes)) = some (some (.agg #[.bool false, .slice none 0 0, .slice none 0 0, .bool false, .slice none 0 0, .slice none 0 0]), 6, 112) := by kernel_rfl

set_option maxRecDepth 100000 in
set_option maxHeartbeats 3200000 in
theorem at_any (x y : Int) (w : World) (hx : -1000000000000000 ≤ x ∧ x ≤ 1000000000000000) (hy : -1000000000000000 ≤ y ∧ y ≤ 1000000000000000) :
    Calls Tryz.prog 102 #[.agg #[.int .i64 x, .int .i64 y]] w fun e w' => Below w.heap.size w w' ∧ ∃ s : Sx, e = .returned s.val ∧ IsRt w' w'.heap.size s ((x : Rat), (y : Rat)) := by
  go_enter Tryz.func102, Tryz.ntmps102
  go_wp2_with fail
  refine wp_name (fun W => Below w.heap.size w W ∧ Bk W w.heap.size 50 #[.int .i64 x, .int .i64 y] ∧ Bk W (w.heap.size + 1) 135 szero.cells.toArray) ⟨(below_alloc w _).alloc (by simp) _, (Bk.new _ _ _).alloc _, by simpa [Sx.cells, szero] using (Bk.new (w.alloc _) _ _)⟩ ?_
  rintro W ⟨hB, kp, kr⟩
  obtain ⟨g0, g1⟩ := bk2 kp
  have hlt := kr.lt
  go_region_held3 (fun W => W.cell? ⟨w.heap.size, 0, none⟩ = some (.int .i64 x) ∧ W.cell? ⟨w.heap.size, 1, none⟩ = some (.int .i64 y))
    (first | with_reducible exact bk2 kp.drew | with_reducible exact bk2 p1 | with_reducible exact bk2 p2 | exact bk2 r5 | go_keep)
    (first
      | (go_at_call 64; (with_reducible refine (intQ_any x _ hx).mono ?_); rintro e w1 ⟨hb1, v1, rfl, y1⟩; have p1 := kp.drew.next' hb1; have k1 := kr.drew.next' hb1; have hB1 := below_step hB.drew hb1; obtain ⟨t1, A1, l1, c1, A1', l1', c1', rfl⟩ := y1.form)
      | (go_at_call 64; (with_reducible refine (intQ_any y _ hy).mono ?_); rintro e w2 ⟨hb2, v2, rfl, y2⟩; have p2 := p1.next' hb2; have k2 := k1.next' hb2; have hB2 := below_step hB1 hb2; have y12 := y1.next hb2; obtain ⟨t2, A2, l2, c2, A2', l2', c2', rfl⟩ := y2.form; obtain ⟨e0, e1, e2, e3, e4, e5⟩ := bk6c k2; have f0 := k2.frozen 0; have f1 := k2.frozen 1; have f2 := k2.frozen 2; have f3 := k2.frozen 3; have f4 := k2.frozen 4; have f5 := k2.frozen 5; have r5 := set6_far (s := ⟨t1, .slice A1 l1 c1, .slice A1' l1' c1', t2, .slice A2 l2 c2, .slice A2' l2' c2'⟩) p2 (show w.heap.size ≠ w.heap.size + 1 by omega)))
  go_wp2
  refine bodyPost_ret (v := .agg #[.bool t1, .slice A1 l1 c1, .slice A1' l1' c1', .bool t2, .slice A2 l2 c2, .slice A2' l2' c2']) (by simp [results, Tryz.results102, go_sem, e0, e1, e2, e3, e4, e5]) rfl ?_
  refine ⟨set6_below (s := ⟨t1, .slice A1 l1 c1, .slice A1' l1' c1', t2, .slice A2 l2 c2, .slice A2' l2' c2'⟩) hB2 (by omega), ⟨t1, .slice A1 l1 c1, .slice A1' l1' c1', t2, .slice A2 l2 c2, .slice A2' l2' c2'⟩, rfl, ?_⟩
  have hI : Ints w2 (set6 w2 (w.heap.size + 1) ⟨t1, .slice A1 l1 c1, .slice A1' l1' c1', t2, .slice A2 l2 c2, .slice A2' l2' c2'⟩) := set6_ints k2 szero_plain
  exact IsRt.more ⟨y12.kept hI, y2.kept hI⟩ (by rw [show (World.setCell _ _ _) = set6 w2 (w.heap.size + 1) ⟨t1, .slice A1 l1 c1, .slice A1' l1' c1', t2, .slice A2 l2 c2, .slice A2' l2' c2'⟩ from rfl, set6_size]; exact Nat.le_refl _)

theorem OwnRoly.lt_own {w : World} {base : Nat} {v : Value} {l : List Qp} (h : OwnRoly w base v l) {g : Nat} (hg : v.ownBlock = some g) : base ≤ g ∧ g < w.heap.size := by
  obtain ⟨S, _, hown, _⟩ := h
  rcases hown.2 with ⟨rfl, _⟩ | ⟨g', cap, cur, rfl, hb, hg', _⟩
  · simp [Value.ownBlock] at hg
  · have : g' = g := by simpa [Value.ownBlock] using hg
    subst this
    exact ⟨hb, (Array.getElem?_eq_some_iff.1 hg').1⟩

set_option maxRecDepth 100000 in
set_option maxHeartbeats 3200000 in
theorem corners_any (l : List Pl) (m : Bool) (v : Value) (dx : Int) (w : World) (h : IsC w w.heap.size v l m) (hm : l.length ≤ 1000000) (hdx : -100000000 ≤ dx ∧ dx ≤ 100000000) (hok : ∀ p ∈ l, okP p) :
    Calls Tryz.prog 63 #[v, .int .i64 dx] w fun e w' => Below w.heap.size w w' ∧ ∃ v, e = .returned v ∧ IsRoly w' w'.heap.size v (l.map fun p => qp p dx) := by
  obtain ⟨A, c, rfl, hc, hcm, hin, hr⟩ := h
  obtain ⟨i0, hi0, hz0, hz1, hz2⟩ := info_parts Tryz.rpoint_info
  go_enter Tryz.func63, Tryz.ntmps63
  go_wp2_with fail
  have hB0 := below_alloc w (.cells #[.slice A l.length c, .bool m] 33)
  go_loopw [5, 6] (fun u i wr => ∃ k : Nat, k ≤ l.length ∧ i = .int .i64 k ∧ OwnRoly wr (w.heap.size + 1) u ((l.take k).map fun p => qp p dx) ∧ Below w.heap.size w wr ∧ Bk wr w.heap.size 33 #[.slice A l.length c, .bool m]) (fun _ i _ => l.length - (intOf i).toNat)
  case atStart => exact ⟨0, Nat.zero_le _, rfl, OwnRoly.nil _ _, hB0, Bk.new _ _ _⟩
  case round =>
    obtain ⟨k, hk, rfl, hO, hB, kc⟩ := hrel
    obtain ⟨cc0, cc1⟩ := bk2 kc
    rcases Nat.lt_or_ge k l.length with hlt | hge
    · obtain ⟨ad, rfl, hab, d1, d2⟩ := (hr.below hB).place (cn_at (l := l) (i := k) hlt)
      have hokk := cn_ok hok hlt
      unfold okP at hokk
      have HL : Hid ((l.take (k + 1)).map (fun p => qp p dx) = (l.take k).map (fun p => qp p dx) ++ [qp (cn l k) dx]) := by
        show _ = _
        rw [List.take_add_one, cn_at hlt, List.map_append]
        rfl
      generalize cn l k = p at *
      obtain ⟨x, y⟩ := p
      simp only at d1 d2 hokk
      have hlen : ((l.take k).map (fun p => qp p dx)).length = k := by rw [List.length_map, List.length_take]; omega
      generalize (l.take k).map (fun p => qp p dx) = pts at *
      have ww : IntKind.i64.wrap (x + dx) = x + dx := IntWalk.i64_in _ (by omega)
      have hsz := kc.lt
      have hab0 : (ad.add (k * 2)).block = ad.block := by unfold Addr.add; split <;> rfl
      have hab' : (ad.add (k * 2)).block < wr.heap.size := by have := hB.size; omega
      clear hab0
      have hRT : Hid (qp (x, y) dx = (((x + dx : Int) : Rat), ((y : Int) : Rat))) := rfl
      have HOW : Hid (∀ g, u5.ownBlock = some g → w.heap.size + 1 ≤ g) := fun g hg => (hO.lt_own hg).1
      have CA := Lib.hid (fun X => at_any (x + dx) y X (by omega) (by omega))
      unfold Sx.val at CA
      go_wp2_with fail
      have r0 := And.intro (bk2 kc.drew) (And.intro (show wr.drew.cell? (ad.add (k * 2)) = some (.int .i64 x) from d1) (show wr.drew.cell? ⟨(ad.add (k * 2)).block, (ad.add (k * 2)).off + 1, none⟩ = some (.int .i64 y) from d2))
      go_region_held3 (fun W => (W.cell? ⟨w.heap.size, 0, none⟩ = some (.slice (some ad) l.length c) ∧ W.cell? ⟨w.heap.size, 1, none⟩ = some (.bool m)) ∧ W.cell? (ad.add (k * 2)) = some (.int .i64 x) ∧ W.cell? ⟨(ad.add (k * 2)).block, (ad.add (k * 2)).off + 1, none⟩ = some (.int .i64 y))
        (first | with_reducible exact r0 | with_reducible exact r1 | with_reducible exact r3 | exact r4 | go_keep)
        (first
          | (go_at_call 102; (with_reducible refine (CA.out _).mono ?_); rintro e w1 ⟨hb1, s1, rfl, hs1⟩; obtain ⟨t, A1, l1, c1, A1', l1', c1', t', A2, l2, c2, A3, l3, c3, rfl⟩ := hs1.form; have kc1 := kc.drew.next' hb1; have d11 := (hb1.cell (w := wr.drew) (p := ad.add (k * 2)) hab').trans d1; have d21 := (hb1.cell (w := wr.drew) (p := ⟨(ad.add (k * 2)).block, (ad.add (k * 2)).off + 1, none⟩) hab').trans d2; have r1 := And.intro (bk2 kc1) (And.intro d11 d21); have hO1 := hO.keep (Below.drew (Below.refl _ _) |>.trans hb1); have hB1 := below_step hB.drew hb1;
              have hba := below_alloc w1 (.cells #[.bool t, .slice A1 l1 c1, .slice A1' l1' c1', .bool t', .slice A2 l2 c2, .slice A3 l3 c3] 135); have hsz1 := hb1.size; have kc3 := kc1.next' hba; have d13 := (hba.cell (p := ad.add (k * 2)) (Nat.lt_of_lt_of_le hab' hsz1)).trans d11; have d23 := (hba.cell (p := ⟨(ad.add (k * 2)).block, (ad.add (k * 2)).off + 1, none⟩) (Nat.lt_of_lt_of_le hab' hsz1)).trans d21; have r3 := And.intro (bk2 kc3) (And.intro d13 d23); have hO3 := hO1.keep hba; have hB3 := below_step hB1 hba; obtain ⟨S, hS1, hS2, hS3, hS4⟩ := hO3)
          | (refine step_append (.tmp 14) (.tmp 31) 96 rfl (w.heap.size + 1) 135 i0 zpt 6 112 Tryz.underlying96 hi0 hz0 hz1 hz2 rfl (by omega) _ pts.length (srow S) rfl hS2 hS3 zpt_no ⟨w1.heap.size, 0, none⟩ 1 1 [.bool t, .slice A1 l1 c1, .slice A1' l1' c1', .bool t', .slice A2 l2 c2, .slice A3 l3 c3] rfl rfl (new_cells w1 _ _) (by intro u hu; simp at hu; rcases hu with rfl | rfl | rfl | rfl | rfl | rfl <;> rfl) (by intro u hu k0 i1; simp at hu; rcases hu with rfl | rfl | rfl | rfl | rfl | rfl <;> simp) (by omega) (by unfold maxLen; omega) (by omega) (by have := hB1.size; have := kc1.lt; simp; omega) ?_; intro v5 w5 hw1 hw2 hw3; have kc5 := kc3.grown hw2 (fun e => by have := HOW.out _ e.symm; omega); have r4 := And.intro (bk2 kc5) (And.intro (ints_grown hw2 hS3 _ _ _ d13) (ints_grown hw2 hS3 _ _ _ d23))))
      have hPt : IsRt _ _ _ (qp (x, y) dx) := hRT.out ▸ hs1.next hba
      have HO : Hid (OwnRoly w5 (w.heap.size + 1) v5 (pts ++ [qp (x, y) dx])) := OwnRoly.add hS1 hS3 hS4 hPt hw1 hw2 hw3
      have hB5 : Below w.heap.size w w5 := below_app hB3 hw2 (by have := hB1.size; have := kc1.lt; simp; omega) hS2 (by omega)
      clear hw1 hw2 hw3 hPt hba hS1 hS2 hS3 hS4 r0 r1 r3 r4 kc1 kc3 kc hO hO1 hB1 hB3 hs1 hb1 hB d1 d2 d11 d21 d13 d23 cc0 cc1
      go_wp2
      go_roundw
      case rel => exact ⟨k + 1, by omega, by go_num, by rw [HL.out]; exact HO.out, hB5, kc5⟩
      case measure => simp [intOf]; omega
    · have hkl : k = l.length := by omega
      subst hkl
      rw [List.take_length] at hO
      have hP := hO.is
      have hP := Lib.hid hP
      clear hO
      go_wp2
      go_ret
      exact ⟨hB, _, rfl, hP.out⟩
end Go.Proofs.YtaihplgfbepgpaaGreatDoor

namespace Go.Proofs.YtaihplgfbepgpaaGreatDoor
open Go.RowKit Ar

/-- A number of the reference in a block. -/
def QAt (w : World) (b : Nat) (q : Rat) : Prop := ∃ s A l c A' l' c', Bk w b 66 #[.bool s, .slice A l c, .slice A' l' c'] ∧ IsQ w w.heap.size (.agg #[.bool s, .slice A l c, .slice A' l' c']) q
theorem QAt.next {w w' : World} {b : Nat} {q : Rat} (h : QAt w b q) (hb : Below w.heap.size w w') : QAt w' b q := by
  obtain ⟨s, A, l, c, A', l', c', h1, h2⟩ := h
  exact ⟨s, A, l, c, A', l', c', h1.below hb h1.lt, h2.next hb⟩
theorem QAt.lt {w : World} {b : Nat} {q : Rat} (h : QAt w b q) : b < w.heap.size := by
  obtain ⟨s, A, l, c, A', l', c', h1, h2⟩ := h
  exact h1.lt
section
variable {w : World} {s t : Bool} {A A' C C' : Option Addr} {l k l' k' n j n' j' : Nat} {p q : Rat} {b b2 : Nat}
theorem qatN (hp : IsQ w w.heap.size (.agg #[.bool s, .slice A l k, .slice A' l' k']) p) : QAt (w.alloc (.cells #[.bool s, .slice A l k, .slice A' l' k'] 66)) w.heap.size p :=
  ⟨_, _, _, _, _, _, _, Bk.new _ _ _, hp.next (below_alloc w _)⟩
theorem qatS (kA : Bk w b 66 #[.bool false, .slice none 0 0, .slice none 0 0]) (hp : IsQ w w.heap.size (.agg #[.bool s, .slice A l k, .slice A' l' k']) p) :
    QAt (((w.setCell ⟨b, 0, none⟩ (.bool s)).setCell ⟨b, 1, none⟩ (.slice A l k)).setCell ⟨b, 2, none⟩ (.slice A' l' k')) b p :=
  ⟨_, _, _, _, _, _, _, set3_bk kA, by
    have e := set3_size w b (.bool s) (.slice A l k) (.slice A' l' k')
    have hp1 := hp.set3 kA (.bool s) (.slice A l k) (.slice A' l' k')
    rw [← e] at hp1
    exact hp1⟩
end
/-- Three points of the reference in blocks of a call's own. -/
structure Trq (sa sb sc : Sx) (a b c : Qp) (w W : World) : Prop where
  below : Below w.heap.size w W
  k1 : Bk W w.heap.size 135 sa.cells.toArray
  k2 : Bk W (w.heap.size + 1) 135 sb.cells.toArray
  k3 : Bk W (w.heap.size + 1 + 1) 135 sc.cells.toArray
  p1 : IsRt W W.heap.size sa a
  p2 : IsRt W W.heap.size sb b
  p3 : IsRt W W.heap.size sc c
section
variable {sa sb sc : Sx} {a b c : Qp} {w W W' : World}
theorem Trq.next (h : Trq sa sb sc a b c w W) (hb : Below W.heap.size W W') : Trq sa sb sc a b c w W' :=
  ⟨h.below.trans (hb.mono h.below.size), h.k1.below hb h.k1.lt, h.k2.below hb h.k2.lt, h.k3.below hb h.k3.lt, h.p1.next hb, h.p2.next hb, h.p3.next hb⟩
theorem Trq.drew (h : Trq sa sb sc a b c w W) : Trq sa sb sc a b c w W.drew := ⟨h.below.drew, h.k1, h.k2, h.k3, h.p1, h.p2, h.p3⟩
theorem Trq.cells (h : Trq sa sb sc a b c w W) :
    (W.cell? ⟨w.heap.size, 0, none⟩ = some (.bool sa.b1) ∧ W.cell? ⟨w.heap.size, 1, none⟩ = some sa.n1 ∧ W.cell? ⟨w.heap.size, 2, none⟩ = some sa.d1 ∧ W.cell? ⟨w.heap.size, 3, none⟩ = some (.bool sa.b2) ∧ W.cell? ⟨w.heap.size, 4, none⟩ = some sa.n2 ∧ W.cell? ⟨w.heap.size, 5, none⟩ = some sa.d2) ∧ (W.cell? ⟨w.heap.size + 1, 0, none⟩ = some (.bool sb.b1) ∧ W.cell? ⟨w.heap.size + 1, 1, none⟩ = some sb.n1 ∧ W.cell? ⟨w.heap.size + 1, 2, none⟩ = some sb.d1 ∧ W.cell? ⟨w.heap.size + 1, 3, none⟩ = some (.bool sb.b2) ∧ W.cell? ⟨w.heap.size + 1, 4, none⟩ = some sb.n2 ∧ W.cell? ⟨w.heap.size + 1, 5, none⟩ = some sb.d2) ∧ (W.cell? ⟨w.heap.size + 1 + 1, 0, none⟩ = some (.bool sc.b1) ∧ W.cell? ⟨w.heap.size + 1 + 1, 1, none⟩ = some sc.n1 ∧ W.cell? ⟨w.heap.size + 1 + 1, 2, none⟩ = some sc.d1 ∧ W.cell? ⟨w.heap.size + 1 + 1, 3, none⟩ = some (.bool sc.b2) ∧ W.cell? ⟨w.heap.size + 1 + 1, 4, none⟩ = some sc.n2 ∧ W.cell? ⟨w.heap.size + 1 + 1, 5, none⟩ = some sc.d2) :=
  ⟨bk6c h.k1, bk6c h.k2, bk6c h.k3⟩
theorem Trq.start (ha : IsRt w w.heap.size sa a) (hb : IsRt w w.heap.size sb b) (hc : IsRt w w.heap.size sc c) : Trq sa sb sc a b c w (((w.alloc (.cells sa.cells.toArray 135)).alloc (.cells sb.cells.toArray 135)).alloc (.cells sc.cells.toArray 135)) := by
  have hB : Below w.heap.size w (((w.alloc (.cells sa.cells.toArray 135)).alloc (.cells sb.cells.toArray 135)).alloc (.cells sc.cells.toArray 135)) := ((below_alloc w _).alloc (by simp) _).alloc (by simp; omega) _
  exact ⟨hB, ((Bk.new _ _ _).alloc _).alloc _, (by simpa [Sx.cells] using ((Bk.new (w.alloc _) _ _).alloc _)), (by simpa [Sx.cells] using (Bk.new ((w.alloc _).alloc _) _ _)), ha.next hB, hb.next hB, hc.next hB⟩
end

set_option maxRecDepth 100000 in
set_option maxHeartbeats 6400000 in
theorem qcross_any (a b c : Qp) (sa sb sc : Sx) (w : World) (ha : IsRt w w.heap.size sa a) (hb : IsRt w w.heap.size sb b) (hc : IsRt w w.heap.size sc c) (la : szp a ≤ 10000000000) (lb : szp b ≤ 10000000000) (lc : szp c ≤ 10000000000) :
    Calls Tryz.prog 135 #[sa.val, sb.val, sc.val] w fun e w' => Below w.heap.size w w' ∧ ∃ v, e = .returned v ∧ IsQ w' w'.heap.size v (crossQ a b c) := by
  unfold szp at *
  have l1 : sz a.1 ≤ 100000000000 := by omega
  have l2 : sz a.2 ≤ 100000000000 := by omega
  have l3 : sz b.1 ≤ 100000000000 := by omega
  have l4 : sz b.2 ≤ 100000000000 := by omega
  have l5 : sz c.1 ≤ 100000000000 := by omega
  have l6 : sz c.2 ≤ 100000000000 := by omega
  have m1 : sz (b.1 - a.1) ≤ 200000000000 := by have := sz_sub b.1 a.1; omega
  have m2 : sz (c.2 - a.2) ≤ 200000000000 := by have := sz_sub c.2 a.2; omega
  have m3 : sz (b.2 - a.2) ≤ 200000000000 := by have := sz_sub b.2 a.2; omega
  have m4 : sz (c.1 - a.1) ≤ 200000000000 := by have := sz_sub c.1 a.1; omega
  have n1 : sz ((b.1 - a.1) * (c.2 - a.2)) ≤ 100000000000 := by have := sz_mul (b.1 - a.1) (c.2 - a.2); have := sz_sub b.1 a.1; have := sz_sub c.2 a.2; omega
  have n2 : sz ((b.2 - a.2) * (c.1 - a.1)) ≤ 100000000000 := by have := sz_mul (b.2 - a.2) (c.1 - a.1); have := sz_sub b.2 a.2; have := sz_sub c.1 a.1; omega
  have HC : Hid (crossQ a b c = (b.1 - a.1) * (c.2 - a.2) - (b.2 - a.2) * (c.1 - a.1)) := rfl
  clear la lb lc
  unfold Sx.val
  go_enter Tryz.func135, Tryz.ntmps135
  go_wp2_with fail
  refine wp_name (fun W => Trq sa sb sc a b c w W ∧ Bk W (w.heap.size + 1 + 1 + 1) 66 #[.bool false, .slice none 0 0, .slice none 0 0]) ⟨?_, ?_⟩ ?_
  · exact (Trq.start ha hb hc).next (below_alloc _ _)
  · simpa using (Bk.new (((w.alloc _).alloc _).alloc _) _ _)
  rintro W ⟨q0, k0⟩
  clear ha hb hc
  have C1 := Lib.hid (fun X (h : Below W.heap.size W X) => qminus_any (b.1) (a.1) _ _ X (q0.next h).p2.x (q0.next h).p1.x (by assumption) (by assumption))
  have C2 := Lib.hid (fun X (h : Below W.heap.size W X) => qminus_any (c.2) (a.2) _ _ X (q0.next h).p3.y (q0.next h).p1.y (by assumption) (by assumption))
  obtain ⟨⟨a0, a1, a2, a3, a4, a5⟩, ⟨b0, b1, b2, b3, b4, b5⟩, c0, c1, c2, c3, c4, c5⟩ := q0.cells
  have bb0 := Below.refl W.heap.size W
  have hbs0 := bb0.size
  go_cut [7] from 9 to 33 (fun x wx => ∃ bp, x = .pointer (some ⟨bp, 0, none⟩) ∧ QAt wx bp ((b.1 - a.1) * (c.2 - a.2)) ∧ Below W.heap.size W wx ∧ W.heap.size ≤ bp)
  case first =>
    go_region_held3 (fun X => (X.cell? ⟨w.heap.size, 0, none⟩ = some (.bool sa.b1) ∧ X.cell? ⟨w.heap.size, 1, none⟩ = some sa.n1 ∧ X.cell? ⟨w.heap.size, 2, none⟩ = some sa.d1 ∧ X.cell? ⟨w.heap.size, 3, none⟩ = some (.bool sa.b2) ∧ X.cell? ⟨w.heap.size, 4, none⟩ = some sa.n2 ∧ X.cell? ⟨w.heap.size, 5, none⟩ = some sa.d2) ∧ (X.cell? ⟨w.heap.size + 1, 0, none⟩ = some (.bool sb.b1) ∧ X.cell? ⟨w.heap.size + 1, 1, none⟩ = some sb.n1 ∧ X.cell? ⟨w.heap.size + 1, 2, none⟩ = some sb.d1 ∧ X.cell? ⟨w.heap.size + 1, 3, none⟩ = some (.bool sb.b2) ∧ X.cell? ⟨w.heap.size + 1, 4, none⟩ = some sb.n2 ∧ X.cell? ⟨w.heap.size + 1, 5, none⟩ = some sb.d2) ∧ (X.cell? ⟨w.heap.size + 1 + 1, 0, none⟩ = some (.bool sc.b1) ∧ X.cell? ⟨w.heap.size + 1 + 1, 1, none⟩ = some sc.n1 ∧ X.cell? ⟨w.heap.size + 1 + 1, 2, none⟩ = some sc.d1 ∧ X.cell? ⟨w.heap.size + 1 + 1, 3, none⟩ = some (.bool sc.b2) ∧ X.cell? ⟨w.heap.size + 1 + 1, 4, none⟩ = some sc.n2 ∧ X.cell? ⟨w.heap.size + 1 + 1, 5, none⟩ = some sc.d2))
      (((with_reducible refine (q0.next ?_).cells); repeat' (first | (with_reducible exact bb3) | (with_reducible exact bb2) | (with_reducible exact bb1) | (with_reducible exact bb0) | ((with_reducible refine Below.setCell ?_ ?_ _); rotate_left; (focus first | omega | (simp; done) | (simp; omega) | (unfold World.setCell; simp; omega))) | ((with_reducible refine Below.alloc ?_ ?_ _); rotate_left; (focus first | omega | (simp; done) | (simp; omega) | (unfold World.setCell; simp; omega))) | (with_reducible refine Below.drew ?_))))
      (first
        | (go_at_call 74; (with_reducible refine (C1.out _ ?_).mono ?_); (focus repeat' (first | (with_reducible exact bb0) | ((with_reducible refine Below.setCell ?_ ?_ _); rotate_left; (focus first | omega | (simp; done) | (simp; omega) | (unfold World.setCell; simp; omega))) | ((with_reducible refine Below.alloc ?_ ?_ _); rotate_left; (focus first | omega | (simp; done) | (simp; omega) | (unfold World.setCell; simp; omega))) | (with_reducible refine Below.drew ?_))); rintro e w1 ⟨hb1, v1, rfl, y1⟩; have bb1 : Below W.heap.size W w1 := below_step (by repeat' (first | (with_reducible exact bb0) | ((with_reducible refine Below.setCell ?_ ?_ _); rotate_left; (focus first | omega | (simp; done) | (simp; omega) | (unfold World.setCell; simp; omega))) | ((with_reducible refine Below.alloc ?_ ?_ _); rotate_left; (focus first | omega | (simp; done) | (simp; omega) | (unfold World.setCell; simp; omega))) | (with_reducible refine Below.drew ?_))) hb1; have hbs1 := bb1.size; have rw1 := Below.refl w1.heap.size w1; obtain ⟨t1, A1, l1, e1, A1', l1', e1', rfl⟩ := y1.form; (first | (with_reducible have ka := (Bk.new W 66 #[.bool false, .slice none 0 0, .slice none 0 0]).drew.next' hb1; have la := ka.lt) | skip))
        | (go_at_call 74; (with_reducible refine (C2.out _ ?_).mono ?_); (focus repeat' (first | (with_reducible exact bb1) | (with_reducible exact bb0) | ((with_reducible refine Below.setCell ?_ ?_ _); rotate_left; (focus first | omega | (simp; done) | (simp; omega) | (unfold World.setCell; simp; omega))) | ((with_reducible refine Below.alloc ?_ ?_ _); rotate_left; (focus first | omega | (simp; done) | (simp; omega) | (unfold World.setCell; simp; omega))) | (with_reducible refine Below.drew ?_))); rintro e w2 ⟨hb2, v2, rfl, y2⟩; have bb2 : Below W.heap.size W w2 := below_step (by repeat' (first | (with_reducible exact bb1) | (with_reducible exact bb0) | ((with_reducible refine Below.setCell ?_ ?_ _); rotate_left; (focus first | omega | (simp; done) | (simp; omega) | (unfold World.setCell; simp; omega))) | ((with_reducible refine Below.alloc ?_ ?_ _); rotate_left; (focus first | omega | (simp; done) | (simp; omega) | (unfold World.setCell; simp; omega))) | (with_reducible refine Below.drew ?_))) hb2; have hbs2 := bb2.size; have rw2 := Below.refl w2.heap.size w2; obtain ⟨t2, A2, l2, e2, A2', l2', e2', rfl⟩ := y2.form; have y12 := y1.next (below_step (by repeat' (first | (with_reducible exact rw1) | ((with_reducible refine Below.setCell ?_ ?_ _); rotate_left; (focus first | omega | (simp; done) | (simp; omega) | (unfold World.setCell; simp; omega))) | ((with_reducible refine Below.alloc ?_ ?_ _); rotate_left; (focus first | omega | (simp; done) | (simp; omega) | (unfold World.setCell; simp; omega))) | (with_reducible refine Below.drew ?_))) hb2); have C3 := Lib.hid (fun X (h : Below w2.heap.size w2 X) => qprod_any (b.1 - a.1) (c.2 - a.2) _ _ X (y12.next h) (y2.next h) (by assumption) (by assumption)); (first | (with_reducible have ka := ka.next' hb2; have la := ka.lt) | (with_reducible have ka := (Bk.new w1 66 #[.bool false, .slice none 0 0, .slice none 0 0]).next' hb2; have la := ka.lt) | skip))
        | (go_at_call 101; (with_reducible refine (C3.out _ ?_).mono ?_); (focus repeat' (first | (with_reducible exact rw2) | ((with_reducible refine Below.setCell ?_ ?_ _); rotate_left; (focus first | omega | (simp; done) | (simp; omega) | (unfold World.setCell; simp; omega))) | ((with_reducible refine Below.alloc ?_ ?_ _); rotate_left; (focus first | omega | (simp; done) | (simp; omega) | (unfold World.setCell; simp; omega))) | (with_reducible refine Below.drew ?_))); rintro e w3 ⟨hb3, v3, rfl, y3⟩; have bb3 : Below W.heap.size W w3 := below_step (by repeat' (first | (with_reducible exact bb2) | (with_reducible exact bb1) | (with_reducible exact bb0) | ((with_reducible refine Below.setCell ?_ ?_ _); rotate_left; (focus first | omega | (simp; done) | (simp; omega) | (unfold World.setCell; simp; omega))) | ((with_reducible refine Below.alloc ?_ ?_ _); rotate_left; (focus first | omega | (simp; done) | (simp; omega) | (unfold World.setCell; simp; omega))) | (with_reducible refine Below.drew ?_))) hb3; have hbs3 := bb3.size; have rw3 := Below.refl w3.heap.size w3; obtain ⟨t3, A3, l3, e3, A3', l3', e3', rfl⟩ := y3.form; (first | (with_reducible have ka := ka.next' hb3; have la := ka.lt) | (with_reducible have ka := (Bk.new w2 66 #[.bool false, .slice none 0 0, .slice none 0 0]).next' hb3; have la := ka.lt) | skip); (first | (obtain ⟨i0, i1, i2⟩ := bk3 ka; have f0 := ka.frozen 0; have f1 := ka.frozen 1; have f2 := ka.frozen 2) | skip)))
    all_goals (go_wp2_with fail)
    all_goals go_meet
    all_goals
      refine ⟨_, rfl, ?_, ?_, by omega⟩
      · first | (with_reducible exact qatN y3) | (with_reducible exact qatS ka y3)
      · repeat' (first | (with_reducible exact bb3) | (with_reducible exact bb2) | (with_reducible exact bb1) | (with_reducible exact bb0) | ((with_reducible refine Below.setCell ?_ ?_ _); rotate_left; (focus first | omega | (simp; done) | (simp; omega) | (unfold World.setCell; simp; omega))) | ((with_reducible refine Below.alloc ?_ ?_ _); rotate_left; (focus first | omega | (simp; done) | (simp; omega) | (unfold World.setCell; simp; omega))) | (with_reducible refine Below.drew ?_))
  case rest =>
  obtain ⟨bp, rfl, hP, hbc, hbp⟩ := hcut
  have q1 := q0.next hbc
  have k1 := k0.next' hbc
  clear q0 k0 C1 C2 bb0 hbs0 a0 a1 a2 a3 a4 a5 b0 b1 b2 b3 b4 b5 c0 c1 c2 c3 c4 c5
  have hcs := hbc.size
  have hbpl := hP.lt
  go_wp2_with fail
  have C1 := Lib.hid (fun X (h : Below wc.heap.size wc X) => qminus_any (b.2) (a.2) _ _ X (q1.next h).p2.y (q1.next h).p1.y (by assumption) (by assumption))
  have C2 := Lib.hid (fun X (h : Below wc.heap.size wc X) => qminus_any (c.1) (a.1) _ _ X (q1.next h).p3.x (q1.next h).p1.x (by assumption) (by assumption))
  obtain ⟨⟨a0, a1, a2, a3, a4, a5⟩, ⟨b0, b1, b2, b3, b4, b5⟩, c0, c1, c2, c3, c4, c5⟩ := q1.cells
  have bb0 := Below.refl wc.heap.size wc
  have hbs0 := bb0.size
  go_cut [8] from 9 to 33 (fun x wx => ∃ bq, x = .pointer (some ⟨bq, 0, none⟩) ∧ QAt wx bq ((b.2 - a.2) * (c.1 - a.1)) ∧ Below wc.heap.size wc wx ∧ wc.heap.size ≤ bq)
  case first =>
    go_region_held3 (fun X => (X.cell? ⟨w.heap.size, 0, none⟩ = some (.bool sa.b1) ∧ X.cell? ⟨w.heap.size, 1, none⟩ = some sa.n1 ∧ X.cell? ⟨w.heap.size, 2, none⟩ = some sa.d1 ∧ X.cell? ⟨w.heap.size, 3, none⟩ = some (.bool sa.b2) ∧ X.cell? ⟨w.heap.size, 4, none⟩ = some sa.n2 ∧ X.cell? ⟨w.heap.size, 5, none⟩ = some sa.d2) ∧ (X.cell? ⟨w.heap.size + 1, 0, none⟩ = some (.bool sb.b1) ∧ X.cell? ⟨w.heap.size + 1, 1, none⟩ = some sb.n1 ∧ X.cell? ⟨w.heap.size + 1, 2, none⟩ = some sb.d1 ∧ X.cell? ⟨w.heap.size + 1, 3, none⟩ = some (.bool sb.b2) ∧ X.cell? ⟨w.heap.size + 1, 4, none⟩ = some sb.n2 ∧ X.cell? ⟨w.heap.size + 1, 5, none⟩ = some sb.d2) ∧ (X.cell? ⟨w.heap.size + 1 + 1, 0, none⟩ = some (.bool sc.b1) ∧ X.cell? ⟨w.heap.size + 1 + 1, 1, none⟩ = some sc.n1 ∧ X.cell? ⟨w.heap.size + 1 + 1, 2, none⟩ = some sc.d1 ∧ X.cell? ⟨w.heap.size + 1 + 1, 3, none⟩ = some (.bool sc.b2) ∧ X.cell? ⟨w.heap.size + 1 + 1, 4, none⟩ = some sc.n2 ∧ X.cell? ⟨w.heap.size + 1 + 1, 5, none⟩ = some sc.d2))
      (((with_reducible refine (q1.next ?_).cells); repeat' (first | (with_reducible exact bb3) | (with_reducible exact bb2) | (with_reducible exact bb1) | (with_reducible exact bb0) | ((with_reducible refine Below.setCell ?_ ?_ _); rotate_left; (focus first | omega | (simp; done) | (simp; omega) | (unfold World.setCell; simp; omega))) | ((with_reducible refine Below.alloc ?_ ?_ _); rotate_left; (focus first | omega | (simp; done) | (simp; omega) | (unfold World.setCell; simp; omega))) | (with_reducible refine Below.drew ?_))))
      (first
        | (go_at_call 74; (with_reducible refine (C1.out _ ?_).mono ?_); (focus repeat' (first | (with_reducible exact bb0) | ((with_reducible refine Below.setCell ?_ ?_ _); rotate_left; (focus first | omega | (simp; done) | (simp; omega) | (unfold World.setCell; simp; omega))) | ((with_reducible refine Below.alloc ?_ ?_ _); rotate_left; (focus first | omega | (simp; done) | (simp; omega) | (unfold World.setCell; simp; omega))) | (with_reducible refine Below.drew ?_))); rintro e w1 ⟨hb1, v1, rfl, y1⟩; have bb1 : Below wc.heap.size wc w1 := below_step (by repeat' (first | (with_reducible exact bb0) | ((with_reducible refine Below.setCell ?_ ?_ _); rotate_left; (focus first | omega | (simp; done) | (simp; omega) | (unfold World.setCell; simp; omega))) | ((with_reducible refine Below.alloc ?_ ?_ _); rotate_left; (focus first | omega | (simp; done) | (simp; omega) | (unfold World.setCell; simp; omega))) | (with_reducible refine Below.drew ?_))) hb1; have hbs1 := bb1.size; have rw1 := Below.refl w1.heap.size w1; obtain ⟨t1, A1, l1, e1, A1', l1', e1', rfl⟩ := y1.form; (first | (with_reducible have ka := (Bk.new wc 66 #[.bool false, .slice none 0 0, .slice none 0 0]).drew.next' hb1; have la := ka.lt) | skip))
        | (go_at_call 74; (with_reducible refine (C2.out _ ?_).mono ?_); (focus repeat' (first | (with_reducible exact bb1) | (with_reducible exact bb0) | ((with_reducible refine Below.setCell ?_ ?_ _); rotate_left; (focus first | omega | (simp; done) | (simp; omega) | (unfold World.setCell; simp; omega))) | ((with_reducible refine Below.alloc ?_ ?_ _); rotate_left; (focus first | omega | (simp; done) | (simp; omega) | (unfold World.setCell; simp; omega))) | (with_reducible refine Below.drew ?_))); rintro e w2 ⟨hb2, v2, rfl, y2⟩; have bb2 : Below wc.heap.size wc w2 := below_step (by repeat' (first | (with_reducible exact bb1) | (with_reducible exact bb0) | ((with_reducible refine Below.setCell ?_ ?_ _); rotate_left; (focus first | omega | (simp; done) | (simp; omega) | (unfold World.setCell; simp; omega))) | ((with_reducible refine Below.alloc ?_ ?_ _); rotate_left; (focus first | omega | (simp; done) | (simp; omega) | (unfold World.setCell; simp; omega))) | (with_reducible refine Below.drew ?_))) hb2; have hbs2 := bb2.size; have rw2 := Below.refl w2.heap.size w2; obtain ⟨t2, A2, l2, e2, A2', l2', e2', rfl⟩ := y2.form; have y12 := y1.next (below_step (by repeat' (first | (with_reducible exact rw1) | ((with_reducible refine Below.setCell ?_ ?_ _); rotate_left; (focus first | omega | (simp; done) | (simp; omega) | (unfold World.setCell; simp; omega))) | ((with_reducible refine Below.alloc ?_ ?_ _); rotate_left; (focus first | omega | (simp; done) | (simp; omega) | (unfold World.setCell; simp; omega))) | (with_reducible refine Below.drew ?_))) hb2); have C3 := Lib.hid (fun X (h : Below w2.heap.size w2 X) => qprod_any (b.2 - a.2) (c.1 - a.1) _ _ X (y12.next h) (y2.next h) (by assumption) (by assumption)); (first | (with_reducible have ka := ka.next' hb2; have la := ka.lt) | (with_reducible have ka := (Bk.new w1 66 #[.bool false, .slice none 0 0, .slice none 0 0]).next' hb2; have la := ka.lt) | skip))
        | (go_at_call 101; (with_reducible refine (C3.out _ ?_).mono ?_); (focus repeat' (first | (with_reducible exact rw2) | ((with_reducible refine Below.setCell ?_ ?_ _); rotate_left; (focus first | omega | (simp; done) | (simp; omega) | (unfold World.setCell; simp; omega))) | ((with_reducible refine Below.alloc ?_ ?_ _); rotate_left; (focus first | omega | (simp; done) | (simp; omega) | (unfold World.setCell; simp; omega))) | (with_reducible refine Below.drew ?_))); rintro e w3 ⟨hb3, v3, rfl, y3⟩; have bb3 : Below wc.heap.size wc w3 := below_step (by repeat' (first | (with_reducible exact bb2) | (with_reducible exact bb1) | (with_reducible exact bb0) | ((with_reducible refine Below.setCell ?_ ?_ _); rotate_left; (focus first | omega | (simp; done) | (simp; omega) | (unfold World.setCell; simp; omega))) | ((with_reducible refine Below.alloc ?_ ?_ _); rotate_left; (focus first | omega | (simp; done) | (simp; omega) | (unfold World.setCell; simp; omega))) | (with_reducible refine Below.drew ?_))) hb3; have hbs3 := bb3.size; have rw3 := Below.refl w3.heap.size w3; obtain ⟨t3, A3, l3, e3, A3', l3', e3', rfl⟩ := y3.form; (first | (with_reducible have ka := ka.next' hb3; have la := ka.lt) | (with_reducible have ka := (Bk.new w2 66 #[.bool false, .slice none 0 0, .slice none 0 0]).next' hb3; have la := ka.lt) | skip); (first | (obtain ⟨i0, i1, i2⟩ := bk3 ka; have f0 := ka.frozen 0; have f1 := ka.frozen 1; have f2 := ka.frozen 2) | skip)))
    all_goals (go_wp2_with fail)
    all_goals go_meet
    all_goals
      refine ⟨_, rfl, ?_, ?_, by omega⟩
      · first | (with_reducible exact qatN y3) | (with_reducible exact qatS ka y3)
      · repeat' (first | (with_reducible exact bb3) | (with_reducible exact bb2) | (with_reducible exact bb1) | (with_reducible exact bb0) | ((with_reducible refine Below.setCell ?_ ?_ _); rotate_left; (focus first | omega | (simp; done) | (simp; omega) | (unfold World.setCell; simp; omega))) | ((with_reducible refine Below.alloc ?_ ?_ _); rotate_left; (focus first | omega | (simp; done) | (simp; omega) | (unfold World.setCell; simp; omega))) | (with_reducible refine Below.drew ?_))
  case rest =>
  obtain ⟨bq, rfl, hQ, hbd, hbq⟩ := hcut
  have q2 := q1.next hbd
  have k2 := k1.next' hbd
  have hP2 := hP.next hbd
  clear q1 k1 C1 C2 bb0 hbs0 a0 a1 a2 a3 a4 a5 b0 b1 b2 b3 b4 b5 c0 c1 c2 c3 c4 c5 hP
  obtain ⟨s1, A1, l1, c1, A1', l1', c1', kP, fP⟩ := hP2
  obtain ⟨s2, A2, l2, c2, A2', l2', c2', kQ, fQ⟩ := hQ
  obtain ⟨i0, i1, i2⟩ := bk3 kP
  obtain ⟨j0, j1, j2⟩ := bk3 kQ
  go_wp2_with fail
  refine (qminus_any _ _ _ _ _ fP fQ n1 n2).mono ?_
  rintro e w3 ⟨hb3, v3, rfl, y3⟩
  obtain ⟨t3, A5, l5, c5, A6, l6, c6, rfl⟩ := y3.form
  have k3 := k2.next' hb3
  have q3 := q2.next hb3
  have hlt := k3.lt
  obtain ⟨e0, e1, e2⟩ := bk3 k3
  have f0 := k3.frozen 0
  have f1 := k3.frozen 1
  have f2 := k3.frozen 2
  clear i0 i1 i2 j0 j1 j2 kP kQ
  go_wp2
  refine bodyPost_ret (v := .agg #[.bool t3, .slice A5 l5 c5, .slice A6 l6 c6]) (by simp [results, Tryz.results135, go_sem, e0, e1, e2]) rfl ?_
  have ST := y3.stored (w := w) k3 q3.below (by omega)
  refine ⟨ST.1, _, rfl, ?_⟩
  rw [HC.out]
  exact ST.2

theorem sz_cross' {a b c : Qp} (la : szp a ≤ 10000000000) (lb : szp b ≤ 10000000000) (lc : szp c ≤ 10000000000) : sz (crossQ a b c) ≤ 100000000000 := by
  have := sz_cross la lb lc
  omega
set_option maxRecDepth 100000 in
set_option maxHeartbeats 3200000 in
theorem left_any (a b c : Qp) (sa sb sc : Sx) (w : World) (ha : IsRt w w.heap.size sa a) (hb : IsRt w w.heap.size sb b) (hc : IsRt w w.heap.size sc c) (la : szp a ≤ 10000000000) (lb : szp b ≤ 10000000000) (lc : szp c ≤ 10000000000) :
    Calls Tryz.prog 124 #[sa.val, sb.val, sc.val] w fun e w' => Below w.heap.size w w' ∧ e = .returned (.int .i64 (sgQ (crossQ a b c))) := by
  have HZ := Lib.hid (sz_cross' la lb lc)
  have q0 := Trq.start ha hb hc
  clear ha hb hc
  have C1 := qcross_any a b c sa sb sc _ q0.p1 q0.p2 q0.p3 la lb lc
  unfold Sx.val at *
  go_enter Tryz.func124, Tryz.ntmps124
  go_wp2_with fail
  refine C1.mono ?_
  rintro e w1 ⟨hb1, v1, rfl, y1⟩
  clear C1
  go_wp2_with fail
  refine (qsgn_any _ _ _ y1 (Nat.le_trans HZ.out (by omega))).mono ?_
  rintro e w2 ⟨hb2, rfl⟩
  have q2 := (q0.next hb1).next hb2
  go_wp2
  go_ret
  exact ⟨q2.below, rfl⟩

/-- What 'between' looks at. -/
def btwR (a b c : Qp) : Rat := (c.1 - a.1) * (c.1 - b.1) + (c.2 - a.2) * (c.2 - b.2)
set_option maxRecDepth 100000 in
set_option maxHeartbeats 6400000 in
theorem between_any (a b c : Qp) (sa sb sc : Sx) (w : World) (ha : IsRt w w.heap.size sa a) (hb : IsRt w w.heap.size sb b) (hc : IsRt w w.heap.size sc c) (la : szp a ≤ 10000000000) (lb : szp b ≤ 10000000000) (lc : szp c ≤ 10000000000) :
    Calls Tryz.prog 125 #[sa.val, sb.val, sc.val] w fun e w' => Below w.heap.size w w' ∧ e = .returned (.bool (decide (sgQ (btwR a b c) < 0))) := by
  unfold szp at *
  have l1 : sz a.1 ≤ 100000000000 := by omega
  have l2 : sz a.2 ≤ 100000000000 := by omega
  have l3 : sz b.1 ≤ 100000000000 := by omega
  have l4 : sz b.2 ≤ 100000000000 := by omega
  have l5 : sz c.1 ≤ 100000000000 := by omega
  have l6 : sz c.2 ≤ 100000000000 := by omega
  have m1 : sz (c.1 - a.1) ≤ 200000000000 := by have := sz_sub c.1 a.1; omega
  have m2 : sz (c.1 - b.1) ≤ 200000000000 := by have := sz_sub c.1 b.1; omega
  have m3 : sz (c.2 - a.2) ≤ 200000000000 := by have := sz_sub c.2 a.2; omega
  have m4 : sz (c.2 - b.2) ≤ 200000000000 := by have := sz_sub c.2 b.2; omega
  have n1 : sz ((c.1 - a.1) * (c.1 - b.1)) ≤ 100000000000 := by have := sz_mul (c.1 - a.1) (c.1 - b.1); have := sz_sub c.1 a.1; have := sz_sub c.1 b.1; omega
  have n2 : sz ((c.2 - a.2) * (c.2 - b.2)) ≤ 100000000000 := by have := sz_mul (c.2 - a.2) (c.2 - b.2); have := sz_sub c.2 a.2; have := sz_sub c.2 b.2; omega
  have n3 : sz ((c.1 - a.1) * (c.1 - b.1) + (c.2 - a.2) * (c.2 - b.2)) ≤ 1000000000000 := by have := sz_add ((c.1 - a.1) * (c.1 - b.1)) ((c.2 - a.2) * (c.2 - b.2)); omega
  have HC : Hid (btwR a b c = (c.1 - a.1) * (c.1 - b.1) + (c.2 - a.2) * (c.2 - b.2)) := rfl
  clear la lb lc
  unfold Sx.val
  go_enter Tryz.func125, Tryz.ntmps125
  go_wp2_with fail
  refine wp_name (fun W => Trq sa sb sc a b c w W) (Trq.start ha hb hc) ?_
  rintro W q0
  clear ha hb hc
  have C1 := Lib.hid (fun X (h : Below W.heap.size W X) => qminus_any (c.1) (a.1) _ _ X (q0.next h).p3.x (q0.next h).p1.x (by assumption) (by assumption))
  have C2 := Lib.hid (fun X (h : Below W.heap.size W X) => qminus_any (c.1) (b.1) _ _ X (q0.next h).p3.x (q0.next h).p2.x (by assumption) (by assumption))
  obtain ⟨⟨a0, a1, a2, a3, a4, a5⟩, ⟨b0, b1, b2, b3, b4, b5⟩, c0, c1, c2, c3, c4, c5⟩ := q0.cells
  have bb0 := Below.refl W.heap.size W
  have hbs0 := bb0.size
  go_cut [7] from 9 to 35 (fun x wx => ∃ bp, x = .pointer (some ⟨bp, 0, none⟩) ∧ QAt wx bp ((c.1 - a.1) * (c.1 - b.1)) ∧ Below W.heap.size W wx ∧ W.heap.size ≤ bp)
  case first =>
    go_region_held3 (fun X => (X.cell? ⟨w.heap.size, 0, none⟩ = some (.bool sa.b1) ∧ X.cell? ⟨w.heap.size, 1, none⟩ = some sa.n1 ∧ X.cell? ⟨w.heap.size, 2, none⟩ = some sa.d1 ∧ X.cell? ⟨w.heap.size, 3, none⟩ = some (.bool sa.b2) ∧ X.cell? ⟨w.heap.size, 4, none⟩ = some sa.n2 ∧ X.cell? ⟨w.heap.size, 5, none⟩ = some sa.d2) ∧ (X.cell? ⟨w.heap.size + 1, 0, none⟩ = some (.bool sb.b1) ∧ X.cell? ⟨w.heap.size + 1, 1, none⟩ = some sb.n1 ∧ X.cell? ⟨w.heap.size + 1, 2, none⟩ = some sb.d1 ∧ X.cell? ⟨w.heap.size + 1, 3, none⟩ = some (.bool sb.b2) ∧ X.cell? ⟨w.heap.size + 1, 4, none⟩ = some sb.n2 ∧ X.cell? ⟨w.heap.size + 1, 5, none⟩ = some sb.d2) ∧ (X.cell? ⟨w.heap.size + 1 + 1, 0, none⟩ = some (.bool sc.b1) ∧ X.cell? ⟨w.heap.size + 1 + 1, 1, none⟩ = some sc.n1 ∧ X.cell? ⟨w.heap.size + 1 + 1, 2, none⟩ = some sc.d1 ∧ X.cell? ⟨w.heap.size + 1 + 1, 3, none⟩ = some (.bool sc.b2) ∧ X.cell? ⟨w.heap.size + 1 + 1, 4, none⟩ = some sc.n2 ∧ X.cell? ⟨w.heap.size + 1 + 1, 5, none⟩ = some sc.d2))
      (((with_reducible refine (q0.next ?_).cells); repeat' (first | (with_reducible exact bb3) | (with_reducible exact bb2) | (with_reducible exact bb1) | (with_reducible exact bb0) | ((with_reducible refine Below.setCell ?_ ?_ _); rotate_left; (focus first | omega | (simp; done) | (simp; omega) | (unfold World.setCell; simp; omega))) | ((with_reducible refine Below.alloc ?_ ?_ _); rotate_left; (focus first | omega | (simp; done) | (simp; omega) | (unfold World.setCell; simp; omega))) | (with_reducible refine Below.drew ?_))))
      (first
        | (go_at_call 74; (with_reducible refine (C1.out _ ?_).mono ?_); (focus repeat' (first | (with_reducible exact bb0) | ((with_reducible refine Below.setCell ?_ ?_ _); rotate_left; (focus first | omega | (simp; done) | (simp; omega) | (unfold World.setCell; simp; omega))) | ((with_reducible refine Below.alloc ?_ ?_ _); rotate_left; (focus first | omega | (simp; done) | (simp; omega) | (unfold World.setCell; simp; omega))) | (with_reducible refine Below.drew ?_))); rintro e w1 ⟨hb1, v1, rfl, y1⟩; have bb1 : Below W.heap.size W w1 := below_step (by repeat' (first | (with_reducible exact bb0) | ((with_reducible refine Below.setCell ?_ ?_ _); rotate_left; (focus first | omega | (simp; done) | (simp; omega) | (unfold World.setCell; simp; omega))) | ((with_reducible refine Below.alloc ?_ ?_ _); rotate_left; (focus first | omega | (simp; done) | (simp; omega) | (unfold World.setCell; simp; omega))) | (with_reducible refine Below.drew ?_))) hb1; have hbs1 := bb1.size; have rw1 := Below.refl w1.heap.size w1; obtain ⟨t1, A1, l1, e1, A1', l1', e1', rfl⟩ := y1.form; (first | (with_reducible have ka := (Bk.new W 66 #[.bool false, .slice none 0 0, .slice none 0 0]).drew.next' hb1; have la := ka.lt) | skip))
        | (go_at_call 74; (with_reducible refine (C2.out _ ?_).mono ?_); (focus repeat' (first | (with_reducible exact bb1) | (with_reducible exact bb0) | ((with_reducible refine Below.setCell ?_ ?_ _); rotate_left; (focus first | omega | (simp; done) | (simp; omega) | (unfold World.setCell; simp; omega))) | ((with_reducible refine Below.alloc ?_ ?_ _); rotate_left; (focus first | omega | (simp; done) | (simp; omega) | (unfold World.setCell; simp; omega))) | (with_reducible refine Below.drew ?_))); rintro e w2 ⟨hb2, v2, rfl, y2⟩; have bb2 : Below W.heap.size W w2 := below_step (by repeat' (first | (with_reducible exact bb1) | (with_reducible exact bb0) | ((with_reducible refine Below.setCell ?_ ?_ _); rotate_left; (focus first | omega | (simp; done) | (simp; omega) | (unfold World.setCell; simp; omega))) | ((with_reducible refine Below.alloc ?_ ?_ _); rotate_left; (focus first | omega | (simp; done) | (simp; omega) | (unfold World.setCell; simp; omega))) | (with_reducible refine Below.drew ?_))) hb2; have hbs2 := bb2.size; have rw2 := Below.refl w2.heap.size w2; obtain ⟨t2, A2, l2, e2, A2', l2', e2', rfl⟩ := y2.form; have y12 := y1.next (below_step (by repeat' (first | (with_reducible exact rw1) | ((with_reducible refine Below.setCell ?_ ?_ _); rotate_left; (focus first | omega | (simp; done) | (simp; omega) | (unfold World.setCell; simp; omega))) | ((with_reducible refine Below.alloc ?_ ?_ _); rotate_left; (focus first | omega | (simp; done) | (simp; omega) | (unfold World.setCell; simp; omega))) | (with_reducible refine Below.drew ?_))) hb2); have C3 := Lib.hid (fun X (h : Below w2.heap.size w2 X) => qprod_any (c.1 - a.1) (c.1 - b.1) _ _ X (y12.next h) (y2.next h) (by assumption) (by assumption)); (first | (with_reducible have ka := ka.next' hb2; have la := ka.lt) | (with_reducible have ka := (Bk.new w1 66 #[.bool false, .slice none 0 0, .slice none 0 0]).next' hb2; have la := ka.lt) | skip))
        | (go_at_call 101; (with_reducible refine (C3.out _ ?_).mono ?_); (focus repeat' (first | (with_reducible exact rw2) | ((with_reducible refine Below.setCell ?_ ?_ _); rotate_left; (focus first | omega | (simp; done) | (simp; omega) | (unfold World.setCell; simp; omega))) | ((with_reducible refine Below.alloc ?_ ?_ _); rotate_left; (focus first | omega | (simp; done) | (simp; omega) | (unfold World.setCell; simp; omega))) | (with_reducible refine Below.drew ?_))); rintro e w3 ⟨hb3, v3, rfl, y3⟩; have bb3 : Below W.heap.size W w3 := below_step (by repeat' (first | (with_reducible exact bb2) | (with_reducible exact bb1) | (with_reducible exact bb0) | ((with_reducible refine Below.setCell ?_ ?_ _); rotate_left; (focus first | omega | (simp; done) | (simp; omega) | (unfold World.setCell; simp; omega))) | ((with_reducible refine Below.alloc ?_ ?_ _); rotate_left; (focus first | omega | (simp; done) | (simp; omega) | (unfold World.setCell; simp; omega))) | (with_reducible refine Below.drew ?_))) hb3; have hbs3 := bb3.size; have rw3 := Below.refl w3.heap.size w3; obtain ⟨t3, A3, l3, e3, A3', l3', e3', rfl⟩ := y3.form; (first | (with_reducible have ka := ka.next' hb3; have la := ka.lt) | (with_reducible have ka := (Bk.new w2 66 #[.bool false, .slice none 0 0, .slice none 0 0]).next' hb3; have la := ka.lt) | skip); (first | (obtain ⟨i0, i1, i2⟩ := bk3 ka; have f0 := ka.frozen 0; have f1 := ka.frozen 1; have f2 := ka.frozen 2) | skip)))
    all_goals (go_wp2_with fail)
    all_goals go_meet
    all_goals
      refine ⟨_, rfl, ?_, ?_, by omega⟩
      · first | (with_reducible exact qatN y3) | (with_reducible exact qatS ka y3)
      · repeat' (first | (with_reducible exact bb3) | (with_reducible exact bb2) | (with_reducible exact bb1) | (with_reducible exact bb0) | ((with_reducible refine Below.setCell ?_ ?_ _); rotate_left; (focus first | omega | (simp; done) | (simp; omega) | (unfold World.setCell; simp; omega))) | ((with_reducible refine Below.alloc ?_ ?_ _); rotate_left; (focus first | omega | (simp; done) | (simp; omega) | (unfold World.setCell; simp; omega))) | (with_reducible refine Below.drew ?_))
  case rest =>
  obtain ⟨bp, rfl, hP, hbc, hbp⟩ := hcut
  have q1 := q0.next hbc
  clear q0 C1 C2 bb0 hbs0 a0 a1 a2 a3 a4 a5 b0 b1 b2 b3 b4 b5 c0 c1 c2 c3 c4 c5
  have hcs := hbc.size
  have hbpl := hP.lt
  go_wp2_with fail
  have C1 := Lib.hid (fun X (h : Below wc.heap.size wc X) => qminus_any (c.2) (a.2) _ _ X (q1.next h).p3.y (q1.next h).p1.y (by assumption) (by assumption))
  have C2 := Lib.hid (fun X (h : Below wc.heap.size wc X) => qminus_any (c.2) (b.2) _ _ X (q1.next h).p3.y (q1.next h).p2.y (by assumption) (by assumption))
  obtain ⟨⟨a0, a1, a2, a3, a4, a5⟩, ⟨b0, b1, b2, b3, b4, b5⟩, c0, c1, c2, c3, c4, c5⟩ := q1.cells
  have bb0 := Below.refl wc.heap.size wc
  have hbs0 := bb0.size
  go_cut [8] from 9 to 35 (fun x wx => ∃ bq, x = .pointer (some ⟨bq, 0, none⟩) ∧ QAt wx bq ((c.2 - a.2) * (c.2 - b.2)) ∧ Below wc.heap.size wc wx ∧ wc.heap.size ≤ bq)
  case first =>
    go_region_held3 (fun X => (X.cell? ⟨w.heap.size, 0, none⟩ = some (.bool sa.b1) ∧ X.cell? ⟨w.heap.size, 1, none⟩ = some sa.n1 ∧ X.cell? ⟨w.heap.size, 2, none⟩ = some sa.d1 ∧ X.cell? ⟨w.heap.size, 3, none⟩ = some (.bool sa.b2) ∧ X.cell? ⟨w.heap.size, 4, none⟩ = some sa.n2 ∧ X.cell? ⟨w.heap.size, 5, none⟩ = some sa.d2) ∧ (X.cell? ⟨w.heap.size + 1, 0, none⟩ = some (.bool sb.b1) ∧ X.cell? ⟨w.heap.size + 1, 1, none⟩ = some sb.n1 ∧ X.cell? ⟨w.heap.size + 1, 2, none⟩ = some sb.d1 ∧ X.cell? ⟨w.heap.size + 1, 3, none⟩ = some (.bool sb.b2) ∧ X.cell? ⟨w.heap.size + 1, 4, none⟩ = some sb.n2 ∧ X.cell? ⟨w.heap.size + 1, 5, none⟩ = some sb.d2) ∧ (X.cell? ⟨w.heap.size + 1 + 1, 0, none⟩ = some (.bool sc.b1) ∧ X.cell? ⟨w.heap.size + 1 + 1, 1, none⟩ = some sc.n1 ∧ X.cell? ⟨w.heap.size + 1 + 1, 2, none⟩ = some sc.d1 ∧ X.cell? ⟨w.heap.size + 1 + 1, 3, none⟩ = some (.bool sc.b2) ∧ X.cell? ⟨w.heap.size + 1 + 1, 4, none⟩ = some sc.n2 ∧ X.cell? ⟨w.heap.size + 1 + 1, 5, none⟩ = some sc.d2))
      (((with_reducible refine (q1.next ?_).cells); repeat' (first | (with_reducible exact bb3) | (with_reducible exact bb2) | (with_reducible exact bb1) | (with_reducible exact bb0) | ((with_reducible refine Below.setCell ?_ ?_ _); rotate_left; (focus first | omega | (simp; done) | (simp; omega) | (unfold World.setCell; simp; omega))) | ((with_reducible refine Below.alloc ?_ ?_ _); rotate_left; (focus first | omega | (simp; done) | (simp; omega) | (unfold World.setCell; simp; omega))) | (with_reducible refine Below.drew ?_))))
      (first
        | (go_at_call 74; (with_reducible refine (C1.out _ ?_).mono ?_); (focus repeat' (first | (with_reducible exact bb0) | ((with_reducible refine Below.setCell ?_ ?_ _); rotate_left; (focus first | omega | (simp; done) | (simp; omega) | (unfold World.setCell; simp; omega))) | ((with_reducible refine Below.alloc ?_ ?_ _); rotate_left; (focus first | omega | (simp; done) | (simp; omega) | (unfold World.setCell; simp; omega))) | (with_reducible refine Below.drew ?_))); rintro e w1 ⟨hb1, v1, rfl, y1⟩; have bb1 : Below wc.heap.size wc w1 := below_step (by repeat' (first | (with_reducible exact bb0) | ((with_reducible refine Below.setCell ?_ ?_ _); rotate_left; (focus first | omega | (simp; done) | (simp; omega) | (unfold World.setCell; simp; omega))) | ((with_reducible refine Below.alloc ?_ ?_ _); rotate_left; (focus first | omega | (simp; done) | (simp; omega) | (unfold World.setCell; simp; omega))) | (with_reducible refine Below.drew ?_))) hb1; have hbs1 := bb1.size; have rw1 := Below.refl w1.heap.size w1; obtain ⟨t1, A1, l1, e1, A1', l1', e1', rfl⟩ := y1.form; (first | (with_reducible have ka := (Bk.new wc 66 #[.bool false, .slice none 0 0, .slice none 0 0]).drew.next' hb1; have la := ka.lt) | skip))
        | (go_at_call 74; (with_reducible refine (C2.out _ ?_).mono ?_); (focus repeat' (first | (with_reducible exact bb1) | (with_reducible exact bb0) | ((with_reducible refine Below.setCell ?_ ?_ _); rotate_left; (focus first | omega | (simp; done) | (simp; omega) | (unfold World.setCell; simp; omega))) | ((with_reducible refine Below.alloc ?_ ?_ _); rotate_left; (focus first | omega | (simp; done) | (simp; omega) | (unfold World.setCell; simp; omega))) | (with_reducible refine Below.drew ?_))); rintro e w2 ⟨hb2, v2, rfl, y2⟩; have bb2 : Below wc.heap.size wc w2 := below_step (by repeat' (first | (with_reducible exact bb1) | (with_reducible exact bb0) | ((with_reducible refine Below.setCell ?_ ?_ _); rotate_left; (focus first | omega | (simp; done) | (simp; omega) | (unfold World.setCell; simp; omega))) | ((with_reducible refine Below.alloc ?_ ?_ _); rotate_left; (focus first | omega | (simp; done) | (simp; omega) | (unfold World.setCell; simp; omega))) | (with_reducible refine Below.drew ?_))) hb2; have hbs2 := bb2.size; have rw2 := Below.refl w2.heap.size w2; obtain ⟨t2, A2, l2, e2, A2', l2', e2', rfl⟩ := y2.form; have y12 := y1.next (below_step (by repeat' (first | (with_reducible exact rw1) | ((with_reducible refine Below.setCell ?_ ?_ _); rotate_left; (focus first | omega | (simp; done) | (simp; omega) | (unfold World.setCell; simp; omega))) | ((with_reducible refine Below.alloc ?_ ?_ _); rotate_left; (focus first | omega | (simp; done) | (simp; omega) | (unfold World.setCell; simp; omega))) | (with_reducible refine Below.drew ?_))) hb2); have C3 := Lib.hid (fun X (h : Below w2.heap.size w2 X) => qprod_any (c.2 - a.2) (c.2 - b.2) _ _ X (y12.next h) (y2.next h) (by assumption) (by assumption)); (first | (with_reducible have ka := ka.next' hb2; have la := ka.lt) | (with_reducible have ka := (Bk.new w1 66 #[.bool false, .slice none 0 0, .slice none 0 0]).next' hb2; have la := ka.lt) | skip))
        | (go_at_call 101; (with_reducible refine (C3.out _ ?_).mono ?_); (focus repeat' (first | (with_reducible exact rw2) | ((with_reducible refine Below.setCell ?_ ?_ _); rotate_left; (focus first | omega | (simp; done) | (simp; omega) | (unfold World.setCell; simp; omega))) | ((with_reducible refine Below.alloc ?_ ?_ _); rotate_left; (focus first | omega | (simp; done) | (simp; omega) | (unfold World.setCell; simp; omega))) | (with_reducible refine Below.drew ?_))); rintro e w3 ⟨hb3, v3, rfl, y3⟩; have bb3 : Below wc.heap.size wc w3 := below_step (by repeat' (first | (with_reducible exact bb2) | (with_reducible exact bb1) | (with_reducible exact bb0) | ((with_reducible refine Below.setCell ?_ ?_ _); rotate_left; (focus first | omega | (simp; done) | (simp; omega) | (unfold World.setCell; simp; omega))) | ((with_reducible refine Below.alloc ?_ ?_ _); rotate_left; (focus first | omega | (simp; done) | (simp; omega) | (unfold World.setCell; simp; omega))) | (with_reducible refine Below.drew ?_))) hb3; have hbs3 := bb3.size; have rw3 := Below.refl w3.heap.size w3; obtain ⟨t3, A3, l3, e3, A3', l3', e3', rfl⟩ := y3.form; (first | (with_reducible have ka := ka.next' hb3; have la := ka.lt) | (with_reducible have ka := (Bk.new w2 66 #[.bool false, .slice none 0 0, .slice none 0 0]).next' hb3; have la := ka.lt) | skip); (first | (obtain ⟨i0, i1, i2⟩ := bk3 ka; have f0 := ka.frozen 0; have f1 := ka.frozen 1; have f2 := ka.frozen 2) | skip)))
    all_goals (go_wp2_with fail)
    all_goals go_meet
    all_goals
      refine ⟨_, rfl, ?_, ?_, by omega⟩
      · first | (with_reducible exact qatN y3) | (with_reducible exact qatS ka y3)
      · repeat' (first | (with_reducible exact bb3) | (with_reducible exact bb2) | (with_reducible exact bb1) | (with_reducible exact bb0) | ((with_reducible refine Below.setCell ?_ ?_ _); rotate_left; (focus first | omega | (simp; done) | (simp; omega) | (unfold World.setCell; simp; omega))) | ((with_reducible refine Below.alloc ?_ ?_ _); rotate_left; (focus first | omega | (simp; done) | (simp; omega) | (unfold World.setCell; simp; omega))) | (with_reducible refine Below.drew ?_))
  case rest =>
  obtain ⟨bq, rfl, hQ, hbd, hbq⟩ := hcut
  have q2 := q1.next hbd
  have hP2 := hP.next hbd
  clear q1 C1 C2 bb0 hbs0 a0 a1 a2 a3 a4 a5 b0 b1 b2 b3 b4 b5 c0 c1 c2 c3 c4 c5 hP
  obtain ⟨s1, A1, l1, c1, A1', l1', c1', kP, fP⟩ := hP2
  obtain ⟨s2, A2, l2, c2, A2', l2', c2', kQ, fQ⟩ := hQ
  obtain ⟨i0, i1, i2⟩ := bk3 kP
  obtain ⟨j0, j1, j2⟩ := bk3 kQ
  go_wp2_with fail
  refine (qplus_any _ _ _ _ _ fP fQ n1 n2).mono ?_
  rintro e w3 ⟨hb3, v3, rfl, y3⟩
  have q3 := q2.next hb3
  clear i0 i1 i2 j0 j1 j2 kP kQ
  go_wp2_with fail
  refine (qsgn_any _ _ _ y3 n3).mono ?_
  rintro e w4 ⟨hb4, rfl⟩
  have q4 := q3.next hb4
  rw [← HC.out]
  go_wp2
  go_ret
  exact ⟨q4.below, rfl⟩

end Go.Proofs.YtaihplgfbepgpaaGreatDoor
