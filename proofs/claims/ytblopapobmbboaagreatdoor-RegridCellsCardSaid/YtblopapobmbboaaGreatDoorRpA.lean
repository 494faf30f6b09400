/-
  Words: the reference's points and lists of them in memory. Walks: the reference's Prod, Quot.
-/
import Derived.Test.YtblopapobmbboaaGreatDoorQqU
import Derived.Test.YtblopapobmbboaaGreatDoorRegJ
namespace Go.Proofs.YtblopapobmbboaaGreatDoor
open Go.RowKit Ar

/-- A point in memory. -/
def IsRt (w : World) (B : Nat) (s : Sx) (p : Qp) : Prop := IsQ w B (.agg #[.bool s.b1, s.n1, s.d1]) p.1 ∧ IsQ w B (.agg #[.bool s.b2, s.n2, s.d2]) p.2
theorem IsQ.kept {w w' : World} {B : Nat} {v : Value} {q : Rat} (h : IsQ w B v q) (hg : Ints w w') : IsQ w' B v q := by
  obtain ⟨N', D', d, e, k1, k2, k3⟩ := h
  exact ⟨N', D', d, e, k1.kept hg, k2.kept hg, k3⟩
theorem IsRt.kept {w w' : World} {B : Nat} {s : Sx} {p : Qp} (h : IsRt w B s p) (hg : Ints w w') : IsRt w' B s p := ⟨h.1.kept hg, h.2.kept hg⟩
/-- A polygon in memory. -/
def IsRoly (w : World) (B : Nat) (v : Value) (l : List Qp) : Prop :=
  ∃ A c S, v = .slice A l.length c ∧ l.length ≤ c ∧ S.length = l.length ∧ Rd w B A (srow S) ∧ ∀ (i : Nat) (p : Qp), l[i]? = some p → ∃ s, S[i]? = some s ∧ IsRt w B s p
theorem IsRt.more {w : World} {B B' : Nat} {s : Sx} {p : Qp} (h : IsRt w B s p) (hB : B ≤ B') : IsRt w B' s p := ⟨h.1.more hB, h.2.more hB⟩
theorem IsRt.below {w w' : World} {B : Nat} {s : Sx} {p : Qp} (h : IsRt w B s p) (hb : Below B w w') : IsRt w' B s p := ⟨h.1.below hb, h.2.below hb⟩
theorem IsRt.next {w w' : World} {s : Sx} {p : Qp} (h : IsRt w w.heap.size s p) (hb : Below w.heap.size w w') : IsRt w' w'.heap.size s p := (h.below hb).more hb.size
theorem IsRoly.more {w : World} {B B' : Nat} {v : Value} {l : List Qp} (h : IsRoly w B v l) (hB : B ≤ B') : IsRoly w B' v l := by
  obtain ⟨A, c, S, e, h1, h2, h3, h4⟩ := h
  exact ⟨A, c, S, e, h1, h2, h3.more hB, fun i x hx => by obtain ⟨u, k1, k2⟩ := h4 i x hx; exact ⟨u, k1, k2.more hB⟩⟩
theorem IsRoly.below {w w' : World} {B : Nat} {v : Value} {l : List Qp} (h : IsRoly w B v l) (hb : Below B w w') : IsRoly w' B v l := by
  obtain ⟨A, c, S, e, h1, h2, h3, h4⟩ := h
  exact ⟨A, c, S, e, h1, h2, h3.below hb, fun i x hx => by obtain ⟨u, k1, k2⟩ := h4 i x hx; exact ⟨u, k1, k2.below hb⟩⟩
theorem IsRoly.next {w w' : World} {v : Value} {l : List Qp} (h : IsRoly w w.heap.size v l) (hb : Below w.heap.size w w') : IsRoly w' w'.heap.size v l := (h.below hb).more hb.size
/-- A polygon under way: a row of the call's own. -/
def OwnRoly (w : World) (base : Nat) (v : Value) (l : List Qp) : Prop :=
  ∃ S : List Sx, S.length = l.length ∧ w.ownsRow base 119 6 v l.length (srow S) ∧ NoIntB w v.ownBlock ∧ ∀ (i : Nat) (p : Qp), l[i]? = some p → ∃ s, S[i]? = some s ∧ IsRt w w.heap.size s p
theorem OwnRoly.nil (w : World) (base : Nat) : OwnRoly w base (.slice none 0 0) [] := ⟨[], rfl, World.ownsRow_nil _ _ _ _, fun b hb => by simp [Value.ownBlock] at hb, fun i p h => by simp at h⟩
theorem OwnRoly.form {w : World} {base : Nat} {v : Value} {l : List Qp} (h : OwnRoly w base v l) : ∃ A c, v = .slice A l.length c := by
  obtain ⟨S, _, hown, _⟩ := h
  rcases hown.2 with ⟨rfl, e⟩ | ⟨g, cap, cur, rfl, _⟩
  · exact ⟨none, 0, by rw [e]⟩
  · exact ⟨_, _, rfl⟩
theorem OwnRoly.is {w : World} {base : Nat} {v : Value} {l : List Qp} (h : OwnRoly w base v l) : IsRoly w w.heap.size v l := by
  obtain ⟨S, h1, hown, _, h2⟩ := h
  have hrd := hown.2
  obtain ⟨A, c, e, hc⟩ : ∃ A c, v = .slice A l.length c ∧ l.length ≤ c := by
    rcases hrd with ⟨rfl, e⟩ | ⟨g, cap, cur, rfl, _, _, hnc, _⟩
    · exact ⟨none, 0, by rw [e], by omega⟩
    · exact ⟨_, _, rfl, hnc⟩
  subst e
  exact ⟨A, c, S, rfl, hc, h1, Rd.of_own hown, h2⟩
theorem OwnRoly.keep {w w' : World} {base : Nat} {v : Value} {l : List Qp} (h : OwnRoly w base v l) (hb : Below w.heap.size w w') : OwnRoly w' base v l := by
  obtain ⟨S, h1, hown, hni, h2⟩ := h
  refine ⟨S, h1, hown.kept (grown_of_below hb none) ?_, fun b hbk j k i hc => ?_, fun i p hp => ?_⟩
  · cases v.ownBlock with
    | none => exact .inl rfl
    | some g => exact .inr (by simp)
  · have hlt : b < w.heap.size := by
      rcases hown.2 with ⟨rfl, _⟩ | ⟨g, cap, cur, rfl, _, hg, _⟩
      · simp [Value.ownBlock] at hbk
      · have : g = b := by simpa [Value.ownBlock] using hbk
        subst this
        exact (Array.getElem?_eq_some_iff.1 hg).1
    exact hni b hbk j k i ((hb.cell (p := ⟨b, j, none⟩) hlt).symm.trans hc)
  · obtain ⟨s, k1, k2⟩ := h2 i p hp
    exact ⟨s, k1, k2.next hb⟩
theorem OwnRoly.add {w w' : World} {base : Nat} {v v' : Value} {l : List Qp} {p : Qp} {S : List Sx} {s : Sx} (h1 : S.length = l.length) (hni : NoIntB w v.ownBlock) (h2 : ∀ (i : Nat) (p : Qp), l[i]? = some p → ∃ s, S[i]? = some s ∧ IsRt w w.heap.size s p)
    (hs : IsRt w w.heap.size s p) (hown : w'.ownsRow base 119 6 v' (l.length + 1) (srow S ++ s.cells)) (hg : w.grownBy w' v.ownBlock) (hn' : NoIntB w' v'.ownBlock) : OwnRoly w' base v' (l ++ [p]) := by
  have hI := ints_grown hg hni
  refine ⟨S ++ [s], by simp [h1], ?_, hn', fun i q hq => ?_⟩
  · rw [List.length_append, List.length_singleton, srow_app]
    have e : srow [s] = s.cells := by simp [srow]
    rw [e]; exact hown
  · rcases Nat.lt_or_ge i l.length with hi | hi
    · rw [List.getElem?_append_left hi] at hq
      obtain ⟨s', k1, k2⟩ := h2 i q hq
      exact ⟨s', by rw [List.getElem?_append_left (by omega)]; exact k1, (k2.kept hI).more hg.size⟩
    · rw [List.getElem?_append_right hi] at hq
      have hi0 : i - l.length = 0 := by
        rcases Nat.eq_zero_or_pos (i - l.length) with h0 | h0
        · exact h0
        · rw [List.getElem?_eq_none (by simp; omega)] at hq; cases hq
      rw [hi0] at hq
      simp at hq
      subst hq
      exact ⟨s, by rw [List.getElem?_append_right (by omega), h1, hi0]; rfl, (hs.kept hI).more hg.size⟩

theorem IsRt.x {w : World} {B : Nat} {s : Sx} {p : Qp} (h : IsRt w B s p) : IsQ w B (.agg #[.bool s.b1, s.n1, s.d1]) p.1 := h.1
theorem IsRt.y {w : World} {B : Nat} {s : Sx} {p : Qp} (h : IsRt w B s p) : IsQ w B (.agg #[.bool s.b2, s.n2, s.d2]) p.2 := h.2
theorem IsRt.form {w : World} {B : Nat} {s : Sx} {p : Qp} (h : IsRt w B s p) : ∃ t A l c A' l' c' t' A2 l2 c2 A3 l3 c3, s = ⟨t, .slice A l c, .slice A' l' c', t', .slice A2 l2 c2, .slice A3 l3 c3⟩ := by
  obtain ⟨b1, n1, d1, b2, n2, d2⟩ := s
  obtain ⟨h1, h2⟩ := h
  obtain ⟨t, A, l, c, A', l', c', e1⟩ := h1.form
  obtain ⟨t', A2, l2, c2, A3, l3, c3, e2⟩ := h2.form
  simp at e1 e2
  obtain ⟨rfl, rfl, rfl⟩ := e1
  obtain ⟨rfl, rfl, rfl⟩ := e2
  exact ⟨_, _, _, _, _, _, _, _, _, _, _, _, _, _, rfl⟩
theorem IsRt.set3 {w : World} {B b : Nat} {s : Sx} {p : Qp} (h : IsRt w B s p) {T : TypeId} {f : Bool} {A0 A1 : Option Addr} {l0 l1 c0 c1 : Nat} (hb : Bk w b T #[.bool f, .slice A0 l0 c0, .slice A1 l1 c1]) (x y z : Value) : IsRt (set3 w b x y z) B s p :=
  ⟨h.1.set3 hb x y z, h.2.set3 hb x y z⟩
theorem quot_nr (p q : Rat) : p / q = nr (sg p != sg q) (nm p * dn q) (dn p * nm q) := by
  by_cases h : q = 0
  · subst h
    rw [Rat.div_def, Rat.inv_zero, Rat.mul_zero, nm_0, Nat.mul_zero]
    unfold nr
    exact (Rat.mkRat_zero _).symm
  · exact div_nr p q h

set_option maxRecDepth 100000 in
set_option maxHeartbeats 6400000 in
theorem qprod_any (p q : Rat) (v u : Value) (w : World) (h : IsQ w w.heap.size v p) (h' : IsQ w w.heap.size u q) (hl : sz p ≤ 200000000000) (hl' : sz q ≤ 200000000000) :
    Calls Tryz.prog 91 #[v, u] w fun e w' => Below w.heap.size w w' ∧ ∃ v, e = .returned v ∧ IsQ w' w'.heap.size v (p * q) := by
  have hp := h
  have hq := h'
  obtain ⟨N1, D1, d1, rfl, hN1, hD1, _⟩ := h
  obtain ⟨N2, D2, d2, rfl, hN2, hD2, _⟩ := h'
  obtain ⟨A1, l1, c1, rfl⟩ := hN1.form
  obtain ⟨A2, l2, c2, rfl⟩ := hD1.form
  obtain ⟨A3, l3, c3, rfl⟩ := hN2.form
  obtain ⟨A4, l4, c4, rfl⟩ := hD2.form
  have DP : Hid (∀ X, Below w.heap.size w X → Calls Tryz.prog 85 #[.agg #[.bool (sg p), .slice A1 l1 c1, .slice A2 l2 c2]] X fun e w' => Below X.heap.size X w' ∧ ∃ v, e = .returned v ∧ IsN w' w'.heap.size .u64 v (dn p)) := fun X hX => qden_any p _ X (hp.next hX) (by omega)
  have DQ : Hid (∀ X, Below w.heap.size w X → Calls Tryz.prog 85 #[.agg #[.bool (sg q), .slice A3 l3 c3, .slice A4 l4 c4]] X fun e w' => Below X.heap.size X w' ∧ ∃ v, e = .returned v ∧ IsN w' w'.heap.size .u64 v (dn q)) := fun X hX => qden_any q _ X (hq.next hX) (by omega)
  have M1 : Hid (∀ X, Below w.heap.size w X → Calls Tryz.prog 89 #[.slice A1 l1 c1, .slice A3 l3 c3] X fun e w' => Below X.heap.size X w' ∧ ∃ v, e = .returned v ∧ IsN w' w'.heap.size .u64 v (nm p * nm q)) := fun X hX => nmul_any _ _ _ _ X (hN1.next hX) (hN2.next hX) (by have := sz_nm p; omega) (by have := sz_nm q; omega)
  have M2 : Hid (∀ X y z, IsN X X.heap.size .u64 y (dn p) → IsN X X.heap.size .u64 z (dn q) → Calls Tryz.prog 89 #[y, z] X fun e w' => Below X.heap.size X w' ∧ ∃ v, e = .returned v ∧ IsN w' w'.heap.size .u64 v (dn p * dn q)) := fun X y z hy hz => nmul_any _ _ _ _ X hy hz (by have := sz_dn p; omega) (by have := sz_dn q; omega)
  have hsz1 : (limbs (nm p * nm q)).length ≤ 400000000000 := by have := len_mul_le (nm p) (nm q); have := sz_nm p; have := sz_nm q; omega
  have hsz2 : (limbs (dn p * dn q)).length ≤ 400000000000 := by have := len_mul_le (dn p) (dn q); have := sz_dn p; have := sz_dn q; omega
  have HR := Lib.hid (mul_nr p q)
  clear hN1 hN2 hD1 hD2 hl hl' hp hq
  generalize sg p = s1 at *
  generalize sg q = s2 at *
  generalize nm p * nm q = n at *
  generalize dn p * dn q = d at *
  go_enter Tryz.func91, Tryz.ntmps91
  go_wp2_with fail
  refine wp_name (fun W => P2 w (.bool s1) (.slice A1 l1 c1) (.slice A2 l2 c2) (.bool s2) (.slice A3 l3 c3) (.slice A4 l4 c4) W) (P2.start _ _ _ _ _ _ _) ?_
  intro W Z0
  have C0 := Z0.cells
  have hlt := Z0.k3.lt
  go_region_held3 (fun w' => w'.cell? ⟨w.heap.size, 0, none⟩ = some (.bool s1) ∧ w'.cell? ⟨w.heap.size, 1, none⟩ = some (.slice A1 l1 c1) ∧ w'.cell? ⟨w.heap.size, 2, none⟩ = some (.slice A2 l2 c2) ∧
      w'.cell? ⟨w.heap.size + 1, 0, none⟩ = some (.bool s2) ∧ w'.cell? ⟨w.heap.size + 1, 1, none⟩ = some (.slice A3 l3 c3) ∧ w'.cell? ⟨w.heap.size + 1, 2, none⟩ = some (.slice A4 l4 c4))
    (first | with_reducible exact Z1.cells | with_reducible exact Z2.cells | with_reducible exact Z3.cells | with_reducible exact Z4.cells | with_reducible exact Z5.cells | exact bk6 kk1 kk2 | go_keep)
    (first
      | (go_at_call 89; ((with_reducible refine (M1.out _ Z0.drew.below).mono ?_)); rintro e w1 ⟨hb1, x1, rfl, hx1⟩; have Z1 := Z0.drew.next hb1)
      | (go_at_call 85; ((with_reducible refine (DP.out _ Z1.below).mono ?_)); rintro e w2 ⟨hb2, x2, rfl, hx2⟩; have Z2 := Z1.next hb2)
      | (go_at_call 85; ((with_reducible refine (DQ.out _ Z2.below).mono ?_)); rintro e w3 ⟨hb3, x3, rfl, hx3⟩; have Z3 := Z2.next hb3)
      | (go_at_call 89; ((with_reducible refine (M2.out _ _ _ (hx2.next hb3) hx3).mono ?_)); rintro e w4 ⟨hb4, x4, rfl, hx4⟩; have Z4 := Z3.next hb4; have HN4 := ((hx1.next hb2).next hb3).next hb4; have HD4 := hx4)
      | (go_at_call 87; ((with_reducible refine (qmake_any _ n d _ _ _ HN4 HD4 hsz1 hsz2).mono ?_)); rintro e w5 ⟨hb5, x5, rfl, hx5⟩; have Z5 := Z4.next hb5; obtain ⟨t3, A5, l5, c5, A6, l6, c6, rfl⟩ := hx5.form; obtain ⟨e0, e1, e2⟩ := bk3 Z5.k3; have f0 := Z5.k3.frozen 0; have f1 := Z5.k3.frozen 1; have f2 := Z5.k3.frozen 2; have kk1 := bk_far3 (b' := w.heap.size + 1 + 1) (x := .bool t3) (y := .slice A5 l5 c5) (z := .slice A6 l6 c6) Z5.k1 (by omega); have kk2 := bk_far3 (b' := w.heap.size + 1 + 1) (x := .bool t3) (y := .slice A5 l5 c5) (z := .slice A6 l6 c6) Z5.k2 (by omega)))
  go_wp2
  refine bodyPost_ret (v := .agg #[.bool t3, .slice A5 l5 c5, .slice A6 l6 c6]) (by simp [results, Tryz.results91, go_sem, e0, e1, e2]) rfl ?_
  have ST := hx5.stored (w := w) Z5.k3 Z5.below (by omega)
  refine ⟨ST.1, _, rfl, ?_⟩
  have e : p * q = nr (!s1 == s2) n d := HR.out
  rw [e]
  exact ST.2

set_option maxRecDepth 100000 in
set_option maxHeartbeats 6400000 in
theorem qquot_any (p q : Rat) (v u : Value) (w : World) (h : IsQ w w.heap.size v p) (h' : IsQ w w.heap.size u q) (hl : sz p ≤ 200000000000) (hl' : sz q ≤ 200000000000) :
    Calls Tryz.prog 62 #[v, u] w fun e w' => Below w.heap.size w w' ∧ ∃ v, e = .returned v ∧ IsQ w' w'.heap.size v (p / q) := by
  have hp := h
  have hq := h'
  obtain ⟨N1, D1, d1, rfl, hN1, hD1, _⟩ := h
  obtain ⟨N2, D2, d2, rfl, hN2, hD2, _⟩ := h'
  obtain ⟨A1, l1, c1, rfl⟩ := hN1.form
  obtain ⟨A2, l2, c2, rfl⟩ := hD1.form
  obtain ⟨A3, l3, c3, rfl⟩ := hN2.form
  obtain ⟨A4, l4, c4, rfl⟩ := hD2.form
  have DP : Hid (∀ X, Below w.heap.size w X → Calls Tryz.prog 85 #[.agg #[.bool (sg p), .slice A1 l1 c1, .slice A2 l2 c2]] X fun e w' => Below X.heap.size X w' ∧ ∃ v, e = .returned v ∧ IsN w' w'.heap.size .u64 v (dn p)) := fun X hX => qden_any p _ X (hp.next hX) (by omega)
  have DQ : Hid (∀ X, Below w.heap.size w X → Calls Tryz.prog 85 #[.agg #[.bool (sg q), .slice A3 l3 c3, .slice A4 l4 c4]] X fun e w' => Below X.heap.size X w' ∧ ∃ v, e = .returned v ∧ IsN w' w'.heap.size .u64 v (dn q)) := fun X hX => qden_any q _ X (hq.next hX) (by omega)
  have M1 : Hid (∀ X y, Below w.heap.size w X → IsN X X.heap.size .u64 y (dn q) → Calls Tryz.prog 89 #[.slice A1 l1 c1, y] X fun e w' => Below X.heap.size X w' ∧ ∃ v, e = .returned v ∧ IsN w' w'.heap.size .u64 v (nm p * dn q)) := fun X y hX hy => nmul_any _ _ _ _ X (hN1.next hX) hy (by have := sz_nm p; omega) (by have := sz_dn q; omega)
  have M2 : Hid (∀ X y, Below w.heap.size w X → IsN X X.heap.size .u64 y (dn p) → Calls Tryz.prog 89 #[y, .slice A3 l3 c3] X fun e w' => Below X.heap.size X w' ∧ ∃ v, e = .returned v ∧ IsN w' w'.heap.size .u64 v (dn p * nm q)) := fun X y hX hy => nmul_any _ _ _ _ X hy (hN2.next hX) (by have := sz_dn p; omega) (by have := sz_nm q; omega)
  have hsz1 : (limbs (nm p * dn q)).length ≤ 400000000000 := by have := len_mul_le (nm p) (dn q); have := sz_nm p; have := sz_dn q; omega
  have hsz2 : (limbs (dn p * nm q)).length ≤ 400000000000 := by have := len_mul_le (dn p) (nm q); have := sz_dn p; have := sz_nm q; omega
  have HR := Lib.hid (quot_nr p q)
  clear hN1 hN2 hD1 hD2 hl hl' hp hq
  generalize sg p = s1 at *
  generalize sg q = s2 at *
  generalize nm p * dn q = n at *
  generalize dn p * nm q = d at *
  go_enter Tryz.func62, Tryz.ntmps62
  go_wp2_with fail
  refine wp_name (fun W => P2 w (.bool s1) (.slice A1 l1 c1) (.slice A2 l2 c2) (.bool s2) (.slice A3 l3 c3) (.slice A4 l4 c4) W) (P2.start _ _ _ _ _ _ _) ?_
  intro W Z0
  have C0 := Z0.cells
  have hlt := Z0.k3.lt
  go_region_held3 (fun w' => w'.cell? ⟨w.heap.size, 0, none⟩ = some (.bool s1) ∧ w'.cell? ⟨w.heap.size, 1, none⟩ = some (.slice A1 l1 c1) ∧ w'.cell? ⟨w.heap.size, 2, none⟩ = some (.slice A2 l2 c2) ∧
      w'.cell? ⟨w.heap.size + 1, 0, none⟩ = some (.bool s2) ∧ w'.cell? ⟨w.heap.size + 1, 1, none⟩ = some (.slice A3 l3 c3) ∧ w'.cell? ⟨w.heap.size + 1, 2, none⟩ = some (.slice A4 l4 c4))
    (first | with_reducible exact Z1.cells | with_reducible exact Z2.cells | with_reducible exact Z3.cells | with_reducible exact Z4.cells | with_reducible exact Z5.cells | exact bk6 kk1 kk2 | go_keep)
    (first
      | (go_at_call 85; ((with_reducible refine (DQ.out _ Z0.drew.below).mono ?_)); rintro e w1 ⟨hb1, x1, rfl, hx1⟩; have Z1 := Z0.drew.next hb1)
      | (go_at_call 89; ((with_reducible refine (M1.out _ _ Z1.below hx1).mono ?_)); rintro e w2 ⟨hb2, x2, rfl, hx2⟩; have Z2 := Z1.next hb2)
      | (go_at_call 85; ((with_reducible refine (DP.out _ Z2.below).mono ?_)); rintro e w3 ⟨hb3, x3, rfl, hx3⟩; have Z3 := Z2.next hb3)
      | (go_at_call 89; ((with_reducible refine (M2.out _ _ Z3.below hx3).mono ?_)); rintro e w4 ⟨hb4, x4, rfl, hx4⟩; have Z4 := Z3.next hb4; have HN4 := (hx2.next hb3).next hb4; have HD4 := hx4)
      | (go_at_call 87; ((with_reducible refine (qmake_any _ n d _ _ _ HN4 HD4 hsz1 hsz2).mono ?_)); rintro e w5 ⟨hb5, x5, rfl, hx5⟩; have Z5 := Z4.next hb5; obtain ⟨t3, A5, l5, c5, A6, l6, c6, rfl⟩ := hx5.form; obtain ⟨e0, e1, e2⟩ := bk3 Z5.k3; have f0 := Z5.k3.frozen 0; have f1 := Z5.k3.frozen 1; have f2 := Z5.k3.frozen 2; have kk1 := bk_far3 (b' := w.heap.size + 1 + 1) (x := .bool t3) (y := .slice A5 l5 c5) (z := .slice A6 l6 c6) Z5.k1 (by omega); have kk2 := bk_far3 (b' := w.heap.size + 1 + 1) (x := .bool t3) (y := .slice A5 l5 c5) (z := .slice A6 l6 c6) Z5.k2 (by omega)))
  go_wp2
  refine bodyPost_ret (v := .agg #[.bool t3, .slice A5 l5 c5, .slice A6 l6 c6]) (by simp [results, Tryz.results62, go_sem, e0, e1, e2]) rfl ?_
  have ST := hx5.stored (w := w) Z5.k3 Z5.below (by omega)
  refine ⟨ST.1, _, rfl, ?_⟩
  have e : p / q = nr (!s1 == s2) n d := HR.out
  rw [e]
  exact ST.2
end Go.Proofs.YtblopapobmbboaaGreatDoor
