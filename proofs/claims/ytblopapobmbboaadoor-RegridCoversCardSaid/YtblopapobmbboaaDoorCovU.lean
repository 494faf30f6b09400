/-
  Plain law: a grid of rectangles cuts a cell into parts whose areas add up to at most its area, and to its area just where it covers the cell.
  Walks of the laws' words: added, covers.
  Walk of the laws' word covers.
  The walk of the law RegridCovers.
-/
import Derived.Test.YtblopapobmbboaaDoorTurnA
import Derived.Test.YtblopapobmbboaaDoorRecA
import Derived.Test.YtblopapobmbboaaDoorTurnB
import Derived.Test.YtblopapobmbboaaDoorRectC
namespace Go.Proofs.YtblopapobmbboaaDoor
open Go.RowKit Ar

/-- Sums. -/
def sumTo (f : Nat → Rat) : Nat → Rat
  | 0 => 0
  | n + 1 => sumTo f n + f n
theorem sumTo_congr {f g : Nat → Rat} : ∀ {n : Nat}, (∀ i, i < n → f i = g i) → sumTo f n = sumTo g n
  | 0, _ => rfl
  | n + 1, h => by
    simp only [sumTo]
    rw [sumTo_congr (n := n) fun i hi => h i (by omega), h n (by omega)]
theorem sumTo_half {f : Nat → Rat} : ∀ n, sumTo (fun i => f i / 2) n = sumTo f n / 2
  | 0 => by simp only [sumTo]; grind
  | n + 1 => by simp only [sumTo]; rw [sumTo_half n]; grind
theorem sum_row (f : Nat → Nat → Rat) (nx : Nat) (j : Nat) : ∀ i, i ≤ nx → sumTo (fun k => f (k / nx) (k % nx)) (j * nx + i) = sumTo (fun k => f (k / nx) (k % nx)) (j * nx) + sumTo (f j) i
  | 0, _ => by simp only [sumTo]; rw [Nat.add_zero]; grind
  | i + 1, h => by
    have ih := sum_row f nx j i (by omega)
    have e1 : (j * nx + i) / nx = j := by rw [Nat.mul_comm, Nat.mul_add_div (show 0 < nx by omega), Nat.div_eq_of_lt (show i < nx by omega), Nat.add_zero]
    have e2 : (j * nx + i) % nx = i := by rw [Nat.mul_comm, Nat.mul_add_mod, Nat.mod_eq_of_lt (show i < nx by omega)]
    show sumTo _ (j * nx + i) + f ((j * nx + i) / nx) ((j * nx + i) % nx) = _ + (sumTo (f j) i + f j i)
    rw [e1, e2, ih]; grind
theorem sum_grid (f : Nat → Nat → Rat) (nx : Nat) : ∀ j, sumTo (fun k => f (k / nx) (k % nx)) (j * nx) = sumTo (fun j => sumTo (f j) nx) j
  | 0 => by rw [Nat.zero_mul]; rfl
  | j + 1 => by
    rw [Nat.add_mul, Nat.one_mul, sum_row f nx j nx (Nat.le_refl _), sum_grid f nx j]
    rfl

section
variable {A : List Geo.Pt} (hA : Geo.TC A) (hA3 : 3 ≤ A.length)
/-- Where a polygon lies on one side of a line that is asked to be on the other, nothing is left. -/
theorem ar_flat {es : List (Geo.Pt × Geo.Pt)} {e : Geo.Pt × Geo.Pt} (he : e ∈ es) (hne : e.1 ≠ e.2) (h : ∀ x ∈ A, Geo.cross e.1 e.2 x ≤ 0) : Geo.ar A es = 0 := by
  unfold Geo.ar
  rw [← Geo.fanArea_eq]
  refine Geo.area_flat hne fun x hx => ?_
  have h1 := Geo.clipAll_left es A x hx e he
  have h2 := Geo.clipAll_ge (Geo.aff_cross e.1 e.2).neg es A (fun y hy => by have := h y hy; show 0 ≤ -Geo.cross e.1 e.2 y; grind) x hx
  have h3 : 0 ≤ -Geo.cross e.1 e.2 x := h2
  grind
include hA hA3
theorem strips_x {es : List (Geo.Pt × Geo.Pt)} (hes : Geo.Proper es) (X : Nat → Rat) : ∀ n, (∀ i, i ≤ n + 1 → ∀ k, k ≤ i → X k ≤ X i) →
    sumTo (fun i => Geo.ar A (es ++ [Geo.lineR (X i), Geo.lineL (X (i + 1))])) (n + 1) = Geo.ar A (es ++ [Geo.lineR (X 0), Geo.lineL (X (n + 1))])
  | 0, _ => by simp only [sumTo]; grind
  | n + 1, h => by
    have ih := strips_x hes X n (fun i hi k hk => h i (by omega) k hk)
    show sumTo _ (n + 1) + _ = _
    rw [ih, Geo.split_x hA hA3 hes (h (n + 1) (by omega) 0 (by omega)) (h (n + 1 + 1) (by omega) (n + 1) (by omega))]
theorem strips_y {es : List (Geo.Pt × Geo.Pt)} (hes : Geo.Proper es) (X : Nat → Rat) : ∀ n, (∀ i, i ≤ n + 1 → ∀ k, k ≤ i → X k ≤ X i) →
    sumTo (fun i => Geo.ar A (es ++ [Geo.lineU (X i), Geo.lineD (X (i + 1))])) (n + 1) = Geo.ar A (es ++ [Geo.lineU (X 0), Geo.lineD (X (n + 1))])
  | 0, _ => by simp only [sumTo]; grind
  | n + 1, h => by
    have ih := strips_y hes X n (fun i hi k hk => h i (by omega) k hk)
    show sumTo _ (n + 1) + _ = _
    rw [ih, Geo.split_y hA hA3 hes (h (n + 1) (by omega) 0 (by omega)) (h (n + 1 + 1) (by omega) (n + 1) (by omega))]
end
/-- Four lines around a rectangle. -/
def four (l r b t : Rat) : List (Geo.Pt × Geo.Pt) := [Geo.lineR l, Geo.lineL r, Geo.lineU b, Geo.lineD t]
theorem four_proper (l r b t : Rat) : Geo.Proper (four l r b t) := fun e he => by
  simp only [four, List.mem_cons, List.not_mem_nil, or_false] at he
  rcases he with rfl | rfl | rfl | rfl
  · exact Geo.lineR_ne _
  · exact Geo.lineL_ne _
  · exact Geo.lineU_ne _
  · exact Geo.lineD_ne _
theorem four_iff {l r b t : Rat} {x : Geo.Pt} : (∀ e ∈ four l r b t, 0 ≤ Geo.cross e.1 e.2 x) ↔ l ≤ x.x ∧ x.x ≤ r ∧ b ≤ x.y ∧ x.y ≤ t := by
  simp only [four, List.mem_cons, List.not_mem_nil, or_false, forall_eq_or_imp, forall_eq, Geo.lineL_iff, Geo.lineR_iff, Geo.lineU_iff, Geo.lineD_iff]
theorem pgon_rect (l r b t : Int) : pgon (rect l r b t) = [⟨(l : Rat), (b : Rat)⟩, ⟨(r : Rat), (b : Rat)⟩, ⟨(r : Rat), (t : Rat)⟩, ⟨(l : Rat), (t : Rat)⟩] := by
  unfold pgon poly rect qp toP
  simp only [List.map_cons, List.map_nil, Int.add_zero]
theorem rat_sub_pos {l r : Int} (h : l < r) : (0 : Rat) < (r : Rat) - (l : Rat) := by
  have := Geo.cast_pos (n := r - l)
  rw [Rat.intCast_sub] at this
  exact this.2 (by omega)
theorem mul_sign {a z : Rat} (h : 0 < a) : 0 ≤ a * z ↔ 0 ≤ z := by
  constructor
  · intro h1
    rcases tri3 z with h2 | h2 | h2
    · exact Rat.le_of_lt h2
    · rw [h2]; exact Rat.le_refl
    · have := Rat.mul_pos h (show 0 < -z by grind); grind
  · intro h1; exact Rat.mul_nonneg (Rat.le_of_lt h) h1
theorem in_rect {l r b t : Int} (hl : l < r) (hb : b < t) (x : Geo.Pt) : Geo.In (pgon (rect l r b t)) x ↔ (l : Rat) ≤ x.x ∧ x.x ≤ (r : Rat) ∧ (b : Rat) ≤ x.y ∧ x.y ≤ (t : Rat) := by
  have p1 := rat_sub_pos hl
  have p2 := rat_sub_pos hb
  rw [pgon_rect]
  generalize (l : Rat) = L at *
  generalize (r : Rat) = R at *
  generalize (b : Rat) = Bo at *
  generalize (t : Rat) = T at *
  have e1 : Geo.cross ⟨L, Bo⟩ ⟨R, Bo⟩ x = (R - L) * (x.y - Bo) := by unfold Geo.cross; grind
  have e2 : Geo.cross ⟨R, Bo⟩ ⟨R, T⟩ x = (T - Bo) * (R - x.x) := by unfold Geo.cross; grind
  have e3 : Geo.cross ⟨R, T⟩ ⟨L, T⟩ x = (R - L) * (T - x.y) := by unfold Geo.cross; grind
  have e4 : Geo.cross ⟨L, T⟩ ⟨L, Bo⟩ x = (T - Bo) * (x.x - L) := by unfold Geo.cross; grind
  have f1 := mul_sign (z := x.y - Bo) p1
  have f2 := mul_sign (z := R - x.x) p2
  have f3 := mul_sign (z := T - x.y) p1
  have f4 := mul_sign (z := x.x - L) p2
  have hc : Geo.cyc [(⟨L, Bo⟩ : Geo.Pt), ⟨R, Bo⟩, ⟨R, T⟩, ⟨L, T⟩] = [(⟨L, Bo⟩, ⟨R, Bo⟩), (⟨R, Bo⟩, ⟨R, T⟩), (⟨R, T⟩, ⟨L, T⟩), (⟨L, T⟩, ⟨L, Bo⟩)] := rfl
  constructor
  · intro h
    have g1 := h ⟨L, Bo⟩ ⟨R, Bo⟩ (by rw [hc]; simp)
    have g2 := h ⟨R, Bo⟩ ⟨R, T⟩ (by rw [hc]; simp)
    have g3 := h ⟨R, T⟩ ⟨L, T⟩ (by rw [hc]; simp)
    have g4 := h ⟨L, T⟩ ⟨L, Bo⟩ (by rw [hc]; simp)
    rw [e1, f1] at g1
    rw [e2, f2] at g2
    rw [e3, f3] at g3
    rw [e4, f4] at g4
    refine ⟨?_, ?_, ?_, ?_⟩ <;> grind
  · rintro ⟨h1, h2, h3, h4⟩ c d hcd
    rw [hc] at hcd
    simp only [List.mem_cons, List.not_mem_nil, or_false, Prod.mk.injEq] at hcd
    rcases hcd with ⟨rfl, rfl⟩ | ⟨rfl, rfl⟩ | ⟨rfl, rfl⟩ | ⟨rfl, rfl⟩
    · rw [e1, f1]; grind
    · rw [e2, f2]; grind
    · rw [e3, f3]; grind
    · rw [e4, f4]; grind
theorem pgon_mem {l : List Pl} {x : Geo.Pt} (h : x ∈ pgon l) : ∃ p ∈ l, x = ⟨(p.1 : Rat), (p.2 : Rat)⟩ := by
  unfold pgon poly at h
  obtain ⟨q, hq, rfl⟩ := List.mem_map.1 h
  obtain ⟨p, hp, rfl⟩ := List.mem_map.1 hq
  refine ⟨p, hp, ?_⟩
  unfold toP qp
  simp only [Int.add_zero]
theorem mem_pgon {l : List Pl} {p : Pl} (h : p ∈ l) : (⟨(p.1 : Rat), (p.2 : Rat)⟩ : Geo.Pt) ∈ pgon l := by
  unfold pgon poly
  refine List.mem_map.2 ⟨qp p 0, List.mem_map.2 ⟨p, h, rfl⟩, ?_⟩
  unfold toP qp
  simp only [Int.add_zero]
theorem cast_le {a b : Int} : (a : Rat) ≤ (b : Rat) ↔ a ≤ b := Rat.intCast_le_intCast
/-- What a cell has in common with a rectangle. -/
theorem common_rect {la : List Pl} (ha : validC la) {l r b t : Int} (hl : l < r) (hb : b < t) (hv : validC (rect l r b t)) : commonQ la (rect l r b t) 0 = Geo.ar (pgon la) (four l r b t) / 2 := by
  have hA := pgon_tc ha
  have hA3 : 3 ≤ (pgon la).length := by rw [pgon_len]; exact ha.1
  have hB := pgon_tc hv
  have hB3 : 3 ≤ (pgon (rect l r b t)).length := by rw [pgon_len]; exact hv.1
  have e : Geo.ar (pgon la) (Geo.cyc (pgon (rect l r b t))) = Geo.ar (pgon la) (four l r b t) := Geo.ar_region hA hA3 hA hA3 (Geo.proper_cyc hB hB3) (four_proper _ _ _ _) fun x => by
    rw [Geo.reg_cyc, in_rect hl hb]
    unfold Geo.Reg
    rw [four_iff]
  rw [commonQ_ar]
  split
  · rename_i hap
    have B := bbox_of (l := la) (by have := ha.1; omega)
    rw [rect_box hl hb] at hap
    unfold apartB shiftB at hap
    simp only [Int.add_zero] at hap
    have z : Geo.ar (pgon la) (four (l : Rat) r b t) = 0 := by
      rcases hap with h1 | h1 | h1 | h1
      · refine ar_flat (e := Geo.lineR (l : Rat)) (by simp [four]) (Geo.lineR_ne _) fun x hx => ?_
        obtain ⟨p, hp, rfl⟩ := pgon_mem hx
        have h2 : (p.1 : Rat) ≤ (l : Rat) := cast_le.2 (by have := B.a2 p hp; omega)
        unfold Geo.lineR Geo.cross
        grind
      · refine ar_flat (e := Geo.lineL (r : Rat)) (by simp [four]) (Geo.lineL_ne _) fun x hx => ?_
        obtain ⟨p, hp, rfl⟩ := pgon_mem hx
        have h2 : (r : Rat) ≤ (p.1 : Rat) := cast_le.2 (by have := B.a1 p hp; omega)
        unfold Geo.lineL Geo.cross
        grind
      · refine ar_flat (e := Geo.lineU (b : Rat)) (by simp [four]) (Geo.lineU_ne _) fun x hx => ?_
        obtain ⟨p, hp, rfl⟩ := pgon_mem hx
        have h2 : (p.2 : Rat) ≤ (b : Rat) := cast_le.2 (by have := B.a4 p hp; omega)
        unfold Geo.lineU Geo.cross
        grind
      · refine ar_flat (e := Geo.lineD (t : Rat)) (by simp [four]) (Geo.lineD_ne _) fun x hx => ?_
        obtain ⟨p, hp, rfl⟩ := pgon_mem hx
        have h2 : (t : Rat) ≤ (p.2 : Rat) := cast_le.2 (by have := B.a3 p hp; omega)
        unfold Geo.lineD Geo.cross
        grind
    rw [z]; grind
  · rw [e]
/-- The parts of a cell in the rectangles between ascending numbers. -/
theorem parts_sum {la : List Pl} (ha : validC la) {xs ys : List Int} (hx : ascP xs) (hy : ascP ys) :
    sumTo (fun k => commonQ la (recAt xs ys (k / (xs.length - 1)) (k % (xs.length - 1))).1 0) ((xs.length - 1) * (ys.length - 1)) = Geo.ar (pgon la) (four (nth xs 0) (nth xs (xs.length - 1)) (nth ys 0) (nth ys (ys.length - 1))) / 2 := by
  have hA := pgon_tc ha
  have hA3 : 3 ≤ (pgon la).length := by rw [pgon_len]; exact ha.1
  have hx2 := hx.1
  have hy2 := hy.1
  obtain ⟨nx, hnx⟩ : ∃ n, xs.length - 1 = n + 1 := ⟨xs.length - 2, by omega⟩
  obtain ⟨ny, hny⟩ : ∃ n, ys.length - 1 = n + 1 := ⟨ys.length - 2, by omega⟩
  rw [Nat.mul_comm, sum_grid (fun j i => commonQ la (recAt xs ys j i).1 0)]
  have row : ∀ j, j < ys.length - 1 → sumTo (fun i => commonQ la (recAt xs ys j i).1 0) (xs.length - 1) = Geo.ar (pgon la) ([Geo.lineR (nth xs 0), Geo.lineL (nth xs (xs.length - 1))] ++ [Geo.lineU (nth ys j), Geo.lineD (nth ys (j + 1))]) / 2 := fun j hj => by
    have e1 : ∀ i, i < xs.length - 1 → commonQ la (recAt xs ys j i).1 0 = Geo.ar (pgon la) ([Geo.lineU (nth ys j), Geo.lineD (nth ys (j + 1))] ++ [Geo.lineR (nth xs i), Geo.lineL (nth xs (i + 1))]) / 2 := fun i hi => by
      have h1 := asc_lt hx (Nat.lt_succ_self i) (show i + 1 < xs.length by omega)
      have h2 := asc_lt hy (Nat.lt_succ_self j) (show j + 1 < ys.length by omega)
      unfold recAt
      rw [common_rect ha h1 h2 (rec_valid hx hy (show i + 1 < xs.length by omega) (show j + 1 < ys.length by omega))]
      congr 1
      refine Geo.ar_region hA hA3 hA hA3 (four_proper _ _ _ _) (Geo.Proper.append (Geo.proper2 (Geo.lineU_ne _) (Geo.lineD_ne _)) (Geo.proper2 (Geo.lineR_ne _) (Geo.lineL_ne _))) fun x => ?_
      unfold Geo.Reg four
      simp only [List.cons_append, List.nil_append, List.mem_cons, List.not_mem_nil, or_false, forall_eq_or_imp, forall_eq]
      grind
    rw [sumTo_congr e1, sumTo_half, hnx, strips_x hA hA3 (Geo.proper2 (Geo.lineU_ne _) (Geo.lineD_ne _)) (fun i => (nth xs i : Rat)) nx (fun i hi k hk => cast_le.2 (asc_le hx hk (by omega)))]
    congr 1
    refine Geo.ar_region hA hA3 hA hA3 (Geo.Proper.append (Geo.proper2 (Geo.lineU_ne _) (Geo.lineD_ne _)) (Geo.proper2 (Geo.lineR_ne _) (Geo.lineL_ne _))) (Geo.Proper.append (Geo.proper2 (Geo.lineR_ne _) (Geo.lineL_ne _)) (Geo.proper2 (Geo.lineU_ne _) (Geo.lineD_ne _))) fun x => ?_
    unfold Geo.Reg
    simp only [List.cons_append, List.nil_append, List.mem_cons, List.not_mem_nil, or_false, forall_eq_or_imp, forall_eq]
    grind
  rw [sumTo_congr row, sumTo_half, hny, strips_y hA hA3 (Geo.proper2 (Geo.lineR_ne _) (Geo.lineL_ne _)) (fun i => (nth ys i : Rat)) ny (fun i hi k hk => cast_le.2 (asc_le hy hk (by omega)))]
  rfl
/-- Lines reach around a cell. -/
def coversP (la : List Pl) (xs ys : List Int) : Prop := ∀ p ∈ la, nth xs 0 ≤ p.1 ∧ p.1 ≤ nth xs (xs.length - 1) ∧ nth ys 0 ≤ p.2 ∧ p.2 ≤ nth ys (ys.length - 1)
theorem ar_cut {A : List Geo.Pt} (hA : Geo.TC A) (hA3 : 3 ≤ A.length) {es : List (Geo.Pt × Geo.Pt)} (hp : Geo.Proper es) {e : Geo.Pt × Geo.Pt} (he : e ∈ es) (hne : e.1 ≠ e.2) {v : Geo.Pt} (hv : v ∈ A) (hlt : Geo.cross e.1 e.2 v < 0) : Geo.ar A es < Geo.Sh A := by
  have h1 : Geo.ar A es = Geo.ar A ([e] ++ es) := Geo.ar_region hA hA3 hA hA3 hp (Geo.Proper.append (fun x hx => by simp at hx; subst hx; exact hne) hp) fun x => by
    unfold Geo.Reg
    simp only [List.cons_append, List.nil_append, List.mem_cons, forall_eq_or_imp]
    constructor
    · rintro ⟨a, b⟩; exact ⟨a, b e he, b⟩
    · rintro ⟨a, _, b⟩; exact ⟨a, b⟩
  have h2 : Geo.ar A ([e] ++ es) ≤ Geo.ar A [e] := Geo.ar_le hA hA3 (fun x hx => by simp at hx; subst hx; exact hne) hp
  have h3 := Geo.ar_add A [] (a := e.1) (b := e.2) hne
  have h4 := Geo.ar_pos1 hA hA3 (a := e.2) (b := e.1) hv (by have : Geo.cross e.2 e.1 v = -Geo.cross e.1 e.2 v := by unfold Geo.cross; grind
                                                             grind)
  have h5 : Geo.ar A [] = Geo.Sh A := rfl
  rw [List.nil_append, List.nil_append, h5] at h3
  have h6 : ([e] : List (Geo.Pt × Geo.Pt)) = [(e.1, e.2)] := rfl
  rw [h6] at h2
  grind
theorem covers_sum {la : List Pl} (ha : validC la) (xs ys : List Int) :
    Geo.ar (pgon la) (four (nth xs 0) (nth xs (xs.length - 1)) (nth ys 0) (nth ys (ys.length - 1))) / 2 ≤ areaQ (poly la 0) ∧
      (Geo.ar (pgon la) (four (nth xs 0) (nth xs (xs.length - 1)) (nth ys 0) (nth ys (ys.length - 1))) / 2 = areaQ (poly la 0) ↔ coversP la xs ys) := by
  have hA := pgon_tc ha
  have hA3 : 3 ≤ (pgon la).length := by rw [pgon_len]; exact ha.1
  have h1 := Geo.ar_le (es := []) hA hA3 (fun e he => by cases he) (four_proper (nth xs 0) (nth xs (xs.length - 1)) (nth ys 0) (nth ys (ys.length - 1)))
  have h5 : Geo.ar (pgon la) [] = Geo.Sh (pgon la) := rfl
  rw [List.nil_append, h5] at h1
  rw [areaQ_sh]
  refine ⟨by grind, ?_, ?_⟩
  · intro h p hp
    have cut : ∀ e ∈ four (nth xs 0) (nth xs (xs.length - 1)) (nth ys 0) (nth ys (ys.length - 1)), 0 ≤ Geo.cross e.1 e.2 (⟨(p.1 : Rat), (p.2 : Rat)⟩ : Geo.Pt) := fun e he => by
      rcases tri3 (Geo.cross e.1 e.2 (⟨(p.1 : Rat), (p.2 : Rat)⟩ : Geo.Pt)) with h2 | h2 | h2
      · exact Rat.le_of_lt h2
      · rw [h2]; exact Rat.le_refl
      · have := ar_cut hA hA3 (four_proper _ _ _ _) he (four_proper _ _ _ _ e he) (mem_pgon hp) h2
        grind
    obtain ⟨c1, c2, c3, c4⟩ := four_iff.1 cut
    exact ⟨cast_le.1 c1, cast_le.1 c2, cast_le.1 c3, cast_le.1 c4⟩
  · intro h
    have e : Geo.clipAll (pgon la) (four (nth xs 0) (nth xs (xs.length - 1)) (nth ys 0) (nth ys (ys.length - 1))) = pgon la := Geo.clipAll_id fun x hx => by
      obtain ⟨p, hp, rfl⟩ := pgon_mem hx
      obtain ⟨c1, c2, c3, c4⟩ := h p hp
      exact four_iff.2 ⟨cast_le.2 c1, cast_le.2 c2, cast_le.2 c3, cast_le.2 c4⟩
    unfold Geo.ar
    rw [e]
/-- Sizes. -/
theorem commonQ_sz4 {la lb : List Pl} (ka : validC la) (kb : validC lb) (h4 : lb.length = 4) : sz (commonQ la lb 0) ≤ 5000000 := by
  unfold commonQ
  split
  · have := sz_small 0 (by decide)
    have e0 : ((0 : Int) : Rat) = 0 := rfl
    rw [e0] at this
    omega
  · have h := cutOk ka kb (dx := 0) (by omega) lb.length (Nat.le_refl _)
    rw [h4] at h ⊢
    have e4 : szS 4 = 36081 := by decide
    have hs : sz (areaS (cutAll (poly la 0) (poly lb 0) 4) ((cutAll (poly la 0) (poly lb 0) 4).length - 2)) ≤ 4500000 := by
      rcases h.few with ⟨_, h2, h3⟩ | ⟨a, b, hab, hl⟩
      · rw [List.length_map] at h2 h3
        have h1 := sz_areaS h.szs ((cutAll (poly la 0) (poly lb 0) 4).length - 2) (by omega)
        have h2 : ((cutAll (poly la 0) (poly lb 0) 4).length - 2) * (8 * szS 4 + 6) ≤ 10 * (8 * szS 4 + 6) := Nat.mul_le_mul_right _ (by omega)
        omega
      · have h27 := h.areaT (by omega) ((cutAll (poly la 0) (poly lb 0) 4).length - 2)
        have ez : areaS (cutAll (poly la 0) (poly lb 0) 4) ((cutAll (poly la 0) (poly lb 0) 4).length - 2) = 0 := by
          rcases Nat.lt_or_ge (cutAll (poly la 0) (poly lb 0) 4).length 3 with h5 | h5
          · rw [show (cutAll (poly la 0) (poly lb 0) 4).length - 2 = 0 by omega]; rfl
          · rw [areaS_fan _ _ (by omega)]
            refine Geo.fan_flat hab _ ?_ _ fun x hx => hl x (List.drop_sublist _ _ |>.subset (List.take_subset _ _ hx))
            refine hl _ (List.mem_map.2 ⟨_, ?_, rfl⟩)
            rw [List.getD_eq_getElem?_getD, List.getElem?_eq_getElem (by omega)]
            exact List.getElem_mem _
        rw [ez]
        have := sz_small 0 (by decide)
        have e0 : ((0 : Int) : Rat) = 0 := rfl
        rw [e0] at this
        omega
    unfold areaQ
    have := sz_div (areaS (cutAll (poly la 0) (poly lb 0) 4) ((cutAll (poly la 0) (poly lb 0) 4).length - 2)) 2 (by decide)
    have := sz_small 2 (by decide)
    have e0 : ((2 : Int) : Rat) = 2 := rfl
    rw [e0] at this
    omega
end Go.Proofs.YtblopapobmbboaaDoor

namespace Go.Proofs.YtblopapobmbboaaDoor
open Go.RowKit Ar

/-- Sums of a list. -/
def sumL (l : List Rat) : Rat := l.foldl (· + ·) 0
theorem sumL_snoc (l : List Rat) (q : Rat) : sumL (l ++ [q]) = sumL l + q := by unfold sumL; rw [List.foldl_append]; rfl
theorem sumL_take (l : List Rat) {k : Nat} (hk : k < l.length) : sumL (l.take (k + 1)) = sumL (l.take k) + l[k] := by
  rw [List.take_succ_eq_append_getElem hk, sumL_snoc]
theorem sumL_sz {l : List Rat} (h : ∀ q ∈ l, sz q ≤ 5000000) : sz (sumL l) ≤ 1 + l.length * 5000001 := by
  suffices hs : ∀ (m : List Rat) (a : Rat) (n : Nat), (∀ q ∈ m, sz q ≤ 5000000) → sz a ≤ n → sz (m.foldl (· + ·) a) ≤ n + m.length * 5000001 by
    have := hs l 0 1 h (by have := sz_small 0 (by decide); have e0 : ((0 : Int) : Rat) = 0 := rfl; rw [e0] at this; omega)
    exact this
  intro m
  induction m with
  | nil => intro a n _ h; simpa using h
  | cons q m ih =>
    intro a n hm ha
    have h1 := sz_add a q
    have h2 := hm q (by simp)
    have := ih (a + q) (n + 5000001) (fun x hx => hm x (by simp [hx])) (by omega)
    simp only [List.foldl_cons, List.length_cons]
    omega

/-- The texts of numbers, a slice of strings. -/
def trow (l : List Rat) : List Value := l.map fun q => .string ⟨(ratText q).toArray⟩

set_option maxRecDepth 100000 in
set_option maxHeartbeats 6400000 in
theorem added_any (l : List Rat) (A : Option Addr) (c : Nat) (w : World) (hl : l.length ≤ 64) (hr : Rd w w.heap.size A (trow l)) (hs : ∀ q ∈ l, sz q ≤ 5000000) :
    Calls Tryd.prog 18 #[.slice A l.length c] w fun e w' => Below w.heap.size w w' ∧ ∃ v, e = .returned (.tuple #[v, .bool true]) ∧ IsQ w' w'.heap.size v (sumL l) := by
  have HS := Lib.hid hs
  clear hs
  go_enter Tryd.func18, Tryd.ntmps18
  go_wp2_with fail
  have hb0 := below_alloc w (.cells #[.bool false, .slice none 0 0, .slice none 0 0] 35)
  have k0 := Bk.new w 35 #[Value.bool false, .slice none 0 0, .slice none 0 0]
  generalize w.alloc (.cells #[.bool false, .slice none 0 0, .slice none 0 0] 35) = w1 at *
  refine (intQ_any 0 w1 (by omega)).mono ?_
  rintro e w2 ⟨hb1, v2, rfl, hq2⟩
  obtain ⟨t2, E2, n2, d2, E2', n2', d2', rfl⟩ := hq2.form
  have hB2 := hb0.trans (hb1.mono hb0.size)
  have k2 := k0.below hb1 k0.lt
  have hlt := k2.lt
  go_wp2_with fail
  have hbA := below_alloc w2 (.cells #[.bool t2, .slice E2 n2 d2, .slice E2' n2' d2'] 35)
  have k3 := Bk.new w2 35 #[.bool t2, .slice E2 n2 d2, .slice E2' n2' d2']
  have hq3 := hq2.next hbA
  have k4 := k2.below hbA k2.lt
  have hB3 := hB2.trans (hbA.mono hB2.size)
  obtain ⟨g, hg⟩ : ∃ g, g = w2.heap.size := ⟨_, rfl⟩
  have hgw : w.heap.size < g := by rw [hg]; exact hlt
  rw [← hg] at k3 ⊢
  clear hb0 k0 hb1 hq2 hB2 k2 hlt hbA hg
  generalize w2.alloc (.cells #[.bool t2, .slice E2 n2 d2, .slice E2' n2' d2'] 35) = w3 at *
  go_loopw [5] (fun i wr => ∃ (k : Nat) (t : Bool) (E E' : Option Addr) (n d n' d' : Nat), k ≤ l.length ∧ i = .int .i64 k ∧ Bk wr g 35 #[.bool t, .slice E n d, .slice E' n' d'] ∧ IsQ wr wr.heap.size (.agg #[.bool t, .slice E n d, .slice E' n' d']) (sumL (l.take k)) ∧
      Bk wr w.heap.size 35 #[.bool false, .slice none 0 0, .slice none 0 0] ∧ Below w.heap.size w wr) (fun i _ => l.length - (intOf i).toNat)
  case atStart => exact ⟨0, t2, E2, E2', n2, d2, n2', d2', Nat.zero_le _, rfl, k3, hq3, k4, hB3⟩
  case round =>
    clear k3 hq3 k4 hB3
    obtain ⟨k, t, E, E', n, d, n', d', hk, rfl, kg, hq, kz, hB⟩ := hrel
    obtain ⟨a0, a1, a2⟩ := bk3 kg
    obtain ⟨z0, z1, z2⟩ := bk3 kz
    have f0 := kz.frozen 0
    have f1 := kz.frozen 1
    have f2 := kz.frozen 2
    rcases Nat.lt_or_ge k l.length with hlk | hgk
    · have hrk := hr.below hB
      obtain ⟨ad, rfl, hab, hc⟩ := hrk.at_ (k := k) (by unfold trow; rw [List.length_map]; exact hlk)
      have e5 : (trow l)[k]'(by unfold trow; rw [List.length_map]; exact hlk) = .string ⟨(ratText l[k]).toArray⟩ := by unfold trow; rw [List.getElem_map]
      rw [e5] at hc
      have hsk := HS.out _ (List.getElem_mem hlk)
      have HST : Hid (sumL (l.take (k + 1)) = sumL (l.take k) + l[k]) := sumL_take l hlk
      have hss : sz (sumL (l.take k)) ≤ 1 + 64 * 5000001 := Nat.le_trans (sumL_sz (l := l.take k) fun q hq => HS.out q (List.mem_of_mem_take hq)) (by
        have h1 : (l.take k).length ≤ 64 := by rw [List.length_take]; omega
        have := Nat.mul_le_mul_right 5000001 h1
        omega)
      generalize l[k] = qk at *
      clear e5 hrk
      have LT := qlong_text qk wr (by omega)
      generalize ratText qk = tx at *
      go_wp2_with fail
      refine LT.mono ?_
      rintro e w4 ⟨hb4, v4, rfl, hq4⟩
      obtain ⟨t4, E4, n4, d4, E4', n4', d4', rfl⟩ := hq4.form
      have kg4 := kg.next' hb4
      have kz4 := kz.next' hb4
      have hqs4 := hq.next hb4
      have hB4 := hB.trans (hb4.mono hB.size)
      clear LT a0 a1 a2 z0 z1 z2 f0 f1 f2 kg kz hq hB hb4 hc
      obtain ⟨a0, a1, a2⟩ := bk3 kg4
      have la0 := kg4.lt
      have hbA := below_alloc w4 (.cells #[.bool t4, .slice E4 n4 d4, .slice E4' n4' d4'] 35)
      have kg5 := kg4.next' hbA
      have kz5 := kz4.next' hbA
      have hqs5 := hqs4.next hbA
      have hq5 := hq4.next hbA
      have hB5 := hB4.trans (hbA.mono hB4.size)
      go_wp2_with fail
      clear a0 a1 a2 la0 kg4 kz4 hqs4 hq4 hB4 hbA
      generalize w4.alloc (.cells #[.bool t4, .slice E4 n4 d4, .slice E4' n4' d4'] 35) = w5 at *
      refine (qplus_any _ qk _ _ w5 hqs5 hq5 (by omega) (by omega)).mono ?_
      rintro e w6 ⟨hb6, v6, rfl, hq6⟩
      obtain ⟨t6, E6, n6, d6, E6', n6', d6', rfl⟩ := hq6.form
      have kg6 := kg5.next' hb6
      have kz6 := kz5.next' hb6
      have hB6 := hB5.trans (hb6.mono hB5.size)
      clear kg5 kz5 hqs5 hq5 hB5 hb6
      obtain ⟨a0, a1, a2⟩ := bk3 kg6
      have f0 := kg6.frozen 0
      have f1 := kg6.frozen 1
      have f2 := kg6.frozen 2
      go_wp2
      go_roundw
      case rel =>
        have hne : w.heap.size ≠ g := by omega
        exact ⟨k + 1, t6, E6, E6', n6, d6, n6', d6', by omega, by go_num, set3_bk kg6, by rw [HST.out]; exact (hq6.set3 kg6 _ _ _).more (by rw [show (World.setCell _ _ _) = set3 w6 g (.bool t6) (.slice E6 n6 d6) (.slice E6' n6' d6') from rfl, set3_size]; exact Nat.le_refl _), bk_far3 kz6 hne, set3_below hB6 (Nat.le_of_lt hgw)⟩
      case measure => simp [intOf]; omega
    · obtain rfl : k = l.length := by omega
      rw [List.take_length] at hq
      go_wp2
      refine bodyPost_ret (v := .tuple #[.agg #[.bool t, .slice E n d, .slice E' n' d'], .bool true]) (by simp [results, Tryd.results18, go_sem, z0, z1, z2]) rfl ?_
      have ST := hq.stored (w := w) kz hB (Nat.le_refl _)
      exact ⟨ST.1, _, rfl, ST.2⟩
end Go.Proofs.YtblopapobmbboaaDoor

namespace Go.Proofs.YtblopapobmbboaaDoor
open Go.RowKit Ar

theorem bk4' {w : World} {b : Nat} {T : TypeId} {x y z u : Value} (h : Bk w b T #[x, y, z, u]) : w.cell? ⟨b, 0, none⟩ = some x ∧ w.cell? ⟨b, 1, none⟩ = some y ∧ w.cell? ⟨b, 2, none⟩ = some z ∧ w.cell? ⟨b, 3, none⟩ = some u := ⟨h.cell 0, h.cell 1, h.cell 2, h.cell 3⟩

set_option maxRecDepth 100000 in
set_option maxHeartbeats 6400000 in
theorem covers_any (la : List Pl) (m : Bool) (A : Option Addr) (ca : Nat) (xs ys : List Int) (adx ady : Addr) (lx ly cx cy : Nat) (w : World) (hla : la.length ≤ 1000) (hr : Rd w w.heap.size A (prow la))
    (hx : Rd w w.heap.size (some adx) (irow xs)) (hy : Rd w w.heap.size (some ady) (irow ys)) (hlx : xs.length = lx + 1) (hly : ys.length = ly + 1) (hlx' : lx ≤ 1000) (hly' : ly ≤ 1000) (z : Bool) (hz : z = true ↔ coversP la xs ys) :
    Calls Tryd.prog 19 #[.agg #[.slice A la.length ca, .bool m, .slice (some adx) (lx + 1) cx, .slice (some ady) (ly + 1) cy]] w fun e w' => Below w.heap.size w w' ∧ e = .returned (.bool z) := by
  have HZ : Hid (z = true ↔ ∀ p ∈ la, nth xs 0 ≤ p.1 ∧ p.1 ≤ nth xs lx ∧ nth ys 0 ≤ p.2 ∧ p.2 ≤ nth ys ly) := by
    show _ ↔ _
    rw [hz]
    unfold coversP
    rw [hlx, hly, Nat.add_sub_cancel, Nat.add_sub_cancel]
  have HC : Hid (∀ W : World, Below w.heap.size w W → (adx.block < w.heap.size ∧ ady.block < w.heap.size) ∧ W.cell? adx = some (.int .i64 (nth xs 0)) ∧ W.cell? (adx.add lx) = some (.int .i64 (nth xs lx)) ∧ W.cell? ady = some (.int .i64 (nth ys 0)) ∧ W.cell? (ady.add ly) = some (.int .i64 (nth ys ly))) := fun W hW => by
    obtain ⟨ad1, e1, l1, c1⟩ := (hx.below hW).numAt (i := 0) (by omega)
    obtain ⟨ad2, e2, l2, c2⟩ := (hy.below hW).numAt (i := 0) (by omega)
    injection e1 with e1
    injection e2 with e2
    subst e1
    subst e2
    refine ⟨⟨l1, l2⟩, by simpa [addr_zero] using c1, (hx.below hW).numAt' (by omega), by simpa [addr_zero] using c2, (hy.below hW).numAt' (by omega)⟩
  clear hz hx hy hlx hly
  generalize nth xs 0 = x0 at *
  generalize nth xs lx = x1 at *
  generalize nth ys 0 = y0 at *
  generalize nth ys ly = y1 at *
  go_enter Tryd.func19, Tryd.ntmps19
  go_wp2_with fail
  have hb0 := below_alloc w (.cells #[.slice A la.length ca, .bool m, .slice (some adx) (lx + 1) cx, .slice (some ady) (ly + 1) cy] 49)
  have k0 := Bk.new w 49 #[.slice A la.length ca, .bool m, .slice (some adx) (lx + 1) cx, .slice (some ady) (ly + 1) cy]
  generalize w.alloc (.cells #[.slice A la.length ca, .bool m, .slice (some adx) (lx + 1) cx, .slice (some ady) (ly + 1) cy] 49) = w0 at *
  go_loopw [3] (fun i wr => ∃ k : Nat, k ≤ la.length ∧ i = .int .i64 k ∧ Hid (∀ p ∈ la.take k, x0 ≤ p.1 ∧ p.1 ≤ x1 ∧ y0 ≤ p.2 ∧ p.2 ≤ y1) ∧ Bk wr w.heap.size 49 #[.slice A la.length ca, .bool m, .slice (some adx) (lx + 1) cx, .slice (some ady) (ly + 1) cy] ∧ Below w.heap.size w wr) (fun i _ => la.length - (intOf i).toNat)
  case atStart => exact ⟨0, Nat.zero_le _, rfl, (fun p hp => by simp at hp), k0, hb0⟩
  case round =>
    clear k0 hb0
    obtain ⟨k, hk, rfl, HA, kb, hB⟩ := hrel
    obtain ⟨b0, b1, b2, b3⟩ := bk4' kb
    have lb := kb.lt
    rcases Nat.lt_or_ge k la.length with hlt | hge
    · obtain ⟨ad, rfl, hab, d1, d2⟩ := (hr.below hB).place (List.getElem?_eq_getElem hlt)
      have HT : Hid (∀ P : Pl → Prop, (∀ p ∈ la.take k, P p) → P la[k] → ∀ p ∈ la.take (k + 1), P p) := fun P h1 h2 p hp => by
        rw [List.take_succ_eq_append_getElem hlt] at hp
        rcases List.mem_append.1 hp with h3 | h3
        · exact h1 p h3
        · simp at h3; subst h3; exact h2
      have HM : Hid (la[k] ∈ la) := List.getElem_mem hlt
      generalize la[k] = p at *
      obtain ⟨px, py⟩ := p
      simp only at d1 d2
      have hbA := below_alloc wr (.cells #[.int .i64 px, .int .i64 py] 42)
      have kb2 := kb.next' hbA
      have kp := Bk.new wr 42 #[.int .i64 px, .int .i64 py]
      have hB2 := hB.trans (hbA.mono hB.size)
      obtain ⟨⟨l1, l2⟩, c1, c2, c3, c4⟩ := HC.out _ hB2
      have hsz := hB.size
      go_wp2_with fail
      obtain ⟨bp, hbp⟩ : ∃ b, b = wr.heap.size := ⟨_, rfl⟩
      rw [← hbp] at kp ⊢
      clear hbA kb hB b0 b1 b2 b3 d1 d2 hab hsz lb hbp
      generalize wr.alloc (.cells #[.int .i64 px, .int .i64 py] 42) = w2 at *
      obtain ⟨b0, b1, b2, b3⟩ := bk4' kb2
      obtain ⟨p0, p1⟩ := bk2 kp
      have i1 : (0 : Int) < (lx : Int) + 1 := by omega
      have i2 : (0 : Int) < (ly : Int) + 1 := by omega
      have i3 : (lx : Int) < (lx : Int) + 1 := by omega
      have i4 : (ly : Int) < (ly : Int) + 1 := by omega
      have i5 : (0 : Int) ≤ (lx : Int) := by omega
      have i6 : (0 : Int) ≤ (ly : Int) := by omega
      have i7 : IntKind.i64.wrap ((lx : Int) + 1 - 1) = (lx : Int) := (IntWalk.i64_in _ (by omega)).trans (by omega)
      have i8 : IntKind.i64.wrap ((ly : Int) + 1 - 1) = (ly : Int) := (IntWalk.i64_in _ (by omega)).trans (by omega)
      have HNO : Hid (¬ (x0 ≤ px ∧ px ≤ x1 ∧ y0 ≤ py ∧ py ≤ y1) → z = false) := fun hn => by
        cases hzz : z
        · rfl
        · exact absurd (HZ.out.1 hzz _ HM.out) hn
      by_cases t1 : px < x0
      · have hzf := HNO.out (by omega)
        subst hzf
        have q1 : decide (px < x0) = true := decide_eq_true t1
        clear t1
        go_quiet (fail)
        go_wp2
        go_ret
        exact ⟨below_drewN hB2 _, rfl⟩
      have q1 : decide (px < x0) = false := decide_eq_false t1
      by_cases t2 : x1 < px
      · have hzf := HNO.out (by omega)
        subst hzf
        have q2 : decide (x1 < px) = true := decide_eq_true t2
        clear t1 t2
        go_quiet (fail)
        go_wp2
        go_ret
        exact ⟨below_drewN hB2 _, rfl⟩
      have q2 : decide (x1 < px) = false := decide_eq_false t2
      by_cases t3 : py < y0
      · have hzf := HNO.out (by omega)
        subst hzf
        have q3 : decide (py < y0) = true := decide_eq_true t3
        clear t1 t2 t3
        go_quiet (fail)
        go_wp2
        go_ret
        exact ⟨below_drewN hB2 _, rfl⟩
      have q3 : decide (py < y0) = false := decide_eq_false t3
      by_cases t4 : y1 < py
      · have hzf := HNO.out (by omega)
        subst hzf
        have q4 : decide (y1 < py) = true := decide_eq_true t4
        clear t1 t2 t3 t4
        go_quiet (fail)
        go_wp2
        go_ret
        exact ⟨below_drewN hB2 _, rfl⟩
      have q4 : decide (y1 < py) = false := decide_eq_false t4
      have HN : Hid (∀ p ∈ la.take (k + 1), x0 ≤ p.1 ∧ p.1 ≤ x1 ∧ y0 ≤ p.2 ∧ p.2 ≤ y1) := HT.out (fun p => x0 ≤ p.1 ∧ p.1 ≤ x1 ∧ y0 ≤ p.2 ∧ p.2 ≤ y1) HA.out ⟨by omega, by omega, by omega, by omega⟩
      clear t1 t2 t3 t4
      go_quiet (fail)
      go_wp2
      go_roundw
      case rel => exact ⟨k + 1, by omega, by go_num, HN, kb2.drewN _, below_drewN hB2 _⟩
      case measure => simp [intOf]; omega
    · obtain rfl : k = la.length := by omega
      have hzt : z = true := HZ.out.2 (fun p hp => HA.out p (by rw [List.take_length]; exact hp))
      subst hzt
      go_wp2
      go_ret
      exact ⟨hB, rfl⟩
end Go.Proofs.YtblopapobmbboaaDoor

namespace Go.Proofs.YtblopapobmbboaaDoor
open Go.RowKit Ar

theorem Tryd.string_info : (Tryd.prog.info? 9).map (fun i => (i.zero, i.size, i.bytes)) = some (some (.string ⟨#[]⟩), 1, 16) := by kernel_rfl
theorem trow_len (l : List Rat) : (trow l).length = l.length := by unfold trow; rw [List.length_map]
theorem trow_snoc (l : List Rat) (q : Rat) : trow (l ++ [q]) = trow l ++ [.string ⟨(ratText q).toArray⟩] := by unfold trow; simp
theorem sumL_sumTo (f : Nat → Rat) (l : List Rat) (h : ∀ i (hi : i < l.length), l[i] = f i) : sumL l = sumTo f l.length := by
  have key : ∀ k, k ≤ l.length → sumL (l.take k) = sumTo f k := by
    intro k
    induction k with
    | zero => intro _; rw [List.take_zero]; rfl
    | succ k ih =>
      intro hk
      rw [sumL_take l (by omega), ih (by omega), h k (by omega)]
      rfl
  have := key l.length (Nat.le_refl _)
  rwa [List.take_length] at this
/-- The argument in a block of the call's own. -/
structure Cv (w : World) (u x y : Value) (m : Bool) (W : World) : Prop where
  below : Below w.heap.size w W
  k0 : Bk W w.heap.size 49 #[u, .bool m, x, y]
theorem Cv.next {w W W' : World} {u x y : Value} {m : Bool} (h : Cv w u x y m W) (hb : Below W.heap.size W W') : Cv w u x y m W' :=
  ⟨h.below.trans (hb.mono h.below.size), h.k0.next' hb⟩
theorem Cv.drew {w W : World} {u x y : Value} {m : Bool} (h : Cv w u x y m W) : Cv w u x y m W.drew := ⟨h.below.drew, h.k0.drew⟩
/-- What the law's plain words come to. -/
theorem covers_plain {la : List Pl} (ha : validC la) {xs ys : List Int} (hx : ascP xs) (hy : ascP ys) (hn : (xs.length - 1) * (ys.length - 1) ≤ 12) (P : List Rat)
    (hP : P = (recN xs ys ((xs.length - 1) * (ys.length - 1))).map fun x => commonQ la x.1 0) :
    (∀ q ∈ P, sz q ≤ 5000000) ∧ P.length ≤ 12 ∧ cmpQ (sumL P) (areaQ (poly la 0)) ≤ 0 ∧ ((cmpQ (sumL P) (areaQ (poly la 0)) == 0) = true ↔ coversP la xs ys) := by
  have hl : P.length = (xs.length - 1) * (ys.length - 1) := by rw [hP, List.length_map, recN_len]
  have hs : sumL P = Geo.ar (pgon la) (four (nth xs 0) (nth xs (xs.length - 1)) (nth ys 0) (nth ys (ys.length - 1))) / 2 := by
    rw [← parts_sum ha hx hy, ← hl]
    refine sumL_sumTo _ P fun i hi => ?_
    have h2 := recN_at (xs := xs) (ys := ys) (n := (xs.length - 1) * (ys.length - 1)) (k := i) (by omega)
    have h3 : P[i]? = some (commonQ la (recAt xs ys (i / (xs.length - 1)) (i % (xs.length - 1))).1 0) := by rw [hP, List.getElem?_map, h2]; rfl
    rw [List.getElem?_eq_getElem hi] at h3
    injection h3
  obtain ⟨c1, c2⟩ := covers_sum ha xs ys
  rw [← hs] at c1 c2
  refine ⟨fun q hq => ?_, by omega, cmpQ_le c1, ?_⟩
  · rw [hP] at hq
    obtain ⟨x, hx', rfl⟩ := List.mem_map.1 hq
    have hv := recs_valid hx hy x hx'
    have h4 : x.1.length = 4 := by
      obtain ⟨k, hk⟩ := List.getElem?_of_mem hx'
      have hlt : k < (xs.length - 1) * (ys.length - 1) := by
        have := (List.getElem?_eq_some_iff.1 hk).1
        rwa [recN_len] at this
      rw [recN_at hlt] at hk
      injection hk with hk
      rw [← hk]; rfl
    exact commonQ_sz4 ha hv h4
  · rw [beq_iff_eq, ← c2]
    unfold cmpQ
    constructor
    · intro h
      rcases tri3 (sumL P - areaQ (poly la 0)) with h1 | h1 | h1
      · rw [sgQ_pos h1] at h; cases h
      · grind
      · rw [sgQ_neg h1] at h; cases h
    · intro h
      have e : sumL P - areaQ (poly la 0) = 0 := by rw [h]; grind
      rw [e]; rfl

set_option maxRecDepth 100000 in
set_option maxHeartbeats 6400000 in
theorem covers_walk (la : List Pl) (m : Bool) (A : Option Addr) (ca : Nat) (xs ys : List Int) (Ax Ay : Option Addr) (cx cy : Nat) (w : World) (hC : IsC w w.heap.size (.agg #[.slice A la.length ca, .bool m]) la m)
    (hx : Rd w w.heap.size Ax (irow xs)) (hy : Rd w w.heap.size Ay (irow ys)) (hcl : la.length ≤ maxLen) (hcx : xs.length ≤ maxLen) (hcy : ys.length ≤ maxLen) (he : EnvR w) :
    Calls Tryd.prog 5 #[.agg #[.slice A la.length ca, .bool m, .slice Ax xs.length cx, .slice Ay ys.length cy]] w fun e w' => Below w.heap.size w w' ∧ e = .returned (.bool true) := by
  unfold maxLen at hcl hcx hcy
  have hb0 := below_alloc w (.cells #[.slice A la.length ca, .bool m, .slice Ax xs.length cx, .slice Ay ys.length cy] 49)
  have V0 : Cv w (.slice A la.length ca) (.slice Ax xs.length cx) (.slice Ay ys.length cy) m (w.alloc (.cells #[.slice A la.length ca, .bool m, .slice Ax xs.length cx, .slice Ay ys.length cy] 49)) := ⟨hb0, Bk.new _ _ _⟩
  have SN := sane_any _ (he.next hb0)
  by_cases big : 10 < la.length ∨ 13 < xs.length ∨ 13 < ys.length
  · by_cases b1 : 10 < la.length
    · have b1' : (10 : Int) < la.length := by omega
      go_enter Tryd.func5, Tryd.ntmps5
      go_wp2_with fail
      refine SN.mono ?_
      rintro e w1 ⟨hb1, rfl⟩
      go_wp2
      go_ret
      exact ⟨hb0.trans (hb1.mono hb0.size), rfl⟩
    · have b1' : ¬ (10 : Int) < la.length := by omega
      by_cases b2 : 13 < xs.length
      · have b2' : (13 : Int) < xs.length := by omega
        go_enter Tryd.func5, Tryd.ntmps5
        go_wp2_with fail
        refine SN.mono ?_
        rintro e w1 ⟨hb1, rfl⟩
        go_wp2
        go_ret
        exact ⟨hb0.trans (hb1.mono hb0.size), rfl⟩
      · have b2' : ¬ (13 : Int) < xs.length := by omega
        have b3' : (13 : Int) < ys.length := by omega
        go_enter Tryd.func5, Tryd.ntmps5
        go_wp2_with fail
        refine SN.mono ?_
        rintro e w1 ⟨hb1, rfl⟩
        go_wp2
        go_ret
        exact ⟨hb0.trans (hb1.mono hb0.size), rfl⟩
  clear SN
  have b1' : ¬ (10 : Int) < la.length := by omega
  have b2' : ¬ (13 : Int) < xs.length := by omega
  have b3' : ¬ (13 : Int) < ys.length := by omega
  have hx13 : xs.length ≤ 13 := by omega
  have hy13 : ys.length ≤ 13 := by omega
  clear big
  obtain ⟨ok, hok⟩ : ∃ z : Bool, z = true ↔ ascP xs ∧ ascP ys ∧ (xs.length - 1) * (ys.length - 1) ≤ 64 := bool_of _
  obtain ⟨oc, hoc⟩ : ∃ z : Bool, z = true ↔ validC la := bool_of _
  have R1 := rects_any Ax Ay cx cy xs ys (w.alloc (.cells #[.slice A la.length ca, .bool m, .slice Ax xs.length cx, .slice Ay ys.length cy] 49)) (by omega) (by omega) ((hx.below hb0).more hb0.size) ((hy.below hb0).more hb0.size) ok hok
  have A1 := Lib.hid (fun W (hW : Below w.heap.size w W) => Area_any la m (.agg #[.slice A la.length ca, .bool m]) W ((hC.below hW).more hW.size) (he.next hW) oc hoc)
  have HOK := Lib.hid hok
  have HOC := Lib.hid hoc
  clear hok hoc
  go_enter Tryd.func5, Tryd.ntmps5
  cases ok
  · simp only [Bool.false_eq_true, if_false] at R1
    go_wp2_with fail
    refine R1.mono ?_
    rintro e w1 ⟨hb1, v1, rfl, hI1⟩
    have V1 := V0.next hb1
    clear R1 V0 hb0 hb1
    obtain ⟨Ag, cg, rfl⟩ := hI1.form
    obtain ⟨c0, c1, c2, c3⟩ := bk4' V1.k0
    cases oc
    · have A2 := A1.out w1 V1.below
      simp only [Bool.false_eq_true, if_false] at A2
      go_wp2_with fail
      refine A2.mono ?_
      rintro e w2 ⟨hb2, rfl⟩
      have V2 := V1.next hb2
      clear A2 V1 hb2 c0 c1 c2 c3 hI1
      go_wp2_with fail
      refine (sane_any w2 (he.next V2.below)).mono ?_
      rintro e w3 ⟨hb3, rfl⟩
      go_wp2
      go_ret
      exact ⟨V2.below.trans (hb3.mono V2.below.size), rfl⟩
    · have A2 := A1.out w1 V1.below
      simp only [if_true] at A2
      generalize ratText (areaQ (poly la 0)) = ta at *
      go_wp2_with fail
      refine A2.mono ?_
      rintro e w2 ⟨hb2, rfl⟩
      have V2 := V1.next hb2
      clear A2 V1 hb2 c0 c1 c2 c3 hI1
      go_wp2_with fail
      refine (sane_any w2 (he.next V2.below)).mono ?_
      rintro e w3 ⟨hb3, rfl⟩
      go_wp2
      go_ret
      exact ⟨V2.below.trans (hb3.mono V2.below.size), rfl⟩
  obtain ⟨e1, e2, e3⟩ := HOK.out.1 rfl
  simp only [if_true] at R1
  have HE1 := Lib.hid e1
  have HE2 := Lib.hid e2
  have hx2 := e1.1
  have hy2 := e2.1
  have hNl : (recN xs ys ((xs.length - 1) * (ys.length - 1))).length = (xs.length - 1) * (ys.length - 1) := recN_len _ _ _
  have HNl := Lib.hid hNl
  have hl64 : (recN xs ys ((xs.length - 1) * (ys.length - 1))).length ≤ 64 := by rw [hNl]; exact e3
  clear e1 e2 e3 hNl HOK
  generalize hL : recN xs ys ((xs.length - 1) * (ys.length - 1)) = L at *
  have HL := Lib.hid hL
  clear hL
  go_wp2_with fail
  refine R1.mono ?_
  rintro e w1 ⟨hb1, v1, rfl, hI1⟩
  have V1 := V0.next hb1
  clear R1 V0 hb0 hb1
  obtain ⟨Ag, cg, rfl⟩ := hI1.form
  obtain ⟨c0, c1, c2, c3⟩ := bk4' V1.k0
  have A2 := A1.out w1 V1.below
  clear A1
  cases oc
  · simp only [Bool.false_eq_true, if_false] at A2
    go_wp2_with fail
    refine A2.mono ?_
    rintro e w2 ⟨hb2, rfl⟩
    have V2 := V1.next hb2
    clear A2 V1 hb2 c0 c1 c2 c3 hI1
    go_wp2_with fail
    refine (sane_any w2 (he.next V2.below)).mono ?_
    rintro e w3 ⟨hb3, rfl⟩
    go_wp2
    go_ret
    exact ⟨V2.below.trans (hb3.mono V2.below.size), rfl⟩
  have hva := HOC.out.1 rfl
  have HVA := Lib.hid hva
  have hla3 := hva.1
  have zA := areaC_szT hva
  simp only [if_true] at A2
  have LA := Lib.hid (fun W => qlong_text (areaQ (poly la 0)) W zA)
  clear hva HOC
  by_cases h12 : 12 < L.length
  · have h12' : (12 : Int) < L.length := by omega
    generalize ratText (areaQ (poly la 0)) = ta at *
    go_wp2_with fail
    refine A2.mono ?_
    rintro e w2 ⟨hb2, rfl⟩
    have V2 := V1.next hb2
    clear A2 V1 hb2 c0 c1 c2 c3 hI1 LA
    go_wp2_with fail
    refine (sane_any w2 (he.next V2.below)).mono ?_
    rintro e w3 ⟨hb3, rfl⟩
    go_wp2
    go_ret
    exact ⟨V2.below.trans (hb3.mono V2.below.size), rfl⟩
  have h12' : ¬ (12 : Int) < L.length := by omega
  obtain ⟨P, hP⟩ : ∃ P, P = L.map fun x => commonQ la x.1 0 := ⟨_, rfl⟩
  obtain ⟨p1, p2, p3, p4⟩ := covers_plain HVA.out HE1.out HE2.out (by rw [← HNl.out]; omega) P (by rw [HL.out]; exact hP)
  have HP := Lib.hid hP
  have HP1 := Lib.hid p1
  have HP4 := Lib.hid p4
  have hPl : P.length = L.length := by rw [hP, List.length_map]
  have HPL := Lib.hid hPl
  clear hP p1 p4 hPl
  have HLV : Hid (∀ x ∈ L, validC x.1) := by show ∀ x ∈ L, _; rw [← HL.out]; exact recs_valid HE1.out HE2.out
  have sA : sz (areaQ (poly la 0)) ≤ 27000000001 := zA
  generalize areaQ (poly la 0) = QA at *
  generalize ratText QA = ta at *
  have b4' : ¬ (xs.length : Int) < 2 := by omega
  have b5' : ¬ (ys.length : Int) < 2 := by omega
  go_wp2_with fail
  refine A2.mono ?_
  rintro e w2 ⟨hb2, rfl⟩
  have V2 := V1.next hb2
  have hI2 := hI1.next hb2
  clear A2 V1 hb2 c0 c1 c2 c3 hI1
  obtain ⟨c0, c1, c2, c3⟩ := bk4' V2.k0
  obtain ⟨i0, hi0, hz0, hz1, hz2⟩ := info_parts Tryd.string_info
  go_wp2_with fail
  go_loopw [7, 8] (fun pv i wr => ∃ k : Nat, k ≤ L.length ∧ i = .int .i64 k ∧ wr.ownsRow w2.heap.size 9 1 pv k (trow (P.take k)) ∧ Below w2.heap.size w2 wr) (fun _ i _ => L.length - (intOf i).toNat)
  case atStart => exact ⟨0, Nat.zero_le _, rfl, by rw [List.take_zero]; exact World.ownsRow_nil _ _ _ _, Below.refl _ _⟩
  case round =>
    clear c0 c1 c2 c3
    obtain ⟨k, hk, rfl, hown, hB⟩ := hrel
    have V3 := V2.next hB
    obtain ⟨c0, c1, c2, c3⟩ := bk4' V3.k0
    rcases Nat.lt_or_ge k L.length with hlt | hge
    · obtain ⟨ad, A3, c3', rfl, hab, d1, d2, hCk⟩ := (hI2.below hB).at (i := k) (List.getElem?_eq_getElem hlt)
      have hxv := HLV.out _ (List.getElem_mem hlt)
      have hPk : Hid (P.take (k + 1) = P.take k ++ [commonQ la (L[k]).1 0]) := by
        show _ = _
        have hlp : k < P.length := by rw [HPL.out]; exact hlt
        rw [List.take_succ_eq_append_getElem hlp]
        congr 1
        have : P[k]? = some (commonQ la (L[k]).1 0) := by rw [HP.out, List.getElem?_map, List.getElem?_eq_getElem hlt]; rfl
        rw [List.getElem?_eq_getElem hlp] at this
        injection this with this
        rw [this]
      generalize L[k] = x at *
      obtain ⟨xl, xm⟩ := x
      simp only at d1 d2 hCk hxv hPk
      have CM := Common_any la xl m xm (.agg #[.slice A la.length ca, .bool m]) (.agg #[.slice A3 xl.length c3', .bool xm]) wr.drew ((hC.below V3.below.drew).more V3.below.drew.size) (hCk.more hB.size) (he.next V3.below.drew) true ⟨fun _ => ⟨HVA.out, hxv⟩, fun _ => rfl⟩
      simp only [if_true] at CM
      have hTS : Hid (trow (P.take (k + 1)) = trow (P.take k) ++ [.string ⟨(ratText (commonQ la xl 0)).toArray⟩]) := by
        show _ = _
        rw [hPk.out, trow_snoc]
      generalize ratText (commonQ la xl 0) = tx at *
      clear hxv hCk hPk
      have b6 : (0 : Int) ≤ (k : Int) := by omega
      have b7 : (k : Int) < (L.length : Int) := by omega
      have hlt2 := Nat.lt_of_lt_of_le hab hB.size
      go_wp2_with fail
      go_region_held3 (fun W => (W.cell? ⟨w.heap.size, 0, none⟩ = some (.slice A la.length ca) ∧ W.cell? ⟨w.heap.size, 1, none⟩ = some (.bool m)) ∧ W.cell? (ad.add (k * 2)) = some (.slice A3 xl.length c3') ∧ W.cell? ⟨(ad.add (k * 2)).block, (ad.add (k * 2)).off + 1, none⟩ = some (.bool xm))
        (first | exact ⟨⟨c0, c1⟩, d1, d2⟩ | exact q1)
        (first | (go_at_call 9; (with_reducible refine CM.mono ?_); rintro e w4 ⟨hb4, rfl⟩; have V4 := V3.drew.next hb4; have q0 := bk4' V4.k0; have q1 := And.intro (And.intro q0.1 q0.2.1) (And.intro ((hb4.cell (show (ad.add (k * 2)).block < wr.drew.heap.size by rw [addr_block]; exact hlt2)).trans d1) ((hb4.cell (p := ⟨(ad.add (k * 2)).block, (ad.add (k * 2)).off + 1, none⟩) (show (ad.add (k * 2)).block < wr.drew.heap.size by rw [addr_block]; exact hlt2)).trans d2))))
      have hB4 := hB.drew.trans (hb4.mono hB.size)
      have hown4 := own_next (own_next hown (Below.refl wr.heap.size wr).drew) hb4
      have hs4 := hB4.size
      clear CM q0 q1 hb4 V3 V4 d1 d2 c0 c1 c2 c3 hown hB
      go_wp2_with (at_builtin; refine wpL_append _ rfl (.tmp 88) (.tmp 90) _ rfl w2.heap.size 9 i0 _ 1 16 Tryd.underlying52 hi0 hz0 hz1 hz2 rfl (by omega) _ k _ rfl (hown4.alloc _) (some ⟨w4.heap.size, 0, none⟩) 1 1 [.string ⟨tx.toArray⟩] rfl rfl (Rd.of_new w4 [.string ⟨tx.toArray⟩] 9) (by intro u hu; simp at hu; subst hu; rfl) (by unfold maxLen; omega) (by omega) (by simp; omega) ?_; intro v5 w5 hw1 hw2 _)
      have hB5 := below_app (hB4.alloc hs4 _) hw2 (by simp; omega) (hown4.alloc _) (Nat.le_refl _)
      rw [← hTS.out] at hw1
      clear hown4 hw2 hB4 hs4
      go_roundw
      case rel => exact ⟨k + 1, by omega, by go_num, hw1, hB5⟩
      case measure => simp [intOf]; omega
    · obtain rfl : k = L.length := by omega
      rw [List.take_of_length_le (by rw [HPL.out]; exact Nat.le_refl _)] at hown
      obtain ⟨Ap, cp, rfl, _⟩ := own_slice0 hown
      have hrdP := Rd.of_own hown
      have AD := added_any P Ap cp wr (by omega) hrdP HP1.out
      rw [HPL.out] at AD
      have hsS : sz (sumL P) ≤ 100000000 := Nat.le_trans (sumL_sz HP1.out) (by have := Nat.mul_le_mul_right 5000001 p2; omega)
      generalize sumL P = SP at *
      clear hown hrdP hI2 V2 hB
      go_wp2_with fail
      refine AD.mono ?_
      rintro e w4 ⟨hb4, v4, rfl, hq4⟩
      obtain ⟨t4, E4, n4, d4, E4', n4', d4', rfl⟩ := hq4.form
      have V4 := V3.next hb4
      clear AD V3 hb4 c0 c1 c2 c3
      have hbA := below_alloc w4 (.cells #[.bool t4, .slice E4 n4 d4, .slice E4' n4' d4'] 35)
      have k4 := Bk.new w4 35 #[.bool t4, .slice E4 n4 d4, .slice E4' n4' d4']
      have hq5 := hq4.next hbA
      have V5 := V4.next hbA
      obtain ⟨g4, hg4⟩ : ∃ g, g = w4.heap.size := ⟨_, rfl⟩
      go_wp2_with fail
      rw [← hg4] at k4 ⊢
      clear hq4 V4 hbA hg4
      generalize w4.alloc (.cells #[.bool t4, .slice E4 n4 d4, .slice E4' n4' d4'] 35) = w5 at *
      refine (LA.out w5).mono ?_
      rintro e w6 ⟨hb6, v6, rfl, hq6⟩
      obtain ⟨t6, E6, n6, d6, E6', n6', d6', rfl⟩ := hq6.form
      have V6 := V5.next hb6
      have k6 := k4.next' hb6
      have hq7 := hq5.next hb6
      clear LA V5 k4 hq5 hb6
      have hbA := below_alloc w6 (.cells #[.bool t6, .slice E6 n6 d6, .slice E6' n6' d6'] 35)
      have j6 := Bk.new w6 35 #[.bool t6, .slice E6 n6 d6, .slice E6' n6' d6']
      have hq8 := hq6.next hbA
      have hq9 := hq7.next hbA
      have k7 := k6.next' hbA
      have V7 := V6.next hbA
      obtain ⟨g6, hg6⟩ : ∃ g, g = w6.heap.size := ⟨_, rfl⟩
      obtain ⟨r0, r1, r2⟩ := bk3 k6
      have lr := k6.lt
      go_wp2_with fail
      rw [← hg6] at j6 ⊢
      clear hq6 hq7 k6 V6 hbA hg6 r0 r1 r2 lr
      generalize w6.alloc (.cells #[.bool t6, .slice E6 n6 d6, .slice E6' n6' d6'] 35) = w7 at *
      refine (qcmp_any SP QA _ _ w7 hq9 hq8 (by omega) (by omega)).mono ?_
      rintro e w8 ⟨hb8, rfl⟩
      have V8 := V7.next hb8
      clear hq9 hq8 k7 j6 V7 hb8
      generalize cmpQ SP QA = cq at *
      obtain ⟨c0, c1, c2, c3⟩ := bk4' V8.k0
      obtain ⟨lx, hlx⟩ : ∃ n, xs.length = n + 1 := ⟨xs.length - 1, by omega⟩
      obtain ⟨ly, hly⟩ : ∃ n, ys.length = n + 1 := ⟨ys.length - 1, by omega⟩
      obtain ⟨adx, rfl, _⟩ := hx (by intro e; have h9 : (irow xs).length = 0 := by rw [e]; rfl
                                     unfold irow at h9; rw [List.length_map] at h9; omega)
      obtain ⟨ady, rfl, _⟩ := hy (by intro e; have h9 : (irow ys).length = 0 := by rw [e]; rfl
                                     unfold irow at h9; rw [List.length_map] at h9; omega)
      have CV := covers_any la m A ca xs ys adx ady lx ly cx cy w8 (by omega) ((hC.below V8.below).more V8.below.size).rd ((hx.below V8.below).more V8.below.size) ((hy.below V8.below).more V8.below.size) hlx hly (by omega) (by omega) (cq == 0) HP4.out
      rw [← hlx, ← hly] at CV
      clear hlx hly
      go_wp2_with fail
      refine CV.mono ?_
      rintro e w9 ⟨hb9, rfl⟩
      have hB9 := V8.below.trans (hb9.mono V8.below.size)
      clear CV V8 hb9 c0 c1 c2 c3
      generalize (cq == 0) = zq at *
      go_wp2_with fail
      refine (sane_any w9 (he.next hB9)).mono ?_
      rintro e w10 ⟨hb10, rfl⟩
      go_wp2
      go_ret
      exact ⟨hB9.trans (hb10.mono hB9.size), rfl⟩
end Go.Proofs.YtblopapobmbboaaDoor
