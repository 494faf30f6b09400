/-
  Plane geometry over the rationals (C): plain Lean, of no program.
  Plane geometry over the rationals (D): plain Lean, of no program.
-/
import Derived.Test.YtbddmkklkbkliaaGreatDoorGeoU
namespace Go.Proofs.YtbddmkklkbkliaaGreatDoor.Geo
open Classical

def w0 (p q : Pt) : Rat := p.x * q.y - p.y * q.x
/-- A place on the line through a and b lies between them. -/
def Btw (a b p : Pt) : Prop := (p.x - a.x) * (p.x - b.x) + (p.y - a.y) * (p.y - b.y) < 0
/-- A side of the hull of some places, from one of them on the border to the next one. -/
def SideOf (S : List Pt) (p q : Pt) : Prop := ∀ j ∈ S, j ≠ p → j ≠ q → 0 < cross p q j ∨ (cross p q j = 0 ∧ ¬ Btw p q j)
/-- Twice the area of the hull of some places. -/
noncomputable def hullS (S : List Pt) : Rat := sm S fun p => sm S fun q => if p ≠ q ∧ SideOf S p q then w0 p q else 0
/-- Twice the area of a polygon. -/
def Sh (l : List Pt) : Rat := sm (cyc l) fun e => w0 e.1 e.2

/-- Where a place lies along a side. -/
def tau (c d x : Pt) : Rat := dot (sub d c) (sub x c)

theorem dot_pos {c d : Pt} (h : c ≠ d) : 0 < dot (sub d c) (sub d c) := by
  have sq : ∀ a : Rat, 0 ≤ a * a := fun a => by
    rcases tot 0 a with h | h
    · exact Rat.mul_nonneg h h
    · exact nn h h
  have sq' : ∀ a : Rat, a ≠ 0 → 0 < a * a := fun a ha => Rat.lt_of_le_of_ne (sq a) (fun e => ha (by rcases Rat.mul_eq_zero.1 e.symm with h | h <;> exact h))
  have a1 := sq (d.x - c.x)
  have a2 := sq (d.y - c.y)
  show 0 < (d.x - c.x) * (d.x - c.x) + (d.y - c.y) * (d.y - c.y)
  by_cases hx : d.x - c.x = 0
  · have hy : d.y - c.y ≠ 0 := fun hy => h (by apply Pt.ext' <;> grind)
    have := sq' _ hy; grind
  · have := sq' _ hx; grind

section
variable {c d : Pt}
/-- On a line places are where they lie along it. -/
theorem on_line {p : Pt} (hp : cross c d p = 0) : dot (sub d c) (sub d c) * (p.x - c.x) = tau c d p * (d.x - c.x) ∧ dot (sub d c) (sub d c) * (p.y - c.y) = tau c d p * (d.y - c.y) := by
  unfold tau dot sub cross at *
  constructor <;> grind
theorem line_cross {p q : Pt} (hp : cross c d p = 0) (hq : cross c d q = 0) (x : Pt) : dot (sub d c) (sub d c) * cross p q x = (tau c d q - tau c d p) * cross c d x := by
  unfold tau dot sub cross at *
  grind
theorem line_w0 {p q : Pt} (hp : cross c d p = 0) (hq : cross c d q = 0) : dot (sub d c) (sub d c) * w0 p q = (tau c d q - tau c d p) * w0 c d := by
  unfold tau dot sub cross w0 at *
  grind
theorem line_btw {p q x : Pt} (hp : cross c d p = 0) (hq : cross c d q = 0) (hx : cross c d x = 0) :
    dot (sub d c) (sub d c) * ((x.x - p.x) * (x.x - q.x) + (x.y - p.y) * (x.y - q.y)) = (tau c d x - tau c d p) * (tau c d x - tau c d q) := by
  unfold tau dot sub cross at *
  grind
theorem line_inj (h : c ≠ d) {p q : Pt} (hp : cross c d p = 0) (hq : cross c d q = 0) (ht : tau c d p = tau c d q) : p = q := by
  have hN := dot_pos h
  obtain ⟨a1, a2⟩ := on_line hp
  obtain ⟨b1, b2⟩ := on_line hq
  rw [ht] at a1 a2
  have e1 : dot (sub d c) (sub d c) * (p.x - q.x) = 0 := by grind
  have e2 : dot (sub d c) (sub d c) * (p.y - q.y) = 0 := by grind
  apply Pt.ext'
  · rcases Rat.mul_eq_zero.1 e1 with h | h <;> grind
  · rcases Rat.mul_eq_zero.1 e2 with h | h <;> grind
theorem tau_c : tau c d c = 0 := by unfold tau dot sub; grind
theorem tau_d : tau c d d = dot (sub d c) (sub d c) := rfl
theorem cross_c : cross c d c = 0 := by unfold cross; grind
theorem cross_d : cross c d d = 0 := by unfold cross; grind
end

/-- p and q follow one another on a side. -/
def Fol (S : List Pt) (e : Pt × Pt) (p q : Pt) : Prop :=
  cross e.1 e.2 p = 0 ∧ cross e.1 e.2 q = 0 ∧ tau e.1 e.2 p < tau e.1 e.2 q ∧ ∀ j ∈ S, cross e.1 e.2 j = 0 → ¬ (tau e.1 e.2 p < tau e.1 e.2 j ∧ tau e.1 e.2 j < tau e.1 e.2 q)

theorem sign_of {N a b : Rat} (hN : 0 < N) (h : N * a = b) : (0 < b → 0 < a) ∧ (b = 0 → a = 0) ∧ (b < 0 → a < 0) ∧ (0 ≤ b → 0 ≤ a) := by
  refine ⟨fun hb => ?_, fun hb => ?_, fun hb => ?_, fun hb => pos_of_mul' hN (by grind)⟩
  · have h1 := pos_of_mul' (q := a) hN (by grind)
    rcases lt_or_eq h1 with h2 | h2
    · exact h2
    · rw [← h2] at h; grind
  · rcases Rat.mul_eq_zero.1 (h.trans hb) with h1 | h1 <;> grind
  · have h1 := pos_of_mul (q := a) hN (by grind)
    rcases lt_or_eq h1 with h2 | h2
    · exact h2
    · rw [h2] at h; grind

section
variable {l : List Pt} (hl : TC l) (h3 : 3 ≤ l.length)
include hl h3

theorem TC.ne_side {c d : Pt} (h : (c, d) ∈ cyc l) : c ≠ d := by
  obtain ⟨r, hr, hx⟩ := hl.left (by omega) h
  have hlen := hr.length
  cases r with
  | nil => simp at hlen; omega
  | cons x r =>
    rintro rfl
    have := hx x (by simp)
    have e : cross c c x = 0 := by unfold cross; grind
    grind

/-- Two different places on two sides: it is one side. -/
theorem TC.side_unique {c d c' d' p q : Pt} (h : (c, d) ∈ cyc l) (h' : (c', d') ∈ cyc l) (hp : cross c d p = 0) (hq : cross c d q = 0) (hp' : cross c' d' p = 0) (hq' : cross c' d' q = 0) 
    (ht : tau c d p < tau c d q) (ht' : tau c' d' p < tau c' d' q) : c = c' ∧ d = d' := by
  have hcd := hl.ne_side h3 h
  have hcd' := hl.ne_side h3 h'
  have hN := dot_pos hcd
  have hN' := dot_pos hcd'
  -- the line through p and q is that of both
  have e := line_cross hp hq
  have e' := line_cross hp' hq'
  have key : ∀ x, (0 < cross c d x → 0 < cross c' d' x) ∧ (cross c d x = 0 → cross c' d' x = 0) := by
    intro x
    have a1 := sign_of hN (e x)
    have b1 := e' x
    constructor
    · intro h0
      have := a1.1 (Rat.mul_pos (by grind) h0)
      have h5 := Rat.mul_pos hN' this
      rw [b1] at h5
      have := pos_of_mul' (a := tau c' d' q - tau c' d' p) (q := cross c' d' x) (by grind) (Rat.le_of_lt h5)
      rcases lt_or_eq this with h6 | h6
      · exact h6
      · rw [← h6] at h5; grind
    · intro h0
      have := a1.2.1 (by rw [h0]; grind)
      rw [this] at b1
      have b2 : (tau c' d' q - tau c' d' p) * cross c' d' x = 0 := by rw [← b1]; grind
      rcases Rat.mul_eq_zero.1 b2 with h6 | h6
      · grind
      · exact h6
  obtain ⟨r, hr, hx⟩ := hl.left (by omega) h
  obtain ⟨r', hr', hx'⟩ := hl.left (by omega) h'
  have onc' : ∀ x, x ∈ l → cross c' d' x = 0 → x = c ∨ x = d := by
    intro x hxl h0
    have := (hr.mem x).2 hxl
    simp at this
    rcases this with h | h | h
    · exact .inl h
    · exact .inr h
    · have := (key x).1 (hx x h); grind
  have hc' : c' = c ∨ c' = d := onc' c' (mem_of_cyc h').1 cross_c
  have hd' : d' = c ∨ d' = d := onc' d' (mem_of_cyc h').2 cross_d
  rcases hc' with rfl | rfl
  · rcases hd' with rfl | rfl
    · exact absurd rfl hcd'
    · exact ⟨rfl, rfl⟩
  · rcases hd' with rfl | rfl
    · exfalso
      have hlen := hr.length
      cases r with
      | nil => simp at hlen; omega
      | cons x r =>
        have h1 := (key x).1 (hx x (by simp))
        have h2 := hx x (by simp)
        have e : cross c' d' x = - cross d' c' x := cross_swap _ _ _
        grind
    · exact absurd rfl hcd'

variable {S : List Pt} (hS : ∀ x ∈ S, In l x)
include hS

/-- Places that follow one another on a side are a side of the hull. -/
theorem TC.side_of_fol {c d p q : Pt} (h : (c, d) ∈ cyc l) (hf : Fol S (c, d) p q) : p ≠ q ∧ SideOf S p q := by
  obtain ⟨hp, hq, ht, hb⟩ := hf
  simp only at hp hq ht hb
  have hcd := hl.ne_side h3 h
  have hN := dot_pos hcd
  refine ⟨by rintro rfl; grind, fun j hj h1 h2 => ?_⟩
  have e := line_cross hp hq j
  have hin := hS j hj c d h
  have sg := sign_of hN e
  rcases lt_or_eq hin with h0 | h0
  · exact .inl (sg.1 (Rat.mul_pos (by grind) h0))
  · right
    have h0 := h0.symm
    refine ⟨sg.2.1 (by rw [h0]; grind), fun hbt => ?_⟩
    have e2 := line_btw hp hq h0
    unfold Btw at hbt
    have h5 := pn' hN hbt
    rw [e2] at h5
    have hnb := hb j hj h0
    rcases tot (tau c d j) (tau c d p) with h6 | h6
    · have := nn (a := tau c d j - tau c d p) (b := tau c d j - tau c d q) (by grind) (by grind)
      grind
    · rcases lt_or_eq h6 with h7 | h7
      · have h8 : tau c d q ≤ tau c d j := Rat.not_lt.1 fun h9 => hnb ⟨h7, h9⟩
        have := Rat.mul_nonneg (a := tau c d j - tau c d p) (b := tau c d j - tau c d q) (by grind) (by grind)
        grind
      · rw [h7] at h5; grind

/-- A side of the hull lies on a side of the polygon. -/
theorem TC.fol_of_side (hlS : ∀ x ∈ l, x ∈ S) {p q : Pt} (hp : p ∈ S) (hq : q ∈ S) (hpq : p ≠ q) (hs : SideOf S p q) : ∃ e ∈ cyc l, Fol S e p q := by
  have hfge : ∀ x ∈ l, 0 ≤ cross p q x := by
    intro x hx
    by_cases h1 : x = p
    · subst h1; rw [cross_c]; exact Rat.le_refl
    · by_cases h2 : x = q
      · subst h2; rw [cross_d]; exact Rat.le_refl
      · rcases hs x (hlS x hx) h1 h2 with h | h
        · exact Rat.le_of_lt h
        · rw [h.1]; exact Rat.le_refl
  have hf := aff_cross p q
  obtain ⟨v, hv, hvp, hmin⟩ := hl.min hf h3 (hS p hp)
  have hv0 : cross p q v = 0 := by have := hfge v hv; rw [cross_c] at hvp; grind
  obtain ⟨u, w, h1, h2, h4⟩ := around (by omega) hv
  obtain ⟨r, hr⟩ := h4 h3
  have htc := hl.rot hr
  have huvw : 0 < cross u v w := by
    have := htc.1
    simp at this
    exact this.1.1
  have hu := hfge u (mem_of_cyc h1).1
  have hw := hfge w (mem_of_cyc h2).2
  have cp := hf.cone u v w p
  have cq := hf.cone u v w q
  rw [hv0, cross_c] at cp
  rw [hv0, cross_d] at cq
  have p1 := hS p hp u v h1
  have p2 := hS p hp v w h2
  have q1 := hS q hq u v h1
  have q2 := hS q hq v w h2
  have m1 := Rat.mul_nonneg p2 hu
  have m2 := Rat.mul_nonneg p1 hw
  have m3 := Rat.mul_nonneg q2 hu
  have m4 := Rat.mul_nonneg q1 hw
  have z1 : cross v w p * cross p q u = 0 := by grind
  have z2 : cross u v p * cross p q w = 0 := by grind
  have z3 : cross v w q * cross p q u = 0 := by grind
  have z4 : cross u v q * cross p q w = 0 := by grind
  -- what follows from a side on the line
  have fin : ∀ c d x, (c, d) ∈ cyc l → cross c d p = 0 → cross c d q = 0 → 0 < cross p q x → 0 < cross c d x → ∃ e ∈ cyc l, Fol S e p q := by
    intro c d x hcd hp0 hq0 hx1 hx2
    have hne := hl.ne_side h3 hcd
    have hN := dot_pos hne
    have e := line_cross hp0 hq0 x
    have h5 := Rat.mul_pos hN hx1
    rw [e] at h5
    have ht : tau c d p < tau c d q := by
      apply Rat.not_le.1
      intro h6
      have := np (a := tau c d q - tau c d p) (b := cross c d x) (by grind) (Rat.le_of_lt hx2)
      grind
    refine ⟨(c, d), hcd, hp0, hq0, ht, ?_⟩
    intro j hj hj0 ⟨h6, h7⟩
    simp only at hj0 h6 h7
    have hjp : j ≠ p := by rintro rfl; grind
    have hjq : j ≠ q := by rintro rfl; grind
    have e2 := line_cross hp0 hq0 j
    have e3 := line_btw hp0 hq0 hj0
    have hz : cross p q j = 0 := (sign_of hN e2).2.1 (by rw [hj0]; grind)
    rcases hs j hj hjp hjq with h8 | h8
    · grind
    · apply h8.2
      unfold Btw
      exact (sign_of hN e3).2.2.1 (pn' (by grind) (by grind))
  by_cases hu0 : cross p q u = 0
  · by_cases hw0 : cross p q w = 0
    · exfalso
      have hN := dot_pos hpq
      have e := line_cross (c := p) (d := q) hu0 hv0 w
      have : dot (Geo.sub q p) (Geo.sub q p) * cross u v w = 0 := by rw [e, hw0]; grind
      rcases Rat.mul_eq_zero.1 this with h | h <;> grind
    · have hw' : 0 < cross p q w := Rat.lt_of_le_of_ne hw (fun e => hw0 e.symm)
      refine fin u v w h1 ?_ ?_ hw' huvw
      · rcases Rat.mul_eq_zero.1 z2 with h | h
        · exact h
        · exact absurd h hw0
      · rcases Rat.mul_eq_zero.1 z4 with h | h
        · exact h
        · exact absurd h hw0
  · have hu' : 0 < cross p q u := Rat.lt_of_le_of_ne hu (fun e => hu0 e.symm)
    refine fin v w u h2 ?_ ?_ hu' (by rw [cross_rot u v w]; exact huvw)
    · rcases Rat.mul_eq_zero.1 z1 with h | h
      · exact h
      · exact absurd h hu0
    · rcases Rat.mul_eq_zero.1 z3 with h | h
      · exact h
      · exact absurd h hu0
end
end Go.Proofs.YtbddmkklkbkliaaGreatDoor.Geo
namespace Go.Proofs.YtbddmkklkbkliaaGreatDoor.Geo
open Classical

theorem sides_fst (nxt : Pt) (l : List Pt) : (sides nxt l).map (·.1) = l := by
  induction l with
  | nil => rfl
  | cons a l ih =>
    cases l with
    | nil => rfl
    | cons b l => simp only [sides, List.map_cons, ih]
theorem cyc_fst (l : List Pt) : (cyc l).map (·.1) = l := by
  cases l with
  | nil => rfl
  | cons a l => exact sides_fst _ _

theorem nodup_of_split {l : List Pt} (h : ∀ u a v, l = u ++ a :: v → a ∉ v) : l.Nodup := by
  induction l with
  | nil => exact List.nodup_nil
  | cons b l ih =>
    rw [List.nodup_cons]
    exact ⟨h [] b l rfl, ih fun u a v e => h (b :: u) a v (by rw [e]; rfl)⟩

theorem TC.nodup {l : List Pt} (h : TC l) (h3 : 3 ≤ l.length) : l.Nodup := by
  have key : ∀ a r, TC (a :: r) → 2 ≤ r.length → a ∉ r := by
    intro a r h h2 ha
    obtain ⟨u, v, rfl⟩ := List.append_of_mem ha
    have hp := h.1
    rw [List.pairwise_append] at hp
    have z : ∀ x, cross a a x = 0 := fun x => by unfold cross; grind
    have z' : ∀ x, cross a x a = 0 := fun x => by unfold cross; grind
    cases u with
    | nil =>
      cases v with
      | nil => simp at h2
      | cons b v =>
        have := hp.2.1
        simp at this
        have := this.1.1
        rw [z] at this; grind
    | cons b u =>
      have := hp.2.2 b (by simp) a (by simp)
      rw [z'] at this; grind
  refine nodup_of_split fun u a v hs hv => ?_
  have hr : Rot l (a :: (v ++ u)) := ⟨u, a :: v, hs, rfl⟩
  have := key a _ (h.rot hr) (by have := hr.length; simp at this h3 ⊢; omega)
  exact this (by simp [hv])

theorem nodup_of_map {α β : Type} {l : List α} (g : α → β) (h : (l.map g).Nodup) : l.Nodup := by
  induction l with
  | nil => exact List.nodup_nil
  | cons a l ih =>
    rw [List.map_cons, List.nodup_cons] at h
    rw [List.nodup_cons]
    exact ⟨fun ha => h.1 (List.mem_map.2 ⟨a, ha, rfl⟩), ih h.2⟩

section
variable {l : List Pt} (hl : TC l) (h3 : 3 ≤ l.length) {S : List Pt} (hS : ∀ x ∈ S, In l x) (hlS : ∀ x ∈ l, x ∈ S) (hnd : S.Nodup)
include hl h3

theorem TC.cyc_nodup : (cyc l).Nodup := nodup_of_map (·.1) (by rw [cyc_fst]; exact hl.nodup h3)

include hS
/-- A place of the polygon on the line of a side lies on the side. -/
theorem TC.tau_range {c d x : Pt} (h : (c, d) ∈ cyc l) (hx : x ∈ S) (h0 : cross c d x = 0) : 0 ≤ tau c d x ∧ tau c d x ≤ dot (Geo.sub d c) (Geo.sub d c) := by
  have hne := hl.ne_side h3 h
  have hN := dot_pos hne
  obtain ⟨e1, e2⟩ := on_line h0
  obtain ⟨u, w0, a1, a2, a3⟩ := around (by omega) (mem_of_cyc h).1
  obtain ⟨c0, w, b1, b2, b3⟩ := around (by omega) (mem_of_cyc h).2
  -- the neighbours are those of the side
  obtain ⟨r, hr, hleft⟩ := hl.left (by omega) h
  have huc : 0 < cross u c d := by
    have hum := (hr.mem u).2 (mem_of_cyc a1).1
    have huc := hl.ne_side h3 a1
    simp at hum
    rcases hum with rfl | rfl | hum
    · exact absurd rfl huc
    · exfalso
      -- u = d: the side (d, c) beside (c, d)
      obtain ⟨r2, hr2, hl2⟩ := hl.left (by omega) a1
      have hlen := hr.length
      cases r with
      | nil => simp at hlen; omega
      | cons y r =>
        have hy := hleft y (by simp)
        have hym : y ∈ l := (hr.mem y).1 (by simp)
        have := (hr2.mem y).2 hym
        simp at this
        rcases this with rfl | rfl | this
        · rw [cross_d] at hy; grind
        · rw [cross_c] at hy; grind
        · have := hl2 y this
          have e : cross u c y = - cross c u y := cross_swap _ _ _
          grind
    · have := hleft u hum
      rw [show cross c d u = cross u c d from cross_rot u c d] at this; exact this
  have hdw : 0 < cross d w c := by
    have hwm := (hr.mem w).2 (mem_of_cyc b2).2
    have hdw := hl.ne_side h3 b2
    simp at hwm
    rcases hwm with rfl | rfl | hwm
    · exfalso
      obtain ⟨r2, hr2, hl2⟩ := hl.left (by omega) b2
      have hlen := hr.length
      cases r with
      | nil => simp at hlen; omega
      | cons y r =>
        have hy := hleft y (by simp)
        have hym : y ∈ l := (hr.mem y).1 (by simp)
        have := (hr2.mem y).2 hym
        simp at this
        rcases this with rfl | rfl | this
        · rw [cross_d] at hy; grind
        · rw [cross_c] at hy; grind
        · have := hl2 y this
          have e : cross d w y = - cross w d y := cross_swap _ _ _
          grind
    · exact absurd rfl hdw
    · have := hleft w hwm
      rw [← cross_rot c d w] at this; exact this
  have i1 := hS x hx u c a1
  have i2 := hS x hx d w b2
  have f1 : dot (Geo.sub d c) (Geo.sub d c) * cross u c x = tau c d x * cross u c d := by
    generalize dot (Geo.sub d c) (Geo.sub d c) = N at *
    generalize tau c d x = t at *
    unfold cross; grind
  have f2 : dot (Geo.sub d c) (Geo.sub d c) * cross d w x = (dot (Geo.sub d c) (Geo.sub d c) - tau c d x) * cross d w c := by
    generalize dot (Geo.sub d c) (Geo.sub d c) = N at *
    generalize tau c d x = t at *
    unfold cross; grind
  have g1 := Rat.mul_nonneg (Rat.le_of_lt hN) i1
  have g2 := Rat.mul_nonneg (Rat.le_of_lt hN) i2
  rw [f1] at g1
  rw [f2] at g2
  constructor
  · exact pos_of_mul' (a := cross u c d) huc (by grind)
  · have := pos_of_mul' (a := cross d w c) (q := dot (Geo.sub d c) (Geo.sub d c) - tau c d x) hdw (by grind)
    grind

include hlS hnd
theorem TC.side_sum {c d : Pt} (h : (c, d) ∈ cyc l) : (sm S fun p => sm S fun q => if Fol S (c, d) p q then w0 p q else 0) = w0 c d := by
  have hne := hl.ne_side h3 h
  have hN := dot_pos hne
  let L := (S.filter (fun x => decide (cross c d x = 0))).map (tau c d)
  have hL : ∀ t, t ∈ L ↔ ∃ x ∈ S, cross c d x = 0 ∧ tau c d x = t := by
    intro t
    simp only [L, List.mem_map, List.mem_filter, decide_eq_true_eq]
    constructor
    · rintro ⟨x, ⟨h1, h2⟩, h3⟩; exact ⟨x, h1, h2, h3⟩
    · rintro ⟨x, h1, h2, h3⟩; exact ⟨x, ⟨h1, h2⟩, h3⟩
  have hLn : L.Nodup := by
    have : (S.filter (fun x => decide (cross c d x = 0))).Nodup := hnd.filter _
    simp only [L]
    rw [List.nodup_iff_pairwise_ne] at this ⊢
    rw [List.pairwise_map]
    have hmem : ∀ x ∈ S.filter (fun x => decide (cross c d x = 0)), cross c d x = 0 := fun x hx => by simpa using (List.mem_filter.1 hx).2
    exact List.Pairwise.imp_of_mem (fun {a b} ha hb hab e => hab (line_inj hne (hmem a ha) (hmem b hb) e)) this
  have e1 : (sm S fun p => sm S fun q => if Fol S (c, d) p q then tau c d q - tau c d p else 0) = steps L := by
    unfold steps
    simp only [L]
    rw [sm_map, ← sm_filter]
    apply sm_congr
    intro p hp
    by_cases hp0 : cross c d p = 0
    · rw [if_pos (by simpa using hp0)]
      rw [sm_map, ← sm_filter]
      apply sm_congr
      intro q hq
      by_cases hq0 : cross c d q = 0
      · have hq' : decide (cross c d q = 0) = true := by simpa using hq0
        rw [if_pos hq']
        have : Fol S (c, d) p q ↔ Next L (tau c d p) (tau c d q) := by
          unfold Fol Next
          simp only
          constructor
          · rintro ⟨_, _, h1, h2⟩
            refine ⟨h1, fun j hj hh => ?_⟩
            obtain ⟨x, hx, hx0, rfl⟩ := (hL j).1 hj
            exact h2 x hx hx0 hh
          · rintro ⟨h1, h2⟩
            exact ⟨hp0, hq0, h1, fun j hj hj0 => h2 _ ((hL _).2 ⟨j, hj, hj0, rfl⟩)⟩
        by_cases hn : Next L (tau c d p) (tau c d q)
        · rw [if_pos (this.2 hn)]; exact (if_pos hn).symm
        · rw [if_neg (fun h => hn (this.1 h))]; exact (if_neg hn).symm
      · have hq' : ¬ decide (cross c d q = 0) = true := by simpa using hq0
        rw [if_neg hq', if_neg (fun h => hq0 h.2.1)]
    · rw [if_neg (by simpa using hp0)]
      apply sm_zero
      intro q _
      rw [if_neg (fun h => hp0 h.1)]
  have e2 : steps L = dot (Geo.sub d c) (Geo.sub d c) - 0 := by
    refine steps_eq hLn ?_ ?_ ?_ ?_
    · exact (hL _).2 ⟨c, hlS c (mem_of_cyc h).1, cross_c, tau_c⟩
    · exact (hL _).2 ⟨d, hlS d (mem_of_cyc h).2, cross_d, tau_d⟩
    · intro t ht
      obtain ⟨x, hx, hx0, rfl⟩ := (hL t).1 ht
      exact (hl.tau_range h3 hS h hx hx0).1
    · intro t ht
      obtain ⟨x, hx, hx0, rfl⟩ := (hL t).1 ht
      exact (hl.tau_range h3 hS h hx hx0).2
  have e3 : dot (Geo.sub d c) (Geo.sub d c) * (sm S fun p => sm S fun q => if Fol S (c, d) p q then w0 p q else 0) = dot (Geo.sub d c) (Geo.sub d c) * w0 c d := by
    rw [← sm_mul]
    have : (sm S fun x => dot (Geo.sub d c) (Geo.sub d c) * sm S fun q => if Fol S (c, d) x q then w0 x q else 0) = w0 c d * (sm S fun p => sm S fun q => if Fol S (c, d) p q then tau c d q - tau c d p else 0) := by
      rw [← sm_mul]
      apply sm_congr
      intro p _
      rw [← sm_mul, ← sm_mul]
      apply sm_congr
      intro q _
      by_cases hf : Fol S (c, d) p q
      · rw [if_pos hf, if_pos hf, line_w0 hf.1 hf.2.1]; grind
      · rw [if_neg hf, if_neg hf]; grind
    rw [this, e1, e2]; grind
  have : dot (Geo.sub d c) (Geo.sub d c) * ((sm S fun p => sm S fun q => if Fol S (c, d) p q then w0 p q else 0) - w0 c d) = 0 := by grind
  rcases Rat.mul_eq_zero.1 this with h | h <;> grind

/-- THE AREA OF THE HULL of places that hold all corners of a convex polygon, and none outside of it, is the polygon's. -/
theorem TC.hull_eq : hullS S = Sh l := by
  unfold hullS Sh
  have e : ∀ p ∈ S, ∀ q ∈ S, (if p ≠ q ∧ SideOf S p q then w0 p q else 0) = sm (cyc l) fun e => if Fol S e p q then w0 p q else 0 := by
    intro p hp q hq
    by_cases hs : p ≠ q ∧ SideOf S p q
    · rw [if_pos hs]
      obtain ⟨⟨c, d⟩, he, hf⟩ := hl.fol_of_side h3 hS hlS hp hq hs.1 hs.2
      rw [sm_one (hl.cyc_nodup h3) he]
      · rw [if_pos hf]
      · rintro ⟨c', d'⟩ he' hne
        rw [if_neg]
        intro hf'
        apply hne
        obtain ⟨h1, h2⟩ := hl.side_unique h3 he he' hf.1 hf.2.1 hf'.1 hf'.2.1 hf.2.2.1 hf'.2.2.1
        rw [h1, h2]
    · rw [if_neg hs]
      refine (sm_zero fun e he => ?_).symm
      rw [if_neg]
      intro hf
      exact hs (hl.side_of_fol h3 hS he hf)
  rw [sm_congr (g := fun p => sm S fun q => sm (cyc l) fun e => if Fol S e p q then w0 p q else 0) (fun p hp => sm_congr fun q hq => e p hp q hq)]
  rw [sm_congr (g := fun p => sm (cyc l) fun e => sm S fun q => if Fol S e p q then w0 p q else 0) (fun p _ => sm_swap _ _ _)]
  rw [sm_swap]
  exact sm_congr fun ⟨c, d⟩ he => hl.side_sum h3 hS hlS hnd he
end
end Go.Proofs.YtbddmkklkbkliaaGreatDoor.Geo
namespace Go.Proofs.YtbddmkklkbkliaaGreatDoor.Geo
open Classical

/-- Twice the area of a polygon, by triangles at its first corner. -/
def fan (c : Pt) : List Pt → Rat
  | d :: e :: r => cross c d e + fan c (e :: r)
  | _ => 0
def fanArea : List Pt → Rat
  | [] => 0
  | c :: r => fan c r

theorem fan_eq (c : Pt) : ∀ (d : Pt) (r : List Pt), sm (sides c (d :: r)) (fun e => w0 e.1 e.2) + w0 c d = fan c (d :: r)
  | d, [] => by show sm [(d, c)] _ + _ = 0; rw [sm_cons, sm_nil]; unfold w0; grind
  | d, e :: r => by
    have := fan_eq c e r
    show sm ((d, e) :: sides c (e :: r)) _ + _ = cross c d e + fan c (e :: r)
    rw [sm_cons, ← this]
    unfold w0 cross; grind
theorem fanArea_eq (l : List Pt) : fanArea l = Sh l := by
  cases l with
  | nil => rfl
  | cons c r =>
    cases r with
    | nil => show (0 : Rat) = sm [(c, c)] _; rw [sm_cons, sm_nil]; unfold w0; grind
    | cons d r =>
      show fan c (d :: r) = sm ((c, d) :: sides c (d :: r)) _
      rw [sm_cons, ← fan_eq c d r]; grind

theorem collinear {a b p q r : Pt} (h : a ≠ b) (hp : cross a b p = 0) (hq : cross a b q = 0) (hr : cross a b r = 0) : cross p q r = 0 := by
  have hN := dot_pos h
  have e := line_cross hp hq r
  exact (sign_of hN e).2.1 (by rw [hr]; grind)
theorem fan_flat {a b : Pt} (h : a ≠ b) (c : Pt) (hc : cross a b c = 0) : ∀ r : List Pt, (∀ x ∈ r, cross a b x = 0) → fan c r = 0
  | [], _ => rfl
  | [_], _ => rfl
  | d :: e :: r, hr => by
    show cross c d e + fan c (e :: r) = 0
    rw [collinear h hc (hr d (by simp)) (hr e (by simp)), fan_flat h c hc (e :: r) (fun x hx => hr x (by simp at hx ⊢; grind))]; grind
theorem area_flat {a b : Pt} (h : a ≠ b) {l : List Pt} (hl : ∀ x ∈ l, cross a b x = 0) : fanArea l = 0 := by
  cases l with
  | nil => rfl
  | cons c r => exact fan_flat h c (hl c (by simp)) r (fun x hx => hl x (by simp [hx]))

/-- Places on one line have a hull without area. -/
theorem hull_flat {a b : Pt} (h : a ≠ b) {S : List Pt} (hS : ∀ x ∈ S, cross a b x = 0) : hullS S = 0 := by
  have anti : ∀ p q, (if p ≠ q ∧ SideOf S p q then w0 p q else 0) = - (if q ≠ p ∧ SideOf S q p then w0 q p else 0) ∨ ¬ (p ∈ S ∧ q ∈ S) := by
    intro p q
    by_cases hm : p ∈ S ∧ q ∈ S
    · left
      have key : ∀ p q, p ∈ S → q ∈ S → SideOf S p q → SideOf S q p := by
        intro p q hp hq hs j hj h1 h2
        have z : cross q p j = 0 := collinear h (hS q hq) (hS p hp) (hS j hj)
        have z' : cross p q j = 0 := collinear h (hS p hp) (hS q hq) (hS j hj)
        right
        refine ⟨z, fun hb => ?_⟩
        rcases hs j hj h2 h1 with h3 | h3
        · grind
        · apply h3.2; unfold Btw at *; grind
      have ew : w0 p q = - w0 q p := by unfold w0; grind
      by_cases hs : p ≠ q ∧ SideOf S p q
      · rw [if_pos hs, if_pos ⟨fun e => hs.1 e.symm, key p q hm.1 hm.2 hs.2⟩, ew]
      · rw [if_neg hs, if_neg (fun hs' => hs ⟨fun e => hs'.1 e.symm, key q p hm.2 hm.1 hs'.2⟩)]; grind
    · exact .inr hm
  have e : hullS S = - hullS S := by
    conv => lhs; unfold hullS
    have : hullS S = sm S fun p => sm S fun q => if q ≠ p ∧ SideOf S q p then w0 q p else 0 := by unfold hullS; rw [sm_swap]
    rw [this]
    have neg : ∀ (f : Pt → Rat), - sm S f = sm S fun x => -1 * f x := fun f => by rw [sm_mul]; grind
    rw [neg]
    apply sm_congr
    intro p hp
    rw [show -1 * (sm S fun q => if q ≠ p ∧ SideOf S q p then w0 q p else 0) = - (sm S fun q => if q ≠ p ∧ SideOf S q p then w0 q p else 0) by grind, neg]
    apply sm_congr
    intro q hq
    rcases anti p q with h | h
    · rw [h]; grind
    · exact absurd ⟨hp, hq⟩ h
  grind

/-- A polygon cut by several lines. -/
def clipAll (l : List Pt) : List (Pt × Pt) → List Pt
  | [] => l
  | e :: es => clipAll (clip (cross e.1 e.2) l) es

/-- How it stands while a polygon A is cut by lines. S: places that lie in A and to the left of all lines. -/
def Inv (A : List Pt) (done : List (Pt × Pt)) (S : List Pt) (l : List Pt) : Prop :=
  (TC l ∧ 3 ≤ l.length ∧ On (done ++ cyc A) l ∧ ∀ x ∈ l, In A x ∧ ∀ e ∈ done, 0 ≤ cross e.1 e.2 x) ∨
  (∃ a b, a ≠ b ∧ (∀ x ∈ l, cross a b x = 0) ∧ ∀ x ∈ S, cross a b x = 0)

theorem Inv.start {A S : List Pt} (hA : TC A) (h3 : 3 ≤ A.length) : Inv A [] S A :=
  .inl ⟨hA, h3, On.self A, fun x hx => ⟨hA.inside (by omega) hx, fun e he => by cases he⟩⟩

theorem Inv.step {A S l : List Pt} {done : List (Pt × Pt)} {a b : Pt} (hab : a ≠ b) (h : Inv A done S l) (hS : ∀ x ∈ S, In A x ∧ (∀ e ∈ done, 0 ≤ cross e.1 e.2 x) ∧ 0 ≤ cross a b x) :
    Inv A ((a, b) :: done) S (clip (cross a b) l) := by
  have hf := aff_cross a b
  rcases h with ⟨hl, h3, hon, hin⟩ | ⟨c, d, hcd, hl, hSl⟩
  · have hSin : ∀ x ∈ S, In l x := fun x hx => hon.inside fun p q hpq => by
      rcases List.mem_append.1 hpq with h | h
      · exact (hS x hx).2.1 (p, q) h
      · exact (hS x hx).1 p q h
    by_cases hp : ∃ x ∈ l, 0 < cross a b x
    · by_cases hn : ∃ x ∈ l, cross a b x < 0
      · left
        obtain ⟨C⟩ := exists_cut hf hl hp hn
        have hr := clip_rot (cross a b) C.rot
        rw [C.out] at hr
        refine ⟨(C.tc hf hl h3).rot hr.symm, ?_, C.on hl h3 hon, fun x hx => ⟨?_, ?_⟩⟩
        · have := hr.length
          simp at this; omega
        · intro c d hcd
          exact clip_ge hf (aff_cross c d) (fun y hy => (hin y hy).1 c d hcd) x hx
        · intro e he
          rcases List.mem_cons.1 he with rfl | he
          · exact (clip_mem hf hx).1
          · exact clip_ge hf (aff_cross e.1 e.2) (fun y hy => (hin y hy).2 e he) x hx
      · left
        have hge : ∀ x ∈ l, 0 ≤ cross a b x := fun x hx => Rat.not_lt.1 fun h => hn ⟨x, hx, h⟩
        rw [clip_nonneg hge]
        refine ⟨hl, h3, hon.mono fun e he => by simp at he ⊢; grind, fun x hx => ⟨(hin x hx).1, fun e he => ?_⟩⟩
        rcases List.mem_cons.1 he with rfl | he
        · exact hge x hx
        · exact (hin x hx).2 e he
    · right
      have hle : ∀ x ∈ l, cross a b x ≤ 0 := fun x hx => Rat.not_lt.1 fun h => hp ⟨x, hx, h⟩
      refine ⟨a, b, hab, fun x hx => ?_, fun x hx => ?_⟩
      · have h0 := (clip_mem hf hx).1
        have := clip_ge hf hf.neg (fun y hy => by have := hle y hy; show 0 ≤ - cross a b y; grind) x hx
        grind
      · obtain ⟨v, hv, h1, _⟩ := hl.min hf.neg h3 (hSin x hx)
        have := hle v hv
        have := (hS x hx).2.2
        grind
  · right
    refine ⟨c, d, hcd, fun x hx => ?_, hSl⟩
    have h1 := clip_ge hf (aff_cross c d) (fun y hy => by rw [hl y hy]; exact Rat.le_refl) x hx
    have h2 := clip_ge hf (aff_cross c d).neg (fun y hy => by show 0 ≤ - cross c d y; rw [hl y hy]; exact Rat.le_refl) x hx
    grind

theorem Inv.all {A S : List Pt} : ∀ (es : List (Pt × Pt)) {l : List Pt} {done : List (Pt × Pt)}, Inv A done S l → (∀ e ∈ es, e.1 ≠ e.2) →
    (∀ x ∈ S, In A x ∧ (∀ e ∈ done, 0 ≤ cross e.1 e.2 x) ∧ ∀ e ∈ es, 0 ≤ cross e.1 e.2 x) → Inv A (es.reverse ++ done) S (clipAll l es)
  | [], l, done, h, _, _ => h
  | (a, b) :: es, l, done, h, hne, hS => by
    have h1 := h.step (a := a) (b := b) (hne (a, b) (by simp)) (fun x hx => ⟨(hS x hx).1, (hS x hx).2.1, (hS x hx).2.2 (a, b) (by simp)⟩)
    have := Inv.all es h1 (fun e he => hne e (by simp [he])) (fun x hx => ⟨(hS x hx).1, fun e he => by
      rcases List.mem_cons.1 he with rfl | he
      · exact (hS x hx).2.2 (a, b) (by simp)
      · exact (hS x hx).2.1 e he, fun e he => (hS x hx).2.2 e (by simp [he])⟩)
    simp only [List.reverse_cons, List.append_assoc]
    exact this

/-- A place of a polygon on two sides that are not parallel is a corner. -/
theorem TC.corner {A : List Pt} (hA : TC A) (h3 : 3 ≤ A.length) {a b c d v : Pt} (h1 : (a, b) ∈ cyc A) (h2 : (c, d) ∈ cyc A) (hv : In A v) (hab : cross a b v = 0) (hcd : cross c d v = 0)
    (hdet : wedge (Geo.sub b a) (Geo.sub d c) ≠ 0) : v ∈ A := by
  have hne := hA.ne_side h3 h1
  have hN := dot_pos hne
  have ht := hA.tau_range h3 (S := [v]) (fun x hx => by simp at hx; subst hx; exact hv) h1 (by simp) hab
  obtain ⟨e1, e2⟩ := on_line hab
  have id1 : dot (Geo.sub b a) (Geo.sub b a) * cross c d v = (dot (Geo.sub b a) (Geo.sub b a) - tau a b v) * cross c d a + tau a b v * cross c d b := by
    generalize dot (Geo.sub b a) (Geo.sub b a) = N at *
    generalize tau a b v = t at *
    unfold cross; grind
  rw [hcd] at id1
  have i1 := hA.inside (by omega) (mem_of_cyc h1).1 c d h2
  have i2 := hA.inside (by omega) (mem_of_cyc h1).2 c d h2
  rcases lt_or_eq ht.1 with h0 | h0
  · rcases lt_or_eq ht.2 with hl | hl
    · exfalso
      have m1 := Rat.mul_nonneg (show 0 ≤ dot (Geo.sub b a) (Geo.sub b a) - tau a b v by grind) i1
      have m2 := Rat.mul_nonneg ht.1 i2
      have z1 : cross c d a = 0 := by
        have : (dot (Geo.sub b a) (Geo.sub b a) - tau a b v) * cross c d a = 0 := by grind
        rcases Rat.mul_eq_zero.1 this with h | h <;> grind
      have z2 : cross c d b = 0 := by
        have : tau a b v * cross c d b = 0 := by grind
        rcases Rat.mul_eq_zero.1 this with h | h <;> grind
      apply hdet
      unfold wedge Geo.sub cross at *
      grind
    · have : v = b := line_inj hne hab cross_d (by rw [hl, tau_d])
      rw [this]; exact (mem_of_cyc h1).2
  · have : v = a := line_inj hne hab cross_c (by rw [← h0, tau_c])
    rw [this]; exact (mem_of_cyc h1).1

/-- WHAT TWO CONVEX POLYGONS HAVE IN COMMON: its area, found by cutting the first one by the sides of the second one, is that of the hull of the places S: the corners of each that lie in the other one, and the places where sides meet. -/
theorem common_eq {A B S : List Pt} (hA : TC A) (hA3 : 3 ≤ A.length) (hB : TC B) (hB3 : 3 ≤ B.length) (hnd : S.Nodup) (hin : ∀ x ∈ S, In A x ∧ In B x)
    (hSA : ∀ x ∈ A, In B x → x ∈ S) (hSB : ∀ x ∈ B, In A x → x ∈ S)
    (hSm : ∀ a b c d x, (a, b) ∈ cyc A → (c, d) ∈ cyc B → wedge (Geo.sub b a) (Geo.sub d c) ≠ 0 → cross a b x = 0 → cross c d x = 0 → In A x → In B x → x ∈ S) :
    fanArea (clipAll A (cyc B)) = hullS S := by
  have h := Inv.all (A := A) (S := S) (cyc B) (Inv.start hA hA3) (fun e he => hB.ne_side hB3 (c := e.1) (d := e.2) he)
    (fun x hx => ⟨(hin x hx).1, (fun e he => absurd he (by simp)), fun e he => (hin x hx).2 e.1 e.2 he⟩)
  rw [List.append_nil] at h
  generalize clipAll A (cyc B) = l at h
  rcases h with ⟨hl, h3, hon, hi⟩ | ⟨a, b, hab, hl, hS⟩
  · have hiB : ∀ x ∈ l, In B x := fun x hx c d hcd => (hi x hx).2 (c, d) (by simpa using hcd)
    rw [fanArea_eq]
    symm
    refine hl.hull_eq h3 (S := S) (fun x hx => hon.inside fun p q hpq => ?_) ?_ hnd
    · rcases List.mem_append.1 hpq with h | h
      · exact (hin x hx).2 p q (by simpa using h)
      · exact (hin x hx).1 p q h
    · intro v hv
      obtain ⟨u, w, h1, h2, h4⟩ := around (by omega) hv
      obtain ⟨r, hr⟩ := h4 h3
      have huvw : 0 < cross u v w := by
        have := (hl.rot hr).1
        simp at this
        exact this.1.1
      obtain ⟨a, b, hab, k1, hk1, e1⟩ := hon u v h1
      obtain ⟨c, d, hcd, k2, hk2, e2⟩ := hon v w h2
      have z1 : cross a b v = 0 := by
        have := e1 v
        rw [cross_d] at this
        rcases Rat.mul_eq_zero.1 this.symm with h | h <;> grind
      have z2 : cross c d v = 0 := by
        have := e2 v
        rw [cross_c] at this
        rcases Rat.mul_eq_zero.1 this.symm with h | h <;> grind
      have hdet : wedge (Geo.sub b a) (Geo.sub d c) ≠ 0 := by
        intro h0
        -- the turn at v is that of the two lines
        have l1 : ∀ x y : Pt, wedge (Geo.sub v u) (Geo.sub x y) = k1 * wedge (Geo.sub b a) (Geo.sub x y) := by
          intro x y
          have a1 := e1 x
          have a2 := e1 y
          unfold cross at a1 a2
          unfold wedge Geo.sub
          grind
        have l2 : ∀ x y : Pt, wedge (Geo.sub w v) (Geo.sub x y) = k2 * wedge (Geo.sub d c) (Geo.sub x y) := by
          intro x y
          have a1 := e2 x
          have a2 := e2 y
          unfold cross at a1 a2
          unfold wedge Geo.sub
          grind
        have m1 := l1 w v
        have m2 := l2 b a
        have f1 : wedge (Geo.sub v u) (Geo.sub w v) = cross u v w := by unfold wedge Geo.sub cross; grind
        have f2 : wedge (Geo.sub b a) (Geo.sub w v) = - wedge (Geo.sub w v) (Geo.sub b a) := by unfold wedge; grind
        have f3 : wedge (Geo.sub d c) (Geo.sub b a) = - wedge (Geo.sub b a) (Geo.sub d c) := by unfold wedge; grind
        rw [f1, f2, m2, f3, h0] at m1
        grind
      have hvA := (hi v hv).1
      have hvB := hiB v hv
      rcases List.mem_append.1 hab with h | h <;> rcases List.mem_append.1 hcd with h' | h'
      · exact hSB v (hB.corner hB3 (by simpa using h) (by simpa using h') hvB z1 z2 hdet) hvA
      · refine hSm c d a b v h' (by simpa using h) ?_ z2 z1 hvA hvB
        intro e; apply hdet
        have : wedge (Geo.sub b a) (Geo.sub d c) = - wedge (Geo.sub d c) (Geo.sub b a) := by unfold wedge; grind
        rw [this, e]; rfl
      · exact hSm a b c d v h (by simpa using h') hdet z1 z2 hvA hvB
      · exact hSA v (hA.corner hA3 h h' hvA z1 z2 hdet) hvB
  · rw [area_flat hab hl, hull_flat hab hS]
end Go.Proofs.YtbddmkklkbkliaaGreatDoor.Geo
namespace Go.Proofs.YtbddmkklkbkliaaGreatDoor.Geo

/-- The corners of a polygon, around and around. -/
def ring (l : List Pt) (i : Nat) : Pt := l.getD (i % l.length) ⟨0, 0⟩

theorem ring_per (l : List Pt) (i : Nat) : ring l (i + l.length) = ring l i := by unfold ring; rw [Nat.add_mod_right]
theorem ring_lt {l : List Pt} {i : Nat} (h : i < l.length) : ring l i = l[i] := by
  unfold ring; rw [Nat.mod_eq_of_lt h, List.getD_eq_getElem?_getD, List.getElem?_eq_getElem h]; rfl

/-- In a half-plane turning to the left can be handed on. -/
theorem fan_trans {o a b c d : Pt} (h1 : 0 ≤ cross o a b) (h2 : 0 < cross o a c) (h3 : 0 < cross o a d) (h4 : 0 < cross o b c) (h5 : 0 < cross o c d) : 0 < cross o b d := by
  have e : cross o a c * cross o b d = cross o a b * cross o c d + cross o a d * cross o b c := by unfold cross; grind
  have a1 := Rat.mul_nonneg h1 (Rat.le_of_lt h5)
  have a2 := Rat.mul_pos h3 h4
  have a3 : 0 < cross o a c * cross o b d := by grind
  rcases tot (cross o b d) 0 with h | h
  · have := pn (Rat.le_of_lt h2) h; grind
  · rcases lt_or_eq h with h | h
    · exact h
    · rw [← h] at a3; grind

/-- Every three corners, in their order, turn to the left. -/
theorem tc_of {l : List Pt} (h3 : 3 ≤ l.length) (turn : ∀ i, i < l.length → 0 < cross (ring l i) (ring l (i + 1)) (ring l (i + 2)))
    (apart : ∀ i j, i + 2 ≤ j → j < l.length → j + 1 ≠ i + l.length → ¬ Touch (ring l i) (ring l (i + 1)) (ring l j) (ring l (j + 1))) : TC l := by
  have turn' : ∀ i, 0 < cross (ring l i) (ring l (i + 1)) (ring l (i + 2)) := by
    intro i
    have per : ∀ i, ring l (i + l.length) = ring l i := ring_per l
    have e := per_mod per i
    have e1 : ring l (i + 1) = ring l (i % l.length + 1) := by
      rw [per_mod per (i + 1), per_mod per (i % l.length + 1), Nat.mod_add_mod]
    have e2 : ring l (i + 2) = ring l (i % l.length + 2) := by
      rw [per_mod per (i + 2), per_mod per (i % l.length + 2), Nat.mod_add_mod]
    rw [e, e1, e2]
    exact turn _ (Nat.mod_lt _ (by omega))
  have tsym : ∀ a b c d, Touch a b c d → Touch c d a b := by unfold Touch; grind
  have apart' : ∀ i j, i + 2 ≤ j → j + 2 ≤ i + l.length → ¬ Touch (ring l i) (ring l (i + 1)) (ring l j) (ring l (j + 1)) := by
    intro i j h1 h2
    have per : ∀ i, ring l (i + l.length) = ring l i := ring_per l
    have e : ∀ t, ring l (t + 1) = ring l (t % l.length + 1) := fun t => by
      rw [per_mod per (t + 1), per_mod per (t % l.length + 1), Nat.mod_add_mod]
    rw [per_mod per i, per_mod per j, e i, e j]
    have hi := Nat.mod_lt i (show 0 < l.length by omega)
    have hj := Nat.mod_lt j (show 0 < l.length by omega)
    have di := Nat.mod_add_div i l.length
    have dj := Nat.mod_add_div j l.length
    generalize hI : i % l.length = I at *
    generalize hJ : j % l.length = J at *
    generalize i / l.length = qi at *
    generalize j / l.length = qj at *
    -- j's turn is that of i, or the next one
    have hq : qj = qi ∨ qj = qi + 1 := by
      have hle : qi ≤ qj := by
        apply Nat.le_of_not_lt; intro hlt
        have : l.length * (qj + 1) ≤ l.length * qi := Nat.mul_le_mul_left _ hlt
        rw [Nat.mul_add] at this; omega
      have hle2 : qj ≤ qi + 1 := by
        apply Nat.le_of_not_lt; intro hlt
        have : l.length * (qi + 2) ≤ l.length * qj := Nat.mul_le_mul_left _ hlt
        rw [Nat.mul_add] at this; omega
      omega
    rcases hq with rfl | rfl
    · exact apart I J (by omega) hj (by omega)
    · rw [Nat.mul_add, Nat.mul_one] at dj
      intro ht
      exact apart J I (by omega) hi (by omega) (tsym _ _ _ _ ht)
  have conv := convex (p := ring l) (n := l.length) h3 (ring_per l) turn' apart'
  -- triangles at corner i
  have tri1 : ∀ i j, 1 ≤ j → j + 1 < l.length → 0 < cross (ring l i) (ring l (i + j)) (ring l (i + j + 1)) := by
    intro i j h1 h2
    have := conv (i + j) (l.length - j) (by omega) (by omega)
    rw [show i + j + (l.length - j) = i + l.length by omega, ring_per] at this
    rw [← cross_rot (ring l i) (ring l (i + j)) (ring l (i + j + 1))]; exact this
  have tri2 : ∀ i j m, 1 ≤ j → j + m + 1 < l.length → 0 < cross (ring l i) (ring l (i + j)) (ring l (i + (j + m + 1))) := by
    intro i j m
    induction m with
    | zero => intro h1 h2; exact tri1 i j h1 (by omega)
    | succ m ih =>
      intro h1 h2
      by_cases hj : j = 1
      · subst hj
        exact conv i (1 + (m + 1) + 1) (by omega) (by omega)
      · have a1 := conv i j (by omega) (by omega)
        have a2 := conv i (j + m + 1) (by omega) (by omega)
        have a3 := conv i (j + (m + 1) + 1) (by omega) (by omega)
        have a4 := ih h1 (by omega)
        have a5 := tri1 i (j + m + 1) (by omega) (by omega)
        rw [show i + (j + m + 1) + 1 = i + (j + (m + 1) + 1) by omega] at a5
        exact fan_trans (Rat.le_of_lt a1) a2 a3 a4 a5
  have gen : ∀ (m : List Pt) (k : Nat), m = l.drop k → TC m := by
    intro m
    induction m with
    | nil => intro _ _; trivial
    | cons c r ih =>
      intro k hk
      have hlen : k + (r.length + 1) = l.length := by
        have := congrArg List.length hk
        simp at this; omega
      have hr : r = l.drop (k + 1) := by
        have := congrArg List.tail hk
        simpa using this
      refine ⟨?_, ih (k + 1) hr⟩
      have hc : c = ring l k := by
        rw [ring_lt (by omega)]
        have := congrArg List.head? hk
        rw [List.head?_drop, List.getElem?_eq_getElem (by omega)] at this
        simpa using this
      rw [List.pairwise_iff_getElem]
      intro i j hi hj hij
      have ei : r[i] = ring l (k + (i + 1)) := by
        rw [ring_lt (by omega)]; simp only [hr]; rw [List.getElem_drop]; congr 1; omega
      have ej : r[j] = ring l (k + (i + 1 + (j - i - 1) + 1)) := by
        rw [ring_lt (by omega)]; simp only [hr]; rw [List.getElem_drop]; congr 1; omega
      rw [hc, ei, ej]
      exact tri2 k (i + 1) (j - i - 1) (by omega) (by omega)
  exact gen l 0 (by simp)

theorem sides_index (nxt : Pt) (l : List Pt) {c d : Pt} : (c, d) ∈ sides nxt l ↔ ∃ i, i < l.length ∧ l[i]? = some c ∧ (l[i + 1]?.getD nxt) = d := by
  induction l with
  | nil => simp [sides]
  | cons a l ih =>
    cases l with
    | nil =>
      simp only [sides, List.mem_singleton, Prod.mk.injEq]
      constructor
      · rintro ⟨rfl, rfl⟩; exact ⟨0, by simp, rfl, rfl⟩
      · rintro ⟨i, hi, h1, h2⟩
        have : i = 0 := by simp at hi; exact hi
        subst this
        simp at h1 h2
        exact ⟨h1.symm, h2.symm⟩
    | cons b l =>
      simp only [sides, List.mem_cons, Prod.mk.injEq]
      rw [ih]
      constructor
      · rintro (⟨rfl, rfl⟩ | ⟨i, hi, h1, h2⟩)
        · exact ⟨0, by simp, rfl, rfl⟩
        · exact ⟨i + 1, by simp at hi ⊢; omega, by simpa using h1, by simpa using h2⟩
      · rintro ⟨i, hi, h1, h2⟩
        cases i with
        | zero => left; simp at h1 h2; exact ⟨h1.symm, h2.symm⟩
        | succ i => right; exact ⟨i, by simp at hi ⊢; omega, by simpa using h1, by simpa using h2⟩

theorem cyc_index (l : List Pt) {c d : Pt} : (c, d) ∈ cyc l ↔ ∃ i, i < l.length ∧ ring l i = c ∧ ring l (i + 1) = d := by
  cases l with
  | nil => simp [cyc]
  | cons a l =>
    show (c, d) ∈ sides a (a :: l) ↔ _
    rw [sides_index]
    constructor
    · rintro ⟨i, hi, h1, h2⟩
      refine ⟨i, hi, ?_, ?_⟩
      · rw [ring_lt hi]; rw [List.getElem?_eq_getElem hi] at h1; simpa using h1
      · by_cases h : i + 1 < (a :: l).length
        · rw [ring_lt h]; rw [List.getElem?_eq_getElem h] at h2; simpa using h2
        · rw [List.getElem?_eq_none (by omega)] at h2
          have : i + 1 = (a :: l).length := by omega
          rw [this]
          have e := ring_per (a :: l) 0
          rw [Nat.zero_add] at e
          rw [e, ring_lt (by simp)]
          simpa using h2
    · rintro ⟨i, hi, h1, h2⟩
      refine ⟨i, hi, ?_, ?_⟩
      · rw [ring_lt hi] at h1; rw [List.getElem?_eq_getElem hi, h1]
      · by_cases h : i + 1 < (a :: l).length
        · rw [ring_lt h] at h2; rw [List.getElem?_eq_getElem h]; simpa using h2
        · rw [List.getElem?_eq_none (by omega)]
          have : i + 1 = (a :: l).length := by omega
          rw [this] at h2
          have e := ring_per (a :: l) 0
          rw [Nat.zero_add] at e
          rw [e, ring_lt (by simp)] at h2
          simpa using h2
end Go.Proofs.YtbddmkklkbkliaaGreatDoor.Geo

namespace Go.Proofs.YtbddmkklkbkliaaGreatDoor.Geo

/-! ### A line cuts a polygon, of whatever form, into two whose areas add up to its own. -/

theorem sh_origin (o : Pt) (l : List Pt) : Sh l = sm (cyc l) fun e => cross o e.1 e.2 := by
  have key : ∀ (n : Pt) (c : Pt) (l : List Pt), sm (sides n (c :: l)) (fun e => cross o e.1 e.2) = sm (sides n (c :: l)) (fun e => w0 e.1 e.2) + (w0 o c - w0 o n) := by
    intro n c l
    induction l generalizing c with
    | nil => show sm [(c, n)] _ = sm [(c, n)] _ + _; rw [sm_cons, sm_nil, sm_cons, sm_nil]; unfold cross w0; grind
    | cons d l ih =>
      show sm ((c, d) :: sides n (d :: l)) _ = sm ((c, d) :: sides n (d :: l)) _ + _
      rw [sm_cons, sm_cons, ih]
      unfold cross w0; grind
  cases l with
  | nil => rfl
  | cons c l =>
    show sm (sides c (c :: l)) _ = sm (sides c (c :: l)) _
    rw [key]; grind

/-- The part of a side to the left of a line, seen from a place o on it. -/
def part (o : Pt) (f : Pt → Rat) (c d : Pt) : Rat :=
  if 0 ≤ f c then (if 0 ≤ f d then cross o c d else cross o c (meet f c d)) else (if 0 < f d then cross o (meet f c d) d else 0)

section
variable {a b o : Pt}
theorem on_zero (hab : a ≠ b) (ho : cross a b o = 0) {p q : Pt} (hp : cross a b p = 0) (hq : cross a b q = 0) : cross o p q = 0 := collinear hab ho hp hq

theorem seg_part (hab : a ≠ b) (ho : cross a b o = 0) : ∀ (l : List Pt) (nxt y : Pt), (0 ≤ cross a b nxt → y = nxt) → (cross a b nxt < 0 → cross a b y = 0) →
    sm (sides y (seg (cross a b) nxt l)) (fun e => cross o e.1 e.2) = sm (sides nxt l) (fun e => part o (cross a b) e.1 e.2) ∧
    (∀ h t, l = h :: t → (0 ≤ cross a b h → (seg (cross a b) nxt l ++ [y]).head? = some h) ∧ (cross a b h < 0 → ∃ z, (seg (cross a b) nxt l ++ [y]).head? = some z ∧ cross a b z = 0)) := by
  have hf := aff_cross a b
  -- one side, and what follows
  have one : ∀ (c d y : Pt) (m : List Pt), (∃ z, (m ++ [y]).head? = some z ∧ (0 ≤ cross a b d → z = d) ∧ (cross a b d < 0 → cross a b z = 0)) →
      sm (sides y (step (cross a b) c d ++ m)) (fun e => cross o e.1 e.2) = part o (cross a b) c d + sm (sides y m) (fun e => cross o e.1 e.2) ∧
      (0 ≤ cross a b c → (step (cross a b) c d ++ m ++ [y]).head? = some c) ∧ (cross a b c < 0 → ∃ z, (step (cross a b) c d ++ m ++ [y]).head? = some z ∧ cross a b z = 0) := by
    intro c d y m ⟨z, hz, hz1, hz2⟩
    have app : ∀ u, sm (sides y (u :: m)) (fun e => cross o e.1 e.2) = cross o u z + sm (sides y m) (fun e => cross o e.1 e.2) := by
      intro u
      cases m with
      | nil => simp at hz; subst hz; rfl
      | cons h t => simp at hz; subst hz; rfl
    rcases tot 0 (cross a b c) with hc | hc
    · rcases tot 0 (cross a b d) with hd | hd
      · rw [step_nonneg hc hd]
        refine ⟨?_, fun _ => rfl, fun h => by grind⟩
        show sm (sides y (c :: m)) _ = _
        rw [app, hz1 hd]; unfold part; rw [if_pos hc, if_pos hd]
      · rcases lt_or_eq hd with hd | hd
        · rcases lt_or_eq hc with hc' | hc'
          · rw [step_cross hc' hd]
            refine ⟨?_, fun _ => rfl, fun h => by grind⟩
            show cross o c (meet (cross a b) c d) + sm (sides y (meet (cross a b) c d :: m)) _ = _
            rw [app, on_zero hab ho (hf.meet_zero (by grind)) (hz2 hd)]
            unfold part; rw [if_pos hc, if_neg (by grind)]; grind
          · rw [step_zero hc'.symm]
            refine ⟨?_, fun _ => rfl, fun h => by grind⟩
            show sm (sides y (c :: m)) _ = _
            rw [app, on_zero hab ho hc'.symm (hz2 hd)]
            unfold part; rw [if_pos hc, if_neg (by grind)]
            rw [on_zero hab ho hc'.symm (hf.meet_zero (by grind))]
        · rw [step_nonneg hc (by grind)]
          refine ⟨?_, fun _ => rfl, fun h => by grind⟩
          show sm (sides y (c :: m)) _ = _
          rw [app, hz1 (by grind)]; unfold part; rw [if_pos hc, if_pos (by grind)]
    · rcases lt_or_eq hc with hc | hc
      · rcases tot (cross a b d) 0 with hd | hd
        · rw [step_neg hc hd]
          refine ⟨?_, fun h => by grind, fun _ => ⟨z, hz, ?_⟩⟩
          · show sm (sides y m) _ = _
            unfold part; rw [if_neg (by grind), if_neg (by grind)]; grind
          · rcases lt_or_eq hd with hd | hd
            · exact hz2 hd
            · rw [hz1 (by grind)]; exact hd
        · rcases lt_or_eq hd with hd | hd
          · rw [step_back hc hd]
            refine ⟨?_, fun h => by grind, fun _ => ⟨_, rfl, hf.meet_zero (by grind)⟩⟩
            show sm (sides y (meet (cross a b) c d :: m)) _ = _
            rw [app, hz1 (by grind)]
            unfold part; rw [if_neg (by grind), if_pos hd]
          · rw [step_neg hc (by grind)]
            refine ⟨?_, fun h => by grind, fun _ => ⟨z, hz, by rw [hz1 (by grind)]; exact hd.symm⟩⟩
            show sm (sides y m) _ = _
            unfold part; rw [if_neg (by grind), if_neg (by grind)]; grind
      · rcases tot 0 (cross a b d) with hd | hd
        · rw [step_nonneg (by grind) hd]
          refine ⟨?_, fun _ => rfl, fun h => by grind⟩
          show sm (sides y (c :: m)) _ = _
          rw [app, hz1 hd]; unfold part; rw [if_pos (by grind), if_pos hd]
        · rw [step_zero hc]
          refine ⟨?_, fun _ => rfl, fun h => by grind⟩
          show sm (sides y (c :: m)) _ = _
          rw [app]
          rcases lt_or_eq hd with hd | hd
          · rw [on_zero hab ho hc (hz2 hd)]
            unfold part; rw [if_pos (by grind), if_neg (by grind), on_zero hab ho hc (hf.meet_zero (by grind))]
          · rw [hz1 (by grind)]; unfold part; rw [if_pos (by grind), if_pos (by grind)]
  intro l
  induction l with
  | nil =>
    intro nxt y h1 h2
    exact ⟨rfl, fun h t e => by cases e⟩
  | cons c l ih =>
    intro nxt y h1 h2
    cases l with
    | nil =>
      obtain ⟨o1, o2, o3⟩ := one c nxt y [] ⟨y, rfl, h1, h2⟩
      simp only [List.append_nil] at o1 o2 o3
      refine ⟨?_, fun h t e => ?_⟩
      · show sm (sides y (step (cross a b) c nxt)) _ = sm [(c, nxt)] _
        rw [o1, sm_cons, sm_nil]; rfl
      · injection e with e1 e2
        subst e1
        exact ⟨o2, o3⟩
    | cons d l =>
      obtain ⟨i1, i2⟩ := ih nxt y h1 h2
      obtain ⟨i3, i4⟩ := i2 d l rfl
      have hz : ∃ z, (seg (cross a b) nxt (d :: l) ++ [y]).head? = some z ∧ (0 ≤ cross a b d → z = d) ∧ (cross a b d < 0 → cross a b z = 0) := by
        by_cases hd : 0 ≤ cross a b d
        · exact ⟨d, i3 hd, fun _ => rfl, fun h => by grind⟩
        · obtain ⟨z, e1, e2⟩ := i4 (by grind)
          exact ⟨z, e1, fun h => absurd h hd, fun _ => e2⟩
      obtain ⟨o1, o2, o3⟩ := one c d y _ hz
      refine ⟨?_, fun h t e => ?_⟩
      · show sm (sides y (step (cross a b) c d ++ seg (cross a b) nxt (d :: l))) _ = sm ((c, d) :: sides nxt (d :: l)) _
        rw [o1, i1, sm_cons]
      · injection e with e1 e2
        subst e1
        exact ⟨o2, o3⟩

theorem clip_part (hab : a ≠ b) (ho : cross a b o = 0) (l : List Pt) : Sh (clip (cross a b) l) = sm (cyc l) fun e => part o (cross a b) e.1 e.2 := by
  cases l with
  | nil => rfl
  | cons c l =>
    rw [sh_origin o]
    show sm (cyc (seg (cross a b) c (c :: l))) _ = sm (sides c (c :: l)) _
    by_cases hne : seg (cross a b) c (c :: l) = []
    · rw [hne]
      show sm [] _ = _
      by_cases hc : 0 ≤ cross a b c
      · have := (seg_part hab ho (c :: l) c c (fun _ => rfl) (fun h => by grind)).1
        rw [hne] at this
        exact this
      · have := (seg_part hab ho (c :: l) c o (fun h => absurd h hc) (fun _ => ho)).1
        rw [hne] at this
        exact this
    · obtain ⟨h, t, e⟩ : ∃ h t, seg (cross a b) c (c :: l) = h :: t := by
        cases hh : seg (cross a b) c (c :: l) with
        | nil => exact absurd hh hne
        | cons h t => exact ⟨h, t, rfl⟩
      have hy : (0 ≤ cross a b c → h = c) ∧ (cross a b c < 0 → cross a b h = 0) := by
        by_cases hc : 0 ≤ cross a b c
        · have := ((seg_part hab ho (c :: l) c c (fun _ => rfl) (fun h => by grind)).2 c l rfl).1 hc
          rw [e] at this
          simp at this
          exact ⟨fun _ => this, fun h => by grind⟩
        · obtain ⟨z, h1, h2⟩ := ((seg_part hab ho (c :: l) c o (fun h => absurd h hc) (fun _ => ho)).2 c l rfl).2 (by grind)
          rw [e] at h1
          simp at h1
          exact ⟨fun h => absurd h hc, fun _ => by rw [h1]; exact h2⟩
      have := (seg_part hab ho (c :: l) c h hy.1 hy.2).1
      rw [e] at this ⊢
      exact this

theorem part_add (hab : a ≠ b) (ho : cross a b o = 0) (c d : Pt) : part o (cross a b) c d + part o (cross b a) c d = cross o c d := by
  have e : ∀ x, cross b a x = - cross a b x := fun x => cross_swap a b x
  have hf := aff_cross a b
  have mz : cross a b c - cross a b d ≠ 0 → meet (cross b a) c d = meet (cross a b) c d := by
    intro hne
    unfold meet
    congr 1
    rw [e, e]
    have h1 : cross a b c / (cross a b c - cross a b d) * (cross a b c - cross a b d) = cross a b c := Rat.div_mul_cancel hne
    have h2 : -cross a b c / (-cross a b c - -cross a b d) * (-cross a b c - -cross a b d) = -cross a b c := Rat.div_mul_cancel (by grind)
    generalize cross a b c / (cross a b c - cross a b d) = t at *
    generalize -cross a b c / (-cross a b c - -cross a b d) = s at *
    have : (cross a b c - cross a b d) * (s - t) = 0 := by grind
    rcases Rat.mul_eq_zero.1 this with h | h <;> grind
  have split : cross o c (meet (cross a b) c d) + cross o (meet (cross a b) c d) d = cross o c d := by
    unfold meet
    generalize cross a b c / (cross a b c - cross a b d) = t
    unfold lerp cross
    grind
  unfold part
  rw [e, e]
  by_cases h1 : 0 ≤ cross a b c <;> by_cases h2 : 0 ≤ cross a b d
  · rw [if_pos h1, if_pos h2]
    by_cases z1 : cross a b c = 0
    · by_cases z2 : cross a b d = 0
      · rw [if_pos (by grind), if_pos (by grind), on_zero hab ho z1 z2]; grind
      · rw [if_pos (by grind), if_neg (by grind), mz (by grind)]
        have hm : meet (cross a b) c d = c := by rw [← meet_comm (by grind)]; exact meet_end (by grind) z1
        rw [hm]
        have : cross o c c = 0 := by unfold cross; grind
        rw [this]; grind
    · rw [if_neg (by grind), if_neg (by grind)]; grind
  · rw [if_pos h1, if_neg h2]
    by_cases z1 : cross a b c = 0
    · rw [if_pos (by grind), if_pos (by grind), on_zero hab ho z1 (hf.meet_zero (by grind))]; grind
    · rw [if_neg (by grind), if_pos (by grind), mz (by grind)]; exact split
  · rw [if_neg h1]
    by_cases z2 : cross a b d = 0
    · rw [if_neg (by grind), if_pos (by grind), if_pos (by grind)]; grind
    · rw [if_pos (by grind), if_pos (by grind), if_neg (by grind), mz (by grind)]
      have := split
      grind
  · rw [if_neg h1, if_neg (by grind), if_pos (by grind), if_pos (by grind)]; grind

/-- A LINE CUTS A POLYGON into two parts whose areas add up to its own. -/
theorem clip_add (hab : a ≠ b) (l : List Pt) : Sh (clip (cross a b) l) + Sh (clip (cross b a) l) = Sh l := by
  rw [clip_part hab (o := a) cross_c, clip_part (fun e => hab e.symm) (o := a) cross_d, sh_origin a, ← sm_add]
  exact sm_congr fun e _ => part_add hab cross_c e.1 e.2
end
end Go.Proofs.YtbddmkklkbkliaaGreatDoor.Geo
namespace Go.Proofs.YtbddmkklkbkliaaGreatDoor.Geo
open Classical

theorem exists_nodup (l : List Pt) : ∃ S : List Pt, S.Nodup ∧ ∀ x, x ∈ S ↔ x ∈ l := by
  induction l with
  | nil => exact ⟨[], List.nodup_nil, fun _ => Iff.rfl⟩
  | cons a l ih =>
    obtain ⟨S, h1, h2⟩ := ih
    by_cases ha : a ∈ S
    · exact ⟨S, h1, fun x => by rw [h2]; constructor
                                · intro h; simp [h]
                                · intro h; rcases List.mem_cons.1 h with rfl | h
                                  · exact (h2 x).1 ha
                                  · exact h⟩
    · exact ⟨a :: S, List.nodup_cons.2 ⟨ha, h1⟩, fun x => by simp [h2]⟩

/-- A place lies in a polygon and to the left of some lines. -/
def Reg (A : List Pt) (es : List (Pt × Pt)) (x : Pt) : Prop := In A x ∧ ∀ e ∈ es, 0 ≤ cross e.1 e.2 x
def Proper (es : List (Pt × Pt)) : Prop := ∀ e ∈ es, e.1 ≠ e.2
/-- Twice the area of what lies in a polygon and to the left of some lines. -/
def ar (A : List Pt) (es : List (Pt × Pt)) : Rat := Sh (clipAll A es)

theorem clipAll_append (l : List Pt) (es es' : List (Pt × Pt)) : clipAll l (es ++ es') = clipAll (clipAll l es) es' := by
  induction es generalizing l with
  | nil => rfl
  | cons e es ih => exact ih _

theorem clipAll_ge {g : Pt → Rat} (hg : Aff g) : ∀ (es : List (Pt × Pt)) (l : List Pt), (∀ x ∈ l, 0 ≤ g x) → ∀ x ∈ clipAll l es, 0 ≤ g x
  | [], _, h => h
  | e :: es, _, h => clipAll_ge hg es _ (clip_ge (aff_cross e.1 e.2) hg h)
theorem clipAll_left : ∀ (es : List (Pt × Pt)) (l : List Pt), ∀ x ∈ clipAll l es, ∀ e ∈ es, 0 ≤ cross e.1 e.2 x
  | [], _, _, _, _, he => by cases he
  | e :: es, l, x, hx, e', he => by
    rcases List.mem_cons.1 he with rfl | he
    · exact clipAll_ge (aff_cross e'.1 e'.2) es _ (fun y hy => (clip_mem (aff_cross e'.1 e'.2) hy).1) x hx
    · exact clipAll_left es _ x hx e' he

theorem fan_pos (c : Pt) : ∀ (d e : Pt) (r : List Pt), (d :: e :: r).Pairwise (fun d e => 0 < cross c d e) → 0 < fan c (d :: e :: r)
  | d, e, [], h => by
    simp at h
    show 0 < cross c d e + 0
    grind
  | d, e, x :: r, h => by
    rw [List.pairwise_cons] at h
    have := fan_pos c e x r h.2
    have := h.1 e (by simp)
    show 0 < cross c d e + fan c (e :: x :: r)
    grind
theorem TC.area_pos {l : List Pt} (h : TC l) (h3 : 3 ≤ l.length) : 0 < Sh l := by
  rw [← fanArea_eq]
  match l, h3 with
  | c :: d :: e :: r, _ => exact fan_pos c d e r h.1

section
variable {A A' : List Pt} (hA : TC A) (hA3 : 3 ≤ A.length)
include hA hA3

theorem reg_mem (es : List (Pt × Pt)) : ∀ x ∈ clipAll A es, Reg A es x := fun x hx =>
  ⟨fun c d hcd => clipAll_ge (aff_cross c d) es A (fun y hy => hA.inside (by omega) hy c d hcd) x hx, clipAll_left es A x hx⟩

theorem inv_of {es : List (Pt × Pt)} (hp : Proper es) {S : List Pt} (hS : ∀ x ∈ S, Reg A es x) : Inv A es.reverse S (clipAll A es) := by
  have := Inv.all es (Inv.start (S := S) hA hA3) hp (fun x hx => ⟨(hS x hx).1, (fun e he => absurd he (by simp)), (hS x hx).2⟩)
  simpa using this

theorem ar_nonneg {es : List (Pt × Pt)} (hp : Proper es) : 0 ≤ ar A es := by
  rcases inv_of hA hA3 hp (S := []) (fun x hx => by cases hx) with ⟨hl, h3, _⟩ | ⟨a, b, hab, hl, _⟩
  · exact Rat.le_of_lt (hl.area_pos h3)
  · unfold ar; rw [← fanArea_eq, area_flat hab hl]; exact Rat.le_refl

/-- THE AREA DEPENDS ON THE PLACES ALONE: not on the order of the lines, nor on which of them belong to the polygon. -/
theorem ar_region (hA' : TC A') (hA3' : 3 ≤ A'.length) {es es' : List (Pt × Pt)} (hp : Proper es) (hp' : Proper es') (h : ∀ x, Reg A es x ↔ Reg A' es' x) : ar A es = ar A' es' := by
  obtain ⟨S, hnd, hS⟩ := exists_nodup (clipAll A es ++ clipAll A' es')
  have r1 : ∀ x ∈ S, Reg A es x := fun x hx => by
    rcases List.mem_append.1 ((hS x).1 hx) with h1 | h1
    · exact reg_mem hA hA3 es x h1
    · exact (h x).2 (reg_mem hA' hA3' es' x h1)
  have r2 : ∀ x ∈ S, Reg A' es' x := fun x hx => (h x).1 (r1 x hx)
  have i1 := inv_of hA hA3 hp r1
  have i2 := inv_of hA' hA3' hp' r2
  have flat : ∀ a b, a ≠ b → (∀ x ∈ S, cross a b x = 0) → ar A es = ar A' es' := by
    intro a b hab hf
    unfold ar
    rw [← fanArea_eq, ← fanArea_eq, area_flat hab (fun x hx => hf x ((hS x).2 (by simp [hx]))), area_flat hab (fun x hx => hf x ((hS x).2 (by simp [hx])))]
  have inn : ∀ {A : List Pt} {es : List (Pt × Pt)} {l : List Pt}, On (es.reverse ++ cyc A) l → (∀ x ∈ S, Reg A es x) → ∀ x ∈ S, In l x := by
    intro A es l hon hr x hx
    refine hon.inside fun p q hpq => ?_
    rcases List.mem_append.1 hpq with h | h
    · exact (hr x hx).2 (p, q) (by simpa using h)
    · exact (hr x hx).1 p q h
  rcases i1 with ⟨t1, l1, on1, _⟩ | ⟨a, b, hab, _, hf⟩
  · rcases i2 with ⟨t2, l2, on2, _⟩ | ⟨a, b, hab, _, hf⟩
    · have e1 := t1.hull_eq l1 (S := S) (inn on1 r1) (fun x hx => (hS x).2 (by simp [hx])) hnd
      have e2 := t2.hull_eq l2 (S := S) (inn on2 r2) (fun x hx => (hS x).2 (by simp [hx])) hnd
      unfold ar
      rw [← e1, ← e2]
    · exact flat a b hab hf
  · exact flat a b hab hf

omit hA hA3 in
theorem ar_add (A : List Pt) (es : List (Pt × Pt)) {a b : Pt} (hab : a ≠ b) : ar A (es ++ [(a, b)]) + ar A (es ++ [(b, a)]) = ar A es := by
  unfold ar
  rw [clipAll_append, clipAll_append]
  exact clip_add hab _

theorem ar_le1 {es : List (Pt × Pt)} (hp : Proper es) {a b : Pt} (hab : a ≠ b) : ar A (es ++ [(a, b)]) ≤ ar A es := by
  have h1 := ar_add A es hab
  have h2 := ar_nonneg hA hA3 (es := es ++ [(b, a)]) (fun e he => by
    rcases List.mem_append.1 he with he | he
    · exact hp e he
    · simp at he; subst he; exact fun e => hab e.symm)
  grind
omit hA hA3 in
theorem Proper.append {es es' : List (Pt × Pt)} (h : Proper es) (h' : Proper es') : Proper (es ++ es') := fun e he => by
  rcases List.mem_append.1 he with he | he
  · exact h e he
  · exact h' e he
theorem ar_le {es es' : List (Pt × Pt)} (hp : Proper es) (hp' : Proper es') : ar A (es ++ es') ≤ ar A es := by
  induction es' generalizing es with
  | nil => simp
  | cons e es' ih =>
    have h1 := ih (es := es ++ [e]) (hp.append (fun x hx => hp' x (by simp at hx; simp [hx]))) (fun x hx => hp' x (by simp [hx]))
    have h2 := ar_le1 hA hA3 hp (a := e.1) (b := e.2) (hp' e (by simp))
    rw [List.append_assoc] at h1
    exact Rat.le_trans h1 h2

omit hA hA3 in
/-- What lies to the left of all lines is not cut. -/
theorem clipAll_id {es : List (Pt × Pt)} (h : ∀ x ∈ A, ∀ e ∈ es, 0 ≤ cross e.1 e.2 x) : clipAll A es = A := by
  induction es with
  | nil => rfl
  | cons e es ih =>
    show clipAll (clip (cross e.1 e.2) A) es = A
    rw [clip_nonneg (fun x hx => h x hx e (by simp)), ih (fun x hx e he => h x hx e (by simp [he]))]

theorem ar_pos1 {a b v : Pt} (hv : v ∈ A) (h : 0 < cross a b v) : 0 < ar A [(a, b)] := by
  show 0 < Sh (clip (cross a b) A)
  by_cases hn : ∃ x ∈ A, cross a b x < 0
  · obtain ⟨C⟩ := exists_cut (aff_cross a b) hA ⟨v, hv, h⟩ hn
    have hr := clip_rot (cross a b) C.rot
    rw [C.out] at hr
    refine ((C.tc (aff_cross a b) hA hA3).rot hr.symm).area_pos ?_
    have := hr.length
    simp at this; omega
  · rw [clip_nonneg (fun x hx => Rat.not_lt.1 fun h => hn ⟨x, hx, h⟩)]
    exact hA.area_pos hA3
end

/-! ### What two polygons have in common -/
section
variable {A B : List Pt} (hA : TC A) (hA3 : 3 ≤ A.length) (hB : TC B) (hB3 : 3 ≤ B.length)
include hB hB3 in
theorem proper_cyc : Proper (cyc B) := fun e he => hB.ne_side hB3 (c := e.1) (d := e.2) he
theorem reg_cyc (A B : List Pt) (x : Pt) : Reg A (cyc B) x ↔ In A x ∧ In B x := ⟨fun h => ⟨h.1, fun c d hcd => h.2 (c, d) hcd⟩, fun h => ⟨h.1, fun e he => h.2 e.1 e.2 he⟩⟩
include hA hA3 hB hB3
theorem ar_comm : ar A (cyc B) = ar B (cyc A) :=
  ar_region hA hA3 hB hB3 (proper_cyc hB hB3) (proper_cyc hA hA3) fun x => by rw [reg_cyc, reg_cyc]; exact And.comm
omit hB hB3 in
theorem ar_self {A' : List Pt} (h : Rot A A') : ar A (cyc A') = Sh A := by
  unfold ar
  rw [clipAll_id]
  intro x hx e he
  exact hA.inside (by omega) hx e.1 e.2 ((cyc_rot h e).1 he)
theorem ar_rot {B' : List Pt} (h : Rot B B') : ar A (cyc B') = ar A (cyc B) :=
  ar_region hA hA3 hA hA3 (proper_cyc (hB.rot h) (by rw [h.length]; exact hB3)) (proper_cyc hB hB3) fun x => by
    unfold Reg
    constructor
    · rintro ⟨h1, h2⟩; exact ⟨h1, fun e he => h2 e ((cyc_rot h e).2 he)⟩
    · rintro ⟨h1, h2⟩; exact ⟨h1, fun e he => h2 e ((cyc_rot h e).1 he)⟩
theorem ar_le_left : ar A (cyc B) ≤ Sh A := ar_le (es := []) hA hA3 (fun e he => by cases he) (proper_cyc hB hB3)
theorem ar_le_right : ar A (cyc B) ≤ Sh B := by rw [ar_comm hA hA3 hB hB3]; exact ar_le_left hB hB3 hA hA3
end

/-! ### Parts that do not overlap -/
section
variable {C : List Pt} (hC : TC C) (hC3 : 3 ≤ C.length)
include hC hC3

omit hC hC3 in
/-- A polygon less what it has in common with another one: a sum over pieces. -/
theorem pieces (f : List (Pt × Pt) → Rat) (g : List (Pt × Pt) → Rat) (hf : ∀ es, Proper es → f es ≤ g es) (addf : ∀ es a b, Proper es → a ≠ b → f (es ++ [(a, b)]) + f (es ++ [(b, a)]) = f es)
    (addg : ∀ es a b, Proper es → a ≠ b → g (es ++ [(a, b)]) + g (es ++ [(b, a)]) = g es) :
    ∀ (qs es : List (Pt × Pt)), Proper es → Proper qs → f es - f (es ++ qs) ≤ g es - g (es ++ qs) := by
  intro qs
  induction qs with
  | nil => intro es _ _; simp; grind
  | cons q qs ih =>
    intro es hes hqs
    have hq : q.1 ≠ q.2 := hqs q (by simp)
    have hp1 : Proper (es ++ [q]) := Proper.append hes (fun e he => by simp at he; subst he; exact hq)
    have hp2 : Proper (es ++ [(q.2, q.1)]) := Proper.append hes (fun e he => by simp at he; subst he; exact fun e => hq e.symm)
    have i1 := ih (es ++ [q]) hp1 (fun e he => hqs e (by simp [he]))
    have a1 := addf es q.1 q.2 hes hq
    have a2 := addg es q.1 q.2 hes hq
    have i2 := hf _ hp2
    rw [List.append_assoc] at i1
    simp only [List.singleton_append] at i1
    have e : [(q.1, q.2)] = [q] := rfl
    rw [e] at a1 a2
    grind

/-- THE PARTS that a polygon has in common with others, no two of which have an area in common, add up to at most its area. -/
theorem shares : ∀ (Qs : List (List Pt)), (∀ Q ∈ Qs, TC Q ∧ 3 ≤ Q.length) → Qs.Pairwise (fun Q R => ar Q (cyc R) = 0) →
    ∀ es, Proper es → sm Qs (fun Q => ar C (es ++ cyc Q)) ≤ ar C es := by
  intro Qs
  induction Qs with
  | nil => intro _ _ es hes; rw [sm_nil]; exact ar_nonneg hC hC3 hes
  | cons Q Qs ih =>
    intro hQ hd es hes
    rw [List.pairwise_cons] at hd
    have hQ1 := hQ Q (by simp)
    have hQs : ∀ R ∈ Qs, TC R ∧ 3 ≤ R.length := fun R hR => hQ R (by simp [hR])
    have pQ := proper_cyc hQ1.1 hQ1.2
    have comm : ∀ es R S, Proper es → Proper R → Proper S → ar C (es ++ R ++ S) = ar C (es ++ S ++ R) := by
      intro es R S h1 h2 h3
      refine ar_region hC hC3 hC hC3 ((h1.append h2).append h3) ((h1.append h3).append h2) fun x => ?_
      unfold Reg
      constructor
      · rintro ⟨a, b⟩; exact ⟨a, fun e he => b e (by simp at he ⊢; grind)⟩
      · rintro ⟨a, b⟩; exact ⟨a, fun e he => b e (by simp at he ⊢; grind)⟩
    have key := pieces (fun es => sm Qs (fun R => ar C (es ++ cyc R))) (fun es => ar C es) (ih hQs hd.2)
      (by
        intro es a b h1 hab
        rw [← sm_add]
        apply sm_congr
        intro R hR
        have pR := proper_cyc (hQs R hR).1 (hQs R hR).2
        have ps : Proper [(a, b)] := fun e he => by simp at he; subst he; exact hab
        have ps' : Proper [(b, a)] := fun e he => by simp at he; subst he; exact fun e => hab e.symm
        rw [comm es _ _ h1 ps pR, comm es _ _ h1 ps' pR]
        exact ar_add C _ hab)
      (fun es a b _ hab => ar_add C es hab) (cyc Q) es hes pQ
    have z : sm Qs (fun R => ar C (es ++ cyc Q ++ cyc R)) = 0 := by
      apply sm_zero
      intro R hR
      have pR := proper_cyc (hQs R hR).1 (hQs R hR).2
      have e1 : ar C (es ++ cyc Q ++ cyc R) = ar Q (cyc R ++ (es ++ cyc C)) := by
        refine ar_region hC hC3 hQ1.1 hQ1.2 ((hes.append pQ).append pR) (pR.append (hes.append (proper_cyc hC hC3))) fun x => ?_
        unfold Reg
        constructor
        · rintro ⟨a, b⟩
          exact ⟨fun c d h => b (c, d) (by simp [h]), fun e he => by
            simp at he
            rcases he with h | h | h
            · exact b e (by simp [h])
            · exact b e (by simp [h])
            · exact a e.1 e.2 h⟩
        · rintro ⟨a, b⟩
          exact ⟨fun c d h => b (c, d) (by simp [h]), fun e he => by
            simp at he
            rcases he with h | h | h
            · exact b e (by simp [h])
            · exact a e.1 e.2 h
            · exact b e (by simp [h])⟩
      have e2 := ar_le hQ1.1 hQ1.2 (es := cyc R) (es' := es ++ cyc C) pR (hes.append (proper_cyc hC hC3))
      have e3 := ar_nonneg hC hC3 ((hes.append pQ).append pR)
      rw [hd.1 R hR] at e2
      grind
    rw [sm_cons]
    have key' : sm Qs (fun R => ar C (es ++ cyc R)) - sm Qs (fun R => ar C (es ++ cyc Q ++ cyc R)) ≤ ar C es - ar C (es ++ cyc Q) := key
    rw [z] at key'
    grind
end

/-! ### A grid of rectangles -/
/-- The places to the left of x, to its right, below y and above it. -/
def lineL (x : Rat) : Pt × Pt := (⟨x, 0⟩, ⟨x, 1⟩)
def lineR (x : Rat) : Pt × Pt := (⟨x, 1⟩, ⟨x, 0⟩)
def lineD (y : Rat) : Pt × Pt := (⟨1, y⟩, ⟨0, y⟩)
def lineU (y : Rat) : Pt × Pt := (⟨0, y⟩, ⟨1, y⟩)
theorem lineL_iff (x : Rat) (p : Pt) : 0 ≤ cross (lineL x).1 (lineL x).2 p ↔ p.x ≤ x := by unfold lineL cross; grind
theorem lineR_iff (x : Rat) (p : Pt) : 0 ≤ cross (lineR x).1 (lineR x).2 p ↔ x ≤ p.x := by unfold lineR cross; grind
theorem lineD_iff (x : Rat) (p : Pt) : 0 ≤ cross (lineD x).1 (lineD x).2 p ↔ p.y ≤ x := by unfold lineD cross; grind
theorem lineU_iff (x : Rat) (p : Pt) : 0 ≤ cross (lineU x).1 (lineU x).2 p ↔ x ≤ p.y := by unfold lineU cross; grind
theorem lineL_ne (x : Rat) : (lineL x).1 ≠ (lineL x).2 := by unfold lineL; intro h; have := congrArg Pt.y h; simp at this
theorem lineR_ne (x : Rat) : (lineR x).1 ≠ (lineR x).2 := by unfold lineR; intro h; have := congrArg Pt.y h; simp at this
theorem lineD_ne (x : Rat) : (lineD x).1 ≠ (lineD x).2 := by unfold lineD; intro h; have := congrArg Pt.x h; simp at this
theorem lineU_ne (x : Rat) : (lineU x).1 ≠ (lineU x).2 := by unfold lineU; intro h; have := congrArg Pt.x h; simp at this

theorem proper2 {e f : Pt × Pt} (h1 : e.1 ≠ e.2) (h2 : f.1 ≠ f.2) : Proper [e, f] := fun x hx => by
  simp at hx
  rcases hx with rfl | rfl
  · exact h1
  · exact h2

section
variable {C : List Pt} (hC : TC C) (hC3 : 3 ≤ C.length)
include hC hC3
theorem split_x {es : List (Pt × Pt)} (hes : Proper es) {x y z : Rat} (h1 : x ≤ y) (h2 : y ≤ z) : ar C (es ++ [lineR x, lineL z]) = ar C (es ++ [lineR x, lineL y]) + ar C (es ++ [lineR y, lineL z]) := by
  have pxz := hes.append (proper2 (lineR_ne x) (lineL_ne z))
  have a := ar_add C (es ++ [lineR x, lineL z]) (lineL_ne y)
  have e1 : ar C (es ++ [lineR x, lineL z] ++ [((lineL y).1, (lineL y).2)]) = ar C (es ++ [lineR x, lineL y]) := by
    refine ar_region hC hC3 hC hC3 (pxz.append fun e he => by simp at he; subst he; exact lineL_ne y) (hes.append (proper2 (lineR_ne x) (lineL_ne y))) fun p => ?_
    unfold Reg
    constructor
    · rintro ⟨h, k⟩; exact ⟨h, fun e he => k e (by simp at he ⊢; grind)⟩
    · rintro ⟨h, k⟩
      refine ⟨h, fun e he => ?_⟩
      have ky := (lineL_iff y p).1 (k (lineL y) (by simp))
      simp at he
      rcases he with h | rfl | rfl | rfl
      · exact k e (by simp [h])
      · exact k _ (by simp)
      · exact (lineL_iff z p).2 (Rat.le_trans ky h2)
      · exact k (lineL y) (by simp)
  have e2 : ar C (es ++ [lineR x, lineL z] ++ [((lineL y).2, (lineL y).1)]) = ar C (es ++ [lineR y, lineL z]) := by
    refine ar_region hC hC3 hC hC3 (pxz.append fun e he => by simp at he; subst he; exact lineR_ne y) (hes.append (proper2 (lineR_ne y) (lineL_ne z))) fun p => ?_
    unfold Reg
    constructor
    · rintro ⟨h, k⟩
      refine ⟨h, fun e he => k e ?_⟩
      simp at he ⊢
      rcases he with h | rfl | rfl
      · exact .inl h
      · exact .inr (.inr (.inr rfl))
      · exact .inr (.inr (.inl rfl))
    · rintro ⟨h, k⟩
      refine ⟨h, fun e he => ?_⟩
      have ky := (lineR_iff y p).1 (k (lineR y) (by simp))
      simp at he
      rcases he with h | rfl | rfl | rfl
      · exact k e (by simp [h])
      · exact (lineR_iff x p).2 (Rat.le_trans h1 ky)
      · exact k _ (by simp)
      · exact k (lineR y) (by simp)
  rw [e1, e2] at a
  exact a.symm
theorem split_y {es : List (Pt × Pt)} (hes : Proper es) {x y z : Rat} (h1 : x ≤ y) (h2 : y ≤ z) : ar C (es ++ [lineU x, lineD z]) = ar C (es ++ [lineU x, lineD y]) + ar C (es ++ [lineU y, lineD z]) := by
  have pxz := hes.append (proper2 (lineU_ne x) (lineD_ne z))
  have a := ar_add C (es ++ [lineU x, lineD z]) (lineD_ne y)
  have e1 : ar C (es ++ [lineU x, lineD z] ++ [((lineD y).1, (lineD y).2)]) = ar C (es ++ [lineU x, lineD y]) := by
    refine ar_region hC hC3 hC hC3 (pxz.append fun e he => by simp at he; subst he; exact lineD_ne y) (hes.append (proper2 (lineU_ne x) (lineD_ne y))) fun p => ?_
    unfold Reg
    constructor
    · rintro ⟨h, k⟩; exact ⟨h, fun e he => k e (by simp at he ⊢; grind)⟩
    · rintro ⟨h, k⟩
      refine ⟨h, fun e he => ?_⟩
      have ky := (lineD_iff y p).1 (k (lineD y) (by simp))
      simp at he
      rcases he with h | rfl | rfl | rfl
      · exact k e (by simp [h])
      · exact k _ (by simp)
      · exact (lineD_iff z p).2 (Rat.le_trans ky h2)
      · exact k (lineD y) (by simp)
  have e2 : ar C (es ++ [lineU x, lineD z] ++ [((lineD y).2, (lineD y).1)]) = ar C (es ++ [lineU y, lineD z]) := by
    refine ar_region hC hC3 hC hC3 (pxz.append fun e he => by simp at he; subst he; exact lineU_ne y) (hes.append (proper2 (lineU_ne y) (lineD_ne z))) fun p => ?_
    unfold Reg
    constructor
    · rintro ⟨h, k⟩
      refine ⟨h, fun e he => k e ?_⟩
      simp at he ⊢
      rcases he with h | rfl | rfl
      · exact .inl h
      · exact .inr (.inr (.inr rfl))
      · exact .inr (.inr (.inl rfl))
    · rintro ⟨h, k⟩
      refine ⟨h, fun e he => ?_⟩
      have ky := (lineU_iff y p).1 (k (lineU y) (by simp))
      simp at he
      rcases he with h | rfl | rfl | rfl
      · exact k e (by simp [h])
      · exact (lineU_iff x p).2 (Rat.le_trans h1 ky)
      · exact k _ (by simp)
      · exact k (lineU y) (by simp)
  rw [e1, e2] at a
  exact a.symm
end
end Go.Proofs.YtbddmkklkbkliaaGreatDoor.Geo
namespace Go.Proofs.YtbddmkklkbkliaaGreatDoor.Geo
open Classical

/-! ### The places that the reference collects -/
noncomputable def addPt (l : List Pt) (p : Pt) : List Pt := if p ∈ l then l else l ++ [p]
theorem addPt_mem (l : List Pt) (p x : Pt) : x ∈ addPt l p ↔ x ∈ l ∨ x = p := by
  unfold addPt
  split
  · rename_i h
    constructor
    · exact .inl
    · rintro (h1 | rfl)
      · exact h1
      · exact h
  · simp
theorem addPt_nodup {l : List Pt} (h : l.Nodup) (p : Pt) : (addPt l p).Nodup := by
  unfold addPt
  split
  · exact h
  · rename_i hp
    rw [List.nodup_append]
    refine ⟨h, by simp, fun a ha b hb => ?_⟩
    simp at hb; subst hb
    exact fun e => hp (e ▸ ha)
theorem foldl_addPt : ∀ (c l : List Pt), l.Nodup → (c.foldl addPt l).Nodup ∧ ∀ x, x ∈ c.foldl addPt l ↔ x ∈ l ∨ x ∈ c
  | [], l, h => ⟨h, fun x => by simp⟩
  | p :: c, l, h => by
    obtain ⟨h1, h2⟩ := foldl_addPt c (addPt l p) (addPt_nodup h p)
    refine ⟨h1, fun x => ?_⟩
    show x ∈ c.foldl addPt (addPt l p) ↔ _
    rw [h2, addPt_mem]
    simp [or_assoc]

/-- Where the lines of two sides meet. -/
def cutAt (e g : Pt × Pt) : Pt :=
  lerp e.1 e.2 (((g.1.x - e.1.x) * (g.2.y - g.1.y) - (g.1.y - e.1.y) * (g.2.x - g.1.x)) / wedge (sub e.2 e.1) (sub g.2 g.1))
noncomputable def meets (A B : List Pt) (e g : Pt × Pt) : List Pt :=
  if wedge (sub e.2 e.1) (sub g.2 g.1) ≠ 0 ∧ In A (cutAt e g) ∧ In B (cutAt e g) then [cutAt e g] else []
noncomputable def cand (A B : List Pt) : List Pt :=
  A.filter (fun p => decide (In B p)) ++ B.filter (fun p => decide (In A p)) ++ (cyc A).flatMap fun e => (cyc B).flatMap fun g => meets A B e g
/-- The places of which the hull is what two polygons have in common. -/
noncomputable def shared (A B : List Pt) : List Pt := (cand A B).foldl addPt []

theorem cutAt_on {e g : Pt × Pt} (h : wedge (sub e.2 e.1) (sub g.2 g.1) ≠ 0) {x : Pt} (h1 : cross e.1 e.2 x = 0) (h2 : cross g.1 g.2 x = 0) : x = cutAt e g := by
  unfold cutAt
  have ht : ((g.1.x - e.1.x) * (g.2.y - g.1.y) - (g.1.y - e.1.y) * (g.2.x - g.1.x)) / wedge (sub e.2 e.1) (sub g.2 g.1) * wedge (sub e.2 e.1) (sub g.2 g.1) = (g.1.x - e.1.x) * (g.2.y - g.1.y) - (g.1.y - e.1.y) * (g.2.x - g.1.x) := Rat.div_mul_cancel h
  generalize ((g.1.x - e.1.x) * (g.2.y - g.1.y) - (g.1.y - e.1.y) * (g.2.x - g.1.x)) / wedge (sub e.2 e.1) (sub g.2 g.1) = t at *
  unfold wedge sub at ht h
  unfold cross at h1 h2
  unfold lerp
  have k1 : ((e.2.x - e.1.x) * (g.2.y - g.1.y) - (e.2.y - e.1.y) * (g.2.x - g.1.x)) * (x.x - (e.1.x + (e.2.x - e.1.x) * t)) = 0 := by grind
  have k2 : ((e.2.x - e.1.x) * (g.2.y - g.1.y) - (e.2.y - e.1.y) * (g.2.x - g.1.x)) * (x.y - (e.1.y + (e.2.y - e.1.y) * t)) = 0 := by grind
  apply Pt.ext'
  · rcases Rat.mul_eq_zero.1 k1 with k | k
    · exact absurd k h
    · show x.x = e.1.x + (e.2.x - e.1.x) * t; grind
  · rcases Rat.mul_eq_zero.1 k2 with k | k
    · exact absurd k h
    · show x.y = e.1.y + (e.2.y - e.1.y) * t; grind

/-- THE TWO WAYS to find what two convex polygons have in common come to the same. -/
theorem common_shared {A B : List Pt} (hA : TC A) (hA3 : 3 ≤ A.length) (hB : TC B) (hB3 : 3 ≤ B.length) : fanArea (clipAll A (cyc B)) = hullS (shared A B) := by
  obtain ⟨h1, h2⟩ := foldl_addPt (cand A B) [] List.nodup_nil
  have hm : ∀ x, x ∈ shared A B ↔ x ∈ cand A B := fun x => by unfold shared; rw [h2]; simp
  refine common_eq hA hA3 hB hB3 (S := shared A B) h1 ?_ ?_ ?_ ?_
  · intro x hx
    rw [hm] at hx
    unfold cand at hx
    rw [List.mem_append, List.mem_append] at hx
    rcases hx with (hx | hx) | hx
    · simp at hx; exact ⟨hA.inside (by omega) hx.1, hx.2⟩
    · simp at hx; exact ⟨hx.2, hB.inside (by omega) hx.1⟩
    · simp only [List.mem_flatMap] at hx
      obtain ⟨e, _, g, _, hx⟩ := hx
      unfold meets at hx
      split at hx
      · rename_i h; simp at hx; subst hx; exact h.2
      · cases hx
  · intro x hx hB'
    rw [hm]; unfold cand; simp [hx, hB']
  · intro x hx hA'
    rw [hm]; unfold cand; simp [hx, hA']
  · intro a b c d x hab hcd hdet z1 z2 i1 i2
    rw [hm]; unfold cand
    rw [List.mem_append]
    right
    simp only [List.mem_flatMap]
    refine ⟨(a, b), hab, (c, d), hcd, ?_⟩
    have e : x = cutAt (a, b) (c, d) := cutAt_on hdet z1 z2
    unfold meets
    rw [if_pos ⟨hdet, by rw [← e]; exact i1, by rw [← e]; exact i2⟩, ← e]
    simp
theorem area_hull {A : List Pt} (hA : TC A) (hA3 : 3 ≤ A.length) : fanArea A = hullS A := by
  rw [fanArea_eq]
  exact (hA.hull_eq hA3 (S := A) (fun x hx => hA.inside (by omega) hx) (fun _ h => h) (hA.nodup hA3)).symm

/-! ### Moving -/
def mv (v p : Pt) : Pt := ⟨p.x + v.x, p.y + v.y⟩
theorem cross_mv (v a b c : Pt) : cross (mv v a) (mv v b) (mv v c) = cross a b c := by unfold cross mv; grind
theorem seg_mv (v : Pt) {f f' : Pt → Rat} (hf : ∀ p, f' (mv v p) = f p) (n : Pt) (l : List Pt) : seg f' (mv v n) (l.map (mv v)) = (seg f n l).map (mv v) := by
  have st : ∀ c d, step f' (mv v c) (mv v d) = (step f c d).map (mv v) := by
    intro c d
    unfold step
    rw [hf, hf, List.map_append]
    congr 1
    · split <;> rfl
    · split
      · simp only [List.map_cons, List.map_nil, List.cons.injEq, and_true]
        unfold meet
        rw [hf, hf]
        unfold lerp mv
        apply Pt.ext' <;> simp only [] <;> grind
      · rfl
  induction l with
  | nil => rfl
  | cons c l ih =>
    cases l with
    | nil => exact st c n
    | cons d l =>
      simp only [List.map_cons, seg, List.map_append] at ih ⊢
      rw [st, ih]
theorem clip_mv (v : Pt) {f f' : Pt → Rat} (hf : ∀ p, f' (mv v p) = f p) (l : List Pt) : clip f' (l.map (mv v)) = (clip f l).map (mv v) := by
  cases l with
  | nil => rfl
  | cons c l => exact seg_mv v hf c (c :: l)
theorem sides_mv (v n : Pt) (l : List Pt) : sides (mv v n) (l.map (mv v)) = (sides n l).map fun e => (mv v e.1, mv v e.2) := by
  induction l with
  | nil => rfl
  | cons c l ih =>
    cases l with
    | nil => rfl
    | cons d l =>
      simp only [List.map_cons, sides, List.map_cons] at ih ⊢
      rw [ih]
theorem cyc_mv (v : Pt) (l : List Pt) : cyc (l.map (mv v)) = (cyc l).map fun e => (mv v e.1, mv v e.2) := by
  cases l with
  | nil => rfl
  | cons c l => exact sides_mv v c (c :: l)
theorem clipAll_mv (v : Pt) (es : List (Pt × Pt)) (l : List Pt) : clipAll (l.map (mv v)) (es.map fun e => (mv v e.1, mv v e.2)) = (clipAll l es).map (mv v) := by
  induction es generalizing l with
  | nil => rfl
  | cons e es ih =>
    show clipAll (clip (cross (mv v e.1) (mv v e.2)) (l.map (mv v))) _ = _
    rw [clip_mv v (f := cross e.1 e.2) (fun p => cross_mv v _ _ p), ih]; rfl
theorem fan_mv (v c : Pt) : ∀ l : List Pt, fan (mv v c) (l.map (mv v)) = fan c l
  | [] => rfl
  | [_] => rfl
  | d :: e :: r => by
    show cross (mv v c) (mv v d) (mv v e) + fan (mv v c) ((e :: r).map (mv v)) = cross c d e + fan c (e :: r)
    rw [cross_mv, fan_mv v c (e :: r)]
theorem fanArea_mv (v : Pt) (l : List Pt) : fanArea (l.map (mv v)) = fanArea l := by
  cases l with
  | nil => rfl
  | cons c r => exact fan_mv v c r
/-- Two polygons that are moved together keep what they have in common. -/
theorem common_mv (v : Pt) (A B : List Pt) : fanArea (clipAll (A.map (mv v)) (cyc (B.map (mv v)))) = fanArea (clipAll A (cyc B)) := by
  rw [cyc_mv, clipAll_mv, fanArea_mv]
theorem TC.mv (v : Pt) {l : List Pt} (h : TC l) : TC (l.map (mv v)) := by
  induction l with
  | nil => trivial
  | cons c l ih =>
    refine ⟨?_, ih h.2⟩
    rw [List.pairwise_map]
    exact h.1.imp fun {a b} hab => by rw [cross_mv]; exact hab
end Go.Proofs.YtbddmkklkbkliaaGreatDoor.Geo
namespace Go.Proofs.YtbddmkklkbkliaaGreatDoor.Geo

/-! ### Cells: corners with integer coordinates -/
abbrev Pl := Int × Int
def toPt (p : Pl) : Pt := ⟨(p.1 : Rat), (p.2 : Rat)⟩
def toPts (l : List Pl) : List Pt := l.map toPt
def turnI (a b c : Pl) : Int := (b.1 - a.1) * (c.2 - a.2) - (b.2 - a.2) * (c.1 - a.1)
theorem turnI' (a b c : Pl) : (b.1 - a.1) * (c.2 - b.2) - (b.2 - a.2) * (c.1 - b.1) = turnI a b c := by unfold turnI; grind
def sgnI (n : Int) : Int := if n < 0 then -1 else if n = 0 then 0 else 1
def onI (a b c : Pl) : Bool := decide (min a.1 b.1 ≤ c.1) && decide (c.1 ≤ max a.1 b.1) && decide (min a.2 b.2 ≤ c.2) && decide (c.2 ≤ max a.2 b.2)
def touchI (a b c d : Pl) : Bool :=
  (decide (sgnI (turnI a b c) * sgnI (turnI a b d) < 0) && decide (sgnI (turnI c d a) * sgnI (turnI c d b) < 0)) ||
  ((decide (turnI a b c = 0) && onI a b c) || (decide (turnI a b d = 0) && onI a b d) || (decide (turnI c d a = 0) && onI c d a) || (decide (turnI c d b = 0) && onI c d b))
def placeI (p : Pl) : Bool := decide (-1048576 ≤ p.1) && decide (p.1 ≤ 1048576) && decide (-1048576 ≤ p.2) && decide (p.2 ≤ 1048576)
def atI (l : List Pl) (i : Nat) : Pl := l.getD (i % l.length) (0, 0)
/-- A valid cell. -/
def validI (l : List Pl) : Bool :=
  decide (3 ≤ l.length) && decide (l.length ≤ 8) && l.all placeI &&
  (List.range l.length).all (fun i => decide (0 < turnI (atI l i) (atI l (i + 1)) (atI l (i + 2)))) &&
  (List.range l.length).all (fun i => (List.range l.length).all fun k => !(decide (i + 2 ≤ k) && decide ((k + 1) % l.length ≠ i)) || !touchI (atI l i) (atI l (i + 1)) (atI l k) (atI l (k + 1)))

theorem cast_cross (a b c : Pl) : cross (toPt a) (toPt b) (toPt c) = ((turnI a b c : Int) : Rat) := by
  unfold cross toPt turnI
  simp only [Rat.intCast_sub, Rat.intCast_mul]
theorem cast_pos {n : Int} : (0 : Rat) < (n : Rat) ↔ 0 < n := by
  rw [show (0 : Rat) = ((0 : Int) : Rat) from rfl, Rat.intCast_lt_intCast]
theorem cast_neg {n : Int} : (n : Rat) < 0 ↔ n < 0 := by
  rw [show (0 : Rat) = ((0 : Int) : Rat) from rfl, Rat.intCast_lt_intCast]
theorem cast_zero {n : Int} : (n : Rat) = 0 ↔ n = 0 := by
  rw [show (0 : Rat) = ((0 : Int) : Rat) from rfl, Rat.intCast_inj]
theorem cast_min (a b : Int) : min (a : Rat) (b : Rat) = ((min a b : Int) : Rat) := by
  rcases Int.le_total a b with h | h
  · have h' : (a : Rat) ≤ (b : Rat) := Rat.intCast_le_intCast.2 h
    rw [Int.min_eq_left h]; grind
  · have h' : (b : Rat) ≤ (a : Rat) := Rat.intCast_le_intCast.2 h
    rw [Int.min_eq_right h]; grind
theorem cast_max (a b : Int) : max (a : Rat) (b : Rat) = ((max a b : Int) : Rat) := by
  rcases Int.le_total a b with h | h
  · have h' : (a : Rat) ≤ (b : Rat) := Rat.intCast_le_intCast.2 h
    rw [Int.max_eq_right h]; grind
  · have h' : (b : Rat) ≤ (a : Rat) := Rat.intCast_le_intCast.2 h
    rw [Int.max_eq_left h]; grind
theorem onB_iff (a b c : Pl) : onB (toPt a) (toPt b) (toPt c) ↔ onI a b c = true := by
  unfold onB toPt onI
  simp only [cast_min, cast_max, Rat.intCast_le_intCast, Bool.and_eq_true, decide_eq_true_eq]
  grind
theorem sgn_mul (a b : Int) : sgnI a * sgnI b < 0 ↔ (0 < a ∧ b < 0) ∨ (a < 0 ∧ 0 < b) := by
  unfold sgnI
  split <;> split <;> (try split) <;> (try split) <;> simp <;> omega
theorem touch_iff (a b c d : Pl) : Touch (toPt a) (toPt b) (toPt c) (toPt d) ↔ touchI a b c d = true := by
  unfold Touch touchI
  simp only [cast_cross, cast_pos, cast_neg, cast_zero, onB_iff, Bool.or_eq_true, Bool.and_eq_true, decide_eq_true_eq, sgn_mul]
  grind
theorem ring_at (l : List Pl) (h : 0 < l.length) (i : Nat) : ring (toPts l) i = toPt (atI l i) := by
  unfold ring atI toPts
  have hi : i % l.length < l.length := Nat.mod_lt _ h
  rw [List.getD_eq_getElem?_getD, List.getD_eq_getElem?_getD, List.length_map, List.getElem?_map, List.getElem?_eq_getElem hi]
  rfl

structure Valid (l : List Pl) : Prop where
  lo : 3 ≤ l.length
  hi : l.length ≤ 8
  place : ∀ p ∈ l, placeI p = true
  tc : TC (toPts l)
theorem Valid.len {l : List Pl} (h : Valid l) : 3 ≤ (toPts l).length := by unfold toPts; rw [List.length_map]; exact h.lo
theorem valid_of {l : List Pl} (h : validI l = true) : Valid l := by
  unfold validI at h
  simp only [Bool.and_eq_true, decide_eq_true_eq, List.all_eq_true, List.mem_range, Bool.or_eq_true, Bool.not_eq_true', Bool.and_eq_false_iff, decide_eq_false_iff_not] at h
  obtain ⟨⟨⟨⟨h1, h2⟩, h3⟩, h4⟩, h5⟩ := h
  have e : (toPts l).length = l.length := by unfold toPts; rw [List.length_map]
  refine ⟨h1, h2, h3, tc_of (by rw [e]; exact h1) ?_ ?_⟩
  · intro i hi
    rw [e] at hi
    rw [ring_at l (by omega), ring_at l (by omega), ring_at l (by omega), cast_cross, cast_pos]
    exact h4 i hi
  · intro i j hij hj hne
    rw [e] at hj hne
    rw [ring_at l (by omega), ring_at l (by omega), ring_at l (by omega), ring_at l (by omega), touch_iff]
    have := h5 i (by omega) j hj
    rcases this with (h | h) | h
    · exact absurd hij h
    · exfalso; apply h
      by_cases hl : j + 1 < l.length
      · rw [Nat.mod_eq_of_lt hl]; omega
      · have : j + 1 = l.length := by omega
        rw [this, Nat.mod_self]; omega
    · rw [h]; simp
end Go.Proofs.YtbddmkklkbkliaaGreatDoor.Geo
