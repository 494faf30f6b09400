/-
  Plain facts of package regrid's common: valid cells as convex polygons, boxes.
-/
import Derived.Test.YtblopapobmbboaaDoorRegM
namespace Go.Proofs.YtblopapobmbboaaDoor
open Go.RowKit Ar

theorem cn_at2 {l : List Pl} {i : Nat} (hi : i < l.length) : Geo.ring (Geo.toPts l) i = Geo.toPt (cn l i) := by
  rw [Geo.ring_at l (by omega)]
  unfold Geo.atI cn
  rw [Nat.mod_eq_of_lt hi]
theorem cn_mod {l : List Pl} (h : 0 < l.length) (i : Nat) : Geo.ring (Geo.toPts l) i = Geo.toPt (cn l (i % l.length)) := by
  rw [Geo.ring_at l h]
  rfl
theorem trn_cast (a b c : Pl) : Geo.cross (Geo.toPt a) (Geo.toPt b) (Geo.toPt c) = ((trn a b c : Int) : Rat) := Geo.cast_cross a b c
theorem sgn_zero {n : Int} : sgn n = 0 ↔ n = 0 := by unfold sgn; split <;> (try split) <;> omega
theorem tch_of (a b c d : Pl) (h : Geo.touchI a b c d = true) : tch a b c d := by
  unfold Geo.touchI at h
  unfold tch onP
  simp only [Bool.or_eq_true, Bool.and_eq_true, decide_eq_true_eq, Geo.onI, sgn_zero] at h ⊢
  have e : ∀ n, Geo.sgnI n = sgn n := fun _ => rfl
  have e2 : ∀ a b c, Geo.turnI a b c = trn a b c := fun _ _ _ => rfl
  simp only [e, e2] at h
  rcases h with h | ((h | h) | h) | h
  · exact .inl h
  · exact .inr (.inl ⟨h.1, h.2.1.1.1, h.2.1.1.2, h.2.1.2, h.2.2⟩)
  · exact .inr (.inr (.inl ⟨h.1, h.2.1.1.1, h.2.1.1.2, h.2.1.2, h.2.2⟩))
  · exact .inr (.inr (.inr (.inl ⟨h.1, h.2.1.1.1, h.2.1.1.2, h.2.1.2, h.2.2⟩)))
  · exact .inr (.inr (.inr (.inr ⟨h.1, h.2.1.1.1, h.2.1.1.2, h.2.1.2, h.2.2⟩)))
/-- A valid cell is convex. -/
theorem validC.tc {l : List Pl} (h : validC l) : Geo.TC (Geo.toPts l) := by
  obtain ⟨h3, h8, hp, hv⟩ := h
  have e : (Geo.toPts l).length = l.length := by unfold Geo.toPts; rw [List.length_map]
  refine Geo.tc_of (by rw [e]; exact h3) ?_ ?_
  · intro i hi
    rw [e] at hi
    rw [cn_at2 hi, cn_mod (by omega), cn_mod (by omega), trn_cast, Geo.cast_pos]
    exact (hv i hi).1
  · intro i j hij hj hne
    rw [e] at hj hne
    rw [cn_at2 (show i < l.length by omega), cn_at2 (show i + 1 < l.length by omega), cn_at2 hj, cn_mod (by omega), Geo.touch_iff]
    intro ht
    refine (hv i (by omega)).2 j hij hj ?_ (tch_of _ _ _ _ ht)
    by_cases hl : j + 1 < l.length
    · rw [Nat.mod_eq_of_lt hl]; omega
    · rw [show j + 1 = l.length by omega, Nat.mod_self]; omega
/-- A cell's corners, moved. -/
def poly (l : List Pl) (dx : Int) : List Qp := l.map fun p => qp p dx
theorem poly_len (l : List Pl) (dx : Int) : (poly l dx).length = l.length := by unfold poly; rw [List.length_map]
theorem poly_pts (l : List Pl) (dx : Int) : (poly l dx).map toP = (Geo.toPts l).map (Geo.mv ⟨(dx : Rat), 0⟩) := by
  unfold poly Geo.toPts
  rw [List.map_map, List.map_map]
  refine List.map_congr_left fun p _ => ?_
  show toP (qp p dx) = Geo.mv ⟨(dx : Rat), 0⟩ (Geo.toPt p)
  unfold toP qp Geo.mv Geo.toPt
  simp only [Rat.intCast_add, Rat.add_zero]
theorem poly_tc {l : List Pl} (h : validC l) (dx : Int) : Geo.TC ((poly l dx).map toP) := by
  rw [poly_pts]
  exact Geo.TC.mv _ h.tc
theorem poly_sz {l : List Pl} (h : ∀ p ∈ l, okP p) {dx : Int} (hdx : -100000000 ≤ dx ∧ dx ≤ 100000000) : ∀ p ∈ poly l dx, szp p ≤ 1 := by
  intro p hp
  obtain ⟨q, hq, rfl⟩ := List.mem_map.1 hp
  obtain ⟨h1, h2, h3, h4⟩ := h q hq
  unfold szp qp
  have e1 := sz_small (q.1 + dx) (by omega)
  have e2 := sz_small q.2 (by omega)
  simp only []
  omega
theorem cyc_ne {s : List Qp} (htc : Geo.TC (s.map toP)) (h3 : 3 ≤ s.length) {k : Nat} (hk : k < s.length) : toP (s.getD k (0, 0)) ≠ toP (nx s k) := by
  have hm : (toP (s.getD k (0, 0)), toP (nx s k)) ∈ Geo.cyc (s.map toP) := by
    rw [cyc_range]
    exact List.mem_map.2 ⟨k, List.mem_range.2 hk, rfl⟩
  exact Geo.TC.ne_side htc (by rw [List.length_map]; exact h3) hm
theorem cutOk {la lb : List Pl} (ha : validC la) (hb : validC lb) {dx : Int} (hdx : -100000000 ≤ dx ∧ dx ≤ 100000000) : ∀ k, k ≤ lb.length → CutOk (poly la 0) (poly lb dx) k
  | 0, _ => CutOk.start (poly_sz ha.2.2.1 (by omega)) (by rw [poly_len]; exact ha.2.1) (by rw [poly_len]; exact ha.1) (poly_tc ha 0)
  | k + 1, hk => (cutOk ha hb hdx k (by omega)).next (poly_sz hb.2.2.1 hdx) (by rw [poly_len]; omega) (cyc_ne (poly_tc hb dx) (by rw [poly_len]; exact hb.1) (by rw [poly_len]; omega))
theorem areaOk {l : List Pl} (h : validC l) {dx : Int} (hdx : -100000000 ≤ dx ∧ dx ≤ 100000000) : CutOk (poly l dx) [] 0 :=
  CutOk.start (poly_sz h.2.2.1 hdx) (by rw [poly_len]; exact h.2.1) (by rw [poly_len]; exact h.1) (poly_tc h dx)
def shiftB (b : Bx) (dx : Int) : Bx := (b.1 + dx, b.2.1 + dx, b.2.2.1, b.2.2.2)
def inB (b : Bx) : Prop := (-1048576 ≤ b.1 ∧ b.1 ≤ 1048576) ∧ (-1048576 ≤ b.2.1 ∧ b.2.1 ≤ 1048576) ∧ (-1048576 ≤ b.2.2.1 ∧ b.2.2.1 ≤ 1048576) ∧ (-1048576 ≤ b.2.2.2 ∧ b.2.2.2 ≤ 1048576)
theorem bstep_in {b : Bx} {p : Pl} (h : inB b) (hp : okP p) : inB (bstep b p) := by
  unfold inB bstep okP at *
  simp only []
  omega
theorem fold_in : ∀ {l : List Pl} {b : Bx}, inB b → (∀ p ∈ l, okP p) → inB (l.foldl bstep b)
  | [], _, h, _ => h
  | p :: l, _, h, hp => fold_in (l := l) (bstep_in h (hp p (by simp))) fun q hq => hp q (by simp [hq])
theorem bbox_in {l : List Pl} (h0 : 0 < l.length) (hp : ∀ p ∈ l, okP p) : inB (bbox l) := by
  unfold bbox
  refine fold_in ?_ hp
  have : okP (cn l 0) := by
    unfold cn
    rw [List.getD_eq_getElem?_getD, List.getElem?_eq_getElem h0]
    exact hp _ (List.getElem_mem _)
  unfold inB okP at *
  simp only []
  omega
/-- What common computes. -/
def commonQ (la lb : List Pl) (dx : Int) : Rat := if apartB (bbox la) (shiftB (bbox lb) dx) then 0 else areaQ (cutAll (poly la 0) (poly lb dx) lb.length)
end Go.Proofs.YtblopapobmbboaaDoor
