/-
  Plain laws: cells that are moved together keep what they have in common; rectangles are valid cells, and those of a grid have nothing in common; what a square and a triangle have in common.
  Words: cells under way, a row of the call's own.
  Plain law: the cells between ascending numbers are valid, and no two of them have a part in common.
  Walks of the laws' words: sameCell, Many.
-/
import Derived.Test.YtbddmkklkbkliaaGreatDoorRegY
namespace Go.Proofs.YtbddmkklkbkliaaGreatDoor
open Go.RowKit Ar

theorem Tryz.place_info : (Tryz.prog.info? 57).map (fun i => (i.zero, i.size, i.bytes)) = some (some (.agg #[.int .i64 0, .int .i64 0]), 2, 16) := by kernel_rfl
/-- Corners moved. -/
def mvd (l : List Pl) (dx dy : Int) : List Pl := l.map fun p => (p.1 + dx, p.2 + dy)
def near (dx dy : Int) : Prop := -2097152 ≤ dx ∧ dx ≤ 2097152 ∧ -2097152 ≤ dy ∧ dy ≤ 2097152
/-- The error of moving a cell. -/
def MovedIs (l : List Pl) (dx dy : Int) (E : Nat) : Prop :=
  (¬ validC l ∧ E = 80) ∨ (validC l ∧ ¬ near dx dy ∧ E = 2) ∨ (validC l ∧ near dx dy ∧ ¬ (∀ p ∈ mvd l dx dy, okP p) ∧ E = 2) ∨ (validC l ∧ near dx dy ∧ (∀ p ∈ mvd l dx dy, okP p) ∧ E = 0)
theorem MovedIs.ex (l : List Pl) (dx dy : Int) : ∃ E, MovedIs l dx dy E := by
  by_cases h1 : validC l
  · by_cases h2 : near dx dy
    · by_cases h3 : ∀ p ∈ mvd l dx dy, okP p
      · exact ⟨0, .inr (.inr (.inr ⟨h1, h2, h3, rfl⟩))⟩
      · exact ⟨2, .inr (.inr (.inl ⟨h1, h2, h3, rfl⟩))⟩
    · exact ⟨2, .inr (.inl ⟨h1, h2, rfl⟩)⟩
  · exact ⟨80, .inl ⟨h1, rfl⟩⟩
theorem bool_of (p : Prop) : ∃ b : Bool, b = true ↔ p := by
  by_cases h : p
  · exact ⟨true, fun _ => h, fun _ => rfl⟩
  · exact ⟨false, fun e => (by cases e), fun e => absurd e h⟩
theorem mvd_len (l : List Pl) (dx dy : Int) : (mvd l dx dy).length = l.length := by unfold mvd; rw [List.length_map]
theorem mvd_at {l : List Pl} {dx dy : Int} {k : Nat} {p : Pl} (h : l[k]? = some p) : (mvd l dx dy)[k]? = some (p.1 + dx, p.2 + dy) := by unfold mvd; rw [List.getElem?_map, h]; rfl
theorem isC_nil (w : World) (B : Nat) : IsC w B (.agg #[.slice none 0 0, .bool false]) [] false := ⟨none, 0, rfl, Nat.le_refl _, Nat.zero_le _, (fun p hp => by cases hp), fun h => absurd rfl h⟩
theorem prow_app (l m : List Pl) : prow (l ++ m) = prow l ++ prow m := List.flatMap_append
theorem okP_in {p : Pl} (h : okP p) : in64 p.1 ∧ in64 p.2 := by unfold okP at h; unfold in64; omega
/-- A list of places of one's own is a cell's. -/
theorem own_isC {w : World} {base : Nat} {v : Value} {l : List Pl} (h : w.ownsRow base 57 2 v l.length (prow l)) (hi : ∀ p ∈ l, okP p) (m : Bool) : IsC w w.heap.size (.agg #[v, .bool m]) l m := by
  obtain ⟨A, c, e, hc, hcm⟩ : ∃ A c, v = .slice A l.length c ∧ l.length ≤ c ∧ c ≤ maxLen := by
    rcases h.2 with ⟨rfl, e⟩ | ⟨g, cap, cur, rfl, _, _, hnc, hcm, _⟩
    · exact ⟨none, 0, by rw [e], by omega, Nat.zero_le _⟩
    · exact ⟨_, _, rfl, hnc, hcm⟩
  subst e
  exact ⟨A, c, rfl, hc, hcm, fun p hp => okP_in (hi p hp), Rd.of_own h⟩
theorem below_set2 {B b : Nat} {w0 w : World} {x y : Value} (h : Below B w0 w) (hb : B ≤ b) : Below B w0 ((w.setCell ⟨b, 0, none⟩ x).setCell ⟨b, 1, none⟩ y) := (h.setCell (by exact hb) x).setCell (by exact hb) y
theorem own_next {w w' : World} {base : Nat} {e : TypeId} {size n : Nat} {v : Value} {xs : List Value} (h : w.ownsRow base e size v n xs) (hb : Below w.heap.size w w') : w'.ownsRow base e size v n xs :=
  h.kept (grown_of_below hb none) (by cases v.ownBlock <;> simp)
theorem own_slice {w : World} {base : Nat} {e : TypeId} {size n : Nat} {v : Value} {xs : List Value} (h : w.ownsRow base e size v n xs) : ∃ A c, v = .slice A n c ∧ n ≤ c := by
  rcases h.2 with ⟨rfl, h0⟩ | ⟨g, cap, cur, rfl, _, _, hc, _⟩
  · exact ⟨none, 0, by rw [h0], by omega⟩
  · exact ⟨_, cap, rfl, hc⟩
/-- A row of one's own outlives what is written elsewhere. -/
theorem own_set {w : World} {base b j : Nat} {e : TypeId} {size n : Nat} {v : Value} {xs : List Value} (h : w.ownsRow base e size v n xs) (hb : b < base) (u : Value) : (w.setCell ⟨b, j, none⟩ u).ownsRow base e size v n xs :=
  h.kept (grown_setCell w ⟨b, j, none⟩ u) (.inr fun e => by have := (h.lt b e).1; omega)
end Go.Proofs.YtbddmkklkbkliaaGreatDoor

namespace Go.Proofs.YtbddmkklkbkliaaGreatDoor
open Go.RowKit Ar

theorem commonQ_geo (la lb : List Pl) (dx : Int) : commonQ la lb dx = if apartB (bbox la) (shiftB (bbox lb) dx) then 0 else Geo.fanArea (Geo.clipAll ((poly la 0).map toP) (Geo.cyc ((poly lb dx).map toP))) / 2 := by
  unfold commonQ
  rw [areaQ_eq, ← poly_len lb dx, cutAll_eq]
theorem poly_mvd (l : List Pl) (dx dy : Int) : (poly (mvd l dx dy) 0).map toP = ((poly l 0).map toP).map (Geo.mv ⟨(dx : Rat), (dy : Rat)⟩) := by
  unfold poly mvd
  rw [List.map_map, List.map_map, List.map_map, List.map_map]
  refine List.map_congr_left fun p _ => ?_
  show toP (qp (p.1 + dx, p.2 + dy) 0) = Geo.mv ⟨(dx : Rat), (dy : Rat)⟩ (toP (qp p 0))
  unfold toP qp Geo.mv
  simp only [Rat.intCast_add, Int.add_zero]
def moveB (b : Bx) (dx dy : Int) : Bx := (b.1 + dx, b.2.1 + dx, b.2.2.1 + dy, b.2.2.2 + dy)
theorem fold_mvd (dx dy : Int) : ∀ (l : List Pl) (b : Bx), (mvd l dx dy).foldl bstep (moveB b dx dy) = moveB (l.foldl bstep b) dx dy
  | [], _ => rfl
  | p :: l, b => by
    have e : bstep (moveB b dx dy) (p.1 + dx, p.2 + dy) = moveB (bstep b p) dx dy := by
      unfold bstep moveB
      simp only [Prod.mk.injEq]
      omega
    show (mvd l dx dy).foldl bstep (bstep (moveB b dx dy) (p.1 + dx, p.2 + dy)) = moveB (l.foldl bstep (bstep b p)) dx dy
    rw [e]
    exact fold_mvd dx dy l _
theorem bbox_mvd {l : List Pl} (h : 0 < l.length) (dx dy : Int) : bbox (mvd l dx dy) = moveB (bbox l) dx dy := by
  cases l with
  | nil => simp at h
  | cons p l => exact fold_mvd dx dy (p :: l) (p.1, p.1, p.2, p.2)
/-- Cells that are moved together keep what they have in common. -/
theorem commonQ_mvd {la lb : List Pl} (ha : 0 < la.length) (hb : 0 < lb.length) (dx dy : Int) : commonQ (mvd la dx dy) (mvd lb dx dy) 0 = commonQ la lb 0 := by
  rw [commonQ_geo, commonQ_geo, poly_mvd, poly_mvd, Geo.common_mv, bbox_mvd ha, bbox_mvd hb]
  have e : apartB (moveB (bbox la) dx dy) (shiftB (moveB (bbox lb) dx dy) 0) ↔ apartB (bbox la) (shiftB (bbox lb) 0) := by
    unfold apartB moveB shiftB
    simp only
    omega
  simp only [e]
theorem cn_mvd {l : List Pl} {i : Nat} (hi : i < l.length) (dx dy : Int) : cn (mvd l dx dy) i = ((cn l i).1 + dx, (cn l i).2 + dy) := by
  have h := mvd_at (dx := dx) (dy := dy) (cn_at hi)
  unfold cn at *
  rw [List.getD_eq_getElem?_getD, h]
  rfl
theorem trn_mvd (a b c : Pl) (dx dy : Int) : trn (a.1 + dx, a.2 + dy) (b.1 + dx, b.2 + dy) (c.1 + dx, c.2 + dy) = trn a b c := by
  unfold trn
  simp only [show ∀ x y z : Int, x + z - (y + z) = x - y from fun x y z => by omega]
theorem onP_mvd (a b c : Pl) (dx dy : Int) : onP (a.1 + dx, a.2 + dy) (b.1 + dx, b.2 + dy) (c.1 + dx, c.2 + dy) ↔ onP a b c := by
  unfold onP
  simp only
  omega
theorem tch_mvd (a b c d : Pl) (dx dy : Int) : tch (a.1 + dx, a.2 + dy) (b.1 + dx, b.2 + dy) (c.1 + dx, c.2 + dy) (d.1 + dx, d.2 + dy) ↔ tch a b c d := by
  unfold tch
  simp only [trn_mvd, onP_mvd]
/-- A valid cell that is moved within the limits is valid. -/
theorem validC_mvd {l : List Pl} (h : validC l) {dx dy : Int} (hp : ∀ p ∈ mvd l dx dy, okP p) : validC (mvd l dx dy) := by
  obtain ⟨h3, h8, _, hv⟩ := h
  refine ⟨by rw [mvd_len]; exact h3, by rw [mvd_len]; exact h8, hp, fun i hi => ?_⟩
  rw [mvd_len] at hi ⊢
  have m : ∀ j, j % l.length < l.length := fun j => Nat.mod_lt _ (by omega)
  obtain ⟨h1, h2⟩ := hv i hi
  refine ⟨?_, fun k hk hkl hne => ?_⟩
  · rw [cn_mvd hi, cn_mvd (m _), cn_mvd (m _), trn_mvd]; exact h1
  · rw [cn_mvd hi, cn_mvd (show i + 1 < l.length by omega), cn_mvd hkl, cn_mvd (m _), tch_mvd]
    exact h2 k hk hkl hne

/-- A rectangle's corners. -/
def rect (l r b t : Int) : List Pl := [(l, b), (r, b), (r, t), (l, t)]
theorem rect_valid {l r b t : Int} (hl : l < r) (hb : b < t) (h1 : -1048576 ≤ l) (h2 : r ≤ 1048576) (h3 : -1048576 ≤ b) (h4 : t ≤ 1048576) : validC (rect l r b t) := by
  have hp : 0 < (r - l) * (t - b) := Int.mul_pos (by omega) (by omega)
  have e0 : ∀ x : Int, x - x = 0 := fun x => by omega
  have n1 : (l - r) * (b - t) = (r - l) * (t - b) := by rw [← Int.neg_sub r l, ← Int.neg_sub t b, Int.neg_mul_neg]
  have n2 : (l - r) * (t - b) = -((r - l) * (t - b)) := by rw [← Int.neg_sub r l, Int.neg_mul]
  have n3 : (t - b) * (l - r) = -((r - l) * (t - b)) := by rw [Int.mul_comm, n2]
  have n4 : (b - t) * (r - l) = -((r - l) * (t - b)) := by rw [Int.mul_comm, ← Int.neg_sub t b, Int.mul_neg]
  have n5 : (b - t) * (l - r) = (r - l) * (t - b) := by rw [Int.mul_comm, n1]
  have n6 : (t - b) * (r - l) = (r - l) * (t - b) := Int.mul_comm _ _
  have n7 : (r - l) * (b - t) = -((r - l) * (t - b)) := by rw [← Int.neg_sub t b, Int.mul_neg]
  have sp : ∀ {x : Int}, 0 < x → sgn x = 1 := fun {x} h => by unfold sgn; rw [if_neg (by omega), if_neg (by omega)]
  have sn : ∀ {x : Int}, 0 < x → sgn (-x) = -1 := fun {x} h => by unfold sgn; rw [if_pos (by omega)]
  refine ⟨(show 3 ≤ 4 by decide), (show 4 ≤ 8 by decide), ?_, ?_⟩
  · intro p hp
    unfold rect at hp
    simp only [List.mem_cons, List.not_mem_nil, or_false] at hp
    unfold okP
    rcases hp with rfl | rfl | rfl | rfl <;> simp only <;> omega
  · intro i hi
    have hi4 : i < 4 := hi
    have c0 : cn (rect l r b t) 0 = (l, b) := rfl
    have c1 : cn (rect l r b t) 1 = (r, b) := rfl
    have c2 : cn (rect l r b t) 2 = (r, t) := rfl
    have c3 : cn (rect l r b t) 3 = (l, t) := rfl
    have el : (rect l r b t).length = 4 := rfl
    rw [el]
    rcases (show i = 0 ∨ i = 1 ∨ i = 2 ∨ i = 3 by omega) with rfl | rfl | rfl | rfl
    · refine ⟨?_, fun k hk hk4 hne => ?_⟩
      · show 0 < trn (cn _ 0) (cn _ 1) (cn _ 2)
        rw [c0, c1, c2]; unfold trn; simp only [e0]; omega
      · obtain rfl : k = 2 := by omega
        show ¬ tch (cn _ 0) (cn _ 1) (cn _ 2) (cn _ 3)
        rw [c0, c1, c2, c3]
        unfold tch trn
        simp only [e0, Int.zero_mul, Int.mul_zero, Int.sub_zero, n1, sp hp]
        simp
    · refine ⟨?_, fun k hk hk4 hne => ?_⟩
      · show 0 < trn (cn _ 1) (cn _ 2) (cn _ 3)
        rw [c1, c2, c3]; unfold trn; simp only [e0, n3]; omega
      · obtain rfl : k = 3 := by omega
        show ¬ tch (cn _ 1) (cn _ 2) (cn _ 3) (cn _ 0)
        rw [c0, c1, c2, c3]
        unfold tch trn
        simp only [e0, Int.zero_mul, Int.mul_zero, Int.zero_sub, n3, n4, Int.neg_neg, sp hp]
        simp
    · refine ⟨?_, fun k hk hk4 hne => by omega⟩
      show 0 < trn (cn _ 2) (cn _ 3) (cn _ 0)
      rw [c0, c2, c3]; unfold trn; simp only [e0, n1]; omega
    · refine ⟨?_, fun k hk hk4 hne => by omega⟩
      show 0 < trn (cn _ 3) (cn _ 0) (cn _ 1)
      rw [c0, c1, c3]; unfold trn; simp only [e0, n4]; omega
theorem rect_box {l r b t : Int} (hl : l < r) (hb : b < t) : bbox (rect l r b t) = (l, r, b, t) := by
  show [(l, b), (r, b), (r, t), (l, t)].foldl bstep (l, l, b, b) = _
  simp only [List.foldl_cons, List.foldl_nil, bstep, Prod.mk.injEq]
  omega
/-- What the sanity check asks. -/
theorem sane_common : commonQ [(0, 0), (2, 0), (2, 2), (0, 2)] [(1, 1), (3, 1), (1, 3)] 0 = 1 := by decide +kernel
theorem sane_text : ratText 1 = [49] := by decide +kernel
theorem sane_a : validC [(0, 0), (2, 0), (2, 2), (0, 2)] := rect_valid (l := 0) (r := 2) (b := 0) (t := 2) (by omega) (by omega) (by omega) (by omega) (by omega) (by omega)
theorem sane_b : validC [(1, 1), (3, 1), (1, 3)] := by
  refine ⟨by decide, by decide, by decide, ?_⟩
  intro i hi
  have hi3 : i < 3 := hi
  rcases (show i = 0 ∨ i = 1 ∨ i = 2 by omega) with rfl | rfl | rfl
  · refine ⟨by decide, fun k hk hk4 hne => ?_⟩
    have hk4 : k < 3 := hk4
    obtain rfl : k = 2 := by omega
    exact absurd (by decide) hne
  · refine ⟨by decide, fun k hk hk4 hne => ?_⟩
    have hk4 : k < 3 := hk4
    omega
  · refine ⟨by decide, fun k hk hk4 hne => ?_⟩
    have hk4 : k < 3 := hk4
    omega
end Go.Proofs.YtbddmkklkbkliaaGreatDoor

namespace Go.Proofs.YtbddmkklkbkliaaGreatDoor
open Go.RowKit Ar

theorem prow_int {l : List Pl} {u : Value} (h : u ∈ prow l) : ∃ n, u = .int .i64 n := by
  unfold prow at h
  obtain ⟨p, _, h⟩ := List.mem_flatMap.1 h
  simp only [List.mem_cons, List.not_mem_nil, or_false] at h
  rcases h with rfl | rfl
  · exact ⟨_, rfl⟩
  · exact ⟨_, rfl⟩
theorem IsC.kept {w w' : World} {B : Nat} {v : Value} {l : List Pl} {m : Bool} (h : IsC w B v l m) (hg : Ints w w') : IsC w' B v l m := by
  obtain ⟨A, c, e, h1, h2, h3, h4⟩ := h
  refine ⟨A, c, e, h1, h2, h3, fun hn => ?_⟩
  obtain ⟨ad, e2, hb, hc⟩ := h4 hn
  refine ⟨ad, e2, hb, fun j u hu => ?_⟩
  have h5 := hc j u hu
  obtain ⟨n, rfl⟩ := prow_int (List.mem_of_getElem? hu)
  exact hg _ _ _ h5
theorem crow_app (S T : List (Value × Bool)) : crow (S ++ T) = crow S ++ crow T := List.flatMap_append
/-- Cells under way. -/
def OwnCs (w : World) (base : Nat) (v : Value) (L : List Ce) : Prop :=
  ∃ S : List (Value × Bool), S.length = L.length ∧ w.ownsRow base 60 2 v L.length (crow S) ∧ NoIntB w v.ownBlock ∧ ∀ (i : Nat) (x : Ce), L[i]? = some x → ∃ u, S[i]? = some (u, x.2) ∧ IsC w w.heap.size (.agg #[u, .bool x.2]) x.1 x.2
theorem OwnCs.nil (w : World) (base : Nat) : OwnCs w base (.slice none 0 0) [] := ⟨[], rfl, World.ownsRow_nil _ _ _ _, fun b hb => by simp [Value.ownBlock] at hb, fun i p h => by simp at h⟩
theorem OwnCs.form {w : World} {base : Nat} {v : Value} {l : List Ce} (h : OwnCs w base v l) : ∃ A c, v = .slice A l.length c := by
  obtain ⟨S, _, hown, _⟩ := h
  rcases hown.2 with ⟨rfl, e⟩ | ⟨g, cap, cur, rfl, _⟩
  · exact ⟨none, 0, by rw [e]⟩
  · exact ⟨_, _, rfl⟩
theorem OwnCs.is {w : World} {base : Nat} {v : Value} {l : List Ce} (h : OwnCs w base v l) : IsCs w w.heap.size v l := by
  obtain ⟨S, h1, hown, _, h2⟩ := h
  have hrd := hown.2
  obtain ⟨A, c, e, hc⟩ : ∃ A c, v = .slice A l.length c ∧ l.length ≤ c := by
    rcases hrd with ⟨rfl, e⟩ | ⟨g, cap, cur, rfl, _, _, hnc, _⟩
    · exact ⟨none, 0, by rw [e], by omega⟩
    · exact ⟨_, _, rfl, hnc⟩
  subst e
  exact ⟨A, c, S, rfl, hc, h1, Rd.of_own hown, h2⟩
theorem OwnCs.keep {w w' : World} {base : Nat} {v : Value} {l : List Ce} (h : OwnCs w base v l) (hb : Below w.heap.size w w') : OwnCs w' base v l := by
  obtain ⟨S, h1, hown, hni, h2⟩ := h
  refine ⟨S, h1, hown.kept (grown_of_below hb none) ?_, fun b hbk j k i hc => ?_, fun i p hp => ?_⟩
  · cases v.ownBlock with
    | none => exact .inl rfl
    | some g => exact .inr (by simp)
  · have hlt : b < w.heap.size := by
      rcases hown.2 with ⟨rfl, _⟩ | ⟨g, cap, cur, rfl, _, hg, _⟩
      · simp [Value.ownBlock] at hbk
      · have : g = b := by simpa [Value.ownBlock] using hbk
        subst this
        exact (Array.getElem?_eq_some_iff.1 hg).1
    exact hni b hbk j k i ((hb.cell (p := ⟨b, j, none⟩) hlt).symm.trans hc)
  · obtain ⟨s, k1, k2⟩ := h2 i p hp
    exact ⟨s, k1, k2.next hb⟩
theorem OwnCs.add {w w' : World} {base : Nat} {v v' u : Value} {L : List Ce} {x : Ce} {S : List (Value × Bool)} (h1 : S.length = L.length) (hni : NoIntB w v.ownBlock) (h2 : ∀ (i : Nat) (x : Ce), L[i]? = some x → ∃ u, S[i]? = some (u, x.2) ∧ IsC w w.heap.size (.agg #[u, .bool x.2]) x.1 x.2)
    (hs : IsC w w.heap.size (.agg #[u, .bool x.2]) x.1 x.2) (hown : w'.ownsRow base 60 2 v' (L.length + 1) (crow S ++ [u, .bool x.2])) (hg : w.grownBy w' v.ownBlock) (hn' : NoIntB w' v'.ownBlock) : OwnCs w' base v' (L ++ [x]) := by
  have hI := ints_grown hg hni
  refine ⟨S ++ [(u, x.2)], by simp [h1], ?_, hn', fun i q hq => ?_⟩
  · rw [List.length_append, List.length_singleton, crow_app]
    exact hown
  · rcases Nat.lt_or_ge i L.length with hi | hi
    · rw [List.getElem?_append_left hi] at hq
      obtain ⟨s', k1, k2⟩ := h2 i q hq
      exact ⟨s', by rw [List.getElem?_append_left (by omega)]; exact k1, (k2.kept hI).more hg.size⟩
    · rw [List.getElem?_append_right hi] at hq
      have hi0 : i - L.length = 0 := by
        rcases Nat.eq_zero_or_pos (i - L.length) with h0 | h0
        · exact h0
        · rw [List.getElem?_eq_none (by simp; omega)] at hq; cases hq
      rw [hi0] at hq
      simp at hq
      subst hq
      exact ⟨u, by rw [List.getElem?_append_right (by omega), h1, hi0]; rfl, (hs.kept hI).more hg.size⟩
theorem IsCs.form {w : World} {B : Nat} {v : Value} {L : List Ce} (h : IsCs w B v L) : ∃ A c, v = .slice A L.length c := by
  obtain ⟨A, c, S, e, _⟩ := h
  exact ⟨A, c, e⟩
/-- What cells give a walk at one place. -/
theorem IsCs.at {w : World} {B : Nat} {A : Option Addr} {n c : Nat} {L : List Ce} (h : IsCs w B (.slice A n c) L) {i : Nat} {x : Ce} (hx : L[i]? = some x) :
    ∃ ad A2 c2, A = some ad ∧ ad.block < B ∧ w.cell? (ad.add (i * 2)) = some (.slice A2 x.1.length c2) ∧ w.cell? ⟨(ad.add (i * 2)).block, (ad.add (i * 2)).off + 1, none⟩ = some (.bool x.2) ∧ IsC w B (.agg #[.slice A2 x.1.length c2, .bool x.2]) x.1 x.2 := by
  obtain ⟨A', c', S, e, _, _, hr, h4⟩ := h
  injection e with e _ _
  subst e
  obtain ⟨u, hu, hC⟩ := h4 i x hx
  obtain ⟨ad, rfl, hab, d1, d2⟩ := hr.cellAt hu
  obtain ⟨A2, c2, e2⟩ := hC.form
  have e2' : u = .slice A2 x.1.length c2 := by
    injection e2 with e2
    simpa using e2
  subst e2'
  exact ⟨ad, A2, c2, rfl, hab, d1, d2, hC⟩
end Go.Proofs.YtbddmkklkbkliaaGreatDoor

namespace Go.Proofs.YtbddmkklkbkliaaGreatDoor
open Go.RowKit Ar

/-- A number of a list. -/
def nth (l : List Int) (i : Nat) : Int := l.getD i 0
theorem nth_at {l : List Int} {i : Nat} (hi : i < l.length) : l[i]? = some (nth l i) := by
  unfold nth
  rw [List.getD_eq_getElem?_getD, List.getElem?_eq_getElem hi]
  rfl
/-- Number i is a place, above the one ahead of it. -/
def ascI (l : List Int) (i : Nat) : Prop := -1048576 ≤ nth l i ∧ nth l i ≤ 1048576 ∧ (0 < i → nth l (i - 1) < nth l i)
/-- Numbers are places in ascending order, at least two. -/
def ascP (l : List Int) : Prop := 2 ≤ l.length ∧ ∀ i, i < l.length → ascI l i
theorem asc_lt {l : List Int} (h : ascP l) {i : Nat} : ∀ {j : Nat}, i < j → j < l.length → nth l i < nth l j
  | 0, h1, _ => by omega
  | j + 1, h1, h2 => by
    have h3 := (h.2 (j + 1) h2).2.2 (by omega)
    rw [Nat.add_sub_cancel] at h3
    rcases Nat.lt_or_ge i j with h4 | h4
    · exact Int.lt_trans (asc_lt h h4 (by omega)) h3
    · have : i = j := by omega
      subst this
      exact h3
theorem asc_le {l : List Int} (h : ascP l) {i j : Nat} (h1 : i ≤ j) (h2 : j < l.length) : nth l i ≤ nth l j := by
  rcases Nat.lt_or_ge i j with h4 | h4
  · exact Int.le_of_lt (asc_lt h h4 h2)
  · have : i = j := by omega
    subst this
    exact Int.le_refl _
/-- The cell in row j and column i. -/
def recAt (xs ys : List Int) (j i : Nat) : Ce := (rect (nth xs i) (nth xs (i + 1)) (nth ys j) (nth ys (j + 1)), false)
/-- So many cells of the grid. -/
def recN (xs ys : List Int) (k : Nat) : List Ce := (List.range k).map fun k => recAt xs ys (k / (xs.length - 1)) (k % (xs.length - 1))
theorem recN_len (xs ys : List Int) (k : Nat) : (recN xs ys k).length = k := by unfold recN; rw [List.length_map, List.length_range]
theorem recN_step (xs ys : List Int) (j i : Nat) (hi : i < xs.length - 1) : recN xs ys (j * (xs.length - 1) + i + 1) = recN xs ys (j * (xs.length - 1) + i) ++ [recAt xs ys j i] := by
  unfold recN
  rw [List.range_succ, List.map_append]
  have e1 : (j * (xs.length - 1) + i) / (xs.length - 1) = j := by
    rw [Nat.mul_comm, Nat.mul_add_div (by omega), Nat.div_eq_of_lt hi, Nat.add_zero]
  have e2 : (j * (xs.length - 1) + i) % (xs.length - 1) = i := by
    rw [Nat.mul_comm, Nat.mul_add_mod, Nat.mod_eq_of_lt hi]
  simp only [List.map_cons, List.map_nil, e1, e2]
theorem recN_at {xs ys : List Int} {n k : Nat} (h : k < n) : (recN xs ys n)[k]? = some (recAt xs ys (k / (xs.length - 1)) (k % (xs.length - 1))) := by
  unfold recN
  rw [List.getElem?_map, List.getElem?_range h]
  rfl
theorem rec_valid {xs ys : List Int} (hx : ascP xs) (hy : ascP ys) {j i : Nat} (hi : i + 1 < xs.length) (hj : j + 1 < ys.length) : validC (recAt xs ys j i).1 :=
  rect_valid (asc_lt hx (Nat.lt_succ_self i) hi) (asc_lt hy (Nat.lt_succ_self j) hj) (hx.2 i (by omega)).1 (hx.2 _ hi).2.1 (hy.2 j (by omega)).1 (hy.2 _ hj).2.1
/-- Two cells of the grid have nothing in common. -/
theorem rec_apart {xs ys : List Int} (hx : ascP xs) (hy : ascP ys) {j i j' i' : Nat} (hi : i + 1 < xs.length) (hj : j + 1 < ys.length) (hi' : i' + 1 < xs.length) (hj' : j' + 1 < ys.length) (hne : ¬ (j = j' ∧ i = i')) :
    commonQ (recAt xs ys j i).1 (recAt xs ys j' i').1 0 = 0 := by
  unfold commonQ
  rw [if_pos]
  unfold recAt
  rw [rect_box (asc_lt hx (Nat.lt_succ_self i) hi) (asc_lt hy (Nat.lt_succ_self j) hj), rect_box (asc_lt hx (Nat.lt_succ_self i') hi') (asc_lt hy (Nat.lt_succ_self j') hj')]
  unfold apartB shiftB
  simp only [Int.add_zero]
  rcases Nat.lt_trichotomy i i' with h | h | h
  · exact .inl (asc_le hx h (by omega))
  · rcases Nat.lt_trichotomy j j' with h2 | h2 | h2
    · exact .inr (.inr (.inl (asc_le hy h2 (by omega))))
    · exact absurd ⟨h2, h⟩ hne
    · exact .inr (.inr (.inr (asc_le hy h2 (by omega))))
  · exact .inr (.inl (asc_le hx h (by omega)))
/-- Valid cells of which no two have a part in common. -/
def flatG (L : List Ce) : Prop := ∀ (i k : Nat) (x y : Ce), L[i]? = some x → L[k]? = some y → k < i → ¬ 0 < commonQ x.1 y.1 0
theorem recN_ix {xs ys : List Int} {k : Nat} (h2 : 2 ≤ xs.length) (hk : k < (xs.length - 1) * (ys.length - 1)) : k % (xs.length - 1) + 1 < xs.length ∧ k / (xs.length - 1) + 1 < ys.length := by
  have h3 : k % (xs.length - 1) < xs.length - 1 := Nat.mod_lt _ (by omega)
  have h4 : k / (xs.length - 1) < ys.length - 1 := Nat.div_lt_of_lt_mul hk
  exact ⟨Nat.add_lt_of_lt_sub h3, Nat.add_lt_of_lt_sub h4⟩
theorem recs_valid {xs ys : List Int} (hx : ascP xs) (hy : ascP ys) : ∀ x ∈ recN xs ys ((xs.length - 1) * (ys.length - 1)), validC x.1 := fun x h => by
  obtain ⟨k, hk⟩ := List.getElem?_of_mem h
  have hlt : k < (xs.length - 1) * (ys.length - 1) := by
    have := (List.getElem?_eq_some_iff.1 hk).1
    rwa [recN_len] at this
  rw [recN_at hlt] at hk
  injection hk with hk
  subst hk
  obtain ⟨h1, h2⟩ := recN_ix hx.1 hlt
  exact rec_valid hx hy h1 h2
theorem recs_flat {xs ys : List Int} (hx : ascP xs) (hy : ascP ys) : flatG (recN xs ys ((xs.length - 1) * (ys.length - 1))) := fun i k x y hi hk hlt => by
  have hlti : i < (xs.length - 1) * (ys.length - 1) := by
    have := (List.getElem?_eq_some_iff.1 hi).1
    rwa [recN_len] at this
  have hltk : k < (xs.length - 1) * (ys.length - 1) := by omega
  rw [recN_at hlti] at hi
  rw [recN_at hltk] at hk
  injection hi with hi
  injection hk with hk
  subst hi
  subst hk
  obtain ⟨h1, h2⟩ := recN_ix hx.1 hlti
  obtain ⟨h3, h4⟩ := recN_ix hx.1 hltk
  rw [rec_apart hx hy h1 h2 h3 h4]
  · exact fun h => absurd h (by decide)
  · rintro ⟨e1, e2⟩
    have := Nat.div_add_mod i (xs.length - 1)
    have h5 := Nat.div_add_mod k (xs.length - 1)
    rw [← e1, ← e2] at h5
    omega
end Go.Proofs.YtbddmkklkbkliaaGreatDoor

namespace Go.Proofs.YtbddmkklkbkliaaGreatDoor
open Go.RowKit Ar

theorem Bk.two (w : World) (o : Obj) (t : TypeId) (cs : Array Value) : Bk ((w.alloc o).alloc (.cells cs t)) (w.heap.size + 1) t cs := by simpa using Bk.new (w.alloc o) t cs

set_option maxRecDepth 100000 in
set_option maxHeartbeats 3200000 in
/-- More than n cells, or one with more than ten corners. -/
theorem Many_any (L : List Ce) (n : Nat) (v : Value) (w : World) (h : IsCs w w.heap.size v L) (hn : n ≤ 1000) (hL : L.length ≤ maxLen) (z : Bool) (hz : z = true ↔ n < L.length ∨ ∃ x ∈ L, 10 < x.1.length) (hm : ∀ x ∈ L, x.1.length ≤ maxLen) :
    Calls Tryz.prog 37 #[v, .int .i64 n] w fun e w' => Below w.heap.size w w' ∧ e = .returned (.bool z) := by
  obtain ⟨A, c, rfl⟩ := h.form
  have hh := h
  unfold maxLen at hm hL
  have HZ := Lib.hid hz
  clear hz
  by_cases hbig : n < L.length
  · have hzt : z = true := HZ.out.2 (.inl hbig)
    subst hzt
    go_enter Tryz.func37, Tryz.ntmps37
    go_wp2
    go_ret
    exact ⟨Below.refl _ _, rfl⟩
  go_enter Tryz.func37, Tryz.ntmps37
  go_wp2_with fail
  go_loopw [5] (fun i wr => ∃ k : Nat, k ≤ L.length ∧ i = .int .i64 k ∧ (∀ x ∈ L.take k, x.1.length ≤ 10) ∧ Below w.heap.size w wr) (fun i _ => L.length - (intOf i).toNat)
  case atStart => exact ⟨0, Nat.zero_le _, rfl, (fun x h => by simp at h), Below.refl _ _⟩
  case round =>
    obtain ⟨k, hk, rfl, h0, hB⟩ := hrel
    have H0 := Lib.hid h0
    clear h0
    rcases Nat.lt_or_ge k L.length with hlt | hge
    · obtain ⟨ad, A0, c0, rfl, hab, d1, d2, _⟩ := (hh.below hB).at (i := k) (List.getElem?_eq_getElem hlt)
      have hmk := hm _ (List.getElem_mem hlt)
      have HN : Hid (L[k].1.length ≤ 10 → ∀ x ∈ L.take (k + 1), x.1.length ≤ 10) := fun h1 x hx => by
        rw [List.take_add_one, List.getElem?_eq_getElem hlt] at hx
        rcases List.mem_append.1 hx with h2 | h2
        · exact H0.out x h2
        · simp at h2; subst h2; exact h1
      have HY : Hid (10 < L[k].1.length → z = true) := fun h1 => HZ.out.2 (.inr ⟨_, List.getElem_mem hlt, h1⟩)
      generalize L[k] = y at *
      obtain ⟨yl, ym⟩ := y
      simp only at d1 d2 hmk HN HY
      by_cases hl : yl.length ≤ 10
      · have hl' : ¬ (10 : Int) < yl.length := by omega
        have HL := Lib.hid (HN.out hl)
        clear hm HN HY
        go_wp2
        go_roundw
        case rel => exact ⟨k + 1, by omega, by go_num, HL.out, hB⟩
        case measure => simp [intOf]; omega
      · have hl' : (10 : Int) < yl.length := by omega
        have hzt : z = true := HY.out (by omega)
        subst hzt
        clear hm HN HY
        go_wp2
        go_ret
        exact ⟨hB, rfl⟩
    · have hkl : k = L.length := by omega
      subst hkl
      have hzf : z = false := by
        cases hzz : z
        · rfl
        · rcases HZ.out.1 hzz with h | ⟨x, hx, h⟩
          · exact absurd h hbig
          · have := H0.out x (by rw [List.take_length]; exact hx)
            omega
      subst hzf
      clear hm
      go_wp2
      go_ret
      exact ⟨hB, rfl⟩

theorem ok_sane_a : ∀ p ∈ ([(0, 0), (2, 0), (2, 2), (0, 2)] : List Pl), in64 p.1 ∧ in64 p.2 := by unfold in64; decide
theorem ok_sane_b : ∀ p ∈ ([(1, 1), (3, 1), (1, 3)] : List Pl), in64 p.1 ∧ in64 p.2 := by unfold in64; decide

set_option maxRecDepth 100000 in
set_option maxHeartbeats 3200000 in
/-- The laws' sanity check. -/
theorem sane_any (w : World) (he : EnvR w) :
    Calls Tryz.prog 8 #[] w fun e w' => Below w.heap.size w w' ∧ e = .returned (.bool true) := by
  go_enter Tryz.func8, Tryz.ntmps8
  go_wp2_with fail
  have b1 : Below w.heap.size w (w.alloc (.cells #[.int .i64 0, .int .i64 0, .int .i64 2, .int .i64 0, .int .i64 2, .int .i64 2, .int .i64 0, .int .i64 2] 57)) := below_alloc _ _
  have r1 : Rd (w.alloc (.cells #[.int .i64 0, .int .i64 0, .int .i64 2, .int .i64 0, .int .i64 2, .int .i64 2, .int .i64 0, .int .i64 2] 57)) (w.alloc (.cells #[.int .i64 0, .int .i64 0, .int .i64 2, .int .i64 0, .int .i64 2, .int .i64 2, .int .i64 0, .int .i64 2] 57)).heap.size (some ⟨w.heap.size, 0, none⟩) (prow [(0, 0), (2, 0), (2, 2), (0, 2)]) := by
    have := Rd.of_new w (prow [(0, 0), (2, 0), (2, 2), (0, 2)]) 57
    exact this.more (by simp)
  generalize hW1 : (w.alloc (.cells #[.int .i64 0, .int .i64 0, .int .i64 2, .int .i64 0, .int .i64 2, .int .i64 2, .int .i64 0, .int .i64 2] 57)) = w1 at *
  have z1 : w1.heap.size = w.heap.size + 1 := by rw [← hW1]; simp
  have b2 : Below w1.heap.size w1 (w1.alloc (.cells #[.slice (some ⟨w.heap.size, 0, none⟩) 4 4, .bool false] 60)) := below_alloc _ _
  generalize hW2 : w1.alloc (.cells #[.slice (some ⟨w.heap.size, 0, none⟩) 4 4, .bool false] 60) = w2 at *
  have z2 : w2.heap.size = w.heap.size + 1 + 1 := by rw [← hW2]; simp [z1]
  rw [← z2]
  have b3 : Below w2.heap.size w2 (w2.alloc (.cells #[.int .i64 1, .int .i64 1, .int .i64 3, .int .i64 1, .int .i64 1, .int .i64 3] 57)) := below_alloc _ _
  have r3 : Rd (w2.alloc (.cells #[.int .i64 1, .int .i64 1, .int .i64 3, .int .i64 1, .int .i64 1, .int .i64 3] 57)) (w2.alloc (.cells #[.int .i64 1, .int .i64 1, .int .i64 3, .int .i64 1, .int .i64 1, .int .i64 3] 57)).heap.size (some ⟨w2.heap.size, 0, none⟩) (prow [(1, 1), (3, 1), (1, 3)]) := by
    have := Rd.of_new w2 (prow [(1, 1), (3, 1), (1, 3)]) 57
    exact this.more (by simp)
  generalize (w2.alloc (.cells #[.int .i64 1, .int .i64 1, .int .i64 3, .int .i64 1, .int .i64 1, .int .i64 3] 57)) = w3 at *
  have b4 : Below w3.heap.size w3 (w3.alloc (.cells #[.slice (some ⟨w2.heap.size, 0, none⟩) 3 3, .bool false] 60)) := below_alloc _ _
  generalize (w3.alloc (.cells #[.slice (some ⟨w2.heap.size, 0, none⟩) 3 3, .bool false] 60)) = w4 at *
  have B2 := b1.trans (b2.mono b1.size)
  have B3 := B2.trans (b3.mono B2.size)
  have B4 := B3.trans (b4.mono B3.size)
  have ra := ((((r1.below b2).more b2.size).below b3).more b3.size).below b4 |>.more b4.size
  have rb := (r3.below b4).more b4.size
  have C := Common_any _ _ false false _ _ w4 ⟨_, 4, rfl, Nat.le_refl _, by unfold maxLen; decide, ok_sane_a, ra⟩ ⟨_, 3, rfl, Nat.le_refl _, by unfold maxLen; decide, ok_sane_b, rb⟩ (he.next B4) true ⟨fun _ => ⟨sane_a, sane_b⟩, fun _ => rfl⟩
  rw [sane_common] at C
  simp only [if_true, sane_text] at C
  refine C.mono ?_
  rintro e w5 ⟨hb5, rfl⟩
  have B5 := B4.trans (hb5.mono B4.size)
  clear C ra rb r1 r3 b1 b2 b3 b4 B2 B3 B4 hb5 z1 z2 hW1 hW2
  go_wp2
  go_ret
  exact ⟨B5, rfl⟩
end Go.Proofs.YtbddmkklkbkliaaGreatDoor
