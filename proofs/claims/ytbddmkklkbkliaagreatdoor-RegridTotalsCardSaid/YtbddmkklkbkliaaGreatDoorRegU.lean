/-
  Walks: package regrid: cells, one after the other.
  Walks: package regrid: the box around a cell.
  Words: polygons in memory; the walk of package regrid's polygon.
-/
import Derived.Test.YtbddmkklkbkliaaGreatDoorRegD
import Derived.Test.YtbddmkklkbkliaaGreatDoorOwnI
import Derived.Deep.RegionHeld3
namespace Go.Proofs.YtbddmkklkbkliaaGreatDoor
open Go.RowKit

theorem IsC.more {w : World} {B B' : Nat} {v : Value} {l : List Pl} {m : Bool} (h : IsC w B v l m) (hB : B ≤ B') : IsC w B' v l m := by
  obtain ⟨A, c, e, h1, h2, h3, h4⟩ := h; exact ⟨A, c, e, h1, h2, h3, h4.more hB⟩
theorem IsC.below {w w' : World} {B : Nat} {v : Value} {l : List Pl} {m : Bool} (h : IsC w B v l m) (hb : Below B w w') : IsC w' B v l m := by
  obtain ⟨A, c, e, h1, h2, h3, h4⟩ := h; exact ⟨A, c, e, h1, h2, h3, h4.below hb⟩
theorem IsC.next {w w' : World} {v : Value} {l : List Pl} {m : Bool} (h : IsC w w.heap.size v l m) (hb : Below w.heap.size w w') : IsC w' w'.heap.size v l m := (h.below hb).more hb.size
theorem IsC.drew {w : World} {B : Nat} {v : Value} {l : List Pl} {m : Bool} (h : IsC w B v l m) : IsC w.drew B v l m := h
theorem IsC.form {w : World} {B : Nat} {v : Value} {l : List Pl} {m : Bool} (h : IsC w B v l m) : ∃ A c, v = .agg #[.slice A l.length c, .bool m] := by
  obtain ⟨A, c, e, _⟩ := h; exact ⟨A, c, e⟩

/-- A row of cells of a grid. -/
def crow (S : List (Value × Bool)) : List Value := S.flatMap fun p => [p.1, .bool p.2]
theorem crow_at {l : List (Value × Bool)} {i : Nat} {p : Value × Bool} (h : l[i]? = some p) : (crow l)[2 * i]? = some p.1 ∧ (crow l)[2 * i + 1]? = some (.bool p.2) := by
  induction l generalizing i with
  | nil => simp at h
  | cons q l ih =>
    cases i with
    | zero => simp at h; subst h; exact ⟨rfl, rfl⟩
    | succ i => exact ih (by simpa using h)
theorem Rd.cellAt {w : World} {B : Nat} {A : Option Addr} {l : List (Value × Bool)} (h : Rd w B A (crow l)) {i : Nat} {p : Value × Bool} (hp : l[i]? = some p) :
    ∃ ad, A = some ad ∧ ad.block < B ∧ w.cell? (ad.add (i * 2)) = some p.1 ∧ w.cell? ⟨(ad.add (i * 2)).block, (ad.add (i * 2)).off + 1, none⟩ = some (.bool p.2) := by
  obtain ⟨h1, h2⟩ := crow_at hp
  obtain ⟨ad, e, hb, hc⟩ := h (by intro e; rw [e] at h1; simp at h1)
  exact ⟨ad, e, hb, by rw [Nat.mul_comm]; exact hc _ _ h1, by rw [addr_next, Nat.mul_comm]; exact hc _ _ h2⟩
abbrev Ce := List Pl × Bool
/-- Cells in memory. -/
def IsCs (w : World) (B : Nat) (v : Value) (L : List Ce) : Prop :=
  ∃ A c S, v = .slice A L.length c ∧ L.length ≤ c ∧ S.length = L.length ∧ Rd w B A (crow S) ∧ ∀ (i : Nat) (x : Ce), L[i]? = some x → ∃ u, S[i]? = some (u, x.2) ∧ IsC w B (.agg #[u, .bool x.2]) x.1 x.2
theorem IsCs.more {w : World} {B B' : Nat} {v : Value} {L : List Ce} (h : IsCs w B v L) (hB : B ≤ B') : IsCs w B' v L := by
  obtain ⟨A, c, S, e, h1, h2, h3, h4⟩ := h
  exact ⟨A, c, S, e, h1, h2, h3.more hB, fun i x hx => by obtain ⟨u, k1, k2⟩ := h4 i x hx; exact ⟨u, k1, k2.more hB⟩⟩
theorem IsCs.below {w w' : World} {B : Nat} {v : Value} {L : List Ce} (h : IsCs w B v L) (hb : Below B w w') : IsCs w' B v L := by
  obtain ⟨A, c, S, e, h1, h2, h3, h4⟩ := h
  exact ⟨A, c, S, e, h1, h2, h3.below hb, fun i x hx => by obtain ⟨u, k1, k2⟩ := h4 i x hx; exact ⟨u, k1, k2.below hb⟩⟩
theorem IsCs.next {w w' : World} {v : Value} {L : List Ce} (h : IsCs w w.heap.size v L) (hb : Below w.heap.size w w') : IsCs w' w'.heap.size v L := (h.below hb).more hb.size

set_option maxRecDepth 100000 in
set_option maxHeartbeats 1600000 in
theorem notCell_any (l : List Pl) (m : Bool) (v : Value) (w : World) (h : IsC w w.heap.size v l m) (q : Bool) (hq : q = true ↔ validC l) :
    Calls Tryz.prog 104 #[v] w fun e w' => Below w.heap.size w w' ∧ e = .returned (.bool (!q)) := by
  obtain ⟨A, c, rfl⟩ := h.form
  have P := fun W hb => valid_any l m (.agg #[.slice A l.length c, .bool m]) W (h.next hb) q hq
  clear hq h
  go_enter Tryz.func104, Tryz.ntmps104
  go_wp2_with fail
  refine (P _ (below_alloc _ _)).mono ?_
  rintro e w1 ⟨hb1, rfl⟩
  go_wp2
  go_ret
  exact ⟨(below_alloc _ _).trans (hb1.mono (below_alloc _ _).size), rfl⟩

set_option maxRecDepth 100000 in
set_option maxHeartbeats 1600000 in
theorem indexCell_any (v : Value) (L : List Ce) (w : World) (hm : L.length ≤ 1000000000000) (h : IsCs w w.heap.size v L) :
    Calls Tryz.prog 128 #[v, .func (.func 104) #[] #[]] w fun e w' => Below w.heap.size w w' ∧ ∃ n : Int, e = .returned (.int .i64 n) ∧ (0 ≤ n ↔ ∃ x ∈ L, ¬ validC x.1) := by
  have hh := h
  obtain ⟨A, c, S, rfl, _, _, _, _⟩ := h
  go_enter Tryz.func128, Tryz.ntmps128
  go_wp2_with fail
  go_loopw [8] (fun i wr => ∃ k : Nat, k ≤ L.length ∧ i = .int .i64 k ∧ (∀ x ∈ L.take k, validC x.1) ∧ Below w.heap.size w wr) (fun i _ => L.length - (intOf i).toNat)
  case atStart => exact ⟨0, Nat.zero_le _, rfl, (fun p hp => by simp at hp), Below.refl _ _⟩
  case round =>
    obtain ⟨k, hk, rfl, hall, hB⟩ := hrel
    rcases Nat.lt_or_ge k L.length with hlt | hge
    · obtain ⟨A', c', S', e1, _, _, hr, hx⟩ := hh.below hB
      injection e1 with e1 _ e3
      subst e1
      subst e3
      obtain ⟨u, hu, hC⟩ := hx k _ (List.getElem?_eq_getElem hlt)
      obtain ⟨ad, rfl, hab, d1, d2⟩ := hr.cellAt hu
      obtain ⟨A2, c2, e2⟩ := hC.form
      have e2' : u = .slice A2 L[k].1.length c2 := by
        injection e2 with e2
        simpa using e2
      subst e2'
      have hpm := List.getElem_mem hlt
      have hall' : validC L[k].1 → ∀ x ∈ L.take (k + 1), validC x.1 := fun h0 x hx => by
        rw [List.take_add_one, List.getElem?_eq_getElem hlt] at hx
        rcases List.mem_append.1 hx with h1 | h1
        · exact hall x h1
        · simp at h1; subst h1; exact h0
      have hCC := hC.more hB.size
      clear hx hr hu hC
      generalize L[k] = p at *
      obtain ⟨pl, pm⟩ := p
      simp only at *
      by_cases hok : validC pl
      · have P := notCell_any pl pm _ wr hCC true (by simpa using hok)
        have HN := Lib.hid (hall' hok)
        clear hall' hall hok e2 hCC hpm
        go_wp2_with fail
        refine P.mono ?_
        rintro e w1 ⟨hb1, rfl⟩
        have hB1 := hB.trans (hb1.mono hB.size)
        clear hb1 P hB d1 d2
        go_wp2
        go_roundw
        case rel => exact ⟨k + 1, by omega, by go_num, HN.out, hB1⟩
        case measure => simp [intOf]; omega
      · have P := notCell_any pl pm _ wr hCC false (by simpa using hok)
        have HN : Hid (∃ p ∈ L, ¬ validC p.1) := ⟨_, hpm, hok⟩
        clear hall' hall hok e2 hCC hpm
        go_wp2_with fail
        refine P.mono ?_
        rintro e w1 ⟨hb1, rfl⟩
        have hB1 := hB.trans (hb1.mono hB.size)
        clear hb1 P hB d1 d2
        go_wp2
        go_ret
        exact ⟨hB1, _, rfl, ⟨fun _ => HN.out, fun _ => by omega⟩⟩
    · have hkl : k = L.length := by omega
      subst hkl
      have HN : Hid (∀ x ∈ L, validC x.1) := by rw [List.take_length] at hall; exact hall
      clear hall hge hk
      go_wp2
      go_ret
      exact ⟨hB, _, rfl, ⟨fun hx => absurd hx (by decide), fun ⟨p, hp, hno⟩ => absurd (HN.out p hp) hno⟩⟩

set_option maxHeartbeats 1600000 in
theorem anyNotCell_any (v : Value) (L : List Ce) (w : World) (hm : L.length ≤ 1000000000000) (h : IsCs w w.heap.size v L) (q : Bool) (hq : q = true ↔ ∃ x ∈ L, ¬ validC x.1) :
    Calls Tryz.prog 103 #[v, .func (.func 104) #[] #[]] w fun e w' => Below w.heap.size w w' ∧ e = .returned (.bool q) := by
  have I := indexCell_any v L w hm h
  obtain ⟨A, c, S, rfl, _, _, _, _⟩ := h
  go_enter Tryz.func103, Tryz.ntmps103
  go_wp2_with fail
  refine I.mono ?_
  rintro e w1 ⟨hb1, n, rfl, hn⟩
  have hqq := Lib.hid (hn.trans hq.symm)
  clear hn hq
  go_wp2
  go_ret
  refine ⟨hb1, ret_boolR ?_⟩
  rw [← hqq.out, decide_eq_true_eq]

set_option maxHeartbeats 1600000 in
/-- The first error of cells. -/
theorem cells_any (v : Value) (L : List Ce) (w : World) (hm : L.length ≤ 1000000000000) (h : IsCs w w.heap.size v L) (bad : Bool) (hb : bad = true ↔ ∃ x ∈ L, ¬ validC x.1) :
    Calls Tryz.prog 60 #[v] w fun e w' => Below w.heap.size w w' ∧ e = .returned (.int .i64 (if bad then 80 else 0)) := by
  have I := anyNotCell_any v L w hm h bad hb
  obtain ⟨A, c, S, rfl, _, _, _, _⟩ := h
  clear hb
  cases bad
  · go_enter Tryz.func60, Tryz.ntmps60
    go_wp2_with fail
    refine I.mono ?_
    rintro e w1 ⟨hb1, rfl⟩
    go_wp2
    go_ret
    exact ⟨hb1, rfl⟩
  · go_enter Tryz.func60, Tryz.ntmps60
    go_wp2_with fail
    refine I.mono ?_
    rintro e w1 ⟨hb1, rfl⟩
    go_wp2
    go_ret
    exact ⟨hb1, rfl⟩
end Go.Proofs.YtbddmkklkbkliaaGreatDoor

namespace Go.Proofs.YtbddmkklkbkliaaGreatDoor
open Go.RowKit

/-- A box. -/
abbrev Bx := Int × Int × Int × Int
def bv (b : Bx) : Value := .agg #[.int .i64 b.1, .int .i64 b.2.1, .int .i64 b.2.2.1, .int .i64 b.2.2.2]
def bstep (b : Bx) (p : Pl) : Bx := (min b.1 p.1, max b.2.1 p.1, min b.2.2.1 p.2, max b.2.2.2 p.2)
def bbox (l : List Pl) : Bx := l.foldl bstep ((cn l 0).1, (cn l 0).1, (cn l 0).2, (cn l 0).2)
def set4 (w : World) (b : Nat) (x y z u : Value) : World := (((w.setCell ⟨b, 0, none⟩ x).setCell ⟨b, 1, none⟩ y).setCell ⟨b, 2, none⟩ z).setCell ⟨b, 3, none⟩ u
theorem set4_bk {w : World} {b : Nat} {T : TypeId} {x y z u x0 y0 z0 u0 : Value} (hb : Bk w b T #[x0, y0, z0, u0]) : Bk (set4 w b x y z u) b T #[x, y, z, u] := by
  have := (((hb.put 0 x).put 1 y).put 2 z).put 3 u
  simpa [set4] using this
theorem set4_below {w w0 : World} {B b : Nat} {x y z u : Value} (h : Below B w0 w) (hb : B ≤ b) : Below B w0 (set4 w b x y z u) := (((h.setCell (by exact hb) x).setCell (by exact hb) y).setCell (by exact hb) z).setCell (by exact hb) u
theorem bk4 {w : World} {b : Nat} {T : TypeId} {x y z u : Value} (h : Bk w b T #[x, y, z, u]) : w.cell? ⟨b, 0, none⟩ = some x ∧ w.cell? ⟨b, 1, none⟩ = some y ∧ w.cell? ⟨b, 2, none⟩ = some z ∧ w.cell? ⟨b, 3, none⟩ = some u := ⟨h.cell 0, h.cell 1, h.cell 2, h.cell 3⟩
theorem bk_far4 {w : World} {b b' : Nat} {T : TypeId} {cs : Array Value} {x y z u : Value} (h : Bk w b T cs) (hne : b ≠ b') : Bk (set4 w b' x y z u) b T cs := (((h.far (by exact hne) x).far (by exact hne) y).far (by exact hne) z).far (by exact hne) u

set_option maxRecDepth 100000 in
set_option maxHeartbeats 3200000 in
theorem around_any (l : List Pl) (m : Bool) (v : Value) (w : World) (h : IsC w w.heap.size v l m) (h0 : 0 < l.length) (hm : l.length ≤ 1000000000) :
    Calls Tryz.prog 106 #[v] w fun e w' => Below w.heap.size w w' ∧ e = .returned (bv (bbox l)) := by
  obtain ⟨A, c, rfl, hc, hcm, hin, hr⟩ := h
  obtain ⟨p0, hp0⟩ : ∃ p, cn l 0 = p := ⟨_, rfl⟩
  obtain ⟨ad, rfl, hab, d1, d2⟩ := hr.place (cn_at (l := l) (i := 0) h0)
  rw [hp0] at d1 d2
  have ea : ad.add (0 * 2) = ad := rfl
  rw [ea] at d1 d2
  have h0' : (0 : Int) < l.length := by omega
  go_enter Tryz.func106, Tryz.ntmps106
  go_wp2_with fail
  refine wp_name (fun W => Below w.heap.size w W ∧ Bk W (w.heap.size + 1) 140 #[.int .i64 0, .int .i64 0, .int .i64 0, .int .i64 0] ∧ Bk W (w.heap.size + 1 + 1 + 1) 140 #[.int .i64 p0.1, .int .i64 p0.1, .int .i64 p0.2, .int .i64 p0.2])
    ⟨(((below_alloc w _).alloc (by simp) _).alloc (by simp; omega) _).alloc (by simp; omega) _, (by simpa using (((Bk.new (w.alloc _) _ _).alloc _).alloc _)), (by simpa using (Bk.new (((w.alloc _).alloc _).alloc _) _ _))⟩ ?_
  rintro W ⟨hB0, k1, k2⟩
  have HP0 : Hid (bbox l = l.foldl bstep (p0.1, p0.1, p0.2, p0.2)) := by show _ = _; unfold bbox; rw [hp0]
  clear d1 d2 ea hp0
  go_loopw [23] (fun x wr => ∃ (k : Nat) (b : Bx), k ≤ l.length ∧ x = .int .i64 k ∧ Hid (b = (l.take k).foldl bstep (p0.1, p0.1, p0.2, p0.2)) ∧ Below w.heap.size w wr ∧ Bk wr (w.heap.size + 1) 140 #[.int .i64 0, .int .i64 0, .int .i64 0, .int .i64 0] ∧ Bk wr (w.heap.size + 1 + 1 + 1) 140 #[.int .i64 b.1, .int .i64 b.2.1, .int .i64 b.2.2.1, .int .i64 b.2.2.2]) (fun x _ => l.length - (intOf x).toNat)
  case atStart => exact ⟨0, (p0.1, p0.1, p0.2, p0.2), Nat.zero_le _, rfl, rfl, hB0, k1, k2⟩
  case round =>
    obtain ⟨k, b, hk, rfl, HB, hB, k1, k2⟩ := hrel
    obtain ⟨b1, b2, b3, b4⟩ := b
    simp only at k2
    rcases Nat.lt_or_ge k l.length with hlt | hge
    · obtain ⟨d1, d2⟩ := (hr.below hB).place' (cn_at (l := l) (i := k) hlt)
      have HB2 : Hid (bstep (b1, b2, b3, b4) (cn l k) = (l.take (k + 1)).foldl bstep (p0.1, p0.1, p0.2, p0.2)) := by
        show _ = _
        rw [List.take_add_one, cn_at hlt, List.foldl_append, ← HB.out]
        rfl
      obtain ⟨g0, g1, g2, g3⟩ := bk4 k2
      have f0 := k2.frozen 0
      have f1 := k2.frozen 1
      have f2 := k2.frozen 2
      have f3 := k2.frozen 3
      have hlt2 := k2.lt
      generalize cn l k = p at *
      obtain ⟨x, y⟩ := p
      simp only at d1 d2
      go_wp2_with fail
      go_roundw
      case rel =>
        have hS : Below w.heap.size w (set4 wr (w.heap.size + 1 + 1 + 1) (.int .i64 (min b1 x)) (.int .i64 (max b2 x)) (.int .i64 (min b3 y)) (.int .i64 (max b4 y))) := set4_below hB (by omega)
        refine ⟨k + 1, (min b1 x, max b2 x, min b3 y, max b4 y), by omega, by go_num, HB2.out, hS.alloc hS.size _, (bk_far4 k1 (by omega)).alloc _, (set4_bk k2).alloc _⟩
      case measure => simp [intOf]; omega
    · have hkl : k = l.length := by omega
      subst hkl
      have HB2 : Hid (bbox l = (b1, b2, b3, b4)) := by show _ = _; rw [HP0.out, HB.out, List.take_length]
      obtain ⟨g0, g1, g2, g3⟩ := bk4 k2
      obtain ⟨i0, i1, i2, i3⟩ := bk4 k1
      have f0 := k1.frozen 0
      have f1 := k1.frozen 1
      have f2 := k1.frozen 2
      have f3 := k1.frozen 3
      have hlt2 := k2.lt
      go_wp2_with fail
      refine bodyPost_ret (v := .agg #[.int .i64 b1, .int .i64 b2, .int .i64 b3, .int .i64 b4]) (by simp [results, Tryz.results106, go_sem, i0, i1, i2, i3]) rfl ?_
      refine ⟨set4_below hB (by omega), ?_⟩
      rw [HB2.out]; rfl

/-- No area in common. -/
def apartB (a b : Bx) : Prop := a.2.1 ≤ b.1 ∨ b.2.1 ≤ a.1 ∨ a.2.2.2 ≤ b.2.2.1 ∨ b.2.2.2 ≤ a.2.2.1
instance (a b : Bx) : Decidable (apartB a b) := by unfold apartB; infer_instance
set_option maxRecDepth 100000 in
set_option maxHeartbeats 1600000 in
theorem apart_any (a b : Bx) (w : World) (q : Bool) (hq : decide (apartB a b) = q) :
    Calls Tryz.prog 107 #[bv a, bv b] w fun e w' => Below w.heap.size w w' ∧ e = .returned (.bool q) := by
  have HQ : Hid (q = true ↔ apartB a b) := by rw [← hq]; exact decide_eq_true_iff
  clear hq
  obtain ⟨a1, a2, a3, a4⟩ := a
  obtain ⟨b1, b2, b3, b4⟩ := b
  unfold bv
  simp only
  go_enter Tryz.func107, Tryz.ntmps107
  go_wp2
  all_goals
    go_ret
    refine ⟨(below_alloc w _).alloc (by simp) _, ?_⟩
    refine ret_boolR ?_
    rw [HQ.out]
    unfold apartB
    grind
end Go.Proofs.YtbddmkklkbkliaaGreatDoor

namespace Go.Proofs.YtbddmkklkbkliaaGreatDoor
open Go.RowKit Ar

abbrev Qp := Rat × Rat
/-- A point's cells. -/
structure Sx where
  b1 : Bool
  n1 : Value
  d1 : Value
  b2 : Bool
  n2 : Value
  d2 : Value
def Sx.cells (s : Sx) : List Value := [.bool s.b1, s.n1, s.d1, .bool s.b2, s.n2, s.d2]
def Sx.val (s : Sx) : Value := .agg #[.bool s.b1, s.n1, s.d1, .bool s.b2, s.n2, s.d2]
def srow (S : List Sx) : List Value := S.flatMap Sx.cells
theorem srow_len (S : List Sx) : (srow S).length = S.length * 6 := by
  induction S with
  | nil => rfl
  | cons s S ih => show (s.cells ++ srow S).length = _; rw [List.length_append, ih]; simp [Sx.cells]; omega
theorem srow_app (S T : List Sx) : srow (S ++ T) = srow S ++ srow T := List.flatMap_append
theorem srow_at {S : List Sx} {i : Nat} {s : Sx} (h : S[i]? = some s) (j : Nat) (hj : j < 6) : (srow S)[i * 6 + j]? = s.cells[j]? := by
  induction S generalizing i with
  | nil => simp at h
  | cons q S ih =>
    have hq : q.cells.length = 6 := rfl
    show (q.cells ++ srow S)[i * 6 + j]? = _
    cases i with
    | zero =>
      simp at h; subst h
      rw [Nat.zero_mul, Nat.zero_add, List.getElem?_append_left (by omega)]
    | succ i =>
      rw [List.getElem?_append_right (by omega), hq, show (i + 1) * 6 + j - 6 = i * 6 + j by omega]
      exact ih (by simpa using h)
/-- Six cells from a place on. -/
def Six (w : World) (p : Addr) (s : Sx) : Prop :=
  w.cell? p = some (.bool s.b1) ∧ w.cell? ⟨p.block, p.off + 1, none⟩ = some s.n1 ∧ w.cell? ⟨p.block, p.off + 2, none⟩ = some s.d1 ∧
    w.cell? ⟨p.block, p.off + 3, none⟩ = some (.bool s.b2) ∧ w.cell? ⟨p.block, p.off + 4, none⟩ = some s.n2 ∧ w.cell? ⟨p.block, p.off + 5, none⟩ = some s.d2
theorem Rd.point {w : World} {B : Nat} {A : Option Addr} {S : List Sx} (h : Rd w B A (srow S)) {i : Nat} {s : Sx} (hs : S[i]? = some s) : ∃ ad, A = some ad ∧ ad.block < B ∧ Six w (ad.add (i * 6)) s := by
  have h0 := srow_at hs 0 (by omega)
  obtain ⟨ad, e, hb, hc⟩ := h (by intro e; rw [e] at h0; simp [Sx.cells] at h0)
  refine ⟨ad, e, hb, hc _ _ h0, ?_, ?_, ?_, ?_, ?_⟩
  · rw [addr_plus ad (i * 6) 0]; exact hc _ _ (srow_at hs 1 (by omega))
  · rw [addr_plus ad (i * 6) 1]; exact hc _ _ (srow_at hs 2 (by omega))
  · rw [addr_plus ad (i * 6) 2]; exact hc _ _ (srow_at hs 3 (by omega))
  · rw [addr_plus ad (i * 6) 3]; exact hc _ _ (srow_at hs 4 (by omega))
  · rw [addr_plus ad (i * 6) 4]; exact hc _ _ (srow_at hs 5 (by omega))

/-- A point in memory. -/
def IsPt (w : World) (B : Nat) (s : Sx) (p : Qp) : Prop := IsF w B (.agg #[.bool s.b1, s.n1, s.d1]) p.1 ∧ IsF w B (.agg #[.bool s.b2, s.n2, s.d2]) p.2
theorem IsPt.kept {w w' : World} {B : Nat} {s : Sx} {p : Qp} (h : IsPt w B s p) (hg : Ints w w') : IsPt w' B s p := ⟨h.1.kept hg, h.2.kept hg⟩
/-- A polygon in memory. -/
def IsPoly (w : World) (B : Nat) (v : Value) (l : List Qp) : Prop :=
  ∃ A c S, v = .slice A l.length c ∧ l.length ≤ c ∧ S.length = l.length ∧ Rd w B A (srow S) ∧ ∀ (i : Nat) (p : Qp), l[i]? = some p → ∃ s, S[i]? = some s ∧ IsPt w B s p
theorem IsPt.more {w : World} {B B' : Nat} {s : Sx} {p : Qp} (h : IsPt w B s p) (hB : B ≤ B') : IsPt w B' s p := ⟨h.1.more hB, h.2.more hB⟩
theorem IsPt.below {w w' : World} {B : Nat} {s : Sx} {p : Qp} (h : IsPt w B s p) (hb : Below B w w') : IsPt w' B s p := ⟨h.1.below hb, h.2.below hb⟩
theorem IsPt.next {w w' : World} {s : Sx} {p : Qp} (h : IsPt w w.heap.size s p) (hb : Below w.heap.size w w') : IsPt w' w'.heap.size s p := (h.below hb).more hb.size
theorem IsPoly.more {w : World} {B B' : Nat} {v : Value} {l : List Qp} (h : IsPoly w B v l) (hB : B ≤ B') : IsPoly w B' v l := by
  obtain ⟨A, c, S, e, h1, h2, h3, h4⟩ := h
  exact ⟨A, c, S, e, h1, h2, h3.more hB, fun i x hx => by obtain ⟨u, k1, k2⟩ := h4 i x hx; exact ⟨u, k1, k2.more hB⟩⟩
theorem IsPoly.below {w w' : World} {B : Nat} {v : Value} {l : List Qp} (h : IsPoly w B v l) (hb : Below B w w') : IsPoly w' B v l := by
  obtain ⟨A, c, S, e, h1, h2, h3, h4⟩ := h
  exact ⟨A, c, S, e, h1, h2, h3.below hb, fun i x hx => by obtain ⟨u, k1, k2⟩ := h4 i x hx; exact ⟨u, k1, k2.below hb⟩⟩
theorem IsPoly.next {w w' : World} {v : Value} {l : List Qp} (h : IsPoly w w.heap.size v l) (hb : Below w.heap.size w w') : IsPoly w' w'.heap.size v l := (h.below hb).more hb.size
/-- A polygon under way: a row of the call's own. -/
def OwnPoly (w : World) (base : Nat) (v : Value) (l : List Qp) : Prop :=
  ∃ S : List Sx, S.length = l.length ∧ w.ownsRow base 146 6 v l.length (srow S) ∧ NoIntB w v.ownBlock ∧ ∀ (i : Nat) (p : Qp), l[i]? = some p → ∃ s, S[i]? = some s ∧ IsPt w w.heap.size s p
theorem OwnPoly.nil (w : World) (base : Nat) : OwnPoly w base (.slice none 0 0) [] := ⟨[], rfl, World.ownsRow_nil _ _ _ _, fun b hb => by simp [Value.ownBlock] at hb, fun i p h => by simp at h⟩
theorem OwnPoly.form {w : World} {base : Nat} {v : Value} {l : List Qp} (h : OwnPoly w base v l) : ∃ A c, v = .slice A l.length c := by
  obtain ⟨S, _, hown, _⟩ := h
  rcases hown.2 with ⟨rfl, e⟩ | ⟨g, cap, cur, rfl, _⟩
  · exact ⟨none, 0, by rw [e]⟩
  · exact ⟨_, _, rfl⟩
theorem OwnPoly.is {w : World} {base : Nat} {v : Value} {l : List Qp} (h : OwnPoly w base v l) : IsPoly w w.heap.size v l := by
  obtain ⟨S, h1, hown, _, h2⟩ := h
  have hrd := hown.2
  obtain ⟨A, c, e, hc⟩ : ∃ A c, v = .slice A l.length c ∧ l.length ≤ c := by
    rcases hrd with ⟨rfl, e⟩ | ⟨g, cap, cur, rfl, _, _, hnc, _⟩
    · exact ⟨none, 0, by rw [e], by omega⟩
    · exact ⟨_, _, rfl, hnc⟩
  subst e
  exact ⟨A, c, S, rfl, hc, h1, Rd.of_own hown, h2⟩
theorem OwnPoly.keep {w w' : World} {base : Nat} {v : Value} {l : List Qp} (h : OwnPoly w base v l) (hb : Below w.heap.size w w') : OwnPoly w' base v l := by
  obtain ⟨S, h1, hown, hni, h2⟩ := h
  refine ⟨S, h1, hown.kept (grown_of_below hb none) ?_, fun b hbk j k i hc => ?_, fun i p hp => ?_⟩
  · cases v.ownBlock with
    | none => exact .inl rfl
    | some g => exact .inr (by simp)
  · have hlt : b < w.heap.size := by
      rcases hown.2 with ⟨rfl, _⟩ | ⟨g, cap, cur, rfl, _, hg, _⟩
      · simp [Value.ownBlock] at hbk
      · have : g = b := by simpa [Value.ownBlock] using hbk
        subst this
        exact (Array.getElem?_eq_some_iff.1 hg).1
    exact hni b hbk j k i ((hb.cell (p := ⟨b, j, none⟩) hlt).symm.trans hc)
  · obtain ⟨s, k1, k2⟩ := h2 i p hp
    exact ⟨s, k1, k2.next hb⟩
theorem OwnPoly.add {w w' : World} {base : Nat} {v v' : Value} {l : List Qp} {p : Qp} {S : List Sx} {s : Sx} (h1 : S.length = l.length) (hni : NoIntB w v.ownBlock) (h2 : ∀ (i : Nat) (p : Qp), l[i]? = some p → ∃ s, S[i]? = some s ∧ IsPt w w.heap.size s p)
    (hs : IsPt w w.heap.size s p) (hown : w'.ownsRow base 146 6 v' (l.length + 1) (srow S ++ s.cells)) (hg : w.grownBy w' v.ownBlock) (hn' : NoIntB w' v'.ownBlock) : OwnPoly w' base v' (l ++ [p]) := by
  have hI := ints_grown hg hni
  refine ⟨S ++ [s], by simp [h1], ?_, hn', fun i q hq => ?_⟩
  · rw [List.length_append, List.length_singleton, srow_app]
    have e : srow [s] = s.cells := by simp [srow]
    rw [e]; exact hown
  · rcases Nat.lt_or_ge i l.length with hi | hi
    · rw [List.getElem?_append_left hi] at hq
      obtain ⟨s', k1, k2⟩ := h2 i q hq
      exact ⟨s', by rw [List.getElem?_append_left (by omega)]; exact k1, (k2.kept hI).more hg.size⟩
    · rw [List.getElem?_append_right hi] at hq
      have hi0 : i - l.length = 0 := by
        rcases Nat.eq_zero_or_pos (i - l.length) with h0 | h0
        · exact h0
        · rw [List.getElem?_eq_none (by simp; omega)] at hq; cases hq
      rw [hi0] at hq
      simp at hq
      subst hq
      exact ⟨s, by rw [List.getElem?_append_right (by omega), h1, hi0]; rfl, (hs.kept hI).more hg.size⟩
end Go.Proofs.YtbddmkklkbkliaaGreatDoor
