/-
  Walks: package regrid: cells, one after the other.
-/
import Derived.Test.YtblopapobmbboaaDoorRegD
namespace Go.Proofs.YtblopapobmbboaaDoor
open Go.RowKit

theorem IsC.more {w : World} {B B' : Nat} {v : Value} {l : List Pl} {m : Bool} (h : IsC w B v l m) (hB : B ≤ B') : IsC w B' v l m := by
  obtain ⟨A, c, e, h1, h2, h3, h4⟩ := h; exact ⟨A, c, e, h1, h2, h3, h4.more hB⟩
theorem IsC.below {w w' : World} {B : Nat} {v : Value} {l : List Pl} {m : Bool} (h : IsC w B v l m) (hb : Below B w w') : IsC w' B v l m := by
  obtain ⟨A, c, e, h1, h2, h3, h4⟩ := h; exact ⟨A, c, e, h1, h2, h3, h4.below hb⟩
theorem IsC.next {w w' : World} {v : Value} {l : List Pl} {m : Bool} (h : IsC w w.heap.size v l m) (hb : Below w.heap.size w w') : IsC w' w'.heap.size v l m := (h.below hb).more hb.size
theorem IsC.drew {w : World} {B : Nat} {v : Value} {l : List Pl} {m : Bool} (h : IsC w B v l m) : IsC w.drew B v l m := h
theorem IsC.form {w : World} {B : Nat} {v : Value} {l : List Pl} {m : Bool} (h : IsC w B v l m) : ∃ A c, v = .agg #[.slice A l.length c, .bool m] := by
  obtain ⟨A, c, e, _⟩ := h; exact ⟨A, c, e⟩

/-- A row of cells of a grid. -/
def crow (S : List (Value × Bool)) : List Value := S.flatMap fun p => [p.1, .bool p.2]
theorem crow_at {l : List (Value × Bool)} {i : Nat} {p : Value × Bool} (h : l[i]? = some p) : (crow l)[2 * i]? = some p.1 ∧ (crow l)[2 * i + 1]? = some (.bool p.2) := by
  induction l generalizing i with
  | nil => simp at h
  | cons q l ih =>
    cases i with
    | zero => simp at h; subst h; exact ⟨rfl, rfl⟩
    | succ i => exact ih (by simpa using h)
theorem Rd.cellAt {w : World} {B : Nat} {A : Option Addr} {l : List (Value × Bool)} (h : Rd w B A (crow l)) {i : Nat} {p : Value × Bool} (hp : l[i]? = some p) :
    ∃ ad, A = some ad ∧ ad.block < B ∧ w.cell? (ad.add (i * 2)) = some p.1 ∧ w.cell? ⟨(ad.add (i * 2)).block, (ad.add (i * 2)).off + 1, none⟩ = some (.bool p.2) := by
  obtain ⟨h1, h2⟩ := crow_at hp
  obtain ⟨ad, e, hb, hc⟩ := h (by intro e; rw [e] at h1; simp at h1)
  exact ⟨ad, e, hb, by rw [Nat.mul_comm]; exact hc _ _ h1, by rw [addr_next, Nat.mul_comm]; exact hc _ _ h2⟩
abbrev Ce := List Pl × Bool
/-- Cells in memory. -/
def IsCs (w : World) (B : Nat) (v : Value) (L : List Ce) : Prop :=
  ∃ A c S, v = .slice A L.length c ∧ L.length ≤ c ∧ S.length = L.length ∧ Rd w B A (crow S) ∧ ∀ (i : Nat) (x : Ce), L[i]? = some x → ∃ u, S[i]? = some (u, x.2) ∧ IsC w B (.agg #[u, .bool x.2]) x.1 x.2
theorem IsCs.more {w : World} {B B' : Nat} {v : Value} {L : List Ce} (h : IsCs w B v L) (hB : B ≤ B') : IsCs w B' v L := by
  obtain ⟨A, c, S, e, h1, h2, h3, h4⟩ := h
  exact ⟨A, c, S, e, h1, h2, h3.more hB, fun i x hx => by obtain ⟨u, k1, k2⟩ := h4 i x hx; exact ⟨u, k1, k2.more hB⟩⟩
theorem IsCs.below {w w' : World} {B : Nat} {v : Value} {L : List Ce} (h : IsCs w B v L) (hb : Below B w w') : IsCs w' B v L := by
  obtain ⟨A, c, S, e, h1, h2, h3, h4⟩ := h
  exact ⟨A, c, S, e, h1, h2, h3.below hb, fun i x hx => by obtain ⟨u, k1, k2⟩ := h4 i x hx; exact ⟨u, k1, k2.below hb⟩⟩
theorem IsCs.next {w w' : World} {v : Value} {L : List Ce} (h : IsCs w w.heap.size v L) (hb : Below w.heap.size w w') : IsCs w' w'.heap.size v L := (h.below hb).more hb.size

set_option maxRecDepth 100000 in
set_option maxHeartbeats 1600000 in
theorem notCell_any (l : List Pl) (m : Bool) (v : Value) (w : World) (h : IsC w w.heap.size v l m) (q : Bool) (hq : q = true ↔ validC l) :
    Calls Tryd.prog 42 #[v] w fun e w' => Below w.heap.size w w' ∧ e = .returned (.bool (!q)) := by
  obtain ⟨A, c, rfl⟩ := h.form
  have P := fun W hb => valid_any l m (.agg #[.slice A l.length c, .bool m]) W (h.next hb) q hq
  clear hq h
  go_enter Tryd.func42, Tryd.ntmps42
  go_wp2_with fail
  refine (P _ (below_alloc _ _)).mono ?_
  rintro e w1 ⟨hb1, rfl⟩
  go_wp2
  go_ret
  exact ⟨(below_alloc _ _).trans (hb1.mono (below_alloc _ _).size), rfl⟩

set_option maxRecDepth 100000 in
set_option maxHeartbeats 1600000 in
theorem indexCell_any (v : Value) (L : List Ce) (w : World) (hm : L.length ≤ 1000000000000) (h : IsCs w w.heap.size v L) :
    Calls Tryd.prog 70 #[v, .func (.func 42) #[] #[]] w fun e w' => Below w.heap.size w w' ∧ ∃ n : Int, e = .returned (.int .i64 n) ∧ (0 ≤ n ↔ ∃ x ∈ L, ¬ validC x.1) := by
  have hh := h
  obtain ⟨A, c, S, rfl, _, _, _, _⟩ := h
  go_enter Tryd.func70, Tryd.ntmps70
  go_wp2_with fail
  go_loopw [8] (fun i wr => ∃ k : Nat, k ≤ L.length ∧ i = .int .i64 k ∧ (∀ x ∈ L.take k, validC x.1) ∧ Below w.heap.size w wr) (fun i _ => L.length - (intOf i).toNat)
  case atStart => exact ⟨0, Nat.zero_le _, rfl, (fun p hp => by simp at hp), Below.refl _ _⟩
  case round =>
    obtain ⟨k, hk, rfl, hall, hB⟩ := hrel
    rcases Nat.lt_or_ge k L.length with hlt | hge
    · obtain ⟨A', c', S', e1, _, _, hr, hx⟩ := hh.below hB
      injection e1 with e1 _ e3
      subst e1
      subst e3
      obtain ⟨u, hu, hC⟩ := hx k _ (List.getElem?_eq_getElem hlt)
      obtain ⟨ad, rfl, hab, d1, d2⟩ := hr.cellAt hu
      obtain ⟨A2, c2, e2⟩ := hC.form
      have e2' : u = .slice A2 L[k].1.length c2 := by
        injection e2 with e2
        simpa using e2
      subst e2'
      have hpm := List.getElem_mem hlt
      have hall' : validC L[k].1 → ∀ x ∈ L.take (k + 1), validC x.1 := fun h0 x hx => by
        rw [List.take_add_one, List.getElem?_eq_getElem hlt] at hx
        rcases List.mem_append.1 hx with h1 | h1
        · exact hall x h1
        · simp at h1; subst h1; exact h0
      have hCC := hC.more hB.size
      clear hx hr hu hC
      generalize L[k] = p at *
      obtain ⟨pl, pm⟩ := p
      simp only at *
      by_cases hok : validC pl
      · have P := notCell_any pl pm _ wr hCC true (by simpa using hok)
        have HN := Lib.hid (hall' hok)
        clear hall' hall hok e2 hCC hpm
        go_wp2_with fail
        refine P.mono ?_
        rintro e w1 ⟨hb1, rfl⟩
        have hB1 := hB.trans (hb1.mono hB.size)
        clear hb1 P hB d1 d2
        go_wp2
        go_roundw
        case rel => exact ⟨k + 1, by omega, by go_num, HN.out, hB1⟩
        case measure => simp [intOf]; omega
      · have P := notCell_any pl pm _ wr hCC false (by simpa using hok)
        have HN : Hid (∃ p ∈ L, ¬ validC p.1) := ⟨_, hpm, hok⟩
        clear hall' hall hok e2 hCC hpm
        go_wp2_with fail
        refine P.mono ?_
        rintro e w1 ⟨hb1, rfl⟩
        have hB1 := hB.trans (hb1.mono hB.size)
        clear hb1 P hB d1 d2
        go_wp2
        go_ret
        exact ⟨hB1, _, rfl, ⟨fun _ => HN.out, fun _ => by omega⟩⟩
    · have hkl : k = L.length := by omega
      subst hkl
      have HN : Hid (∀ x ∈ L, validC x.1) := by rw [List.take_length] at hall; exact hall
      clear hall hge hk
      go_wp2
      go_ret
      exact ⟨hB, _, rfl, ⟨fun hx => absurd hx (by decide), fun ⟨p, hp, hno⟩ => absurd (HN.out p hp) hno⟩⟩

set_option maxHeartbeats 1600000 in
theorem anyNotCell_any (v : Value) (L : List Ce) (w : World) (hm : L.length ≤ 1000000000000) (h : IsCs w w.heap.size v L) (q : Bool) (hq : q = true ↔ ∃ x ∈ L, ¬ validC x.1) :
    Calls Tryd.prog 41 #[v, .func (.func 42) #[] #[]] w fun e w' => Below w.heap.size w w' ∧ e = .returned (.bool q) := by
  have I := indexCell_any v L w hm h
  obtain ⟨A, c, S, rfl, _, _, _, _⟩ := h
  go_enter Tryd.func41, Tryd.ntmps41
  go_wp2_with fail
  refine I.mono ?_
  rintro e w1 ⟨hb1, n, rfl, hn⟩
  have hqq := Lib.hid (hn.trans hq.symm)
  clear hn hq
  go_wp2
  go_ret
  refine ⟨hb1, ret_boolR ?_⟩
  rw [← hqq.out, decide_eq_true_eq]

set_option maxHeartbeats 1600000 in
/-- The first error of cells. -/
theorem cells_any (v : Value) (L : List Ce) (w : World) (hm : L.length ≤ 1000000000000) (h : IsCs w w.heap.size v L) (bad : Bool) (hb : bad = true ↔ ∃ x ∈ L, ¬ validC x.1) :
    Calls Tryd.prog 23 #[v] w fun e w' => Below w.heap.size w w' ∧ e = .returned (.int .i64 (if bad then 80 else 0)) := by
  have I := anyNotCell_any v L w hm h bad hb
  obtain ⟨A, c, S, rfl, _, _, _, _⟩ := h
  clear hb
  cases bad
  · go_enter Tryd.func23, Tryd.ntmps23
    go_wp2_with fail
    refine I.mono ?_
    rintro e w1 ⟨hb1, rfl⟩
    go_wp2
    go_ret
    exact ⟨hb1, rfl⟩
  · go_enter Tryd.func23, Tryd.ntmps23
    go_wp2_with fail
    refine I.mono ?_
    rintro e w1 ⟨hb1, rfl⟩
    go_wp2
    go_ret
    exact ⟨hb1, rfl⟩
end Go.Proofs.YtblopapobmbboaaDoor
