/-
  Walks: package regrid: the places of a cell, one after the other.
-/
import Derived.Test.YtbddmkklkbkliaaGreatDoorRegA
import Derived.LoopTactic
namespace Go.Proofs.YtbddmkklkbkliaaGreatDoor
open Go.RowKit

abbrev Pl := Int × Int
/-- A row of places. -/
def prow (l : List Pl) : List Value := l.flatMap fun p => [.int .i64 p.1, .int .i64 p.2]
theorem prow_len (l : List Pl) : (prow l).length = 2 * l.length := by
  induction l with
  | nil => rfl
  | cons p l ih => show ([Value.int .i64 p.1, .int .i64 p.2] ++ prow l).length = _; rw [List.length_append, ih]; simp; omega
theorem prow_at {l : List Pl} {i : Nat} {p : Pl} (h : l[i]? = some p) : (prow l)[2 * i]? = some (.int .i64 p.1) ∧ (prow l)[2 * i + 1]? = some (.int .i64 p.2) := by
  induction l generalizing i with
  | nil => simp at h
  | cons q l ih =>
    cases i with
    | zero => simp at h; subst h; exact ⟨rfl, rfl⟩
    | succ i => exact ih (by simpa using h)
theorem addr_next (ad : Addr) (m : Nat) : (⟨(ad.add m).block, (ad.add m).off + 1, none⟩ : Addr) = ad.add (m + 1) := by
  unfold Addr.add
  rw [if_neg (Nat.succ_ne_zero m)]
  by_cases h : m = 0
  · subst h; simp
  · simp [h, Nat.add_assoc]
/-- What a list of places gives a walk. -/
theorem Rd.place {w : World} {B : Nat} {A : Option Addr} {l : List Pl} (h : Rd w B A (prow l)) {i : Nat} {p : Pl} (hp : l[i]? = some p) :
    ∃ ad, A = some ad ∧ ad.block < B ∧ w.cell? (ad.add (i * 2)) = some (.int .i64 p.1) ∧ w.cell? ⟨(ad.add (i * 2)).block, (ad.add (i * 2)).off + 1, none⟩ = some (.int .i64 p.2) := by
  obtain ⟨h1, h2⟩ := prow_at hp
  obtain ⟨ad, e, hb, hc⟩ := h (by intro e; rw [e] at h1; simp at h1)
  exact ⟨ad, e, hb, by rw [Nat.mul_comm]; exact hc _ _ h1, by rw [addr_next, Nat.mul_comm]; exact hc _ _ h2⟩

set_option maxRecDepth 100000 in
set_option maxHeartbeats 1600000 in
theorem notPlace_any (p : Pl) (w : World) (h1 : in64 p.1) (h2 : in64 p.2) (q : Bool) (hq : decide (okP p) = q) :
    Calls Tryz.prog 130 #[pv p] w fun e w' => Below w.heap.size w w' ∧ e = .returned (.bool (!q)) := by
  have P := fun W => place_any p W h1 h2 q hq
  obtain ⟨x, y⟩ := p
  unfold pv at *
  clear hq
  go_enter Tryz.func130, Tryz.ntmps130
  go_wp2_with fail
  refine (P _).mono ?_
  rintro e w1 ⟨hb1, rfl⟩
  go_wp2
  go_ret
  exact ⟨(below_alloc _ _).trans (hb1.mono (below_alloc _ _).size), rfl⟩

set_option maxRecDepth 100000 in
set_option maxHeartbeats 1600000 in
theorem indexPlace_any (A : Option Addr) (c : Nat) (l : List Pl) (w : World) (hi : ∀ p ∈ l, in64 p.1 ∧ in64 p.2) (hm : l.length ≤ 1000000000) (h : Rd w w.heap.size A (prow l)) :
    Calls Tryz.prog 156 #[.slice A l.length c, .func (.func 130) #[] #[]] w fun e w' => Below w.heap.size w w' ∧ ∃ n : Int, e = .returned (.int .i64 n) ∧ (0 ≤ n ↔ ∃ p ∈ l, ¬ okP p) := by
  go_enter Tryz.func156, Tryz.ntmps156
  go_wp2_with fail
  go_loopw [8] (fun i wr => ∃ k : Nat, k ≤ l.length ∧ i = .int .i64 k ∧ (∀ p ∈ l.take k, okP p) ∧ Below w.heap.size w wr) (fun i _ => l.length - (intOf i).toNat)
  case atStart => exact ⟨0, Nat.zero_le _, rfl, (fun p hp => by simp at hp), Below.refl _ _⟩
  case round =>
    obtain ⟨k, hk, rfl, hall, hB⟩ := hrel
    rcases Nat.lt_or_ge k l.length with hlt | hge
    · obtain ⟨ad, rfl, hab, d1, d2⟩ := (h.below hB).place (List.getElem?_eq_getElem hlt)
      have hik := hi _ (List.getElem_mem hlt)
      have hpm := List.getElem_mem hlt
      have hall' : okP l[k] → ∀ x ∈ l.take (k + 1), okP x := fun h0 x hx => by
        rw [List.take_add_one, List.getElem?_eq_getElem hlt] at hx
        rcases List.mem_append.1 hx with h1 | h1
        · exact hall x h1
        · simp at h1; subst h1; exact h0
      generalize l[k] = p at *
      by_cases hok : okP p
      · have P := notPlace_any p wr hik.1 hik.2 true (decide_eq_true hok)
        have HN : Hid (∀ x ∈ l.take (k + 1), okP x) := hall' hok
        unfold pv at P
        go_wp2_with fail
        refine P.mono ?_
        rintro e w1 ⟨hb1, rfl⟩
        have hB1 := hB.trans (hb1.mono hB.size)
        clear hb1 P hB d1 d2
        go_wp2
        go_roundw
        case rel => exact ⟨k + 1, by omega, by go_num, HN.out, hB1⟩
        case measure => simp [intOf]; omega
      · have P := notPlace_any p wr hik.1 hik.2 false (decide_eq_false hok)
        have HN : Hid (∃ p ∈ l, ¬ okP p) := ⟨p, hpm, hok⟩
        unfold pv at P
        go_wp2_with fail
        refine P.mono ?_
        rintro e w1 ⟨hb1, rfl⟩
        have hB1 := hB.trans (hb1.mono hB.size)
        clear hb1 P hB d1 d2
        go_wp2
        go_ret
        exact ⟨hB1, _, rfl, ⟨fun _ => HN.out, fun _ => by omega⟩⟩
    · have hkl : k = l.length := by omega
      subst hkl
      have HN : Hid (∀ x ∈ l, okP x) := by rw [List.take_length] at hall; exact hall
      clear hall hge hk
      go_wp2
      go_ret
      exact ⟨hB, _, rfl, ⟨fun hx => absurd hx (by decide), fun ⟨p, hp, hno⟩ => absurd (HN.out p hp) hno⟩⟩

set_option maxHeartbeats 1600000 in
theorem anyNotPlace_any (A : Option Addr) (c : Nat) (l : List Pl) (w : World) (hi : ∀ p ∈ l, in64 p.1 ∧ in64 p.2) (hm : l.length ≤ 1000000000) (h : Rd w w.heap.size A (prow l)) (q : Bool) (hq : q = true ↔ ∃ p ∈ l, ¬ okP p) :
    Calls Tryz.prog 129 #[.slice A l.length c, .func (.func 130) #[] #[]] w fun e w' => Below w.heap.size w w' ∧ e = .returned (.bool q) := by
  go_enter Tryz.func129, Tryz.ntmps129
  go_wp2_with fail
  refine (indexPlace_any A c l w hi hm h).mono ?_
  rintro e w1 ⟨hb1, n, rfl, hn⟩
  have hqq := Lib.hid (hn.trans hq.symm)
  clear hn hq
  go_wp2
  go_ret
  refine ⟨hb1, ret_boolR ?_⟩
  rw [← hqq.out, decide_eq_true_eq]
end Go.Proofs.YtbddmkklkbkliaaGreatDoor
