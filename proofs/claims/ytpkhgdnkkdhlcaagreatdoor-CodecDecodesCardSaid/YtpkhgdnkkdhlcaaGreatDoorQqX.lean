/-
  Words: the reference's rational numbers in memory. Walks: one, den, Make, Sgn, Opp.
  Walks: the reference's rational numbers: Plus.
  Walks: the reference's rational numbers: Minus, Cmp, IntQ, Whole.
  Walks: the texts of the reference's natural numbers: NatText.
  Walks: the reference's texts of numbers: digits, NatRead, Text.
  Walk: the reference's texts of numbers: NatRead.
  Walks: the reference's Prod, Quot; a number of the reference in a block.
  Walks: the reference's texts of numbers: digits, Long: the number of a text of any length, or none.
-/
import Derived.Test.YtpkhgdnkkdhlcaaGreatDoorQnX
import Derived.Test.YtpkhgdnkkdhlcaaGreatDoorFrX
import Derived.Test.YtpkhgdnkkdhlcaaGreatDoorNsX
import Derived.Laws.IdiomStrings
import Derived.Test.YtpkhgdnkkdhlcaaGreatDoorNumX
import Derived.Deep.CutRange
import Derived.Deep.CutBlock
import Derived.Lib.IndexBytes
namespace Go.Proofs.YtpkhgdnkkdhlcaaGreatDoor
open Go.RowKit Ar

/-- A rational number of the reference in memory: an empty denominator stands for 1. -/
def IsQ (w : World) (B : Nat) (v : Value) (q : Rat) : Prop := ∃ N D d, v = .agg #[.bool (sg q), N, D] ∧ IsN w B .u64 N (nm q) ∧ IsN w B .u64 D d ∧ (d = dn q ∨ (d = 0 ∧ dn q = 1))
section
variable {w w' : World} {B B' : Nat} {v : Value} {q : Rat}
theorem IsQ.more (h : IsQ w B v q) (hB : B ≤ B') : IsQ w B' v q := by
  obtain ⟨N, D, d, e, h1, h2, h3⟩ := h; exact ⟨N, D, d, e, h1.more hB, h2.more hB, h3⟩
theorem IsQ.below (h : IsQ w B v q) (hb : Below B w w') : IsQ w' B v q := by
  obtain ⟨N, D, d, e, h1, h2, h3⟩ := h; exact ⟨N, D, d, e, h1.below hb, h2.below hb, h3⟩
theorem IsQ.next (h : IsQ w w.heap.size v q) (hb : Below w.heap.size w w') : IsQ w' w'.heap.size v q := (h.below hb).more hb.size
theorem IsQ.drew (h : IsQ w w.heap.size v q) : IsQ w.drew w.drew.heap.size v q := h
theorem IsQ.form (h : IsQ w B v q) : ∃ s A l c A' l' c', v = .agg #[.bool s, .slice A l c, .slice A' l' c'] := by
  obtain ⟨N, D, d, e, h1, h2, _⟩ := h
  obtain ⟨A, l, c, rfl⟩ := h1.form
  obtain ⟨A', l', c', rfl⟩ := h2.form
  exact ⟨_, _, _, _, _, _, _, e⟩
theorem IsQ.set3 {b : Nat} (h : IsQ w B v q) {T : TypeId} {f : Bool} {A0 A1 : Option Addr} {l0 l1 c0 c1 : Nat} (hb : Bk w b T #[.bool f, .slice A0 l0 c0, .slice A1 l1 c1]) (x y z : Value) : IsQ (set3 w b x y z) B v q := by
  obtain ⟨N, D, d, e, h1, h2, h3⟩ := h
  exact ⟨N, D, d, e, h1.set3 hb x y z, h2.set3 hb x y z, h3⟩
theorem IsQ.zero (w : World) (B : Nat) : IsQ w B (.agg #[.bool false, .slice none 0 0, .slice none 0 0]) 0 :=
  ⟨_, _, 0, rfl, IsN.nil _ _ _, IsN.nil _ _ _, .inr ⟨rfl, rfl⟩⟩
end

theorem qone_any (w : World) :
    Calls Tryz.prog 92 #[] w fun e w' => Below w.heap.size w w' ∧ ∃ v, e = .returned v ∧ IsN w' w'.heap.size .u64 v 1 := by
  go_enter Tryz.func92, Tryz.ntmps92
  go_wp2_with fail
  refine (natOf_any 1 w (by omega)).mono ?_
  rintro e w1 ⟨hb1, v, rfl, hv⟩
  go_wp2
  go_ret
  exact ⟨hb1, _, rfl, hv⟩

set_option maxRecDepth 100000 in
set_option maxHeartbeats 800000 in
theorem qden_any (q : Rat) (v : Value) (w : World) (h : IsQ w w.heap.size v q) (_ : sz q ≤ 1000000000000) :
    Calls Tryz.prog 99 #[v] w fun e w' => Below w.heap.size w w' ∧ ∃ v, e = .returned v ∧ IsN w' w'.heap.size .u64 v (dn q) := by
  obtain ⟨N, D, d, rfl, hN, hD, hd⟩ := h
  have hD1 := hD
  obtain ⟨A1, l1, c1, rfl⟩ := hN.form
  obtain ⟨A2, c2, rfl, h1, h2⟩ := hD
  rcases hd with hd | ⟨hd0, hd1⟩
  · subst hd
    have hpos := limbs_len_pos (dn_pos q)
    have hlen := sz_dn q
    generalize sg q = s at *
    generalize hgl : (limbs (dn q)).length = l2 at *
    have HD := Lib.hid hD1
    clear hgl hD1 h2 hN
    have hz : ((l2 : Int) == 0) = false := by rw [beq_eq_false_iff_ne]; omega
    go_enter Tryz.func99, Tryz.ntmps99
    go_wp2
    go_ret
    exact ⟨below_alloc w _, _, rfl, HD.out.alloc _⟩
  · subst hd0
    rw [hd1, limbs_zero]
    generalize sg q = s at *
    clear hd1 h1 h2 hD1 hN
    go_enter Tryz.func99, Tryz.ntmps99
    go_wp2_with fail
    refine (qone_any _).mono ?_
    rintro e w1 ⟨hb1, v, rfl, hv⟩
    go_wp2
    go_ret
    exact ⟨(below_alloc w _).trans (hb1.mono (by simp)), _, rfl, hv⟩

set_option maxRecDepth 100000 in
set_option maxHeartbeats 1600000 in
theorem qmake_any (s : Bool) (n d : Nat) (v u : Value) (w : World) (h : IsN w w.heap.size .u64 v n) (h' : IsN w w.heap.size .u64 u d) (hl : (limbs n).length ≤ 400000000000) (hl' : (limbs d).length ≤ 400000000000) :
    Calls Tryz.prog 95 #[.bool s, v, u] w fun e w' => Below w.heap.size w w' ∧ ∃ v, e = .returned v ∧ IsQ w' w'.heap.size v (nr s n d) := by
  have hh := h
  have hh' := h'
  obtain ⟨A, c, rfl, h1, h2⟩ := h
  obtain ⟨A2, c2, rfl, k1, k2⟩ := h'
  have hln : ((limbs n).length = 0) ↔ n = 0 := limbs_len_zero
  have hld : ((limbs d).length = 0) ↔ d = 0 := limbs_len_zero
  by_cases hz : n = 0 ∨ d = 0
  · have hq : nr s n d = 0 := by
      rcases hz with rfl | rfl
      · exact nr_zero _ _
      · unfold nr; exact Rat.mkRat_zero _
    rw [hq]
    have hz' : (limbs n).length = 0 ∨ (limbs d).length = 0 := by
      rcases hz with h | h
      · exact .inl (hln.2 h)
      · exact .inr (hld.2 h)
    clear hq hln hld h2 k2 hh hh' hz h1 k1
    generalize (limbs n).length = ln at *
    generalize (limbs d).length = ld at *
    by_cases h0 : ln = 0
    · subst h0
      go_enter Tryz.func95, Tryz.ntmps95
      go_wp2
      refine bodyPost_ret (v := .agg #[.bool false, .slice none 0 0, .slice none 0 0]) (by simp [results, Tryz.results95, go_sem]) rfl ?_
      exact ⟨below_alloc w _, _, rfl, IsQ.zero _ _⟩
    · have h0' : ld = 0 := by omega
      subst h0'
      have hz : ((ln : Int) == 0) = false := by rw [beq_eq_false_iff_ne]; omega
      go_enter Tryz.func95, Tryz.ntmps95
      go_wp2
      refine bodyPost_ret (v := .agg #[.bool false, .slice none 0 0, .slice none 0 0]) (by simp [results, Tryz.results95, go_sem]) rfl ?_
      exact ⟨below_alloc w _, _, rfl, IsQ.zero _ _⟩
  have hn0 : 0 < n := by omega
  have hd : 0 < d := by omega
  have hS := sg_nr s hd hn0
  have hN := nm_nr s (n := n) hd
  have hD := dn_nr s (n := n) hd
  generalize nr s n d = q at *
  have HI : Hid (∀ (W : World) (B : Nat) (N D : Value), IsN W B .u64 N (n / Nat.gcd n d) → IsN W B .u64 D (d / Nat.gcd n d) → IsQ W B (.agg #[.bool s, N, D]) q) := fun W B N D h1 h2 => ⟨N, D, _, by rw [hS], by rw [hN]; exact h1, h2, .inl hD.symm⟩
  have hg0 : 0 < Nat.gcd n d := Nat.gcd_pos_of_pos_left d hn0
  have HG := Lib.hid hg0
  have hlp1 := limbs_len_pos hn0
  have hlp2 := limbs_len_pos hd
  clear hS hN hD hg0 hz hln hld h2 k2
  generalize hgn : (limbs n).length = ln at *
  generalize hgd : (limbs d).length = ld at *
  have HGN := Lib.hid hgn
  have HGD := Lib.hid hgd
  clear hgn hgd
  have hz1 : ((ln : Int) == 0) = false := by rw [beq_eq_false_iff_ne]; omega
  have hz2 : ((ld : Int) == 0) = false := by rw [beq_eq_false_iff_ne]; omega
  go_enter Tryz.func95, Tryz.ntmps95
  go_wp2_with fail
  refine (ngcd_any n d _ _ _ (hh.next (below_alloc w _)) (hh'.next (below_alloc w _)) (by rw [HGN.out]; exact hl) (by rw [HGD.out]; exact hl')).mono ?_
  rintro e w1 ⟨hb1, g, rfl, hg⟩
  have hk := (Bk.new w 74 #[Value.bool false, .slice none 0 0, .slice none 0 0]).below hb1 (by simp)
  have hb0 : Below w.heap.size w w1 := (below_alloc w _).trans (hb1.mono (by simp))
  have hs1 := hb1.size
  have hlt1 : w.heap.size < w1.heap.size := by simp at hs1; omega
  clear hb1 hs1
  go_wp2_with fail
  refine (ndiv_any n _ _ g w1 HG.out ((hh.below hb0).more (Nat.le_of_lt hlt1)) hg (by rw [HGN.out]; exact hl)).mono ?_
  rintro e w2 ⟨hb2, q1, r1, rfl, hq1, hr1⟩
  obtain ⟨A3, l3, c3, rfl⟩ := hq1.form
  have hb02 := hb0.trans (hb2.mono (Nat.le_of_lt hlt1))
  go_wp2_with fail
  refine (ndiv_any d _ _ g w2 HG.out ((hh'.below hb02).more hb02.size) (hg.next hb2) (by rw [HGD.out]; exact hl')).mono ?_
  rintro e w3 ⟨hb3, q2, r2, rfl, hq2, hr2⟩
  obtain ⟨A4, l4, c4, rfl⟩ := hq2.form
  have hb03 := hb02.trans (hb3.mono hb02.size)
  have hlt3 : w.heap.size < w3.heap.size := Nat.lt_of_lt_of_le hlt1 (Nat.le_trans hb2.size hb3.size)
  have hk3 := (hk.below hb2 hlt1).below hb3 (Nat.lt_of_lt_of_le hlt1 hb2.size)
  have hc0 := hk3.cell 0
  have hc1 := hk3.cell 1
  have hc2 := hk3.cell 2
  have hf0 := hk3.frozen 0
  have hf1 := hk3.frozen 1
  have hf2 := hk3.frozen 2
  simp only [List.getElem?_toArray, List.getElem?_cons_zero, List.getElem?_cons_succ] at hc0 hc1 hc2
  go_wp2
  refine bodyPost_ret (v := .agg #[.bool s, .slice A3 l3 c3, .slice A4 l4 c4]) (by simp [results, Tryz.results95, go_sem, hc0, hc1, hc2]) rfl ?_
  refine ⟨set3_below hb03 (Nat.le_refl _), _, rfl, ?_⟩
  have := (HI.out w3 w3.heap.size _ _ (hq1.next hb3) hq2).set3 hk3 (.bool s) (.slice A3 l3 c3) (.slice A4 l4 c4)
  exact this.more (by rw [show (World.setCell _ _ _) = set3 w3 w.heap.size (.bool s) (.slice A3 l3 c3) (.slice A4 l4 c4) from rfl, set3_size]; exact Nat.le_refl _)

set_option maxRecDepth 100000 in
set_option maxHeartbeats 800000 in
theorem qsgn_any (q : Rat) (v : Value) (w : World) (h : IsQ w w.heap.size v q) (hl : sz q ≤ 1000000000000) :
    Calls Tryz.prog 88 #[v] w fun e w' => Below w.heap.size w w' ∧ e = .returned (.int .i64 (sgQ q)) := by
  obtain ⟨N, D, d, rfl, hN, hD, hd⟩ := h
  obtain ⟨A2, l2, c2, rfl⟩ := hD.form
  obtain ⟨A1, c1, rfl, h1, h2⟩ := hN
  have hlen := sz_nm q
  clear hD hd h2
  by_cases hz : q = 0
  · subst hz
    rw [nm_0, limbs_zero, sg_zero]
    clear h1 hlen
    go_enter Tryz.func88, Tryz.ntmps88
    go_wp2
    go_ret
    exact ⟨below_alloc w _, rfl⟩
  · have hpos : 0 < (limbs (nm q)).length := limbs_len_pos (Nat.pos_of_ne_zero fun h => hz (nm_zero.1 h))
    have hS : sgQ q = if sg q = true then -1 else 1 := by
      unfold sgQ sg
      rw [if_neg hz]
      by_cases h : q < 0 <;> simp [h]
    rw [hS]
    clear hS hz h1
    generalize (limbs (nm q)).length = l1 at *
    have hz1 : ((l1 : Int) == 0) = false := by rw [beq_eq_false_iff_ne]; omega
    cases sg q
    · go_enter Tryz.func88, Tryz.ntmps88
      go_wp2
      go_ret
      exact ⟨below_alloc w _, rfl⟩
    · go_enter Tryz.func88, Tryz.ntmps88
      go_wp2
      go_ret
      exact ⟨below_alloc w _, rfl⟩

set_option maxRecDepth 100000 in
set_option maxHeartbeats 800000 in
theorem qopp_any (p : Rat) (v : Value) (w : World) (h : IsQ w w.heap.size v p) (_ : sz p ≤ 1000000000000) :
    Calls Tryz.prog 53 #[v] w fun e w' => Below w.heap.size w w' ∧ ∃ v, e = .returned v ∧ IsQ w' w'.heap.size v (-p) := by
  obtain ⟨N1, D1, d, rfl, hN1, hD1, hd⟩ := h
  obtain ⟨A2, l2, c2, rfl⟩ := hD1.form
  have hN := hN1
  obtain ⟨A1, c1, rfl, h1, h2⟩ := hN1
  have hs := sg_neg p
  have HI : Hid (∀ (W : World) (B : Nat) (N D : Value) (b : Bool), b = sg (-p) → IsN W B .u64 N (nm p) → IsN W B .u64 D d → IsQ W B (.agg #[.bool b, N, D]) (-p)) := fun W B N D b e1 e2 e3 => ⟨N, D, d, by rw [e1], by rw [nm_neg]; exact e2, e3, by rw [dn_neg]; exact hd⟩
  have hlen := sz_nm p
  have HN := Lib.hid hN
  have hz : decide (nm p ≠ 0) = decide (0 < ((limbs (nm p)).length : Int)) := by
    rw [Bool.eq_iff_iff, decide_eq_true_eq, decide_eq_true_eq, Ne, ← limbs_len_zero]; omega
  rw [hz] at hs
  clear hz hd h1 h2 hN
  generalize (limbs (nm p)).length = l1 at *
  by_cases hs1 : sg p = true
  · rw [hs1] at hs ⊢
    simp only [Bool.not_true, Bool.false_and] at hs
    have HS := Lib.hid hs
    clear hs hs1
    go_enter Tryz.func53, Tryz.ntmps53
    go_wp2
    refine bodyPost_ret (v := .agg #[.bool false, .slice A1 l1 c1, .slice A2 l2 c2]) (by simp [results, Tryz.results53, go_sem]) rfl ?_
    exact ⟨(below_alloc w _).alloc (by simp) _, _, rfl, HI.out _ _ _ _ _ HS.out.symm ((HN.out.next (below_alloc w _)).next (below_alloc _ _)) ((hD1.next (below_alloc w _)).next (below_alloc _ _))⟩
  · have h1' : sg p = false := by simpa using hs1
    rw [h1'] at hs ⊢
    simp only [Bool.not_false, Bool.true_and] at hs
    have HS := Lib.hid hs
    clear hs hs1 h1'
    by_cases hpos : 0 < l1
    · have hpos' : decide (0 < (l1 : Int)) = true := decide_eq_true (by omega)
      have HS' : Hid (true = sg (-p)) := by show _ = _; rw [HS.out, hpos']
      go_enter Tryz.func53, Tryz.ntmps53
      go_wp2
      refine bodyPost_ret (v := .agg #[.bool true, .slice A1 l1 c1, .slice A2 l2 c2]) (by simp [results, Tryz.results53, go_sem]) rfl ?_
      exact ⟨(below_alloc w _).alloc (by simp) _, _, rfl, HI.out _ _ _ _ _ HS'.out ((HN.out.next (below_alloc w _)).next (below_alloc _ _)) ((hD1.next (below_alloc w _)).next (below_alloc _ _))⟩
    · have hpos' : decide (0 < (l1 : Int)) = false := decide_eq_false (by omega)
      have HS' : Hid (false = sg (-p)) := by show _ = _; rw [HS.out, hpos']
      obtain rfl : l1 = 0 := by omega
      clear hpos' hpos
      go_enter Tryz.func53, Tryz.ntmps53
      go_wp2
      refine bodyPost_ret (v := .agg #[.bool false, .slice A1 0 c1, .slice A2 l2 c2]) (by simp [results, Tryz.results53, go_sem]) rfl ?_
      exact ⟨(below_alloc w _).alloc (by simp) _, _, rfl, HI.out _ _ _ _ _ HS'.out ((HN.out.next (below_alloc w _)).next (below_alloc _ _)) ((hD1.next (below_alloc w _)).next (below_alloc _ _))⟩
end Go.Proofs.YtpkhgdnkkdhlcaaGreatDoor

namespace Go.Proofs.YtpkhgdnkkdhlcaaGreatDoor
open Go.RowKit Ar

theorem IsN.drew'' {w : World} {k : IntKind} {v : Value} {n : Nat} (h : IsN w w.heap.size k v n) : IsN w.drew w.drew.heap.size k v n := h
/-- Two operands and the result in blocks of the call's own. -/
structure P2 (w : World) (u1 u2 u3 v1 v2 v3 : Value) (W : World) : Prop where
  below : Below w.heap.size w W
  k1 : Bk W w.heap.size 74 #[u1, u2, u3]
  k2 : Bk W (w.heap.size + 1) 74 #[v1, v2, v3]
  k3 : Bk W (w.heap.size + 1 + 1) 74 #[.bool false, .slice none 0 0, .slice none 0 0]
section
variable {w W W' : World} {u1 u2 u3 v1 v2 v3 : Value}
theorem P2.next (h : P2 w u1 u2 u3 v1 v2 v3 W) (hb : Below W.heap.size W W') : P2 w u1 u2 u3 v1 v2 v3 W' :=
  ⟨h.below.trans (hb.mono h.below.size), h.k1.below hb h.k1.lt, h.k2.below hb h.k2.lt, h.k3.below hb h.k3.lt⟩
theorem P2.drew (h : P2 w u1 u2 u3 v1 v2 v3 W) : P2 w u1 u2 u3 v1 v2 v3 W.drew := ⟨h.below.drew, h.k1.drew, h.k2.drew, h.k3.drew⟩
theorem P2.drewN (h : P2 w u1 u2 u3 v1 v2 v3 W) (n : Nat) : P2 w u1 u2 u3 v1 v2 v3 (W.drewN n) := ⟨below_drewN h.below n, h.k1.drewN n, h.k2.drewN n, h.k3.drewN n⟩
theorem P2.start (w : World) (u1 u2 u3 v1 v2 v3 : Value) : P2 w u1 u2 u3 v1 v2 v3 (((w.alloc (.cells #[u1, u2, u3] 74)).alloc (.cells #[v1, v2, v3] 74)).alloc (.cells #[.bool false, .slice none 0 0, .slice none 0 0] 74)) :=
  ⟨((below_alloc w _).alloc (by simp) _).alloc (by simp; omega) _, ((Bk.new _ _ _).alloc _).alloc _, (by simpa using ((Bk.new (w.alloc _) _ _).alloc _)), (by simpa using (Bk.new ((w.alloc _).alloc _) _ _))⟩
theorem P2.cells (h : P2 w u1 u2 u3 v1 v2 v3 W) : W.cell? ⟨w.heap.size, 0, none⟩ = some u1 ∧ W.cell? ⟨w.heap.size, 1, none⟩ = some u2 ∧ W.cell? ⟨w.heap.size, 2, none⟩ = some u3 ∧
    W.cell? ⟨w.heap.size + 1, 0, none⟩ = some v1 ∧ W.cell? ⟨w.heap.size + 1, 1, none⟩ = some v2 ∧ W.cell? ⟨w.heap.size + 1, 2, none⟩ = some v3 := bk6 h.k1 h.k2
end
/-- The end of a walk that stores its result. -/
theorem IsQ.stored {w W : World} {b : Nat} {s : Bool} {A A' : Option Addr} {l c l' c' : Nat} {q : Rat} (h : IsQ W W.heap.size (.agg #[.bool s, .slice A l c, .slice A' l' c']) q) (hk : Bk W b 74 #[.bool false, .slice none 0 0, .slice none 0 0]) (hb : Below w.heap.size w W) (hw : w.heap.size ≤ b) :
    Below w.heap.size w (((W.setCell ⟨b, 0, none⟩ (.bool s)).setCell ⟨b, 1, none⟩ (.slice A l c)).setCell ⟨b, 2, none⟩ (.slice A' l' c')) ∧
      IsQ (((W.setCell ⟨b, 0, none⟩ (.bool s)).setCell ⟨b, 1, none⟩ (.slice A l c)).setCell ⟨b, 2, none⟩ (.slice A' l' c')) (((W.setCell ⟨b, 0, none⟩ (.bool s)).setCell ⟨b, 1, none⟩ (.slice A l c)).setCell ⟨b, 2, none⟩ (.slice A' l' c')).heap.size (.agg #[.bool s, .slice A l c, .slice A' l' c']) q := by
  refine ⟨set3_below hb hw, ?_⟩
  exact (h.set3 hk (.bool s) (.slice A l c) (.slice A' l' c')).more (by rw [show (World.setCell _ _ _) = Go.Proofs.YtpkhgdnkkdhlcaaGreatDoor.set3 W b (.bool s) (.slice A l c) (.slice A' l' c') from rfl, set3_size]; exact Nat.le_refl _)

set_option maxRecDepth 100000 in
set_option maxHeartbeats 6400000 in
theorem qplus_any (p q : Rat) (v u : Value) (w : World) (h : IsQ w w.heap.size v p) (h' : IsQ w w.heap.size u q) (hl : sz p ≤ 100000000000) (hl' : sz q ≤ 100000000000) :
    Calls Tryz.prog 52 #[v, u] w fun e w' => Below w.heap.size w w' ∧ ∃ v, e = .returned v ∧ IsQ w' w'.heap.size v (p + q) := by
  have hp := h
  have hq := h'
  obtain ⟨N1, D1, d1, rfl, hN1, hD1, _⟩ := h
  obtain ⟨N2, D2, d2, rfl, hN2, hD2, _⟩ := h'
  obtain ⟨A1, l1, c1, rfl⟩ := hN1.form
  obtain ⟨A2, l2, c2, rfl⟩ := hD1.form
  obtain ⟨A3, l3, c3, rfl⟩ := hN2.form
  obtain ⟨A4, l4, c4, rfl⟩ := hD2.form
  have DP : Hid (∀ X, Below w.heap.size w X → Calls Tryz.prog 99 #[.agg #[.bool (sg p), .slice A1 l1 c1, .slice A2 l2 c2]] X fun e w' => Below X.heap.size X w' ∧ ∃ v, e = .returned v ∧ IsN w' w'.heap.size .u64 v (dn p)) := fun X hX => qden_any p _ X (hp.next hX) (by omega)
  have DQ : Hid (∀ X, Below w.heap.size w X → Calls Tryz.prog 99 #[.agg #[.bool (sg q), .slice A3 l3 c3, .slice A4 l4 c4]] X fun e w' => Below X.heap.size X w' ∧ ∃ v, e = .returned v ∧ IsN w' w'.heap.size .u64 v (dn q)) := fun X hX => qden_any q _ X (hq.next hX) (by omega)
  have MA : Hid (∀ X y, Below w.heap.size w X → IsN X X.heap.size .u64 y (dn q) → Calls Tryz.prog 93 #[.slice A1 l1 c1, y] X fun e w' => Below X.heap.size X w' ∧ ∃ v, e = .returned v ∧ IsN w' w'.heap.size .u64 v (nm p * dn q)) := fun X y hX hy => nmul_any _ _ _ _ X (hN1.next hX) hy (by have := sz_nm p; omega) (by have := sz_dn q; omega)
  have MB : Hid (∀ X y, Below w.heap.size w X → IsN X X.heap.size .u64 y (dn p) → Calls Tryz.prog 93 #[.slice A3 l3 c3, y] X fun e w' => Below X.heap.size X w' ∧ ∃ v, e = .returned v ∧ IsN w' w'.heap.size .u64 v (nm q * dn p)) := fun X y hX hy => nmul_any _ _ _ _ X (hN2.next hX) hy (by have := sz_nm q; omega) (by have := sz_dn p; omega)
  have MD : Hid (∀ X y z, IsN X X.heap.size .u64 y (dn p) → IsN X X.heap.size .u64 z (dn q) → Calls Tryz.prog 93 #[y, z] X fun e w' => Below X.heap.size X w' ∧ ∃ v, e = .returned v ∧ IsN w' w'.heap.size .u64 v (dn p * dn q)) := fun X y z hy hz => nmul_any _ _ _ _ X hy hz (by have := sz_dn p; omega) (by have := sz_dn q; omega)
  have hsz1 : (limbs (nm p * dn q)).length ≤ 200000000000 := by have := len_mul_le (nm p) (dn q); have := sz_nm p; have := sz_dn q; omega
  have hsz2 : (limbs (nm q * dn p)).length ≤ 200000000000 := by have := len_mul_le (nm q) (dn p); have := sz_nm q; have := sz_dn p; omega
  have hsz3 : (limbs (dn p * dn q)).length ≤ 400000000000 := by have := len_mul_le (dn p) (dn q); have := sz_dn p; have := sz_dn q; omega
  have R1 := Lib.hid (add_same p q)
  have R2 := Lib.hid (add_ge p q)
  have R3 := Lib.hid (add_lt p q)
  clear hN1 hN2 hD1 hD2 hl hl' hp hq
  generalize sg p = s1 at *
  generalize sg q = s2 at *
  generalize nm p * dn q = x at *
  generalize nm q * dn p = y at *
  generalize dn p * dn q = d at *
  go_enter Tryz.func52, Tryz.ntmps52
  go_wp2_with fail
  refine wp_name (fun W => P2 w (.bool s1) (.slice A1 l1 c1) (.slice A2 l2 c2) (.bool s2) (.slice A3 l3 c3) (.slice A4 l4 c4) W) (P2.start _ _ _ _ _ _ _) ?_
  intro W Z0
  have C0 := Z0.cells
  go_region_held3 (fun w' => w'.cell? ⟨w.heap.size, 0, none⟩ = some (.bool s1) ∧ w'.cell? ⟨w.heap.size, 1, none⟩ = some (.slice A1 l1 c1) ∧ w'.cell? ⟨w.heap.size, 2, none⟩ = some (.slice A2 l2 c2) ∧
      w'.cell? ⟨w.heap.size + 1, 0, none⟩ = some (.bool s2) ∧ w'.cell? ⟨w.heap.size + 1, 1, none⟩ = some (.slice A3 l3 c3) ∧ w'.cell? ⟨w.heap.size + 1, 2, none⟩ = some (.slice A4 l4 c4))
    (first | with_reducible exact Z1.cells | with_reducible exact Z2.cells | with_reducible exact Z3.cells | with_reducible exact Z4.cells | go_keep)
    (first
      | (go_at_call 99; ((with_reducible refine (DQ.out _ Z0.drew.below).mono ?_)); rintro e w1 ⟨hb1, x1, rfl, hx1⟩; have Z1 := Z0.drew.next hb1)
      | (go_at_call 93; ((with_reducible refine (MA.out _ _ Z1.below hx1).mono ?_)); rintro e w2 ⟨hb2, x2, rfl, hx2⟩; have Z2 := Z1.next hb2)
      | (go_at_call 99; ((with_reducible refine (DP.out _ Z2.below).mono ?_)); rintro e w3 ⟨hb3, x3, rfl, hx3⟩; have Z3 := Z2.next hb3)
      | (go_at_call 93; ((with_reducible refine (MB.out _ _ Z3.below hx3).mono ?_)); rintro e w4 ⟨hb4, x4, rfl, hx4⟩; have Z4 := Z3.next hb4))
  have ha4 := (hx2.next hb3).next hb4
  clear hx1 hx2 hx3 hb1 hb2 hb3 hb4 Z0 Z1 Z2 Z3 C0
  have C4 := Z4.cells
  obtain ⟨g0, g1, g2, i0, i1, i2⟩ := C4
  go_wp2_with fail
  go_region_held3 (fun w' => w'.cell? ⟨w.heap.size, 0, none⟩ = some (.bool s1) ∧ w'.cell? ⟨w.heap.size, 1, none⟩ = some (.slice A1 l1 c1) ∧ w'.cell? ⟨w.heap.size, 2, none⟩ = some (.slice A2 l2 c2) ∧
      w'.cell? ⟨w.heap.size + 1, 0, none⟩ = some (.bool s2) ∧ w'.cell? ⟨w.heap.size + 1, 1, none⟩ = some (.slice A3 l3 c3) ∧ w'.cell? ⟨w.heap.size + 1, 2, none⟩ = some (.slice A4 l4 c4))
    (first | with_reducible exact Z5.cells | with_reducible exact Z6.cells | with_reducible exact Z7.cells | go_keep)
    (first
      | (go_at_call 99; ((with_reducible refine (DP.out _ Z4.drew.below).mono ?_)); rintro e w5 ⟨hb5, x5, rfl, hx5⟩; have Z5 := Z4.drew.next hb5)
      | (go_at_call 99; ((with_reducible refine (DQ.out _ Z5.below).mono ?_)); rintro e w6 ⟨hb6, x6, rfl, hx6⟩; have Z6 := Z5.next hb6)
      | (go_at_call 93; ((with_reducible refine (MD.out _ _ _ (hx5.next hb6) hx6).mono ?_)); rintro e w7 ⟨hb7, x7, rfl, hx7⟩; have Z7 := Z6.next hb7))
  have ha7 := ((ha4.drew''.next hb5).next hb6).next hb7
  have hb7' := ((hx4.drew''.next hb5).next hb6).next hb7
  clear hx5 hx6 hb5 hb6 hb7 Z4 Z5 Z6 ha4 hx4 g0 g1 g2 i0 i1 i2 DP DQ MA MB MD
  obtain ⟨g0, g1, g2, i0, i1, i2⟩ := Z7.cells
  have hlt := Z7.k3.lt
  by_cases hs : s1 = s2
  · have hr := Lib.hid (R1.out hs)
    subst hs
    clear R1 R2 R3
    have hsz4 : (limbs (x + y)).length ≤ 400000000000 := by have := len_add_le x y; omega
    go_wp2_with fail
    go_region_held3 (fun w' => w'.cell? ⟨w.heap.size, 0, none⟩ = some (.bool s1)) (first | exact ka5.cell 0 | exact ka6.cell 0 | exact ka9.cell 0 | go_keep)
      (first
        | (go_at_call 100; ((with_reducible refine (nadd_any x y _ _ _ ha7.drew'' hb7'.drew'' (by omega) (by omega)).mono ?_)); rintro e w8 ⟨hb8, x8, rfl, hx8⟩; have Z8 := Z7.drew.next hb8; have ka5 := Z8.k1)
        | (go_at_call 95; ((with_reducible refine (qmake_any _ (x + y) d _ _ _ hx8 (hx7.drew''.next hb8) (by omega) hsz3).mono ?_)); rintro e w9 ⟨hb9, x9, rfl, hx9⟩; have Z9 := Z8.next hb9; have ka6 := Z9.k1; obtain ⟨t5, A5, l5, c5, A6, l6, c6, rfl⟩ := hx9.form; obtain ⟨e0, e1, e2⟩ := bk3 Z9.k3; have f0 := Z9.k3.frozen 0; have f1 := Z9.k3.frozen 1; have f2 := Z9.k3.frozen 2; have ka9 := bk_far3 (b' := w.heap.size + 1 + 1) (x := .bool t5) (y := .slice A5 l5 c5) (z := .slice A6 l6 c6) Z9.k1 (by omega)))
    go_wp2
    refine bodyPost_ret (v := .agg #[.bool t5, .slice A5 l5 c5, .slice A6 l6 c6]) (by simp [results, Tryz.results52, go_sem, e0, e1, e2]) rfl ?_
    have ST := hx9.stored (w := w) Z9.k3 Z9.below (by omega)
    refine ⟨ST.1, _, rfl, ?_⟩
    rw [hr.out]
    exact ST.2
  · have hsb : (s1 == s2) = false := by simpa using hs
    have hcm := ncmp_any x y _ _ w7 ha7 hb7' (by omega)
    by_cases hxy : y ≤ x
    · have hr := Lib.hid (R2.out hs hxy)
      have hz : 0 ≤ cmpN x y := by unfold cmpN; rw [if_neg (by omega)]; split <;> omega
      have hsz4 : (limbs (x - y)).length ≤ 400000000000 := by have := len_mono (Nat.sub_le x y); omega
      have HXY := Lib.hid hxy
      generalize cmpN x y = z at *
      clear R1 R2 R3 hxy hs
      go_wp2_with fail
      refine hcm.mono ?_
      rintro e w8' ⟨rfl, nq, rfl⟩
      clear g0 g1 g2 i0 i1 i2 hcm
      replace ha7 := ha7.drewN nq
      replace hb7' := hb7'.drewN nq
      replace hx7 := hx7.drewN nq
      replace Z7 := Z7.drewN nq
      generalize w7.drewN nq = wc at *
      obtain ⟨g0, g1, g2, i0, i1, i2⟩ := Z7.cells
      have hlt := Z7.k3.lt
      go_wp2_with fail
      go_region_held3 (fun w' => w'.cell? ⟨w.heap.size, 0, none⟩ = some (.bool s1)) (first | exact ka5.cell 0 | exact ka6.cell 0 | exact ka9.cell 0 | go_keep)
        (first
          | (go_at_call 102; ((with_reducible refine (nsub_any x y _ _ _ ha7.drew'' hb7'.drew'' HXY.out (by omega)).mono ?_)); rintro e w8 ⟨hb8, x8, rfl, hx8, _⟩; have Z8 := Z7.drew.next hb8; have ka5 := Z8.k1)
          | (go_at_call 95; ((with_reducible refine (qmake_any _ (x - y) d _ _ _ hx8 (hx7.drew''.next hb8) (by omega) hsz3).mono ?_)); rintro e w9 ⟨hb9, x9, rfl, hx9⟩; have Z9 := Z8.next hb9; have ka6 := Z9.k1; obtain ⟨t5, A5, l5, c5, A6, l6, c6, rfl⟩ := hx9.form; obtain ⟨e0, e1, e2⟩ := bk3 Z9.k3; have f0 := Z9.k3.frozen 0; have f1 := Z9.k3.frozen 1; have f2 := Z9.k3.frozen 2; have ka9 := bk_far3 (b' := w.heap.size + 1 + 1) (x := .bool t5) (y := .slice A5 l5 c5) (z := .slice A6 l6 c6) Z9.k1 (by omega)))
      go_wp2
      refine bodyPost_ret (v := .agg #[.bool t5, .slice A5 l5 c5, .slice A6 l6 c6]) (by simp [results, Tryz.results52, go_sem, e0, e1, e2]) rfl ?_
      have ST := hx9.stored (w := w) Z9.k3 Z9.below (by omega)
      refine ⟨ST.1, _, rfl, ?_⟩
      rw [hr.out]
      exact ST.2

    · have hr := Lib.hid (R3.out hs (by omega))
      have hz : cmpN x y = -1 := cmpN_lt (by omega)
      have hsz4 : (limbs (y - x)).length ≤ 400000000000 := by have := len_mono (Nat.sub_le y x); omega
      have HXY : Hid (x ≤ y) := (show x ≤ y by omega)
      rw [hz] at hcm
      clear R1 R2 R3 hxy hs hz
      go_wp2_with fail
      refine hcm.mono ?_
      rintro e w8' ⟨rfl, nq, rfl⟩
      clear g0 g1 g2 i0 i1 i2 hcm
      replace ha7 := ha7.drewN nq
      replace hb7' := hb7'.drewN nq
      replace hx7 := hx7.drewN nq
      replace Z7 := Z7.drewN nq
      generalize w7.drewN nq = wc at *
      obtain ⟨g0, g1, g2, i0, i1, i2⟩ := Z7.cells
      have hlt := Z7.k3.lt
      go_wp2_with fail
      go_region_held3 (fun w' => w'.cell? ⟨w.heap.size + 1, 0, none⟩ = some (.bool s2)) (first | exact ka5.cell 0 | exact ka6.cell 0 | exact ka9.cell 0 | go_keep)
        (first
          | (go_at_call 102; ((with_reducible refine (nsub_any y x _ _ _ hb7'.drew'' ha7.drew'' HXY.out (by omega)).mono ?_)); rintro e w8 ⟨hb8, x8, rfl, hx8, _⟩; have Z8 := Z7.drew.next hb8; have ka5 := Z8.k2)
          | (go_at_call 95; ((with_reducible refine (qmake_any _ (y - x) d _ _ _ hx8 (hx7.drew''.next hb8) (by omega) hsz3).mono ?_)); rintro e w9 ⟨hb9, x9, rfl, hx9⟩; have Z9 := Z8.next hb9; have ka6 := Z9.k2; obtain ⟨t5, A5, l5, c5, A6, l6, c6, rfl⟩ := hx9.form; obtain ⟨e0, e1, e2⟩ := bk3 Z9.k3; have f0 := Z9.k3.frozen 0; have f1 := Z9.k3.frozen 1; have f2 := Z9.k3.frozen 2; have ka9 := bk_far3 (b' := w.heap.size + 1 + 1) (x := .bool t5) (y := .slice A5 l5 c5) (z := .slice A6 l6 c6) Z9.k2 (by omega)))
      go_wp2
      refine bodyPost_ret (v := .agg #[.bool t5, .slice A5 l5 c5, .slice A6 l6 c6]) (by simp [results, Tryz.results52, go_sem, e0, e1, e2]) rfl ?_
      have ST := hx9.stored (w := w) Z9.k3 Z9.below (by omega)
      refine ⟨ST.1, _, rfl, ?_⟩
      rw [hr.out]
      exact ST.2
end Go.Proofs.YtpkhgdnkkdhlcaaGreatDoor

namespace Go.Proofs.YtpkhgdnkkdhlcaaGreatDoor
open Go.RowKit Ar

set_option maxRecDepth 100000 in
set_option maxHeartbeats 3200000 in
theorem qminus_any (p q : Rat) (v u : Value) (w : World) (h : IsQ w w.heap.size v p) (h' : IsQ w w.heap.size u q) (hl : sz p ≤ 100000000000) (hl' : sz q ≤ 100000000000) :
    Calls Tryz.prog 50 #[v, u] w fun e w' => Below w.heap.size w w' ∧ ∃ v, e = .returned v ∧ IsQ w' w'.heap.size v (p - q) := by
  obtain ⟨s1, A1, l1, c1, A2, l2, c2, rfl⟩ := h.form
  obtain ⟨s2, A3, l3, c3, A4, l4, c4, rfl⟩ := h'.form
  have hR := Lib.hid (Rat.sub_eq_add_neg p q)
  have hl2 : sz (-q) ≤ 100000000000 := by rw [sz_neg]; exact hl'
  go_enter Tryz.func50, Tryz.ntmps50
  go_wp2_with fail
  refine wp_name (fun W => P2 w (.bool s1) (.slice A1 l1 c1) (.slice A2 l2 c2) (.bool s2) (.slice A3 l3 c3) (.slice A4 l4 c4) W) (P2.start _ _ _ _ _ _ _) ?_
  intro W Z0
  obtain ⟨g0, g1, g2, i0, i1, i2⟩ := Z0.cells
  have hlt := Z0.k3.lt
  have hp := (h.next Z0.below).drew
  have hq := (h'.next Z0.below).drew
  go_region_held3 (fun w' => w'.cell? ⟨w.heap.size, 0, none⟩ = some (.bool s1) ∧ w'.cell? ⟨w.heap.size, 1, none⟩ = some (.slice A1 l1 c1) ∧ w'.cell? ⟨w.heap.size, 2, none⟩ = some (.slice A2 l2 c2) ∧
      w'.cell? ⟨w.heap.size + 1, 0, none⟩ = some (.bool s2) ∧ w'.cell? ⟨w.heap.size + 1, 1, none⟩ = some (.slice A3 l3 c3) ∧ w'.cell? ⟨w.heap.size + 1, 2, none⟩ = some (.slice A4 l4 c4))
    (first | with_reducible exact Z1.cells | with_reducible exact Z2.cells | exact bk6 kk1 kk2 | go_keep)
    (first
      | (go_at_call 53; ((with_reducible refine (qopp_any q _ _ hq (by omega)).mono ?_)); rintro e w1 ⟨hb1, x1, rfl, hx1⟩; have Z1 := Z0.drew.next hb1; have hp1 := hp.next hb1)
      | (go_at_call 52; ((with_reducible refine (qplus_any p (-q) _ _ _ hp1 hx1 hl hl2).mono ?_)); rintro e w2 ⟨hb2, x2, rfl, hx2⟩; obtain ⟨t2, A7, l7, c7, A8, l8, c8, rfl⟩ := hx2.form; have Z2 := Z1.next hb2; obtain ⟨d0, d1, d2⟩ := bk3 Z2.k3; have f0 := Z2.k3.frozen 0; have f1 := Z2.k3.frozen 1; have f2 := Z2.k3.frozen 2; have kk1 := bk_far3 (b' := w.heap.size + 1 + 1) (x := .bool t2) (y := .slice A7 l7 c7) (z := .slice A8 l8 c8) Z2.k1 (by omega); have kk2 := bk_far3 (b' := w.heap.size + 1 + 1) (x := .bool t2) (y := .slice A7 l7 c7) (z := .slice A8 l8 c8) Z2.k2 (by omega)))
  go_wp2
  refine bodyPost_ret (v := .agg #[.bool t2, .slice A7 l7 c7, .slice A8 l8 c8]) (by simp [results, Tryz.results50, go_sem, d0, d1, d2]) rfl ?_
  have ST := hx2.stored (w := w) Z2.k3 Z2.below (by omega)
  refine ⟨ST.1, _, rfl, ?_⟩
  rw [hR.out]
  exact ST.2

/-- The sign of a difference. -/
def cmpQ (p q : Rat) : Int := sgQ (p - q)

set_option maxRecDepth 100000 in
set_option maxHeartbeats 1600000 in
theorem qcmp_any (p q : Rat) (v u : Value) (w : World) (h : IsQ w w.heap.size v p) (h' : IsQ w w.heap.size u q) (hl : sz p ≤ 100000000000) (hl' : sz q ≤ 100000000000) :
    Calls Tryz.prog 51 #[v, u] w fun e w' => Below w.heap.size w w' ∧ e = .returned (.int .i64 (cmpQ p q)) := by
  obtain ⟨s1, A1, l1, c1, A2, l2, c2, rfl⟩ := h.form
  obtain ⟨s2, A3, l3, c3, A4, l4, c4, rfl⟩ := h'.form
  have hsz : sz (p - q) ≤ 1000000000000 := by have := sz_sub p q; omega
  go_enter Tryz.func51, Tryz.ntmps51
  go_wp2_with fail
  have hb0 : Below w.heap.size w ((w.alloc (.cells #[.bool s1, .slice A1 l1 c1, .slice A2 l2 c2] 74)).alloc (.cells #[.bool s2, .slice A3 l3 c3, .slice A4 l4 c4] 74)) := (below_alloc w _).alloc (by simp) _
  refine (qminus_any p q _ _ _ (h.next hb0) (h'.next hb0) hl hl').mono ?_
  rintro e w1 ⟨hb1, x1, rfl, hx1⟩
  have hB1 := hb0.trans (hb1.mono hb0.size)
  go_wp2_with fail
  refine (qsgn_any (p - q) _ _ hx1 hsz).mono ?_
  rintro e w2 ⟨hb2, rfl⟩
  go_wp2
  go_ret
  exact ⟨hB1.trans (hb2.mono hB1.size), rfl⟩

set_option maxRecDepth 100000 in
set_option maxHeartbeats 1600000 in
theorem qwhole_any (q : Rat) (v : Value) (w : World) (h : IsQ w w.heap.size v q) (hl : sz q ≤ 1000000000000) :
    Calls Tryz.prog 96 #[v] w fun e w' => Below w.heap.size w w' ∧ e = .returned (.bool (decide (dn q = 1))) := by
  obtain ⟨s1, A1, l1, c1, A2, l2, c2, rfl⟩ := h.form
  have hlen := sz_dn q
  have hc : decide (dn q = 1) = (cmpN (dn q) 1 == 0) := by
    unfold cmpN
    have := dn_pos q
    by_cases h1 : dn q = 1
    · simp [h1]
    · have h2 : ¬ dn q < 1 := by omega
      have h3 : 1 < dn q := by omega
      simp [h1, h2, h3]
  rw [hc]
  clear hc
  go_enter Tryz.func96, Tryz.ntmps96
  go_wp2_with fail
  have hb0 := below_alloc w (.cells #[.bool s1, .slice A1 l1 c1, .slice A2 l2 c2] 74)
  refine (qden_any q _ _ (h.next hb0) hl).mono ?_
  rintro e w1 ⟨hb1, x1, rfl, hx1⟩
  have hB1 := hb0.trans (hb1.mono hb0.size)
  go_wp2_with fail
  refine (qone_any w1).mono ?_
  rintro e w2 ⟨hb2, x2, rfl, hx2⟩
  have hB2 := hB1.trans (hb2.mono hB1.size)
  go_wp2_with fail
  refine (ncmp_any (dn q) 1 _ _ w2 (hx1.next hb2) hx2 (by omega)).mono ?_
  rintro e w3 ⟨rfl, n, rfl⟩
  go_wp2
  go_ret
  exact ⟨below_drewN hB2 n, rfl⟩

set_option maxRecDepth 100000 in
set_option maxHeartbeats 3200000 in
theorem intQ_any (n : Int) (w : World) (hn : -9223372036854775808 ≤ n ∧ n ≤ 9223372036854775807) :
    Calls Tryz.prog 133 #[.int .i64 n] w fun e w' => Below w.heap.size w w' ∧ ∃ v, e = .returned v ∧ IsQ w' w'.heap.size v (n : Rat) := by
  obtain ⟨hn1, hn2⟩ := hn
  have HR := Lib.hid (int_nr n)
  by_cases hs : n < 0
  · obtain ⟨m, rfl⟩ : ∃ m : Nat, n = -((m : Int) + 1) := ⟨n.natAbs - 1, by omega⟩
    have hR : Hid (((-((m : Int) + 1) : Int) : Rat) = nr true (m + 1) 1) := by
      have := HR.out
      rw [decide_eq_true hs, show (-((m : Int) + 1)).natAbs = m + 1 by omega] at this
      exact this
    have e1 : -((m : Int) + 1) + 1 = -(m : Int) := by omega
    have e2 : -(-((m : Int) + 1) + 1) = (m : Int) := by omega
    go_enter Tryz.func133, Tryz.ntmps133
    go_wp2_with fail
    rw [show ((m : Int) + 1) = ((m + 1 : Nat) : Int) by omega]
    refine (natOf_any (m + 1) _ (by omega)).mono ?_
    rintro e w1 ⟨hb1, x1, rfl, hx1⟩
    have hb0 := below_alloc w (.cells #[.bool false, .slice none 0 0, .slice none 0 0] 74)
    have hk0 := Bk.new w 74 #[Value.bool false, .slice none 0 0, .slice none 0 0]
    have hB1 := hb0.trans (hb1.mono hb0.size)
    have hk1 := hk0.below hb1 (by simp)
    go_wp2_with fail
    refine (qone_any w1).mono ?_
    rintro e w2 ⟨hb2, x2, rfl, hx2⟩
    have hB2 := hB1.trans (hb2.mono hB1.size)
    have hk2 := hk1.below hb2 hk1.lt
    go_wp2_with fail
    refine (qmake_any true (m + 1) 1 _ _ w2 (hx1.next hb2) hx2 (Nat.le_trans (limbs_len_le (k := 3) (by have : B ^ 3 = 1000000000000000000000000000 := rfl; omega)) (by omega)) (by rw [limbs_one]; decide)).mono ?_
    rintro e w3 ⟨hb3, x3, rfl, hx3⟩
    have hB3 := hB2.trans (hb3.mono hB2.size)
    have hk3 := hk2.below hb3 hk2.lt
    obtain ⟨t3, A5, l5, c5, A6, l6, c6, rfl⟩ := hx3.form
    obtain ⟨d0, d1, d2⟩ := bk3 hk3
    have f0 := hk3.frozen 0
    have f1 := hk3.frozen 1
    have f2 := hk3.frozen 2
    have hlt := hk3.lt
    clear hk0 hk1 hk2 hb0 hb1 hb2 hb3 hx1 hx2
    go_wp2
    refine bodyPost_ret (v := .agg #[.bool t3, .slice A5 l5 c5, .slice A6 l6 c6]) (by simp [results, Tryz.results133, go_sem, d0, d1, d2]) rfl ?_
    have ST := hx3.stored (w := w) hk3 hB3 (Nat.le_refl _)
    refine ⟨ST.1, _, rfl, ?_⟩
    rw [hR.out]
    exact ST.2
  · obtain ⟨m, rfl⟩ : ∃ m : Nat, n = (m : Int) := ⟨n.toNat, by omega⟩
    have hR : Hid ((((m : Int) : Int) : Rat) = nr false m 1) := by
      have := HR.out
      rw [decide_eq_false hs, show ((m : Int)).natAbs = m by omega] at this
      exact this
    go_enter Tryz.func133, Tryz.ntmps133
    go_wp2_with fail
    refine (natOf_any m _ (by omega)).mono ?_
    rintro e w1 ⟨hb1, x1, rfl, hx1⟩
    have hb0 := below_alloc w (.cells #[.bool false, .slice none 0 0, .slice none 0 0] 74)
    have hk0 := Bk.new w 74 #[Value.bool false, .slice none 0 0, .slice none 0 0]
    have hB1 := hb0.trans (hb1.mono hb0.size)
    have hk1 := hk0.below hb1 (by simp)
    go_wp2_with fail
    refine (qone_any w1).mono ?_
    rintro e w2 ⟨hb2, x2, rfl, hx2⟩
    have hB2 := hB1.trans (hb2.mono hB1.size)
    have hk2 := hk1.below hb2 hk1.lt
    go_wp2_with fail
    refine (qmake_any false m 1 _ _ w2 (hx1.next hb2) hx2 (Nat.le_trans (limbs_len_le (k := 3) (by have : B ^ 3 = 1000000000000000000000000000 := rfl; omega)) (by omega)) (by rw [limbs_one]; decide)).mono ?_
    rintro e w3 ⟨hb3, x3, rfl, hx3⟩
    have hB3 := hB2.trans (hb3.mono hB2.size)
    have hk3 := hk2.below hb3 hk2.lt
    obtain ⟨t3, A5, l5, c5, A6, l6, c6, rfl⟩ := hx3.form
    obtain ⟨d0, d1, d2⟩ := bk3 hk3
    have f0 := hk3.frozen 0
    have f1 := hk3.frozen 1
    have f2 := hk3.frozen 2
    have hlt := hk3.lt
    clear hk0 hk1 hk2 hb0 hb1 hb2 hb3 hx1 hx2
    go_wp2
    refine bodyPost_ret (v := .agg #[.bool t3, .slice A5 l5 c5, .slice A6 l6 c6]) (by simp [results, Tryz.results133, go_sem, d0, d1, d2]) rfl ?_
    have ST := hx3.stored (w := w) hk3 hB3 (Nat.le_refl _)
    refine ⟨ST.1, _, rfl, ?_⟩
    rw [hR.out]
    exact ST.2
end Go.Proofs.YtpkhgdnkkdhlcaaGreatDoor

namespace Go.Proofs.YtpkhgdnkkdhlcaaGreatDoor
open Go.RowKit Ar

/-- Bytes as cells. -/
def by8 (l : List UInt8) : List Value := ints .u8 (l.map UInt8.toNat)
theorem by8_len (l : List UInt8) : (by8 l).length = l.length := by unfold by8; rw [ints_length, List.length_map]
theorem by8_app (l m : List UInt8) : by8 (l ++ m) = by8 l ++ by8 m := by unfold by8; rw [List.map_append, ints_append]
theorem by8_one (l : List UInt8) : ∀ u ∈ by8 l, u.oneCell' = true := ints_one _ _
theorem by8_get {l : List UInt8} {j : Nat} (h : j < l.length) : (by8 l)[j]? = some (.int .u8 ((l[j].toNat : Nat) : Int)) := by
  unfold by8 ints
  rw [List.getElem?_map, List.getElem?_map, List.getElem?_eq_getElem h]; rfl
theorem by8_digit {d : Nat} (h : d < 10) : by8 [Ar.digit d] = [.int .u8 (48 + (d : Int))] := by
  unfold by8 ints
  simp only [List.map_cons, List.map_nil, digit_toNat h]
  simp
theorem Tryz.u8_info : (Tryz.prog.info? 5).map (fun i => (i.zero, i.size, i.bytes)) = some (some (.int .u8 0), 1, 1) := by kernel_rfl
/-- 'make' of bytes, none yet. -/
theorem make0_u8 (n : Nat) (x : Int) (hx : x = (n : Int)) (hn : n ≤ 40000000000000) (w : World) :
    (Instr.makeSlice 25 (.int .i64 0) (.int .i64 x)).run Tryz.prog w = .ok (.slice (some ⟨w.heap.size, 0, none⟩) 0 n) (w.alloc (.cells (ints .u8 (List.replicate n 0)).toArray 5)) := by
  obtain ⟨i0, hi0, hz0, hz1, hz2⟩ := info_parts Tryz.u8_info
  subst hx
  have h1 : (i0.bytes : Int) * (n : Int) ≤ 281474976710656 := by rw [hz2]; omega
  have hr := run_make (P := Tryz.prog) w _ _ i0 (.int .u8 0) Tryz.underlying25 hi0 hz0 .i64 .i64 0 n (by omega) (by omega) h1 (by omega)
  rw [hr, hz1]
  have e1 : madeCells (Value.cells (.int .u8 0)) ((n : Int).toNat * 1) = (ints .u8 (List.replicate n 0)).toArray := by
    apply Array.ext'
    have : Value.cells (.int .u8 0) = #[.int .u8 0] := rfl
    rw [this, toList_madeCells_one]
    simp [ints]
  rw [e1]
  simp
theorem own_made8 (w : World) (n : Nat) (hn : n ≤ 40000000000000) : (w.alloc (.cells (ints .u8 (List.replicate n 0)).toArray 5)).ownsRow w.heap.size 5 1 (.slice (some ⟨w.heap.size, 0, none⟩) 0 n) 0 [] :=
  World.ownsRow_made _ _ _ (Nat.le_refl _) (by unfold maxLen; omega) (by simp [ints_length])
theorem div_ten (x k : Nat) : x / 10 ^ k / 10 = x / 10 ^ (k + 1) := by rw [Nat.div_div_eq_div_mul, ← Nat.pow_succ]

set_option maxRecDepth 100000 in
set_option maxHeartbeats 6400000 in
theorem ntext_any (n : Nat) (v : Value) (w : World) (h : IsN w w.heap.size .u64 v n) (hl : (limbs n).length ≤ 1000000000000) :
    Calls Tryz.prog 153 #[v] w fun e w' => Below w.heap.size w w' ∧ e = .returned (.string ⟨(Lib.decDigits n).toArray⟩) := by
  obtain ⟨A, c, rfl, h1, h3⟩ := h
  rcases Nat.eq_zero_or_pos n with rfl | hn0
  · have e0 : Lib.decDigits 0 = [48] := by rw [decDigits_small (by omega)]; rfl
    rw [e0, limbs_zero]
    clear h1 h3 e0 hl
    go_enter Tryz.func153, Tryz.ntmps153
    go_wp2
    go_ret
    exact ⟨Below.refl _ _, rfl⟩
  obtain ⟨m, xt, hm, hxt⟩ := limbs_top hn0
  have hsm := Small.limbs n
  have hv := val_limbs n
  have HTL : Hid (Lib.decDigits n = Lib.decDigits xt ++ tail9 m) := by
    show _ = _
    rw [hm] at hsm hv
    rw [← hv]
    exact text_limbs hsm hxt
  have hne := decDigits_ne n
  generalize hD : Lib.decDigits n = D at *
  have HD := Lib.hid hD
  clear hD hv
  have hDl : 0 < D.length := List.length_pos_iff.2 hne
  generalize hgl : limbs n = l at *
  have HM := Lib.hid hm
  have hlen : l.length = m.length + 1 := by rw [hm]; simp
  have HLEN := Lib.hid hlen
  have hlpos : 0 < l.length := by omega
  clear hm hgl hne hlen
  obtain ⟨i0, hi0, hz0, hz1, hz2⟩ := info_parts Tryz.u8_info
  have hmk := make0_u8 (9 * l.length) (9 * (l.length : Int)) (by omega) (by omega)
  have hz : ((l.length : Int) == 0) = false := by rw [beq_eq_false_iff_ne]; omega
  go_enter Tryz.func153, Tryz.ntmps153
  go_wp2_with fail
  clear hmk
  go_loopw [3, 18] (fun bv i wr => ∃ (j : Nat) (bs : List UInt8), j ≤ l.length ∧ i = .int .i64 j ∧ bs.length ≤ 9 * j ∧ Hid ((j < l.length → bs = (tail9 (l.take j)).reverse) ∧ (j = l.length → bs = D.reverse)) ∧
      wr.ownsRow w.heap.size 5 1 bv bs.length (by8 bs) ∧ Below w.heap.size w wr) (fun _ i _ => l.length - (intOf i).toNat)
  case atStart => exact ⟨0, [], Nat.zero_le _, rfl, by simp, ⟨fun _ => by simp [tail9], fun h => by omega⟩, own_made8 w _ (by omega), (Below.refl _ _).alloc (Nat.le_refl _) _⟩
  case round =>
    obtain ⟨j, bs, hj, rfl, hbl, HB, hown, hbel⟩ := hrel
    rcases Nat.lt_or_ge j l.length with hlt | hge
    · obtain ⟨ad, rfl, hb, hcell⟩ := (h3.below hbel).int (j := j) hlt
      have hx : l.getD j 0 < 1000000000 := hsm.getD j
      have HBS : Hid (bs = (tail9 (l.take j)).reverse) := HB.out.1 hlt
      have HXA : Hid (j + 1 < l.length → tail9 (l.take (j + 1)) = pad 9 (l.getD j 0) ++ tail9 (l.take j)) := fun h => by
        rw [← tail9_app, List.getD_eq_getElem?_getD, List.getElem?_eq_getElem hlt, List.take_succ_eq_append_getElem hlt]
        rfl
      have HXB : Hid (j + 1 = l.length → l.take j = m ∧ l.getD j 0 = xt) := fun h => by
        have hjm : j = m.length := by have := HLEN.out; omega
        rw [HM.out, hjm, List.take_left, List.getD_eq_getElem?_getD, List.getElem?_append_right (Nat.le_refl _)]
        simp
      generalize l.getD j 0 = x at *
      go_wp2_with fail
      obtain ⟨wo, hwo⟩ : ∃ wo : World, wo = wr := ⟨_, rfl⟩
      subst hwo
      go_loopw [3, 5, 6] (fun bv dv kv wi => ∃ k : Nat, k ≤ 9 ∧ kv = .int .i64 k ∧ dv = .int .u64 ((x / 10 ^ k : Nat) : Int) ∧ Hid (∀ t, t < k → j + 1 < l.length ∨ 0 < x / 10 ^ t) ∧
          wi.ownsRow w.heap.size 5 1 bv (bs.length + k) (by8 (bs ++ (pad k x).reverse)) ∧ Below w.heap.size w wi) (fun _ _ kv _ => 9 - (intOf kv).toNat)
      case atStart => exact ⟨0, by omega, rfl, by simp, (fun t ht => absurd ht (Nat.not_lt_zero _)), by simpa [pad] using hown, hbel⟩
      case round =>
        clear hown hbel
        obtain ⟨k, hk, rfl, rfl, HK, hown, hbel⟩ := hrel
        have hs5 := hbel.size
        have hyx : x / 10 ^ k ≤ x := Nat.div_le_self _ _
        have HDT := Lib.hid (div_ten x k)
        have HPF := Lib.hid (pad_front_rev k x)
        have HPS := Lib.hid (fun (h0 : 0 < x) (hz : x / 10 ^ k = 0) (hp : ∀ j, j < k → 0 < x / 10 ^ j) => pad_stop h0 hz hp)
        generalize hgy : x / 10 ^ k = y at *
        have HGY := Lib.hid hgy
        clear hgy
        have STEP : Hid (∀ (v1 : Value) (w1 : World), w1.ownsRow w.heap.size 5 1 v1 (bs.length + k + 1) (by8 (bs ++ (pad k x).reverse) ++ [.int .u8 (48 + (y : Int) % 10)]) →
            w1.ownsRow w.heap.size 5 1 v1 (bs.length + (k + 1)) (by8 (bs ++ (pad (k + 1) x).reverse))) := fun v1 w1 h => by
          rw [HPF.out, ← List.append_assoc, by8_app (bs ++ _), by8_digit (Nat.mod_lt _ (by omega))]
          simpa [Nat.add_assoc] using h
        rcases Nat.lt_or_ge k 9 with hk9 | hk9
        · rcases Nat.lt_or_ge (j + 1) l.length with hj1 | hj1
          · go_wp2_with (at_builtin; refine wpL_append _ rfl (.tmp 38) (.tmp 43) _ rfl w.heap.size 5 i0 _ 1 1 Tryz.underlying25 hi0 hz0 hz1 hz2 rfl (by omega) _ (bs.length + k) _ rfl (hown.alloc _) (some ⟨wr.heap.size, 0, none⟩) 1 1 [.int .u8 (48 + (y : Int) % 10)] rfl rfl (Rd.of_new wr [.int .u8 (48 + (y : Int) % 10)] 5) (by intro u hu; simp at hu; subst hu; rfl) (by unfold maxLen; omega) (by omega) (by simp; omega) ?_; intro v1 w1 hown1 hg1 hat1)
            go_roundw
            case rel => exact ⟨k + 1, by omega, by go_num, by rw [← HDT.out]; go_num, (fun t _ => .inl hj1), STEP.out _ _ hown1, below_app (hbel.alloc hbel.size _) hg1 (by simp; omega) (hown.alloc _) (Nat.le_refl _)⟩
            case measure => simp [intOf]; omega
          · rcases Nat.eq_zero_or_pos y with hy0 | hy0
            · subst hy0
              go_wp2
              go_roundw
              case rel =>
                obtain ⟨e1, e2⟩ := HXB.out (by omega)
                refine ⟨j + 1, bs ++ (pad k x).reverse, by omega, by go_num, by simp [pad_length]; omega, ⟨fun h => by omega, fun _ => ?_⟩, ?_, hbel⟩
                · rw [HPS.out (by omega) rfl (fun t ht => (HK.out t ht).resolve_left (by omega)), HBS.out, e1, e2, HTL.out, List.reverse_append]
                · simpa [pad_length] using hown
              case measure => simp [intOf]; omega
            · have HK1 : Hid (∀ t, t < k + 1 → j + 1 < l.length ∨ 0 < x / 10 ^ t) := fun t ht => by
                rcases Nat.lt_or_ge t k with h5 | h5
                · exact HK.out t h5
                · right; rw [show t = k by omega, HGY.out]; exact hy0
              go_wp2_with (at_builtin; refine wpL_append _ rfl (.tmp 38) (.tmp 43) _ rfl w.heap.size 5 i0 _ 1 1 Tryz.underlying25 hi0 hz0 hz1 hz2 rfl (by omega) _ (bs.length + k) _ rfl (hown.alloc _) (some ⟨wr.heap.size, 0, none⟩) 1 1 [.int .u8 (48 + (y : Int) % 10)] rfl rfl (Rd.of_new wr [.int .u8 (48 + (y : Int) % 10)] 5) (by intro u hu; simp at hu; subst hu; rfl) (by unfold maxLen; omega) (by omega) (by simp; omega) ?_; intro v1 w1 hown1 hg1 hat1)
              go_roundw
              case rel => exact ⟨k + 1, by omega, by go_num, by rw [← HDT.out]; go_num, HK1.out, STEP.out _ _ hown1, below_app (hbel.alloc hbel.size _) hg1 (by simp; omega) (hown.alloc _) (Nat.le_refl _)⟩
              case measure => simp [intOf]; omega
        · obtain rfl : k = 9 := by omega
          go_wp2
          go_roundw
          case rel =>
            refine ⟨j + 1, bs ++ (pad 9 x).reverse, by omega, by go_num, by simp [pad_length]; omega, ⟨fun h => ?_, fun h => ?_⟩, ?_, hbel⟩
            · rw [HXA.out h, List.reverse_append, HBS.out]
            · obtain ⟨e1, e2⟩ := HXB.out h
              have hy0 : x / 10 ^ 9 = 0 := Nat.div_eq_of_lt (by omega)
              rw [HPS.out (by omega) (by rw [← HGY.out]; exact hy0) (fun t ht => (HK.out t ht).resolve_left (by omega)), HBS.out, e1, e2, HTL.out, List.reverse_append]
            · simpa [pad_length] using hown
          case measure => simp [intOf]; omega
    · obtain rfl : j = l.length := by omega
      have HBD : Hid (bs = D.reverse) := HB.out.2 rfl
      have hbD : bs.length = D.length := by rw [HBD.out, List.length_reverse]
      rw [hbD] at hown hbl
      have hown' : wr.ownsRow w.heap.size 5 1 u3 D.length (by8 D.reverse) := by rw [← HBD.out]; exact hown
      obtain ⟨g, cap, rfl, hg, hcap, hcm⟩ := own_form hown' hDl
      have hrd := Rd.of_own hown'
      have hmk := make0_u8 D.length (D.length : Int) rfl (by omega)
      have hsz := hbel.size
      clear HB hown hbD HBD
      obtain ⟨wo, hwo⟩ : ∃ wo : World, wo = wr := ⟨_, rfl⟩
      subst hwo
      go_wp2_with fail
      have ho0 := own_made8 wo D.length (by omega)
      have hB0 := below_alloc wo (.cells (ints .u8 (List.replicate D.length 0)).toArray 5)
      clear hmk
      go_loopw [7, 8] (fun ov i wi => ∃ r : Nat, r ≤ D.length ∧ i = .int .i64 ((D.length : Int) - r - 1) ∧ wi.ownsRow wo.heap.size 5 1 ov r (by8 (D.take r)) ∧ Below wo.heap.size wo wi) (fun _ i _ => (intOf i + 1).toNat)
      case atStart => exact ⟨0, Nat.zero_le _, by go_num, by simpa [by8, ints] using ho0, hB0⟩
      case round =>
        clear ho0 hB0 hown'
        obtain ⟨r, hr, rfl, hown, hbi⟩ := hrel
        have hsi := hbi.size
        rcases Nat.lt_or_ge r D.length with hlr | hgr
        · obtain ⟨ix, hix⟩ : ∃ ix, ix + r + 1 = D.length := ⟨D.length - r - 1, by omega⟩
          rw [show (D.length : Int) - r - 1 = (ix : Int) by omega]
          have hrev : (by8 D.reverse)[ix]? = some (.int .u8 ((D[r].toNat : Nat) : Int)) := by
            rw [by8_get (by rw [List.length_reverse]; omega), List.getElem_reverse]
            congr 5
            omega
          obtain ⟨ad9, he9, _, hc9⟩ := (hrd.below (hbi.mono (Nat.le_refl _))) (by intro e; rw [e] at hrev; simp at hrev)
          injection he9 with he9
          subst he9
          have hcell := hc9 ix _ hrev
          rw [addr_mk, Nat.zero_add] at hcell
          have hT : Hid (by8 (D.take (r + 1)) = by8 (D.take r) ++ [.int .u8 ((D[r].toNat : Nat) : Int)]) := by
            show _ = _
            rw [List.take_succ_eq_append_getElem hlr, by8_app]
            rfl
          have hi1 : (ix : Int) < D.length := by omega
          clear hc9 hrev
          generalize D[r].toNat = q at *
          have HIX := Lib.hid hix
          clear hix
          go_wp2_with (at_builtin; refine wpL_append _ rfl (.tmp 58) (.tmp 63) _ rfl wo.heap.size 5 i0 _ 1 1 Tryz.underlying25 hi0 hz0 hz1 hz2 rfl (by omega) _ r _ rfl (hown.alloc _) (some ⟨wr.heap.size, 0, none⟩) 1 1 [.int .u8 (q : Int)] rfl rfl (Rd.of_new wr [.int .u8 (q : Int)] 5) (by intro u hu; simp at hu; subst hu; rfl) (by unfold maxLen; omega) (by omega) (by simp; omega) ?_; intro v1 w1 hown1 hg1 hat1)
          go_roundw
          case rel => exact ⟨r + 1, by omega, by have := HIX.out; congr 1; omega, by rw [hT.out]; exact hown1, below_app (hbi.alloc hbi.size _) hg1 (by simp; omega) (hown.alloc _) (Nat.le_refl _)⟩
          case measure => have := HIX.out; simp [intOf]
        · obtain rfl : r = D.length := by omega
          rw [show (D.length : Int) - D.length - 1 = -1 by omega]
          rw [List.take_length] at hown
          obtain ⟨g2, cap2, rfl, hg2, hcap2, hcm2⟩ := own_form hown hDl
          have hcl := hown.cells (g := g2) rfl
          have hcv := run_convert_bytes_back (P := Tryz.prog) wr 25 9 5 ⟨g2, 0, none⟩ cap2 D Tryz.underlying25 Tryz.underlying5 Tryz.underlying9 (fun j hj => hcl j _ (by8_get hj))
          clear hcl hown hrd
          go_wp2
          go_ret
          exact ⟨hbel.trans (hbi.mono hsz), rfl⟩
end Go.Proofs.YtpkhgdnkkdhlcaaGreatDoor

namespace Go.Proofs.YtpkhgdnkkdhlcaaGreatDoor
open Go.RowKit Ar

end Go.Proofs.YtpkhgdnkkdhlcaaGreatDoor

namespace Go.Proofs.YtpkhgdnkkdhlcaaGreatDoor
open Go.RowKit Ar

theorem digs_snoc' {l : List UInt8} {b : UInt8} (h : Digs l) (h1 : ¬ b.toNat < 48) (h2 : ¬ 57 < b.toNat) : Digs (l ++ [b]) := fun c hc => by
  rcases List.mem_append.1 hc with h3 | h3
  · exact h c h3
  · simp at h3; subst h3; omega
theorem take_snoc' (s : ByteArray) (k : Nat) (h : k < s.size) : s.data.toList.take (k + 1) = s.data.toList.take k ++ [s[k]] := by
  rw [List.take_succ_eq_append_getElem (by simpa using h)]; rfl
theorem bytes_at' (s : ByteArray) (k : Nat) (h : k < s.size) : s[k] ∈ s.data.toList := by
  have : s[k] = s.data.toList[k]'(by simpa using h) := rfl
  rw [this]; exact List.getElem_mem _
theorem size_list' (s : ByteArray) : s.data.toList.length = s.size := by rw [Array.length_toList]; rfl

theorem trimmed_isN {w : World} {base n k c : Nat} {A : Option Addr} {T : TypeId} {xs : List Nat} (h : w.ownsRow base T 1 (.slice A n c) n (ints .u64 xs)) (hx : xs.length = n) (hs : Small xs) (hc : n ≤ c) (hT : Trimmed xs k) : IsN w w.heap.size .u64 (.slice A k c) (val xs) := by
  have hk := hT.len hs
  have ht := hT.eq hs
  exact ⟨_, c, by rw [← hk], by rw [← hk]; have := hT.1; omega, by rw [ht, ints_take]; exact (Rd.of_own h).take k⟩
theorem read_digit {S : List UInt8} (hd : Digs S) {a i : Nat} (hi : i < S.length) (ha : a ≤ i) : dval ((S.drop a).take (i + 1 - a)) = 10 * dval ((S.drop a).take (i - a)) + (S[i].toNat - 48) := by
  have e : (S.drop a).take (i + 1 - a) = (S.drop a).take (i - a) ++ [S[i]] := by
    rw [show i + 1 - a = (i - a) + 1 by omega, List.take_succ_eq_append_getElem (by rw [List.length_drop]; omega), List.getElem_drop]
    congr 3
    omega
  have hdd : Digs ((S.drop a).take (i - a) ++ [S[i]]) := by rw [← e]; exact (hd.drop a).take _
  rw [e, dval_snoc hdd]
  omega

set_option maxRecDepth 100000 in
set_option maxHeartbeats 3200000 in
theorem nread_any (s : ByteArray) (w : World) (hs : s.size ≤ 10000000000000) (hd : Digs s.data.toList) :
    Calls Tryz.prog 152 #[.string s] w fun e w' => Below w.heap.size w w' ∧ ∃ v, e = .returned v ∧ IsN w' w'.heap.size .u64 v (dval s.data.toList) := by
  obtain ⟨i0, hi0, hz0, hz1, hz2⟩ := info_parts u64_info
  have HDG := Lib.hid hd
  clear hd
  go_enter Tryz.func152, Tryz.ntmps152
  go_wp2_with fail
  go_loopw [3, 4] (fun out ev wr => ∃ (t : Nat) (xs : List Nat), ev = .int .i64 ((s.size : Int) - 9 * t) ∧ 9 * t ≤ s.size + 8 ∧ xs.length = t ∧ Small xs ∧ Hid (val xs = dval (s.data.toList.drop (s.size - 9 * t))) ∧
      wr.ownsRow w.heap.size 67 1 out t (ints .u64 xs) ∧ Below w.heap.size w wr) (fun _ ev _ => (intOf ev).toNat)
  case atStart => exact ⟨0, [], by go_num, by omega, rfl, Small.nil, by show val [] = _; rw [Nat.mul_zero, Nat.sub_zero, List.drop_of_length_le (by rw [size_list']; exact Nat.le_refl _)]; rfl, World.ownsRow_nil _ _ _ _, Below.refl _ _⟩
  case round =>
    obtain ⟨t, xs, rfl, ht, hxl, hxs, HV, hown, hbel⟩ := hrel
    have hs5 := hbel.size
    rcases Nat.lt_or_ge (9 * t) s.size with hlt | hge
    · obtain ⟨E, hE⟩ : ∃ E, E + 9 * t = s.size := ⟨s.size - 9 * t, by omega⟩
      have hE0 : 0 < E := by omega
      have hEs : E ≤ s.size := by omega
      rw [show (s.size : Int) - 9 * t = (E : Int) by omega]
      obtain ⟨a, ha⟩ : ∃ a, a = E - 9 := ⟨_, rfl⟩
      have ha1 : a < E := by omega
      have ha2 : E ≤ a + 9 := by omega
      have STEP : Hid (∀ d : Nat, d = dval ((s.data.toList.drop a).take (E - a)) → Small (xs ++ [d]) ∧ val (xs ++ [d]) = dval (s.data.toList.drop (s.size - 9 * (t + 1)))) := fun d e => by
        have hlen : ((s.data.toList.drop a).take (E - a)).length = E - a := by rw [List.length_take, List.length_drop, size_list']; omega
        have hb : d < B := by
          have h1 := dval_lt ((HDG.out.drop a).take (E - a))
          rw [hlen] at h1
          have h2 : 10 ^ (E - a) ≤ 10 ^ 9 := Nat.pow_le_pow_right (by omega) (by omega)
          have h3 : (10 : Nat) ^ 9 = B := rfl
          omega
        refine ⟨hxs.append (Small.cons hb Small.nil), ?_⟩
        rw [val_snoc, hxl, HV.out, show s.size - 9 * (t + 1) = a by omega, dval_part HDG.out (a := a) (e := E) (by omega), size_list', show s.size - E = 9 * t by omega, ten_nine, e, show s.size - 9 * t = E by omega]
        rw [Nat.mul_comm, Nat.add_comm]
      have HE := Lib.hid hE
      have HDB : Hid (∀ i, i ≤ E → dval ((s.data.toList.drop a).take (i - a)) < 1000000000) := fun i hi => by
        have h1 := dval_lt ((HDG.out.drop a).take (i - a))
        have h2 : 10 ^ ((s.data.toList.drop a).take (i - a)).length ≤ 10 ^ 9 := Nat.pow_le_pow_right (by omega) (by rw [List.length_take]; omega)
        have h3 : (10 : Nat) ^ 9 = 1000000000 := rfl
        omega
      have HAE := Lib.hid ha
      clear ha hE
      by_cases h9 : 9 ≤ E
      all_goals
        go_wp2_with fail
        go_loop [5, 6] (fun dv iv => ∃ i dd : Nat, a ≤ i ∧ i ≤ E ∧ iv = .int .i64 i ∧ dv = .int .u64 dd ∧ dd < 1000000000 ∧ Hid (dd = dval ((s.data.toList.drop a).take (i - a)))) (fun _ iv => E - (intOf iv).toNat)
        case atStart => exact ⟨a, 0, Nat.le_refl _, by omega, by have := HAE.out; congr 1; omega, rfl, by omega, by show 0 = _; rw [Nat.sub_self, List.take_zero]; rfl⟩
        case round =>
          obtain ⟨i, dd, hi1, hi2, rfl, rfl, hdd, HDD⟩ := hrel
          rcases Nat.lt_or_ge i E with hiE | hiE
          · have his : i < s.size := by omega
            have hbt := HDG.out _ (bytes_at' s i his)
            have hb1 := hbt.1
            have hb2 := hbt.2
            have HN : Hid (10 * dd + (s[i].toNat - 48) = dval ((s.data.toList.drop a).take (i + 1 - a)) ∧ 10 * dd + (s[i].toNat - 48) < 1000000000) := by
              have e := read_digit HDG.out (a := a) (i := i) (by rw [size_list']; exact his) hi1
              have e2 : s.data.toList[i]'(by rw [size_list']; exact his) = s[i] := rfl
              rw [e2, ← HDD.out] at e
              have := HDB.out (i + 1) hiE
              rw [e] at this
              exact ⟨e.symm, this⟩
            clear hbt
            go_wp2
            go_round
            case rel => exact ⟨i + 1, 10 * dd + (s[i].toNat - 48), by omega, by omega, by go_num, by congr 1; omega, HN.out.2, HN.out.1⟩
            case measure => simp [intOf]; omega
          · obtain rfl : i = E := by omega
            go_wp2_with (at_builtin; refine wpL_append _ rfl (.tmp 29) (.tmp 31) _ rfl w.heap.size 67 i0 _ 1 8 Tryz.underlying72 hi0 hz0 hz1 hz2 rfl (by omega) _ t (ints .u64 xs) rfl (hown.alloc _) (some ⟨wr.heap.size, 0, none⟩) 1 1 [.int .u64 (dd : Int)] rfl rfl (Rd.of_new wr [.int .u64 (dd : Int)] 67) (by intro u hu; simp at hu; subst hu; rfl) (by unfold maxLen; omega) (by omega) (by simp; omega) ?_; intro v1 w1 hown1 hg1 hat1)
            go_roundw
            case rel =>
              obtain ⟨e1, e2⟩ := STEP.out dd HDD.out
              have hEE := HE.out
              refine ⟨t + 1, xs ++ [dd], by congr 1; omega, by omega, by simp [hxl], e1, e2, ?_, below_app (hbel.alloc hbel.size _) hg1 (by simp; omega) (hown.alloc _) (Nat.le_refl _)⟩
              have e : ints .u64 (xs ++ [dd]) = ints .u64 xs ++ [.int .u64 (dd : Int)] := by simp [ints]
              rw [e]; exact hown1
            case measure => have hEE := HE.out; simp [intOf]; omega
    · have hneg : ¬ (0 : Int) < (s.size : Int) - 9 * t := by omega
      have HV2 : Hid (val xs = dval s.data.toList) := by
        have := HV.out
        rw [show s.size - 9 * t = 0 by omega, List.drop_zero] at this
        exact this
      obtain ⟨A9, c9, rfl, hc9⟩ := own_slice0 hown
      have hrd := Rd.of_own hown
      generalize (s.size : Int) - 9 * t = ee at *
      go_wp2_with fail
      refine (qtrim_any A9 c9 t xs wr hxl hc9 (by omega) hrd).mono ?_
      rintro e w2 ⟨rfl, k, hT, rfl⟩
      have HO := trimmed_isN hown hxl hxs hc9 hT
      rw [HV2.out] at HO
      clear hT
      go_wp2
      go_ret
      exact ⟨hbel, _, rfl, HO⟩
end Go.Proofs.YtpkhgdnkkdhlcaaGreatDoor

namespace Go.Proofs.YtpkhgdnkkdhlcaaGreatDoor
open Go.RowKit Ar

theorem quot_nr (p q : Rat) : p / q = nr (sg p != sg q) (nm p * dn q) (dn p * nm q) := by
  by_cases h : q = 0
  · subst h
    rw [Rat.div_def, Rat.inv_zero, Rat.mul_zero, nm_0, Nat.mul_zero]
    unfold nr
    exact (Rat.mkRat_zero _).symm
  · exact div_nr p q h

set_option maxRecDepth 100000 in
set_option maxHeartbeats 6400000 in
theorem qprod_any (p q : Rat) (v u : Value) (w : World) (h : IsQ w w.heap.size v p) (h' : IsQ w w.heap.size u q) (hl : sz p ≤ 200000000000) (hl' : sz q ≤ 200000000000) :
    Calls Tryz.prog 145 #[v, u] w fun e w' => Below w.heap.size w w' ∧ ∃ v, e = .returned v ∧ IsQ w' w'.heap.size v (p * q) := by
  have hp := h
  have hq := h'
  obtain ⟨N1, D1, d1, rfl, hN1, hD1, _⟩ := h
  obtain ⟨N2, D2, d2, rfl, hN2, hD2, _⟩ := h'
  obtain ⟨A1, l1, c1, rfl⟩ := hN1.form
  obtain ⟨A2, l2, c2, rfl⟩ := hD1.form
  obtain ⟨A3, l3, c3, rfl⟩ := hN2.form
  obtain ⟨A4, l4, c4, rfl⟩ := hD2.form
  have DP : Hid (∀ X, Below w.heap.size w X → Calls Tryz.prog 99 #[.agg #[.bool (sg p), .slice A1 l1 c1, .slice A2 l2 c2]] X fun e w' => Below X.heap.size X w' ∧ ∃ v, e = .returned v ∧ IsN w' w'.heap.size .u64 v (dn p)) := fun X hX => qden_any p _ X (hp.next hX) (by omega)
  have DQ : Hid (∀ X, Below w.heap.size w X → Calls Tryz.prog 99 #[.agg #[.bool (sg q), .slice A3 l3 c3, .slice A4 l4 c4]] X fun e w' => Below X.heap.size X w' ∧ ∃ v, e = .returned v ∧ IsN w' w'.heap.size .u64 v (dn q)) := fun X hX => qden_any q _ X (hq.next hX) (by omega)
  have M1 : Hid (∀ X, Below w.heap.size w X → Calls Tryz.prog 93 #[.slice A1 l1 c1, .slice A3 l3 c3] X fun e w' => Below X.heap.size X w' ∧ ∃ v, e = .returned v ∧ IsN w' w'.heap.size .u64 v (nm p * nm q)) := fun X hX => nmul_any _ _ _ _ X (hN1.next hX) (hN2.next hX) (by have := sz_nm p; omega) (by have := sz_nm q; omega)
  have M2 : Hid (∀ X y z, IsN X X.heap.size .u64 y (dn p) → IsN X X.heap.size .u64 z (dn q) → Calls Tryz.prog 93 #[y, z] X fun e w' => Below X.heap.size X w' ∧ ∃ v, e = .returned v ∧ IsN w' w'.heap.size .u64 v (dn p * dn q)) := fun X y z hy hz => nmul_any _ _ _ _ X hy hz (by have := sz_dn p; omega) (by have := sz_dn q; omega)
  have hsz1 : (limbs (nm p * nm q)).length ≤ 400000000000 := by have := len_mul_le (nm p) (nm q); have := sz_nm p; have := sz_nm q; omega
  have hsz2 : (limbs (dn p * dn q)).length ≤ 400000000000 := by have := len_mul_le (dn p) (dn q); have := sz_dn p; have := sz_dn q; omega
  have HR := Lib.hid (mul_nr p q)
  clear hN1 hN2 hD1 hD2 hl hl' hp hq
  generalize sg p = s1 at *
  generalize sg q = s2 at *
  generalize nm p * nm q = n at *
  generalize dn p * dn q = d at *
  go_enter Tryz.func145, Tryz.ntmps145
  go_wp2_with fail
  refine wp_name (fun W => P2 w (.bool s1) (.slice A1 l1 c1) (.slice A2 l2 c2) (.bool s2) (.slice A3 l3 c3) (.slice A4 l4 c4) W) (P2.start _ _ _ _ _ _ _) ?_
  intro W Z0
  have C0 := Z0.cells
  have hlt := Z0.k3.lt
  go_region_held3 (fun w' => w'.cell? ⟨w.heap.size, 0, none⟩ = some (.bool s1) ∧ w'.cell? ⟨w.heap.size, 1, none⟩ = some (.slice A1 l1 c1) ∧ w'.cell? ⟨w.heap.size, 2, none⟩ = some (.slice A2 l2 c2) ∧
      w'.cell? ⟨w.heap.size + 1, 0, none⟩ = some (.bool s2) ∧ w'.cell? ⟨w.heap.size + 1, 1, none⟩ = some (.slice A3 l3 c3) ∧ w'.cell? ⟨w.heap.size + 1, 2, none⟩ = some (.slice A4 l4 c4))
    (first | with_reducible exact Z1.cells | with_reducible exact Z2.cells | with_reducible exact Z3.cells | with_reducible exact Z4.cells | with_reducible exact Z5.cells | exact bk6 kk1 kk2 | go_keep)
    (first
      | (go_at_call 93; ((with_reducible refine (M1.out _ Z0.drew.below).mono ?_)); rintro e w1 ⟨hb1, x1, rfl, hx1⟩; have Z1 := Z0.drew.next hb1)
      | (go_at_call 99; ((with_reducible refine (DP.out _ Z1.below).mono ?_)); rintro e w2 ⟨hb2, x2, rfl, hx2⟩; have Z2 := Z1.next hb2)
      | (go_at_call 99; ((with_reducible refine (DQ.out _ Z2.below).mono ?_)); rintro e w3 ⟨hb3, x3, rfl, hx3⟩; have Z3 := Z2.next hb3)
      | (go_at_call 93; ((with_reducible refine (M2.out _ _ _ (hx2.next hb3) hx3).mono ?_)); rintro e w4 ⟨hb4, x4, rfl, hx4⟩; have Z4 := Z3.next hb4; have HN4 := ((hx1.next hb2).next hb3).next hb4; have HD4 := hx4)
      | (go_at_call 95; ((with_reducible refine (qmake_any _ n d _ _ _ HN4 HD4 hsz1 hsz2).mono ?_)); rintro e w5 ⟨hb5, x5, rfl, hx5⟩; have Z5 := Z4.next hb5; obtain ⟨t3, A5, l5, c5, A6, l6, c6, rfl⟩ := hx5.form; obtain ⟨e0, e1, e2⟩ := bk3 Z5.k3; have f0 := Z5.k3.frozen 0; have f1 := Z5.k3.frozen 1; have f2 := Z5.k3.frozen 2; have kk1 := bk_far3 (b' := w.heap.size + 1 + 1) (x := .bool t3) (y := .slice A5 l5 c5) (z := .slice A6 l6 c6) Z5.k1 (by omega); have kk2 := bk_far3 (b' := w.heap.size + 1 + 1) (x := .bool t3) (y := .slice A5 l5 c5) (z := .slice A6 l6 c6) Z5.k2 (by omega)))
  go_wp2
  refine bodyPost_ret (v := .agg #[.bool t3, .slice A5 l5 c5, .slice A6 l6 c6]) (by simp [results, Tryz.results145, go_sem, e0, e1, e2]) rfl ?_
  have ST := hx5.stored (w := w) Z5.k3 Z5.below (by omega)
  refine ⟨ST.1, _, rfl, ?_⟩
  have e : p * q = nr (!s1 == s2) n d := HR.out
  rw [e]
  exact ST.2

set_option maxRecDepth 100000 in
set_option maxHeartbeats 6400000 in
theorem qquot_any (p q : Rat) (v u : Value) (w : World) (h : IsQ w w.heap.size v p) (h' : IsQ w w.heap.size u q) (hl : sz p ≤ 200000000000) (hl' : sz q ≤ 200000000000) :
    Calls Tryz.prog 104 #[v, u] w fun e w' => Below w.heap.size w w' ∧ ∃ v, e = .returned v ∧ IsQ w' w'.heap.size v (p / q) := by
  have hp := h
  have hq := h'
  obtain ⟨N1, D1, d1, rfl, hN1, hD1, _⟩ := h
  obtain ⟨N2, D2, d2, rfl, hN2, hD2, _⟩ := h'
  obtain ⟨A1, l1, c1, rfl⟩ := hN1.form
  obtain ⟨A2, l2, c2, rfl⟩ := hD1.form
  obtain ⟨A3, l3, c3, rfl⟩ := hN2.form
  obtain ⟨A4, l4, c4, rfl⟩ := hD2.form
  have DP : Hid (∀ X, Below w.heap.size w X → Calls Tryz.prog 99 #[.agg #[.bool (sg p), .slice A1 l1 c1, .slice A2 l2 c2]] X fun e w' => Below X.heap.size X w' ∧ ∃ v, e = .returned v ∧ IsN w' w'.heap.size .u64 v (dn p)) := fun X hX => qden_any p _ X (hp.next hX) (by omega)
  have DQ : Hid (∀ X, Below w.heap.size w X → Calls Tryz.prog 99 #[.agg #[.bool (sg q), .slice A3 l3 c3, .slice A4 l4 c4]] X fun e w' => Below X.heap.size X w' ∧ ∃ v, e = .returned v ∧ IsN w' w'.heap.size .u64 v (dn q)) := fun X hX => qden_any q _ X (hq.next hX) (by omega)
  have M1 : Hid (∀ X y, Below w.heap.size w X → IsN X X.heap.size .u64 y (dn q) → Calls Tryz.prog 93 #[.slice A1 l1 c1, y] X fun e w' => Below X.heap.size X w' ∧ ∃ v, e = .returned v ∧ IsN w' w'.heap.size .u64 v (nm p * dn q)) := fun X y hX hy => nmul_any _ _ _ _ X (hN1.next hX) hy (by have := sz_nm p; omega) (by have := sz_dn q; omega)
  have M2 : Hid (∀ X y, Below w.heap.size w X → IsN X X.heap.size .u64 y (dn p) → Calls Tryz.prog 93 #[y, .slice A3 l3 c3] X fun e w' => Below X.heap.size X w' ∧ ∃ v, e = .returned v ∧ IsN w' w'.heap.size .u64 v (dn p * nm q)) := fun X y hX hy => nmul_any _ _ _ _ X hy (hN2.next hX) (by have := sz_dn p; omega) (by have := sz_nm q; omega)
  have hsz1 : (limbs (nm p * dn q)).length ≤ 400000000000 := by have := len_mul_le (nm p) (dn q); have := sz_nm p; have := sz_dn q; omega
  have hsz2 : (limbs (dn p * nm q)).length ≤ 400000000000 := by have := len_mul_le (dn p) (nm q); have := sz_dn p; have := sz_nm q; omega
  have HR := Lib.hid (quot_nr p q)
  clear hN1 hN2 hD1 hD2 hl hl' hp hq
  generalize sg p = s1 at *
  generalize sg q = s2 at *
  generalize nm p * dn q = n at *
  generalize dn p * nm q = d at *
  go_enter Tryz.func104, Tryz.ntmps104
  go_wp2_with fail
  refine wp_name (fun W => P2 w (.bool s1) (.slice A1 l1 c1) (.slice A2 l2 c2) (.bool s2) (.slice A3 l3 c3) (.slice A4 l4 c4) W) (P2.start _ _ _ _ _ _ _) ?_
  intro W Z0
  have C0 := Z0.cells
  have hlt := Z0.k3.lt
  go_region_held3 (fun w' => w'.cell? ⟨w.heap.size, 0, none⟩ = some (.bool s1) ∧ w'.cell? ⟨w.heap.size, 1, none⟩ = some (.slice A1 l1 c1) ∧ w'.cell? ⟨w.heap.size, 2, none⟩ = some (.slice A2 l2 c2) ∧
      w'.cell? ⟨w.heap.size + 1, 0, none⟩ = some (.bool s2) ∧ w'.cell? ⟨w.heap.size + 1, 1, none⟩ = some (.slice A3 l3 c3) ∧ w'.cell? ⟨w.heap.size + 1, 2, none⟩ = some (.slice A4 l4 c4))
    (first | with_reducible exact Z1.cells | with_reducible exact Z2.cells | with_reducible exact Z3.cells | with_reducible exact Z4.cells | with_reducible exact Z5.cells | exact bk6 kk1 kk2 | go_keep)
    (first
      | (go_at_call 99; ((with_reducible refine (DQ.out _ Z0.drew.below).mono ?_)); rintro e w1 ⟨hb1, x1, rfl, hx1⟩; have Z1 := Z0.drew.next hb1)
      | (go_at_call 93; ((with_reducible refine (M1.out _ _ Z1.below hx1).mono ?_)); rintro e w2 ⟨hb2, x2, rfl, hx2⟩; have Z2 := Z1.next hb2)
      | (go_at_call 99; ((with_reducible refine (DP.out _ Z2.below).mono ?_)); rintro e w3 ⟨hb3, x3, rfl, hx3⟩; have Z3 := Z2.next hb3)
      | (go_at_call 93; ((with_reducible refine (M2.out _ _ Z3.below hx3).mono ?_)); rintro e w4 ⟨hb4, x4, rfl, hx4⟩; have Z4 := Z3.next hb4; have HN4 := (hx2.next hb3).next hb4; have HD4 := hx4)
      | (go_at_call 95; ((with_reducible refine (qmake_any _ n d _ _ _ HN4 HD4 hsz1 hsz2).mono ?_)); rintro e w5 ⟨hb5, x5, rfl, hx5⟩; have Z5 := Z4.next hb5; obtain ⟨t3, A5, l5, c5, A6, l6, c6, rfl⟩ := hx5.form; obtain ⟨e0, e1, e2⟩ := bk3 Z5.k3; have f0 := Z5.k3.frozen 0; have f1 := Z5.k3.frozen 1; have f2 := Z5.k3.frozen 2; have kk1 := bk_far3 (b' := w.heap.size + 1 + 1) (x := .bool t3) (y := .slice A5 l5 c5) (z := .slice A6 l6 c6) Z5.k1 (by omega); have kk2 := bk_far3 (b' := w.heap.size + 1 + 1) (x := .bool t3) (y := .slice A5 l5 c5) (z := .slice A6 l6 c6) Z5.k2 (by omega)))
  go_wp2
  refine bodyPost_ret (v := .agg #[.bool t3, .slice A5 l5 c5, .slice A6 l6 c6]) (by simp [results, Tryz.results104, go_sem, e0, e1, e2]) rfl ?_
  have ST := hx5.stored (w := w) Z5.k3 Z5.below (by omega)
  refine ⟨ST.1, _, rfl, ?_⟩
  have e : p / q = nr (!s1 == s2) n d := HR.out
  rw [e]
  exact ST.2
/-- A number of the reference in a block. -/
def QAt (w : World) (b : Nat) (q : Rat) : Prop := ∃ s A l c A' l' c', Bk w b 74 #[.bool s, .slice A l c, .slice A' l' c'] ∧ IsQ w w.heap.size (.agg #[.bool s, .slice A l c, .slice A' l' c']) q
theorem QAt.next {w w' : World} {b : Nat} {q : Rat} (h : QAt w b q) (hb : Below w.heap.size w w') : QAt w' b q := by
  obtain ⟨s, A, l, c, A', l', c', h1, h2⟩ := h
  exact ⟨s, A, l, c, A', l', c', h1.below hb h1.lt, h2.next hb⟩
theorem QAt.lt {w : World} {b : Nat} {q : Rat} (h : QAt w b q) : b < w.heap.size := by
  obtain ⟨s, A, l, c, A', l', c', h1, h2⟩ := h
  exact h1.lt
section
variable {w : World} {s t : Bool} {A A' C C' : Option Addr} {l k l' k' n j n' j' : Nat} {p q : Rat} {b b2 : Nat}
theorem qatN (hp : IsQ w w.heap.size (.agg #[.bool s, .slice A l k, .slice A' l' k']) p) : QAt (w.alloc (.cells #[.bool s, .slice A l k, .slice A' l' k'] 74)) w.heap.size p :=
  ⟨_, _, _, _, _, _, _, Bk.new _ _ _, hp.next (below_alloc w _)⟩
theorem qatS (kA : Bk w b 74 #[.bool false, .slice none 0 0, .slice none 0 0]) (hp : IsQ w w.heap.size (.agg #[.bool s, .slice A l k, .slice A' l' k']) p) :
    QAt (((w.setCell ⟨b, 0, none⟩ (.bool s)).setCell ⟨b, 1, none⟩ (.slice A l k)).setCell ⟨b, 2, none⟩ (.slice A' l' k')) b p :=
  ⟨_, _, _, _, _, _, _, set3_bk kA, by
    have e := set3_size w b (.bool s) (.slice A l k) (.slice A' l' k')
    have hp1 := hp.set3 kA (.bool s) (.slice A l k) (.slice A' l' k')
    rw [← e] at hp1
    exact hp1⟩
end
end Go.Proofs.YtpkhgdnkkdhlcaaGreatDoor

namespace Go.Proofs.YtpkhgdnkkdhlcaaGreatDoor
open Go.RowKit Ar


/-- What stands below the stroke; 1 without one. -/
def lowOf (u : List UInt8) : List UInt8 := match (cut47 u).2 with
  | none => [49]
  | some m => m
theorem isText_digs {l : List UInt8} (h : IsText l) : Digs (cut47 (unsign l)).1 ∧ Digs (lowOf (unsign l)) ∧ 0 < (cut47 (unsign l)).1.length ∧ 0 < (lowOf (unsign l)).length ∧ 0 < dval (lowOf (unsign l)) := by
  have h1 := h.above
  refine ⟨h1.1, ?_⟩
  unfold lowOf
  cases hc : (cut47 (unsign l)).2 with
  | none => exact ⟨(show Digs [49] from fun b hb => by simp at hb; subst hb; decide), List.length_pos_iff.2 h1.2.1, (show 0 < [49].length by decide), (show 0 < dval [49] by decide)⟩
  | some m =>
    obtain ⟨h2, h3, _⟩ := h.below m hc
    exact ⟨h2.1, List.length_pos_iff.2 h1.2.1, List.length_pos_iff.2 h2.2.1, dval_pos h2 h3⟩
theorem ba_ext {a b : ByteArray} (h : a.data.toList = b.data.toList) : a = b := by
  apply ByteArray.ext
  exact Array.ext' h
end Go.Proofs.YtpkhgdnkkdhlcaaGreatDoor
