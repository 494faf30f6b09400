/-
  Words: the reference's rational numbers in memory. Walks: one, den, Make, Sgn, Opp.
-/
import Derived.Test.YtblopapobmbboaaDoorQnF
import Derived.Test.YtblopapobmbboaaDoorFracV
namespace Go.Proofs.YtblopapobmbboaaDoor
open Go.RowKit Ar

/-- A rational number of the reference in memory: an empty denominator stands for 1. -/
def IsQ (w : World) (B : Nat) (v : Value) (q : Rat) : Prop := ∃ N D d, v = .agg #[.bool (sg q), N, D] ∧ IsN w B .u64 N (nm q) ∧ IsN w B .u64 D d ∧ (d = dn q ∨ (d = 0 ∧ dn q = 1))
section
variable {w w' : World} {B B' : Nat} {v : Value} {q : Rat}
theorem IsQ.more (h : IsQ w B v q) (hB : B ≤ B') : IsQ w B' v q := by
  obtain ⟨N, D, d, e, h1, h2, h3⟩ := h; exact ⟨N, D, d, e, h1.more hB, h2.more hB, h3⟩
theorem IsQ.below (h : IsQ w B v q) (hb : Below B w w') : IsQ w' B v q := by
  obtain ⟨N, D, d, e, h1, h2, h3⟩ := h; exact ⟨N, D, d, e, h1.below hb, h2.below hb, h3⟩
theorem IsQ.next (h : IsQ w w.heap.size v q) (hb : Below w.heap.size w w') : IsQ w' w'.heap.size v q := (h.below hb).more hb.size
theorem IsQ.drew (h : IsQ w w.heap.size v q) : IsQ w.drew w.drew.heap.size v q := h
theorem IsQ.form (h : IsQ w B v q) : ∃ s A l c A' l' c', v = .agg #[.bool s, .slice A l c, .slice A' l' c'] := by
  obtain ⟨N, D, d, e, h1, h2, _⟩ := h
  obtain ⟨A, l, c, rfl⟩ := h1.form
  obtain ⟨A', l', c', rfl⟩ := h2.form
  exact ⟨_, _, _, _, _, _, _, e⟩
theorem IsQ.set3 {b : Nat} (h : IsQ w B v q) {T : TypeId} {f : Bool} {A0 A1 : Option Addr} {l0 l1 c0 c1 : Nat} (hb : Bk w b T #[.bool f, .slice A0 l0 c0, .slice A1 l1 c1]) (x y z : Value) : IsQ (set3 w b x y z) B v q := by
  obtain ⟨N, D, d, e, h1, h2, h3⟩ := h
  exact ⟨N, D, d, e, h1.set3 hb x y z, h2.set3 hb x y z, h3⟩
theorem IsQ.zero (w : World) (B : Nat) : IsQ w B (.agg #[.bool false, .slice none 0 0, .slice none 0 0]) 0 :=
  ⟨_, _, 0, rfl, IsN.nil _ _ _, IsN.nil _ _ _, .inr ⟨rfl, rfl⟩⟩
end

theorem qone_any (w : World) :
    Calls Tryd.prog 62 #[] w fun e w' => Below w.heap.size w w' ∧ ∃ v, e = .returned v ∧ IsN w' w'.heap.size .u64 v 1 := by
  go_enter Tryd.func62, Tryd.ntmps62
  go_wp2_with fail
  refine (natOf_any 1 w (by omega)).mono ?_
  rintro e w1 ⟨hb1, v, rfl, hv⟩
  go_wp2
  go_ret
  exact ⟨hb1, _, rfl, hv⟩

set_option maxRecDepth 100000 in
set_option maxHeartbeats 800000 in
theorem qden_any (q : Rat) (v : Value) (w : World) (h : IsQ w w.heap.size v q) (_ : sz q ≤ 1000000000000) :
    Calls Tryd.prog 64 #[v] w fun e w' => Below w.heap.size w w' ∧ ∃ v, e = .returned v ∧ IsN w' w'.heap.size .u64 v (dn q) := by
  obtain ⟨N, D, d, rfl, hN, hD, hd⟩ := h
  have hD1 := hD
  obtain ⟨A1, l1, c1, rfl⟩ := hN.form
  obtain ⟨A2, c2, rfl, h1, h2⟩ := hD
  rcases hd with hd | ⟨hd0, hd1⟩
  · subst hd
    have hpos := limbs_len_pos (dn_pos q)
    have hlen := sz_dn q
    generalize sg q = s at *
    generalize hgl : (limbs (dn q)).length = l2 at *
    have HD := Lib.hid hD1
    clear hgl hD1 h2 hN
    have hz : ((l2 : Int) == 0) = false := by rw [beq_eq_false_iff_ne]; omega
    go_enter Tryd.func64, Tryd.ntmps64
    go_wp2
    go_ret
    exact ⟨below_alloc w _, _, rfl, HD.out.alloc _⟩
  · subst hd0
    rw [hd1, limbs_zero]
    generalize sg q = s at *
    clear hd1 h1 h2 hD1 hN
    go_enter Tryd.func64, Tryd.ntmps64
    go_wp2_with fail
    refine (qone_any _).mono ?_
    rintro e w1 ⟨hb1, v, rfl, hv⟩
    go_wp2
    go_ret
    exact ⟨(below_alloc w _).trans (hb1.mono (by simp)), _, rfl, hv⟩

set_option maxRecDepth 100000 in
set_option maxHeartbeats 1600000 in
theorem qmake_any (s : Bool) (n d : Nat) (v u : Value) (w : World) (h : IsN w w.heap.size .u64 v n) (h' : IsN w w.heap.size .u64 u d) (hl : (limbs n).length ≤ 400000000000) (hl' : (limbs d).length ≤ 400000000000) :
    Calls Tryd.prog 30 #[.bool s, v, u] w fun e w' => Below w.heap.size w w' ∧ ∃ v, e = .returned v ∧ IsQ w' w'.heap.size v (nr s n d) := by
  have hh := h
  have hh' := h'
  obtain ⟨A, c, rfl, h1, h2⟩ := h
  obtain ⟨A2, c2, rfl, k1, k2⟩ := h'
  have hln : ((limbs n).length = 0) ↔ n = 0 := limbs_len_zero
  have hld : ((limbs d).length = 0) ↔ d = 0 := limbs_len_zero
  by_cases hz : n = 0 ∨ d = 0
  · have hq : nr s n d = 0 := by
      rcases hz with rfl | rfl
      · exact nr_zero _ _
      · unfold nr; exact Rat.mkRat_zero _
    rw [hq]
    have hz' : (limbs n).length = 0 ∨ (limbs d).length = 0 := by
      rcases hz with h | h
      · exact .inl (hln.2 h)
      · exact .inr (hld.2 h)
    clear hq hln hld h2 k2 hh hh' hz h1 k1
    generalize (limbs n).length = ln at *
    generalize (limbs d).length = ld at *
    by_cases h0 : ln = 0
    · subst h0
      go_enter Tryd.func30, Tryd.ntmps30
      go_wp2
      refine bodyPost_ret (v := .agg #[.bool false, .slice none 0 0, .slice none 0 0]) (by simp [results, Tryd.results30, go_sem]) rfl ?_
      exact ⟨below_alloc w _, _, rfl, IsQ.zero _ _⟩
    · have h0' : ld = 0 := by omega
      subst h0'
      have hz : ((ln : Int) == 0) = false := by rw [beq_eq_false_iff_ne]; omega
      go_enter Tryd.func30, Tryd.ntmps30
      go_wp2
      refine bodyPost_ret (v := .agg #[.bool false, .slice none 0 0, .slice none 0 0]) (by simp [results, Tryd.results30, go_sem]) rfl ?_
      exact ⟨below_alloc w _, _, rfl, IsQ.zero _ _⟩
  have hn0 : 0 < n := by omega
  have hd : 0 < d := by omega
  have hS := sg_nr s hd hn0
  have hN := nm_nr s (n := n) hd
  have hD := dn_nr s (n := n) hd
  generalize nr s n d = q at *
  have HI : Hid (∀ (W : World) (B : Nat) (N D : Value), IsN W B .u64 N (n / Nat.gcd n d) → IsN W B .u64 D (d / Nat.gcd n d) → IsQ W B (.agg #[.bool s, N, D]) q) := fun W B N D h1 h2 => ⟨N, D, _, by rw [hS], by rw [hN]; exact h1, h2, .inl hD.symm⟩
  have hg0 : 0 < Nat.gcd n d := Nat.gcd_pos_of_pos_left d hn0
  have HG := Lib.hid hg0
  have hlp1 := limbs_len_pos hn0
  have hlp2 := limbs_len_pos hd
  clear hS hN hD hg0 hz hln hld h2 k2
  generalize hgn : (limbs n).length = ln at *
  generalize hgd : (limbs d).length = ld at *
  have HGN := Lib.hid hgn
  have HGD := Lib.hid hgd
  clear hgn hgd
  have hz1 : ((ln : Int) == 0) = false := by rw [beq_eq_false_iff_ne]; omega
  have hz2 : ((ld : Int) == 0) = false := by rw [beq_eq_false_iff_ne]; omega
  go_enter Tryd.func30, Tryd.ntmps30
  go_wp2_with fail
  refine (ngcd_any n d _ _ _ (hh.next (below_alloc w _)) (hh'.next (below_alloc w _)) (by rw [HGN.out]; exact hl) (by rw [HGD.out]; exact hl')).mono ?_
  rintro e w1 ⟨hb1, g, rfl, hg⟩
  have hk := (Bk.new w 35 #[Value.bool false, .slice none 0 0, .slice none 0 0]).below hb1 (by simp)
  have hb0 : Below w.heap.size w w1 := (below_alloc w _).trans (hb1.mono (by simp))
  have hs1 := hb1.size
  have hlt1 : w.heap.size < w1.heap.size := by simp at hs1; omega
  clear hb1 hs1
  go_wp2_with fail
  refine (ndiv_any n _ _ g w1 HG.out ((hh.below hb0).more (Nat.le_of_lt hlt1)) hg (by rw [HGN.out]; exact hl)).mono ?_
  rintro e w2 ⟨hb2, q1, r1, rfl, hq1, hr1⟩
  obtain ⟨A3, l3, c3, rfl⟩ := hq1.form
  have hb02 := hb0.trans (hb2.mono (Nat.le_of_lt hlt1))
  go_wp2_with fail
  refine (ndiv_any d _ _ g w2 HG.out ((hh'.below hb02).more hb02.size) (hg.next hb2) (by rw [HGD.out]; exact hl')).mono ?_
  rintro e w3 ⟨hb3, q2, r2, rfl, hq2, hr2⟩
  obtain ⟨A4, l4, c4, rfl⟩ := hq2.form
  have hb03 := hb02.trans (hb3.mono hb02.size)
  have hlt3 : w.heap.size < w3.heap.size := Nat.lt_of_lt_of_le hlt1 (Nat.le_trans hb2.size hb3.size)
  have hk3 := (hk.below hb2 hlt1).below hb3 (Nat.lt_of_lt_of_le hlt1 hb2.size)
  have hc0 := hk3.cell 0
  have hc1 := hk3.cell 1
  have hc2 := hk3.cell 2
  have hf0 := hk3.frozen 0
  have hf1 := hk3.frozen 1
  have hf2 := hk3.frozen 2
  simp only [List.getElem?_toArray, List.getElem?_cons_zero, List.getElem?_cons_succ] at hc0 hc1 hc2
  go_wp2
  refine bodyPost_ret (v := .agg #[.bool s, .slice A3 l3 c3, .slice A4 l4 c4]) (by simp [results, Tryd.results30, go_sem, hc0, hc1, hc2]) rfl ?_
  refine ⟨set3_below hb03 (Nat.le_refl _), _, rfl, ?_⟩
  have := (HI.out w3 w3.heap.size _ _ (hq1.next hb3) hq2).set3 hk3 (.bool s) (.slice A3 l3 c3) (.slice A4 l4 c4)
  exact this.more (by rw [show (World.setCell _ _ _) = set3 w3 w.heap.size (.bool s) (.slice A3 l3 c3) (.slice A4 l4 c4) from rfl, set3_size]; exact Nat.le_refl _)

set_option maxRecDepth 100000 in
set_option maxHeartbeats 800000 in
theorem qsgn_any (q : Rat) (v : Value) (w : World) (h : IsQ w w.heap.size v q) (hl : sz q ≤ 1000000000000) :
    Calls Tryd.prog 12 #[v] w fun e w' => Below w.heap.size w w' ∧ e = .returned (.int .i64 (sgQ q)) := by
  obtain ⟨N, D, d, rfl, hN, hD, hd⟩ := h
  obtain ⟨A2, l2, c2, rfl⟩ := hD.form
  obtain ⟨A1, c1, rfl, h1, h2⟩ := hN
  have hlen := sz_nm q
  clear hD hd h2
  by_cases hz : q = 0
  · subst hz
    rw [nm_0, limbs_zero, sg_zero]
    clear h1 hlen
    go_enter Tryd.func12, Tryd.ntmps12
    go_wp2
    go_ret
    exact ⟨below_alloc w _, rfl⟩
  · have hpos : 0 < (limbs (nm q)).length := limbs_len_pos (Nat.pos_of_ne_zero fun h => hz (nm_zero.1 h))
    have hS : sgQ q = if sg q = true then -1 else 1 := by
      unfold sgQ sg
      rw [if_neg hz]
      by_cases h : q < 0 <;> simp [h]
    rw [hS]
    clear hS hz h1
    generalize (limbs (nm q)).length = l1 at *
    have hz1 : ((l1 : Int) == 0) = false := by rw [beq_eq_false_iff_ne]; omega
    cases sg q
    · go_enter Tryd.func12, Tryd.ntmps12
      go_wp2
      go_ret
      exact ⟨below_alloc w _, rfl⟩
    · go_enter Tryd.func12, Tryd.ntmps12
      go_wp2
      go_ret
      exact ⟨below_alloc w _, rfl⟩

set_option maxRecDepth 100000 in
set_option maxHeartbeats 800000 in
theorem qopp_any (p : Rat) (v : Value) (w : World) (h : IsQ w w.heap.size v p) (_ : sz p ≤ 1000000000000) :
    Calls Tryd.prog 58 #[v] w fun e w' => Below w.heap.size w w' ∧ ∃ v, e = .returned v ∧ IsQ w' w'.heap.size v (-p) := by
  obtain ⟨N1, D1, d, rfl, hN1, hD1, hd⟩ := h
  obtain ⟨A2, l2, c2, rfl⟩ := hD1.form
  have hN := hN1
  obtain ⟨A1, c1, rfl, h1, h2⟩ := hN1
  have hs := sg_neg p
  have HI : Hid (∀ (W : World) (B : Nat) (N D : Value) (b : Bool), b = sg (-p) → IsN W B .u64 N (nm p) → IsN W B .u64 D d → IsQ W B (.agg #[.bool b, N, D]) (-p)) := fun W B N D b e1 e2 e3 => ⟨N, D, d, by rw [e1], by rw [nm_neg]; exact e2, e3, by rw [dn_neg]; exact hd⟩
  have hlen := sz_nm p
  have HN := Lib.hid hN
  have hz : decide (nm p ≠ 0) = decide (0 < ((limbs (nm p)).length : Int)) := by
    rw [Bool.eq_iff_iff, decide_eq_true_eq, decide_eq_true_eq, Ne, ← limbs_len_zero]; omega
  rw [hz] at hs
  clear hz hd h1 h2 hN
  generalize (limbs (nm p)).length = l1 at *
  by_cases hs1 : sg p = true
  · rw [hs1] at hs ⊢
    simp only [Bool.not_true, Bool.false_and] at hs
    have HS := Lib.hid hs
    clear hs hs1
    go_enter Tryd.func58, Tryd.ntmps58
    go_wp2
    refine bodyPost_ret (v := .agg #[.bool false, .slice A1 l1 c1, .slice A2 l2 c2]) (by simp [results, Tryd.results58, go_sem]) rfl ?_
    exact ⟨(below_alloc w _).alloc (by simp) _, _, rfl, HI.out _ _ _ _ _ HS.out.symm ((HN.out.next (below_alloc w _)).next (below_alloc _ _)) ((hD1.next (below_alloc w _)).next (below_alloc _ _))⟩
  · have h1' : sg p = false := by simpa using hs1
    rw [h1'] at hs ⊢
    simp only [Bool.not_false, Bool.true_and] at hs
    have HS := Lib.hid hs
    clear hs hs1 h1'
    by_cases hpos : 0 < l1
    · have hpos' : decide (0 < (l1 : Int)) = true := decide_eq_true (by omega)
      have HS' : Hid (true = sg (-p)) := by show _ = _; rw [HS.out, hpos']
      go_enter Tryd.func58, Tryd.ntmps58
      go_wp2
      refine bodyPost_ret (v := .agg #[.bool true, .slice A1 l1 c1, .slice A2 l2 c2]) (by simp [results, Tryd.results58, go_sem]) rfl ?_
      exact ⟨(below_alloc w _).alloc (by simp) _, _, rfl, HI.out _ _ _ _ _ HS'.out ((HN.out.next (below_alloc w _)).next (below_alloc _ _)) ((hD1.next (below_alloc w _)).next (below_alloc _ _))⟩
    · have hpos' : decide (0 < (l1 : Int)) = false := decide_eq_false (by omega)
      have HS' : Hid (false = sg (-p)) := by show _ = _; rw [HS.out, hpos']
      obtain rfl : l1 = 0 := by omega
      clear hpos' hpos
      go_enter Tryd.func58, Tryd.ntmps58
      go_wp2
      refine bodyPost_ret (v := .agg #[.bool false, .slice A1 0 c1, .slice A2 l2 c2]) (by simp [results, Tryd.results58, go_sem]) rfl ?_
      exact ⟨(below_alloc w _).alloc (by simp) _, _, rfl, HI.out _ _ _ _ _ HS'.out ((HN.out.next (below_alloc w _)).next (below_alloc _ _)) ((hD1.next (below_alloc w _)).next (below_alloc _ _))⟩
end Go.Proofs.YtblopapobmbboaaDoor
