/-
  Words for memory: fractions.
  Walks: package ratio's fractions: Make.
-/
import Derived.Test.YtpkhgdnkkdhlcaaGreatDoorNatU
import Derived.Test.YtpkhgdnkkdhlcaaGreatDoorTxt
import Derived.Test.YtpkhgdnkkdhlcaaGreatDoorNatH
import Derived.Deep.RegionHeld3
namespace Go.Proofs.YtpkhgdnkkdhlcaaGreatDoor
open Go.RowKit Ar

/-- A fraction in memory. -/
def IsF (w : World) (B : Nat) (v : Value) (q : Rat) : Prop := ∃ N D, v = .agg #[.bool (sg q), N, D] ∧ IsN w B .u32 N (nm q) ∧ IsN w B .u32 D (dn q)
section
variable {w w' : World} {B B' : Nat} {v : Value} {q : Rat}
theorem IsF.more (h : IsF w B v q) (hB : B ≤ B') : IsF w B' v q := by
  obtain ⟨N, D, e, h1, h2⟩ := h; exact ⟨N, D, e, h1.more hB, h2.more hB⟩
theorem IsF.below (h : IsF w B v q) (hb : Below B w w') : IsF w' B v q := by
  obtain ⟨N, D, e, h1, h2⟩ := h; exact ⟨N, D, e, h1.below hb, h2.below hb⟩
theorem IsF.next (h : IsF w w.heap.size v q) (hb : Below w.heap.size w w') : IsF w' w'.heap.size v q := (h.below hb).more hb.size
end
theorem IsF.of {w : World} {B : Nat} {N D : Value} {n d : Nat} {b : Bool} {q : Rat} (hs : sg q = b) (hn : nm q = n) (hd : dn q = d) (h1 : IsN w B .u32 N n) (h2 : IsN w B .u32 D d) : IsF w B (.agg #[.bool b, N, D]) q :=
  ⟨N, D, by rw [hs], by rw [hn]; exact h1, by rw [hd]; exact h2⟩
theorem IsN.form {w : World} {B : Nat} {k : IntKind} {v : Value} {n : Nat} (h : IsN w B k v n) : ∃ A l c, v = .slice A l c := by
  obtain ⟨A, c, e, _⟩ := h; exact ⟨A, _, c, e⟩
theorem below_alloc (w : World) (o : Obj) : Below w.heap.size w (w.alloc o) := (Below.refl _ _).alloc (Nat.le_refl _) _
theorem IsN.alloc {w : World} {k : IntKind} {v : Value} {n : Nat} (h : IsN w w.heap.size k v n) (o : Obj) : IsN (w.alloc o) (w.alloc o).heap.size k v n := h.next (below_alloc w o)
/-- A cell that held no number is written anew. -/
theorem Rd.put_far {w : World} {B : Nat} {A : Option Addr} {k : IntKind} {l : List Nat} (h : Rd w B A (ints k l)) {p : Addr} {u : Value} (hc : w.cell? p = some u) (hu : ∀ (k : IntKind) (i : Int), u ≠ .int k i) (x : Value) : Rd (w.setCell p x) B A (ints k l) := fun hn => by
  obtain ⟨ad, e, hb, h2⟩ := h hn
  refine ⟨ad, e, hb, fun j y hy => ?_⟩
  rw [World.cell?_setCell_other w p _ x (fun e => ?_)]
  · exact h2 j y hy
  · have := h2 j y hy
    rw [← e] at this
    rw [hc] at this
    injection this with this
    subst this
    have hm : u ∈ ints k l := List.mem_of_getElem? hy
    simp [ints] at hm
    obtain ⟨z, _, hz⟩ := hm
    exact hu _ _ hz.symm
theorem IsN.put_far {w : World} {B : Nat} {k : IntKind} {v : Value} {n : Nat} (h : IsN w B k v n) {p : Addr} {u : Value} (hc : w.cell? p = some u) (hu : ∀ (k : IntKind) (i : Int), u ≠ .int k i) (x : Value) : IsN (w.setCell p x) B k v n := by
  obtain ⟨A, c, e, h1, h3⟩ := h
  exact ⟨A, c, e, h1, h3.put_far hc hu x⟩
/-- Three fields are written. -/
def set3 (w : World) (b : Nat) (x y z : Value) : World := ((w.setCell ⟨b, 0, none⟩ x).setCell ⟨b, 1, none⟩ y).setCell ⟨b, 2, none⟩ z
theorem set3_bk {w : World} {b : Nat} {T : TypeId} {f x y z : Value} {N0 D0 : Value} (hb : Bk w b T #[f, N0, D0]) : Bk (set3 w b x y z) b T #[x, y, z] := by
  have := ((hb.put 0 x).put 1 y).put 2 z
  simpa [set3] using this
theorem set3_below {w w0 : World} {B b : Nat} {x y z : Value} (h : Below B w0 w) (hb : B ≤ b) : Below B w0 (set3 w b x y z) := ((h.setCell (by exact hb) x).setCell (by exact hb) y).setCell (by exact hb) z
theorem set3_size (w : World) (b : Nat) (x y z : Value) : (set3 w b x y z).heap.size = w.heap.size := by simp [set3, World.setCell]
theorem IsN.set3 {w : World} {B b : Nat} {k : IntKind} {v : Value} {n : Nat} (h : IsN w B k v n) {T : TypeId} {f : Bool} {A0 A1 : Option Addr} {l0 l1 c0 c1 : Nat} (hb : Bk w b T #[.bool f, .slice A0 l0 c0, .slice A1 l1 c1]) (x y z : Value)  : IsN (set3 w b x y z) B k v n := by
  have h0 := hb.cell 0
  have hb1 := hb.put 0 x
  have h1 := hb1.cell 1
  have hb2 := hb1.put 1 y
  have h2 := hb2.cell 2
  exact ((h.put_far h0 (fun _ _ e => by cases e) x).put_far h1 (fun _ _ e => by cases e) y).put_far h2 (fun _ _ e => by cases e) z
theorem IsF.set3 {w : World} {B b : Nat} {v : Value} {q : Rat} (h : IsF w B v q) {T : TypeId} {f : Bool} {A0 A1 : Option Addr} {l0 l1 c0 c1 : Nat} (hb : Bk w b T #[.bool f, .slice A0 l0 c0, .slice A1 l1 c1]) (x y z : Value) : IsF (set3 w b x y z) B v q := by
  obtain ⟨N, D, e, h1, h2⟩ := h
  exact ⟨N, D, e, h1.set3 hb x y z, h2.set3 hb x y z⟩
/-- The natural number 1 in a new block. -/
theorem IsN.new_one (w : World) (t : TypeId) : IsN (w.alloc (.cells #[.int .u32 1] t)) (w.heap.size + 1) .u32 (.slice (some ⟨w.heap.size, 0, none⟩) 1 1) 1 :=
  ⟨_, 1, by rw [limbs_one]; rfl, by rw [limbs_one]; exact Nat.le_refl _, by rw [limbs_one]; exact Rd.of_new w [.int .u32 1] t⟩
end Go.Proofs.YtpkhgdnkkdhlcaaGreatDoor

namespace Go.Proofs.YtpkhgdnkkdhlcaaGreatDoor
open Go.RowKit Ar

set_option maxHeartbeats 800000 in
theorem make_any (s : Bool) (n d : Nat) (v u : Value) (w : World) (hd : 0 < d) (h : IsN w w.heap.size .u32 v n) (h' : IsN w w.heap.size .u32 u d) (hl : (limbs n).length ≤ 500000000000) (hl' : (limbs d).length ≤ 500000000000) :
    Calls Tryz.prog 79 #[.bool s, v, u] w fun e w' => Below w.heap.size w w' ∧ ∃ v, e = .returned v ∧ IsF w' w'.heap.size v (nr s n d) := by
  by_cases hn : n = 0
  · go_enter Tryz.func79, Tryz.ntmps79
    go_wp2_with fail
    refine (zero_any n _ _ (h.alloc _)).mono ?_
    rintro e w1 ⟨rfl, rfl⟩
    rw [decide_eq_true hn]
    go_wp2
    refine bodyPost_ret (v := .agg #[.bool false, .slice none 0 0, .slice (some ⟨w.heap.size + 1, 0, none⟩) 1 1]) (by simp [results, Tryz.results79, go_sem]) rfl ?_
    refine ⟨(below_alloc w _).alloc (by simp) _, _, rfl, ?_⟩
    rw [hn, nr_zero]
    have h1 := IsN.new_one (w.alloc (.cells #[.bool false, .slice none 0 0, .slice (some ⟨w.heap.size + 1, 0, none⟩) 1 1] 102)) 105
    exact IsF.of (n := 0) (d := 1) rfl rfl rfl (IsN.nil _ _ _) (by simpa using h1)
  have hn0 : 0 < n := Nat.pos_of_ne_zero hn
  have hS := sg_nr s hd hn0
  have hN := nm_nr s (n := n) hd
  have hD := dn_nr s (n := n) hd
  generalize nr s n d = q at *
  have HI : Hid (∀ (W : World) (B : Nat) (N D : Value), IsN W B .u32 N (n / Nat.gcd n d) → IsN W B .u32 D (d / Nat.gcd n d) → IsF W B (.agg #[.bool s, N, D]) q) := fun W B N D h1 h2 => ⟨N, D, by rw [hS], by rw [hN]; exact h1, by rw [hD]; exact h2⟩
  clear hS hN hD
  obtain ⟨A, l, c, rfl⟩ := h.form
  obtain ⟨A2, l2, c2, rfl⟩ := h'.form
  by_cases hd1 : d = 1
  · subst hd1
    go_enter Tryz.func79, Tryz.ntmps79
    go_wp2_with fail
    refine (zero_any n _ _ (h.alloc _)).mono ?_
    rintro e w1 ⟨rfl, rfl⟩
    rw [decide_eq_false hn]
    go_wp2_with fail
    refine (one_any 1 _ _ (h'.alloc _) (by omega)).mono ?_
    rintro e w1 ⟨rfl, rfl⟩
    rw [decide_eq_true rfl]
    go_wp2
    refine bodyPost_ret (v := .agg #[.bool s, .slice A l c, .slice A2 l2 c2]) (by simp [results, Tryz.results79, go_sem]) rfl ?_
    refine ⟨below_alloc w _, _, rfl, ?_⟩
    exact HI.out _ _ _ _ (by rw [Nat.gcd_one_right, Nat.div_one]; exact h.alloc _) (by rw [Nat.gcd_one_right, Nat.div_one]; exact h'.alloc _)
  have hg0 : 0 < Nat.gcd n d := Nat.gcd_pos_of_pos_left d hn0
  have hgl : Nat.gcd n d ≤ n := Nat.gcd_le_left d hn0
  have hgd : Nat.gcd n d ∣ n := Nat.gcd_dvd_left n d
  have hge : Nat.gcd n d ∣ d := Nat.gcd_dvd_right n d
  have hng : n / Nat.gcd n d ≤ n := Nat.div_le_self _ _
  have hdg : d / Nat.gcd n d ≤ d := Nat.div_le_self _ _
  have hgll := len_mono hgl
  have HZ := Lib.hid hn
  have HG := Lib.hid hg0
  have HE1 : decide (d = 1) = false := by simp [hd1]
  clear hd1 hg0 hgl hgd hge hng hdg hn hn0
  go_enter Tryz.func79, Tryz.ntmps79
  go_wp2_with fail
  refine (zero_any n _ _ (h.alloc _)).mono ?_
  rintro e w1 ⟨rfl, rfl⟩
  rw [decide_eq_false HZ.out]
  go_wp2_with fail
  refine (one_any d _ _ (h'.alloc _) (by omega)).mono ?_
  rintro e w1 ⟨rfl, rfl⟩
  rw [HE1]
  go_wp2_with fail
  refine (gcd_any n d _ _ _ (h.alloc _) (h'.alloc _) hl hl').mono ?_
  rintro e w1 ⟨hb1, g, rfl, hg⟩
  obtain ⟨hcc, hff⟩ := below_cells hb1
  have hk := (Bk.new w 102 #[Value.bool false, .slice none 0 0, .slice none 0 0]).below hb1 (by simp)
  have hb0 : Below w.heap.size w w1 := (below_alloc w _).trans (hb1.mono (by simp))
  have hs1 := hb1.size
  have hlt1 : w.heap.size < w1.heap.size := by simp at hs1; omega
  by_cases hg1 : Nat.gcd n d = 1
  · have HG1 := Lib.hid hg1
    clear hg1
    go_wp2_with fail
    refine (one_any _ g _ hg (by omega)).mono ?_
    rintro e w2 ⟨rfl, rfl⟩
    rw [decide_eq_true HG1.out]
    go_wp2
    refine bodyPost_ret (v := .agg #[.bool s, .slice A l c, .slice A2 l2 c2]) (by simp [results, Tryz.results79, go_sem, hcc]) rfl ?_
    refine ⟨set3_below hb0 (Nat.le_refl _), _, rfl, ?_⟩
    have := (HI.out w1 w1.heap.size _ _ (by rw [HG1.out, Nat.div_one]; exact (h.below hb0).more (Nat.le_of_lt hlt1)) (by rw [HG1.out, Nat.div_one]; exact (h'.below hb0).more (Nat.le_of_lt hlt1))).set3 hk (.bool s) (.slice A l c) (.slice A2 l2 c2)
    exact this.more (by rw [show (World.setCell _ _ _) = set3 w1 w.heap.size (.bool s) (.slice A l c) (.slice A2 l2 c2) from rfl, set3_size]; exact Nat.le_refl _)
  · have HE2 : decide (Nat.gcd n d = 1) = false := by simp [hg1]
    clear hg1
    go_wp2_with fail
    refine (one_any _ g _ hg (by omega)).mono ?_
    rintro e w2 ⟨rfl, rfl⟩
    rw [HE2]
    go_wp2_with fail
    refine (div_any n _ _ g w1 HG.out ((h.below hb0).more (Nat.le_of_lt hlt1)) hg hl (by omega)).mono ?_
    rintro e w2 ⟨hb2, q1, r1, rfl, hq1, hr1⟩
    obtain ⟨A3, l3, c3, rfl⟩ := hq1.form
    go_wp2_with fail
    have hb02 := hb0.trans (hb2.mono (Nat.le_of_lt hlt1))
    refine (div_any d _ _ g w2 HG.out ((h'.below hb02).more hb02.size) (hg.next hb2) hl' (by omega)).mono ?_
    rintro e w3 ⟨hb3, q2, r2, rfl, hq2, hr2⟩
    obtain ⟨A4, l4, c4, rfl⟩ := hq2.form
    have hb03 := hb02.trans (hb3.mono hb02.size)
    have hlt3 : w.heap.size < w3.heap.size := Nat.lt_of_lt_of_le hlt1 (Nat.le_trans hb2.size hb3.size)
    have hk3 := (hk.below hb2 hlt1).below hb3 (Nat.lt_of_lt_of_le hlt1 hb2.size)
    clear hcc hff
    have hc0 := hk3.cell 0
    have hc1 := hk3.cell 1
    have hc2 := hk3.cell 2
    have hf0 := hk3.frozen 0
    have hf1 := hk3.frozen 1
    have hf2 := hk3.frozen 2
    simp only [List.getElem?_toArray, List.getElem?_cons_zero, List.getElem?_cons_succ] at hc0 hc1 hc2
    go_wp2
    refine bodyPost_ret (v := .agg #[.bool s, .slice A3 l3 c3, .slice A4 l4 c4]) (by simp [results, Tryz.results79, go_sem, hc0, hc1, hc2]) rfl ?_
    refine ⟨set3_below hb03 (Nat.le_refl _), _, rfl, ?_⟩
    have := (HI.out w3 w3.heap.size _ _ (hq1.next hb3) hq2).set3 hk3 (.bool s) (.slice A3 l3 c3) (.slice A4 l4 c4)
    exact this.more (by rw [show (World.setCell _ _ _) = set3 w3 w.heap.size (.bool s) (.slice A3 l3 c3) (.slice A4 l4 c4) from rfl, set3_size]; exact Nat.le_refl _)
end Go.Proofs.YtpkhgdnkkdhlcaaGreatDoor

