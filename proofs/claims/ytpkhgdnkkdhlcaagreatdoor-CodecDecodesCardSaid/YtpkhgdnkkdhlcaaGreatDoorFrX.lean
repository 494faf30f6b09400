/-
  Words for memory: fractions.
  Walks: package ratio's fractions: Make.
  Walks: package ratio's fractions: Int, Mul, Div, Minus, Sign, Add, Sub, Cmp.
  Walks: package ratio's fractions: Int, Minus, Sign.
  Walks: package ratio's fractions: Minus, Add, Sub, Cmp.
  Walks: package ratio's fractions: Add.
  Words: appends that keep the numbers in memory; blocks side by side.
-/
import Derived.Test.YtpkhgdnkkdhlcaaGreatDoorNaX
import Derived.Test.YtpkhgdnkkdhlcaaGreatDoorNumX
import Derived.Deep.RegionHeld3
namespace Go.Proofs.YtpkhgdnkkdhlcaaGreatDoor
open Go.RowKit Ar

/-- A fraction in memory. -/
def IsF (w : World) (B : Nat) (v : Value) (q : Rat) : Prop := ∃ N D, v = .agg #[.bool (sg q), N, D] ∧ IsN w B .u32 N (nm q) ∧ IsN w B .u32 D (dn q)
section
variable {w w' : World} {B B' : Nat} {v : Value} {q : Rat}
theorem IsF.more (h : IsF w B v q) (hB : B ≤ B') : IsF w B' v q := by
  obtain ⟨N, D, e, h1, h2⟩ := h; exact ⟨N, D, e, h1.more hB, h2.more hB⟩
theorem IsF.below (h : IsF w B v q) (hb : Below B w w') : IsF w' B v q := by
  obtain ⟨N, D, e, h1, h2⟩ := h; exact ⟨N, D, e, h1.below hb, h2.below hb⟩
theorem IsF.next (h : IsF w w.heap.size v q) (hb : Below w.heap.size w w') : IsF w' w'.heap.size v q := (h.below hb).more hb.size
end
theorem IsF.of {w : World} {B : Nat} {N D : Value} {n d : Nat} {b : Bool} {q : Rat} (hs : sg q = b) (hn : nm q = n) (hd : dn q = d) (h1 : IsN w B .u32 N n) (h2 : IsN w B .u32 D d) : IsF w B (.agg #[.bool b, N, D]) q :=
  ⟨N, D, by rw [hs], by rw [hn]; exact h1, by rw [hd]; exact h2⟩
theorem IsN.form {w : World} {B : Nat} {k : IntKind} {v : Value} {n : Nat} (h : IsN w B k v n) : ∃ A l c, v = .slice A l c := by
  obtain ⟨A, c, e, _⟩ := h; exact ⟨A, _, c, e⟩
theorem below_alloc (w : World) (o : Obj) : Below w.heap.size w (w.alloc o) := (Below.refl _ _).alloc (Nat.le_refl _) _
theorem IsN.alloc {w : World} {k : IntKind} {v : Value} {n : Nat} (h : IsN w w.heap.size k v n) (o : Obj) : IsN (w.alloc o) (w.alloc o).heap.size k v n := h.next (below_alloc w o)
/-- A cell that held no number is written anew. -/
theorem Rd.put_far {w : World} {B : Nat} {A : Option Addr} {k : IntKind} {l : List Nat} (h : Rd w B A (ints k l)) {p : Addr} {u : Value} (hc : w.cell? p = some u) (hu : ∀ (k : IntKind) (i : Int), u ≠ .int k i) (x : Value) : Rd (w.setCell p x) B A (ints k l) := fun hn => by
  obtain ⟨ad, e, hb, h2⟩ := h hn
  refine ⟨ad, e, hb, fun j y hy => ?_⟩
  rw [World.cell?_setCell_other w p _ x (fun e => ?_)]
  · exact h2 j y hy
  · have := h2 j y hy
    rw [← e] at this
    rw [hc] at this
    injection this with this
    subst this
    have hm : u ∈ ints k l := List.mem_of_getElem? hy
    simp [ints] at hm
    obtain ⟨z, _, hz⟩ := hm
    exact hu _ _ hz.symm
theorem IsN.put_far {w : World} {B : Nat} {k : IntKind} {v : Value} {n : Nat} (h : IsN w B k v n) {p : Addr} {u : Value} (hc : w.cell? p = some u) (hu : ∀ (k : IntKind) (i : Int), u ≠ .int k i) (x : Value) : IsN (w.setCell p x) B k v n := by
  obtain ⟨A, c, e, h1, h3⟩ := h
  exact ⟨A, c, e, h1, h3.put_far hc hu x⟩
/-- Three fields are written. -/
def set3 (w : World) (b : Nat) (x y z : Value) : World := ((w.setCell ⟨b, 0, none⟩ x).setCell ⟨b, 1, none⟩ y).setCell ⟨b, 2, none⟩ z
theorem set3_bk {w : World} {b : Nat} {T : TypeId} {f x y z : Value} {N0 D0 : Value} (hb : Bk w b T #[f, N0, D0]) : Bk (set3 w b x y z) b T #[x, y, z] := by
  have := ((hb.put 0 x).put 1 y).put 2 z
  simpa [set3] using this
theorem set3_below {w w0 : World} {B b : Nat} {x y z : Value} (h : Below B w0 w) (hb : B ≤ b) : Below B w0 (set3 w b x y z) := ((h.setCell (by exact hb) x).setCell (by exact hb) y).setCell (by exact hb) z
theorem set3_size (w : World) (b : Nat) (x y z : Value) : (set3 w b x y z).heap.size = w.heap.size := by simp [set3, World.setCell]
theorem IsN.set3 {w : World} {B b : Nat} {k : IntKind} {v : Value} {n : Nat} (h : IsN w B k v n) {T : TypeId} {f : Bool} {A0 A1 : Option Addr} {l0 l1 c0 c1 : Nat} (hb : Bk w b T #[.bool f, .slice A0 l0 c0, .slice A1 l1 c1]) (x y z : Value)  : IsN (set3 w b x y z) B k v n := by
  have h0 := hb.cell 0
  have hb1 := hb.put 0 x
  have h1 := hb1.cell 1
  have hb2 := hb1.put 1 y
  have h2 := hb2.cell 2
  exact ((h.put_far h0 (fun _ _ e => by cases e) x).put_far h1 (fun _ _ e => by cases e) y).put_far h2 (fun _ _ e => by cases e) z
theorem IsF.set3 {w : World} {B b : Nat} {v : Value} {q : Rat} (h : IsF w B v q) {T : TypeId} {f : Bool} {A0 A1 : Option Addr} {l0 l1 c0 c1 : Nat} (hb : Bk w b T #[.bool f, .slice A0 l0 c0, .slice A1 l1 c1]) (x y z : Value) : IsF (set3 w b x y z) B v q := by
  obtain ⟨N, D, e, h1, h2⟩ := h
  exact ⟨N, D, e, h1.set3 hb x y z, h2.set3 hb x y z⟩
/-- The natural number 1 in a new block. -/
theorem IsN.new_one (w : World) (t : TypeId) : IsN (w.alloc (.cells #[.int .u32 1] t)) (w.heap.size + 1) .u32 (.slice (some ⟨w.heap.size, 0, none⟩) 1 1) 1 :=
  ⟨_, 1, by rw [limbs_one]; rfl, by rw [limbs_one]; exact Nat.le_refl _, by rw [limbs_one]; exact Rd.of_new w [.int .u32 1] t⟩
end Go.Proofs.YtpkhgdnkkdhlcaaGreatDoor

namespace Go.Proofs.YtpkhgdnkkdhlcaaGreatDoor
open Go.RowKit Ar

set_option maxHeartbeats 800000 in
theorem make_any (s : Bool) (n d : Nat) (v u : Value) (w : World) (hd : 0 < d) (h : IsN w w.heap.size .u32 v n) (h' : IsN w w.heap.size .u32 u d) (hl : (limbs n).length ≤ 500000000000) (hl' : (limbs d).length ≤ 500000000000) :
    Calls Tryz.prog 79 #[.bool s, v, u] w fun e w' => Below w.heap.size w w' ∧ ∃ v, e = .returned v ∧ IsF w' w'.heap.size v (nr s n d) := by
  by_cases hn : n = 0
  · go_enter Tryz.func79, Tryz.ntmps79
    go_wp2_with fail
    refine (zero_any n _ _ (h.alloc _)).mono ?_
    rintro e w1 ⟨rfl, rfl⟩
    rw [decide_eq_true hn]
    go_wp2
    refine bodyPost_ret (v := .agg #[.bool false, .slice none 0 0, .slice (some ⟨w.heap.size + 1, 0, none⟩) 1 1]) (by simp [results, Tryz.results79, go_sem]) rfl ?_
    refine ⟨(below_alloc w _).alloc (by simp) _, _, rfl, ?_⟩
    rw [hn, nr_zero]
    have h1 := IsN.new_one (w.alloc (.cells #[.bool false, .slice none 0 0, .slice (some ⟨w.heap.size + 1, 0, none⟩) 1 1] 102)) 105
    exact IsF.of (n := 0) (d := 1) rfl rfl rfl (IsN.nil _ _ _) (by simpa using h1)
  have hn0 : 0 < n := Nat.pos_of_ne_zero hn
  have hS := sg_nr s hd hn0
  have hN := nm_nr s (n := n) hd
  have hD := dn_nr s (n := n) hd
  generalize nr s n d = q at *
  have HI : Hid (∀ (W : World) (B : Nat) (N D : Value), IsN W B .u32 N (n / Nat.gcd n d) → IsN W B .u32 D (d / Nat.gcd n d) → IsF W B (.agg #[.bool s, N, D]) q) := fun W B N D h1 h2 => ⟨N, D, by rw [hS], by rw [hN]; exact h1, by rw [hD]; exact h2⟩
  clear hS hN hD
  obtain ⟨A, l, c, rfl⟩ := h.form
  obtain ⟨A2, l2, c2, rfl⟩ := h'.form
  by_cases hd1 : d = 1
  · subst hd1
    go_enter Tryz.func79, Tryz.ntmps79
    go_wp2_with fail
    refine (zero_any n _ _ (h.alloc _)).mono ?_
    rintro e w1 ⟨rfl, rfl⟩
    rw [decide_eq_false hn]
    go_wp2_with fail
    refine (one_any 1 _ _ (h'.alloc _) (by omega)).mono ?_
    rintro e w1 ⟨rfl, rfl⟩
    rw [decide_eq_true rfl]
    go_wp2
    refine bodyPost_ret (v := .agg #[.bool s, .slice A l c, .slice A2 l2 c2]) (by simp [results, Tryz.results79, go_sem]) rfl ?_
    refine ⟨below_alloc w _, _, rfl, ?_⟩
    exact HI.out _ _ _ _ (by rw [Nat.gcd_one_right, Nat.div_one]; exact h.alloc _) (by rw [Nat.gcd_one_right, Nat.div_one]; exact h'.alloc _)
  have hg0 : 0 < Nat.gcd n d := Nat.gcd_pos_of_pos_left d hn0
  have hgl : Nat.gcd n d ≤ n := Nat.gcd_le_left d hn0
  have hgd : Nat.gcd n d ∣ n := Nat.gcd_dvd_left n d
  have hge : Nat.gcd n d ∣ d := Nat.gcd_dvd_right n d
  have hng : n / Nat.gcd n d ≤ n := Nat.div_le_self _ _
  have hdg : d / Nat.gcd n d ≤ d := Nat.div_le_self _ _
  have hgll := len_mono hgl
  have HZ := Lib.hid hn
  have HG := Lib.hid hg0
  have HE1 : decide (d = 1) = false := by simp [hd1]
  clear hd1 hg0 hgl hgd hge hng hdg hn hn0
  go_enter Tryz.func79, Tryz.ntmps79
  go_wp2_with fail
  refine (zero_any n _ _ (h.alloc _)).mono ?_
  rintro e w1 ⟨rfl, rfl⟩
  rw [decide_eq_false HZ.out]
  go_wp2_with fail
  refine (one_any d _ _ (h'.alloc _) (by omega)).mono ?_
  rintro e w1 ⟨rfl, rfl⟩
  rw [HE1]
  go_wp2_with fail
  refine (gcd_any n d _ _ _ (h.alloc _) (h'.alloc _) hl hl').mono ?_
  rintro e w1 ⟨hb1, g, rfl, hg⟩
  obtain ⟨hcc, hff⟩ := below_cells hb1
  have hk := (Bk.new w 102 #[Value.bool false, .slice none 0 0, .slice none 0 0]).below hb1 (by simp)
  have hb0 : Below w.heap.size w w1 := (below_alloc w _).trans (hb1.mono (by simp))
  have hs1 := hb1.size
  have hlt1 : w.heap.size < w1.heap.size := by simp at hs1; omega
  by_cases hg1 : Nat.gcd n d = 1
  · have HG1 := Lib.hid hg1
    clear hg1
    go_wp2_with fail
    refine (one_any _ g _ hg (by omega)).mono ?_
    rintro e w2 ⟨rfl, rfl⟩
    rw [decide_eq_true HG1.out]
    go_wp2
    refine bodyPost_ret (v := .agg #[.bool s, .slice A l c, .slice A2 l2 c2]) (by simp [results, Tryz.results79, go_sem, hcc]) rfl ?_
    refine ⟨set3_below hb0 (Nat.le_refl _), _, rfl, ?_⟩
    have := (HI.out w1 w1.heap.size _ _ (by rw [HG1.out, Nat.div_one]; exact (h.below hb0).more (Nat.le_of_lt hlt1)) (by rw [HG1.out, Nat.div_one]; exact (h'.below hb0).more (Nat.le_of_lt hlt1))).set3 hk (.bool s) (.slice A l c) (.slice A2 l2 c2)
    exact this.more (by rw [show (World.setCell _ _ _) = set3 w1 w.heap.size (.bool s) (.slice A l c) (.slice A2 l2 c2) from rfl, set3_size]; exact Nat.le_refl _)
  · have HE2 : decide (Nat.gcd n d = 1) = false := by simp [hg1]
    clear hg1
    go_wp2_with fail
    refine (one_any _ g _ hg (by omega)).mono ?_
    rintro e w2 ⟨rfl, rfl⟩
    rw [HE2]
    go_wp2_with fail
    refine (div_any n _ _ g w1 HG.out ((h.below hb0).more (Nat.le_of_lt hlt1)) hg hl (by omega)).mono ?_
    rintro e w2 ⟨hb2, q1, r1, rfl, hq1, hr1⟩
    obtain ⟨A3, l3, c3, rfl⟩ := hq1.form
    go_wp2_with fail
    have hb02 := hb0.trans (hb2.mono (Nat.le_of_lt hlt1))
    refine (div_any d _ _ g w2 HG.out ((h'.below hb02).more hb02.size) (hg.next hb2) hl' (by omega)).mono ?_
    rintro e w3 ⟨hb3, q2, r2, rfl, hq2, hr2⟩
    obtain ⟨A4, l4, c4, rfl⟩ := hq2.form
    have hb03 := hb02.trans (hb3.mono hb02.size)
    have hlt3 : w.heap.size < w3.heap.size := Nat.lt_of_lt_of_le hlt1 (Nat.le_trans hb2.size hb3.size)
    have hk3 := (hk.below hb2 hlt1).below hb3 (Nat.lt_of_lt_of_le hlt1 hb2.size)
    clear hcc hff
    have hc0 := hk3.cell 0
    have hc1 := hk3.cell 1
    have hc2 := hk3.cell 2
    have hf0 := hk3.frozen 0
    have hf1 := hk3.frozen 1
    have hf2 := hk3.frozen 2
    simp only [List.getElem?_toArray, List.getElem?_cons_zero, List.getElem?_cons_succ] at hc0 hc1 hc2
    go_wp2
    refine bodyPost_ret (v := .agg #[.bool s, .slice A3 l3 c3, .slice A4 l4 c4]) (by simp [results, Tryz.results79, go_sem, hc0, hc1, hc2]) rfl ?_
    refine ⟨set3_below hb03 (Nat.le_refl _), _, rfl, ?_⟩
    have := (HI.out w3 w3.heap.size _ _ (hq1.next hb3) hq2).set3 hk3 (.bool s) (.slice A3 l3 c3) (.slice A4 l4 c4)
    exact this.more (by rw [show (World.setCell _ _ _) = set3 w3 w.heap.size (.bool s) (.slice A3 l3 c3) (.slice A4 l4 c4) from rfl, set3_size]; exact Nat.le_refl _)
end Go.Proofs.YtpkhgdnkkdhlcaaGreatDoor

namespace Go.Proofs.YtpkhgdnkkdhlcaaGreatDoor
open Go.RowKit Ar

/-- The size of a fraction. -/
def sz (q : Rat) : Nat := max (limbs (nm q)).length (limbs (dn q)).length
theorem sz_nm (q : Rat) : (limbs (nm q)).length ≤ sz q := Nat.le_max_left _ _
theorem sz_dn (q : Rat) : (limbs (dn q)).length ≤ sz q := Nat.le_max_right _ _

theorem below_drew {B : Nat} {a w : World} (h : Below B a w) : Below B a w.drew := h.drew

/-- The world under one name. -/
theorem wp_name {P : Program} {c : Code} {Q : Exit → Act → World → Prop} {a : Act} {w : World} (F : World → Prop) (hF : F w) (h : ∀ W, F W → c.wp P Q a W) : c.wp P Q a w := h w hF

theorem IsF.form {w : World} {B : Nat} {v : Value} {q : Rat} (h : IsF w B v q) : ∃ s A l c A' l' c', v = .agg #[.bool s, .slice A l c, .slice A' l' c'] := by
  obtain ⟨N, D, e, h1, h2⟩ := h
  obtain ⟨A, l, c, rfl⟩ := h1.form
  obtain ⟨A', l', c', rfl⟩ := h2.form
  exact ⟨_, _, _, _, _, _, _, e⟩
theorem bk3 {w : World} {b : Nat} {T : TypeId} {x y z : Value} (h : Bk w b T #[x, y, z]) : w.cell? ⟨b, 0, none⟩ = some x ∧ w.cell? ⟨b, 1, none⟩ = some y ∧ w.cell? ⟨b, 2, none⟩ = some z := ⟨h.cell 0, h.cell 1, h.cell 2⟩
theorem bk_far3 {w : World} {b b' : Nat} {T : TypeId} {cs : Array Value} {x y z : Value} (h : Bk w b T cs) (hne : b ≠ b') : Bk (set3 w b' x y z) b T cs := ((h.far (by exact hne) x).far (by exact hne) y).far (by exact hne) z
theorem bk6 {w : World} {b b' : Nat} {T T' : TypeId} {x y z x' y' z' : Value} (h : Bk w b T #[x, y, z]) (h' : Bk w b' T' #[x', y', z']) :
    w.cell? ⟨b, 0, none⟩ = some x ∧ w.cell? ⟨b, 1, none⟩ = some y ∧ w.cell? ⟨b, 2, none⟩ = some z ∧ w.cell? ⟨b', 0, none⟩ = some x' ∧ w.cell? ⟨b', 1, none⟩ = some y' ∧ w.cell? ⟨b', 2, none⟩ = some z' := ⟨h.cell 0, h.cell 1, h.cell 2, bk3 h'⟩

set_option maxRecDepth 100000 in
set_option maxHeartbeats 3200000 in
theorem fmul_any (p q : Rat) (v u : Value) (w : World) (h : IsF w w.heap.size v p) (h' : IsF w w.heap.size u q) (hl : sz p ≤ 200000000000) (hl' : sz q ≤ 200000000000) :
    Calls Tryz.prog 83 #[v, u] w fun e w' => Below w.heap.size w w' ∧ ∃ v, e = .returned v ∧ IsF w' w'.heap.size v (p * q) := by
  obtain ⟨N1, D1, rfl, hN1, hD1⟩ := h
  obtain ⟨N2, D2, rfl, hN2, hD2⟩ := h'
  obtain ⟨A1, l1, c1, rfl⟩ := hN1.form
  obtain ⟨A2, l2, c2, rfl⟩ := hD1.form
  obtain ⟨A3, l3, c3, rfl⟩ := hN2.form
  obtain ⟨A4, l4, c4, rfl⟩ := hD2.form
  go_enter Tryz.func83, Tryz.ntmps83
  go_wp2_with fail
  refine wp_name (fun W => Below w.heap.size w W ∧ Bk W w.heap.size 102 #[.bool (sg p), .slice A1 l1 c1, .slice A2 l2 c2] ∧ Bk W (w.heap.size + 1) 102 #[.bool (sg q), .slice A3 l3 c3, .slice A4 l4 c4] ∧
    Bk W (w.heap.size + 1 + 1) 102 #[.bool false, .slice none 0 0, .slice none 0 0]) ⟨((below_alloc w _).alloc (by simp) _).alloc (by simp; omega) _, ((Bk.new _ _ _).alloc _).alloc _, (by simpa using ((Bk.new (w.alloc _) _ _).alloc _)), (by simpa using (Bk.new ((w.alloc _).alloc _) _ _))⟩ ?_
  rintro W ⟨hB, k1, k2, k3⟩
  have HK1 := Lib.hid k1
  have HK2 := Lib.hid k2
  have HK3 := Lib.hid k3
  have a0 := k1.cell 0
  have a1 := k1.cell 1
  have a2 := k1.cell 2
  have b0 := k2.cell 0
  have b1 := k2.cell 1
  have b2 := k2.cell 2
  simp only [List.getElem?_toArray, List.getElem?_cons_zero, List.getElem?_cons_succ] at a0 a1 a2 b0 b1 b2
  have hlt := k3.lt
  have HB := Lib.hid hB
  have M1 : Hid (∀ X, Below w.heap.size w X → Calls Tryz.prog 141 #[.slice A1 l1 c1, .slice A3 l3 c3] X fun e w' => Below X.heap.size X w' ∧ ∃ v, e = .returned v ∧ IsN w' w'.heap.size .u32 v (nm p * nm q)) := fun X hX => mul_any _ _ _ _ X ((hN1.below hX).more hX.size) ((hN2.below hX).more hX.size) (by have := sz_nm p; omega) (by have := sz_nm q; omega)
  have M2 : Hid (∀ X, Below w.heap.size w X → Calls Tryz.prog 141 #[.slice A2 l2 c2, .slice A4 l4 c4] X fun e w' => Below X.heap.size X w' ∧ ∃ v, e = .returned v ∧ IsN w' w'.heap.size .u32 v (dn p * dn q)) := fun X hX => mul_any _ _ _ _ X ((hD1.below hX).more hX.size) ((hD2.below hX).more hX.size) (by have := sz_dn p; omega) (by have := sz_dn q; omega)
  have hsz1 : (limbs (nm p * nm q)).length ≤ 500000000000 := by have := len_mul_le (nm p) (nm q); have := sz_nm p; have := sz_nm q; omega
  have hsz2 : (limbs (dn p * dn q)).length ≤ 500000000000 := by have := len_mul_le (dn p) (dn q); have := sz_dn p; have := sz_dn q; omega
  have hd0 : 0 < dn p * dn q := Nat.mul_pos (dn_pos p) (dn_pos q)
  have HR := Lib.hid (mul_nr p q)
  clear k1 k2 k3 hB hN1 hN2 hD1 hD2 hl hl'
  generalize sg p = s1 at *
  generalize sg q = s2 at *
  generalize nm p * nm q = n at *
  generalize dn p * dn q = d at *
  go_region_held3 (fun w' => w'.cell? ⟨w.heap.size, 0, none⟩ = some (.bool s1) ∧ w'.cell? ⟨w.heap.size, 1, none⟩ = some (.slice A1 l1 c1) ∧ w'.cell? ⟨w.heap.size, 2, none⟩ = some (.slice A2 l2 c2) ∧
      w'.cell? ⟨w.heap.size + 1, 0, none⟩ = some (.bool s2) ∧ w'.cell? ⟨w.heap.size + 1, 1, none⟩ = some (.slice A3 l3 c3) ∧ w'.cell? ⟨w.heap.size + 1, 2, none⟩ = some (.slice A4 l4 c4)) (first | with_reducible exact bk6 k11 k21 | with_reducible exact bk6 k12 k22 | with_reducible exact bk6 k13 k23 | exact bk6 kk1 kk2 | go_keep)
    (first
      | (go_at_call 141; ((with_reducible refine (M1.out _ (HB.out.drew)).mono ?_)); rintro e w1 ⟨hb1, x1, rfl, hx1⟩; have k11 := HK1.out.drew.below hb1 HK1.out.lt; have k21 := HK2.out.drew.below hb1 HK2.out.lt; have hB1 := HB.out.drew.trans (hb1.mono HB.out.size))
      | (go_at_call 141; ((with_reducible refine (M2.out _ hB1).mono ?_)); rintro e w2 ⟨hb2, x2, rfl, hx2⟩; have k12 := k11.below hb2 k11.lt; have k22 := k21.below hb2 k21.lt; have hB2 := hB1.trans (hb2.mono hB1.size))
      | (go_at_call 79; ((with_reducible refine (make_any _ n d _ _ _ hd0 (hx1.next hb2) hx2 hsz1 hsz2).mono ?_)); rintro e w3 ⟨hb3, x3, rfl, hx3⟩; have k13 := k12.below hb3 k12.lt; have k23 := k22.below hb3 k22.lt; have hB3 := hB2.trans (hb3.mono hB2.size); have k33 := ((HK3.out.drew.below hb1 HK3.out.lt).below hb2 (Nat.lt_of_lt_of_le HK3.out.lt hb1.size)).below hb3 (Nat.lt_of_lt_of_le HK3.out.lt (Nat.le_trans hb1.size hb2.size)); obtain ⟨t3, A5, l5, c5, A6, l6, c6, rfl⟩ := hx3.form; obtain ⟨d0, d1, d2⟩ := bk3 k33; have f0 := k33.frozen 0; have f1 := k33.frozen 1; have f2 := k33.frozen 2; have kk1 := bk_far3 (b' := w.heap.size + 1 + 1) (x := .bool t3) (y := .slice A5 l5 c5) (z := .slice A6 l6 c6) k13 (by omega); have kk2 := bk_far3 (b' := w.heap.size + 1 + 1) (x := .bool t3) (y := .slice A5 l5 c5) (z := .slice A6 l6 c6) k23 (by omega)))
  go_wp2
  refine bodyPost_ret (v := .agg #[.bool t3, .slice A5 l5 c5, .slice A6 l6 c6]) (by simp [results, Tryz.results83, go_sem, d0, d1, d2]) rfl ?_
  refine ⟨set3_below hB3 (by omega), _, rfl, ?_⟩
  have e : p * q = nr (!s1 == s2) n d := HR.out
  rw [e]
  exact (hx3.set3 k33 (.bool t3) (.slice A5 l5 c5) (.slice A6 l6 c6)).more (by rw [show (World.setCell _ _ _) = set3 w3 (w.heap.size + 1 + 1) (.bool t3) (.slice A5 l5 c5) (.slice A6 l6 c6) from rfl, set3_size]; exact Nat.le_refl _)
set_option maxRecDepth 100000 in
set_option maxHeartbeats 3200000 in
theorem fdiv_any (p q : Rat) (v u : Value) (w : World) (hq0 : q ≠ 0) (h : IsF w w.heap.size v p) (h' : IsF w w.heap.size u q) (hl : sz p ≤ 200000000000) (hl' : sz q ≤ 200000000000) :
    Calls Tryz.prog 80 #[v, u] w fun e w' => Below w.heap.size w w' ∧ ∃ v, e = .returned v ∧ IsF w' w'.heap.size v (p / q) := by
  obtain ⟨N1, D1, rfl, hN1, hD1⟩ := h
  obtain ⟨N2, D2, rfl, hN2, hD2⟩ := h'
  obtain ⟨A1, l1, c1, rfl⟩ := hN1.form
  obtain ⟨A2, l2, c2, rfl⟩ := hD1.form
  obtain ⟨A3, l3, c3, rfl⟩ := hN2.form
  obtain ⟨A4, l4, c4, rfl⟩ := hD2.form
  go_enter Tryz.func80, Tryz.ntmps80
  go_wp2_with fail
  refine wp_name (fun W => Below w.heap.size w W ∧ Bk W w.heap.size 102 #[.bool (sg p), .slice A1 l1 c1, .slice A2 l2 c2] ∧ Bk W (w.heap.size + 1) 102 #[.bool (sg q), .slice A3 l3 c3, .slice A4 l4 c4] ∧
    Bk W (w.heap.size + 1 + 1) 102 #[.bool false, .slice none 0 0, .slice none 0 0]) ⟨((below_alloc w _).alloc (by simp) _).alloc (by simp; omega) _, ((Bk.new _ _ _).alloc _).alloc _, (by simpa using ((Bk.new (w.alloc _) _ _).alloc _)), (by simpa using (Bk.new ((w.alloc _).alloc _) _ _))⟩ ?_
  rintro W ⟨hB, k1, k2, k3⟩
  have HK1 := Lib.hid k1
  have HK2 := Lib.hid k2
  have HK3 := Lib.hid k3
  have a0 := k1.cell 0
  have a1 := k1.cell 1
  have a2 := k1.cell 2
  have b0 := k2.cell 0
  have b1 := k2.cell 1
  have b2 := k2.cell 2
  simp only [List.getElem?_toArray, List.getElem?_cons_zero, List.getElem?_cons_succ] at a0 a1 a2 b0 b1 b2
  have hlt := k3.lt
  have HB := Lib.hid hB
  have M1 : Hid (∀ X, Below w.heap.size w X → Calls Tryz.prog 141 #[.slice A1 l1 c1, .slice A4 l4 c4] X fun e w' => Below X.heap.size X w' ∧ ∃ v, e = .returned v ∧ IsN w' w'.heap.size .u32 v (nm p * dn q)) := fun X hX => mul_any _ _ _ _ X ((hN1.below hX).more hX.size) ((hD2.below hX).more hX.size) (by have := sz_nm p; omega) (by have := sz_dn q; omega)
  have M2 : Hid (∀ X, Below w.heap.size w X → Calls Tryz.prog 141 #[.slice A2 l2 c2, .slice A3 l3 c3] X fun e w' => Below X.heap.size X w' ∧ ∃ v, e = .returned v ∧ IsN w' w'.heap.size .u32 v (dn p * nm q)) := fun X hX => mul_any _ _ _ _ X ((hD1.below hX).more hX.size) ((hN2.below hX).more hX.size) (by have := sz_dn p; omega) (by have := sz_nm q; omega)
  have hsz1 : (limbs (nm p * dn q)).length ≤ 500000000000 := by have := len_mul_le (nm p) (dn q); have := sz_nm p; have := sz_dn q; omega
  have hsz2 : (limbs (dn p * nm q)).length ≤ 500000000000 := by have := len_mul_le (dn p) (nm q); have := sz_dn p; have := sz_nm q; omega
  have hd0 : 0 < dn p * nm q := Nat.mul_pos (dn_pos p) (Nat.pos_of_ne_zero fun e => hq0 (nm_zero.1 e))
  have HR := Lib.hid (div_nr p q hq0)
  clear k1 k2 k3 hB hN1 hN2 hD1 hD2 hl hl'
  generalize sg p = s1 at *
  generalize sg q = s2 at *
  generalize nm p * dn q = n at *
  generalize dn p * nm q = d at *
  go_region_held3 (fun w' => w'.cell? ⟨w.heap.size, 0, none⟩ = some (.bool s1) ∧ w'.cell? ⟨w.heap.size, 1, none⟩ = some (.slice A1 l1 c1) ∧ w'.cell? ⟨w.heap.size, 2, none⟩ = some (.slice A2 l2 c2) ∧
      w'.cell? ⟨w.heap.size + 1, 0, none⟩ = some (.bool s2) ∧ w'.cell? ⟨w.heap.size + 1, 1, none⟩ = some (.slice A3 l3 c3) ∧ w'.cell? ⟨w.heap.size + 1, 2, none⟩ = some (.slice A4 l4 c4)) (first | with_reducible exact bk6 k11 k21 | with_reducible exact bk6 k12 k22 | with_reducible exact bk6 k13 k23 | exact bk6 kk1 kk2 | go_keep)
    (first
      | (go_at_call 141; ((with_reducible refine (M1.out _ (HB.out.drew)).mono ?_)); rintro e w1 ⟨hb1, x1, rfl, hx1⟩; have k11 := HK1.out.drew.below hb1 HK1.out.lt; have k21 := HK2.out.drew.below hb1 HK2.out.lt; have hB1 := HB.out.drew.trans (hb1.mono HB.out.size))
      | (go_at_call 141; ((with_reducible refine (M2.out _ hB1).mono ?_)); rintro e w2 ⟨hb2, x2, rfl, hx2⟩; have k12 := k11.below hb2 k11.lt; have k22 := k21.below hb2 k21.lt; have hB2 := hB1.trans (hb2.mono hB1.size))
      | (go_at_call 79; ((with_reducible refine (make_any _ n d _ _ _ hd0 (hx1.next hb2) hx2 hsz1 hsz2).mono ?_)); rintro e w3 ⟨hb3, x3, rfl, hx3⟩; have k13 := k12.below hb3 k12.lt; have k23 := k22.below hb3 k22.lt; have hB3 := hB2.trans (hb3.mono hB2.size); have k33 := ((HK3.out.drew.below hb1 HK3.out.lt).below hb2 (Nat.lt_of_lt_of_le HK3.out.lt hb1.size)).below hb3 (Nat.lt_of_lt_of_le HK3.out.lt (Nat.le_trans hb1.size hb2.size)); obtain ⟨t3, A5, l5, c5, A6, l6, c6, rfl⟩ := hx3.form; obtain ⟨d0, d1, d2⟩ := bk3 k33; have f0 := k33.frozen 0; have f1 := k33.frozen 1; have f2 := k33.frozen 2; have kk1 := bk_far3 (b' := w.heap.size + 1 + 1) (x := .bool t3) (y := .slice A5 l5 c5) (z := .slice A6 l6 c6) k13 (by omega); have kk2 := bk_far3 (b' := w.heap.size + 1 + 1) (x := .bool t3) (y := .slice A5 l5 c5) (z := .slice A6 l6 c6) k23 (by omega)))
  go_wp2
  refine bodyPost_ret (v := .agg #[.bool t3, .slice A5 l5 c5, .slice A6 l6 c6]) (by simp [results, Tryz.results80, go_sem, d0, d1, d2]) rfl ?_
  refine ⟨set3_below hB3 (by omega), _, rfl, ?_⟩
  have e : p / q = nr (!s1 == s2) n d := HR.out
  rw [e]
  exact (hx3.set3 k33 (.bool t3) (.slice A5 l5 c5) (.slice A6 l6 c6)).more (by rw [show (World.setCell _ _ _) = set3 w3 (w.heap.size + 1 + 1) (.bool t3) (.slice A5 l5 c5) (.slice A6 l6 c6) from rfl, set3_size]; exact Nat.le_refl _)
end Go.Proofs.YtpkhgdnkkdhlcaaGreatDoor

namespace Go.Proofs.YtpkhgdnkkdhlcaaGreatDoor
open Go.RowKit Ar

/-- The sign of a rational number. -/
def sgQ (q : Rat) : Int := if q = 0 then 0 else if q < 0 then -1 else 1

set_option maxHeartbeats 800000 in
theorem fsign_any (p : Rat) (v : Value) (w : World) (h : IsF w w.heap.size v p) :
    Calls Tryz.prog 78 #[v] w fun e w' => Below w.heap.size w w' ∧ e = .returned (.int .i64 (sgQ p)) := by
  obtain ⟨N1, D1, rfl, hN1, hD1⟩ := h
  obtain ⟨A1, l1, c1, rfl⟩ := hN1.form
  obtain ⟨A2, l2, c2, rfl⟩ := hD1.form
  by_cases hz : p = 0
  · have e : sgQ p = 0 := if_pos hz
    have hn : decide (nm p = 0) = true := decide_eq_true (nm_zero.2 hz)
    rw [e]
    clear e hz hD1
    generalize sg p = s at *
    go_enter Tryz.func78, Tryz.ntmps78
    go_wp2_with fail
    refine (zero_any _ _ _ (hN1.alloc _)).mono ?_
    rintro e w1 ⟨rfl, rfl⟩
    rw [hn]
    clear hn
    go_wp2
    go_ret
    exact ⟨below_alloc _ _, rfl⟩
  · have hn : decide (nm p = 0) = false := decide_eq_false (fun e => hz (nm_zero.1 e))
    by_cases hs : p < 0
    · have e : sgQ p = -1 := by unfold sgQ; rw [if_neg hz, if_pos hs]
      have hs' : sg p = true := decide_eq_true hs
      rw [e, hs']
      clear e hz hD1 hs hs'
      go_enter Tryz.func78, Tryz.ntmps78
      go_wp2_with fail
      refine (zero_any _ _ _ (hN1.alloc _)).mono ?_
      rintro e w1 ⟨rfl, rfl⟩
      rw [hn]
      clear hn
      go_wp2
      go_ret
      exact ⟨below_alloc _ _, rfl⟩
    · have e : sgQ p = 1 := by unfold sgQ; rw [if_neg hz, if_neg hs]
      have hs' : sg p = false := decide_eq_false hs
      rw [e, hs']
      clear e hz hD1 hs hs'
      go_enter Tryz.func78, Tryz.ntmps78
      go_wp2_with fail
      refine (zero_any _ _ _ (hN1.alloc _)).mono ?_
      rintro e w1 ⟨rfl, rfl⟩
      rw [hn]
      clear hn
      go_wp2
      go_ret
      exact ⟨below_alloc _ _, rfl⟩

theorem nm_int (n : Int) : nm (n : Rat) = n.natAbs := rfl
theorem dn_int (n : Int) : dn (n : Rat) = 1 := rfl
theorem sg_int (n : Int) : sg (n : Rat) = decide (n < 0) := by
  unfold sg
  rw [Bool.eq_iff_iff, decide_eq_true_eq, decide_eq_true_eq]
  exact Rat.intCast_neg_iff
theorem wrap_neg (m : Nat) (h : 0 < m) (h' : m ≤ 1000000000000000) : IntKind.u64.wrap (-IntKind.u64.wrap (-(m : Int))) = (m : Int) := by
  simp [IntKind.wrap, IntKind.bits, IntKind.signed]
  omega
theorem IsF.int {w : World} {B : Nat} {N D : Value} (b : Bool) (n : Int) (hb : decide (n < 0) = b) (h : IsN w B .u32 N n.natAbs) (h' : IsN w B .u32 D 1) : IsF w B (.agg #[.bool b, N, D]) (n : Rat) :=
  IsF.of (by rw [sg_int]; exact hb) rfl rfl h h'

end Go.Proofs.YtpkhgdnkkdhlcaaGreatDoor

namespace Go.Proofs.YtpkhgdnkkdhlcaaGreatDoor
open Go.RowKit Ar

set_option maxHeartbeats 800000 in
theorem fminus_any (p : Rat) (v : Value) (w : World) (h : IsF w w.heap.size v p) :
    Calls Tryz.prog 214 #[v] w fun e w' => Below w.heap.size w w' ∧ ∃ v, e = .returned v ∧ IsF w' w'.heap.size v (-p) := by
  obtain ⟨N1, D1, rfl, hN1, hD1⟩ := h
  obtain ⟨A1, l1, c1, rfl⟩ := hN1.form
  obtain ⟨A2, l2, c2, rfl⟩ := hD1.form
  have hs := sg_neg p
  have hN := Lib.hid (nm_neg p)
  have hD := Lib.hid (dn_neg p)
  by_cases h1 : sg p = true
  · rw [h1] at hs ⊢
    simp only [Bool.not_true, Bool.false_and] at hs
    have HS := Lib.hid hs
    clear hs h1
    go_enter Tryz.func214, Tryz.ntmps214
    go_wp2
    refine bodyPost_ret (v := .agg #[.bool false, .slice A1 l1 c1, .slice A2 l2 c2]) (by simp [results, Tryz.results214, go_sem]) rfl ?_
    exact ⟨(below_alloc w _).alloc (by simp) _, _, rfl, IsF.of HS.out hN.out hD.out ((hN1.alloc _).alloc _) ((hD1.alloc _).alloc _)⟩
  · have h1' : sg p = false := by simpa using h1
    by_cases hz : nm p = 0
    · rw [h1', hz] at hs
      simp only [ne_eq, not_true_eq_false, decide_false, Bool.and_false] at hs
      have HS := Lib.hid hs
      have hd : decide (nm p = 0) = true := decide_eq_true hz
      rw [h1']
      clear hs h1 h1' hz
      go_enter Tryz.func214, Tryz.ntmps214
      go_wp2_with fail
      refine (zero_any _ _ _ ((hN1.alloc _).alloc _)).mono ?_
      rintro e w1 ⟨rfl, rfl⟩
      rw [hd]
      clear hd
      go_wp2
      refine bodyPost_ret (v := .agg #[.bool false, .slice A1 l1 c1, .slice A2 l2 c2]) (by simp [results, Tryz.results214, go_sem]) rfl ?_
      exact ⟨(below_alloc w _).alloc (by simp) _, _, rfl, IsF.of HS.out hN.out hD.out ((hN1.alloc _).alloc _) ((hD1.alloc _).alloc _)⟩
    · rw [h1'] at hs
      simp only [Bool.not_false, Bool.true_and, ne_eq, hz, not_false_eq_true, decide_true] at hs
      have HS := Lib.hid hs
      have hd : decide (nm p = 0) = false := decide_eq_false hz
      rw [h1']
      clear hs h1 h1' hz
      go_enter Tryz.func214, Tryz.ntmps214
      go_wp2_with fail
      refine (zero_any _ _ _ ((hN1.alloc _).alloc _)).mono ?_
      rintro e w1 ⟨rfl, rfl⟩
      rw [hd]
      clear hd
      go_wp2
      refine bodyPost_ret (v := .agg #[.bool true, .slice A1 l1 c1, .slice A2 l2 c2]) (by simp [results, Tryz.results214, go_sem]) rfl ?_
      exact ⟨(below_alloc w _).alloc (by simp) _, _, rfl, IsF.of HS.out hN.out hD.out ((hN1.alloc _).alloc _) ((hD1.alloc _).alloc _)⟩
end Go.Proofs.YtpkhgdnkkdhlcaaGreatDoor

namespace Go.Proofs.YtpkhgdnkkdhlcaaGreatDoor
open Go.RowKit Ar

theorem IsN.drew {w : World} {k : IntKind} {v : Value} {n : Nat} (h : IsN w w.heap.size k v n) : IsN w.drew w.drew.heap.size k v n := h
theorem IsN.drewN {w : World} {k : IntKind} {v : Value} {n : Nat} (h : IsN w w.heap.size k v n) (m : Nat) : IsN (w.drewN m) (w.drewN m).heap.size k v n := h

set_option maxRecDepth 100000 in
set_option maxHeartbeats 6400000 in
theorem fadd_any (p q : Rat) (v u : Value) (w : World) (h : IsF w w.heap.size v p) (h' : IsF w w.heap.size u q) (hl : sz p ≤ 200000000000) (hl' : sz q ≤ 200000000000) :
    Calls Tryz.prog 81 #[v, u] w fun e w' => Below w.heap.size w w' ∧ ∃ v, e = .returned v ∧ IsF w' w'.heap.size v (p + q) := by
  obtain ⟨N1, D1, rfl, hN1, hD1⟩ := h
  obtain ⟨N2, D2, rfl, hN2, hD2⟩ := h'
  obtain ⟨A1, l1, c1, rfl⟩ := hN1.form
  obtain ⟨A2, l2, c2, rfl⟩ := hD1.form
  obtain ⟨A3, l3, c3, rfl⟩ := hN2.form
  obtain ⟨A4, l4, c4, rfl⟩ := hD2.form
  go_enter Tryz.func81, Tryz.ntmps81
  go_wp2_with fail
  refine wp_name (fun W => Below w.heap.size w W ∧ Bk W w.heap.size 102 #[.bool (sg p), .slice A1 l1 c1, .slice A2 l2 c2] ∧ Bk W (w.heap.size + 1) 102 #[.bool (sg q), .slice A3 l3 c3, .slice A4 l4 c4] ∧
    Bk W (w.heap.size + 1 + 1) 102 #[.bool false, .slice none 0 0, .slice none 0 0]) ⟨((below_alloc w _).alloc (by simp) _).alloc (by simp; omega) _, ((Bk.new _ _ _).alloc _).alloc _, (by simpa using ((Bk.new (w.alloc _) _ _).alloc _)), (by simpa using (Bk.new ((w.alloc _).alloc _) _ _))⟩ ?_
  rintro W ⟨hB, k1, k2, k3⟩
  have HK1 := Lib.hid k1
  have HK2 := Lib.hid k2
  have HK3 := Lib.hid k3
  obtain ⟨a0, a1, a2⟩ := bk3 k1
  obtain ⟨b0, b1, b2⟩ := bk3 k2
  have hlt := k3.lt
  have HB := Lib.hid hB
  have M1 : Hid (∀ X, Below w.heap.size w X → Calls Tryz.prog 141 #[.slice A1 l1 c1, .slice A4 l4 c4] X fun e w' => Below X.heap.size X w' ∧ ∃ v, e = .returned v ∧ IsN w' w'.heap.size .u32 v (nm p * dn q)) := fun X hX => mul_any _ _ _ _ X ((hN1.below hX).more hX.size) ((hD2.below hX).more hX.size) (by have := sz_nm p; omega) (by have := sz_dn q; omega)
  have M2 : Hid (∀ X, Below w.heap.size w X → Calls Tryz.prog 141 #[.slice A3 l3 c3, .slice A2 l2 c2] X fun e w' => Below X.heap.size X w' ∧ ∃ v, e = .returned v ∧ IsN w' w'.heap.size .u32 v (nm q * dn p)) := fun X hX => mul_any _ _ _ _ X ((hN2.below hX).more hX.size) ((hD1.below hX).more hX.size) (by have := sz_nm q; omega) (by have := sz_dn p; omega)
  have M3 : Hid (∀ X, Below w.heap.size w X → Calls Tryz.prog 141 #[.slice A2 l2 c2, .slice A4 l4 c4] X fun e w' => Below X.heap.size X w' ∧ ∃ v, e = .returned v ∧ IsN w' w'.heap.size .u32 v (dn p * dn q)) := fun X hX => mul_any _ _ _ _ X ((hD1.below hX).more hX.size) ((hD2.below hX).more hX.size) (by have := sz_dn p; omega) (by have := sz_dn q; omega)
  have hsz1 : (limbs (nm p * dn q)).length ≤ 400000000000 := by have := len_mul_le (nm p) (dn q); have := sz_nm p; have := sz_dn q; omega
  have hsz2 : (limbs (nm q * dn p)).length ≤ 400000000000 := by have := len_mul_le (nm q) (dn p); have := sz_nm q; have := sz_dn p; omega
  have hsz3 : (limbs (dn p * dn q)).length ≤ 500000000000 := by have := len_mul_le (dn p) (dn q); have := sz_dn p; have := sz_dn q; omega
  have hd0 : 0 < dn p * dn q := Nat.mul_pos (dn_pos p) (dn_pos q)
  have R1 := Lib.hid (add_same p q)
  have R2 := Lib.hid (add_ge p q)
  have R3 := Lib.hid (add_lt p q)
  clear k1 k2 k3 hB hN1 hN2 hD1 hD2 hl hl'
  generalize sg p = s1 at *
  generalize sg q = s2 at *
  generalize nm p * dn q = x at *
  generalize nm q * dn p = y at *
  generalize dn p * dn q = d at *
  go_region_held3 (fun w' => w'.cell? ⟨w.heap.size, 0, none⟩ = some (.bool s1) ∧ w'.cell? ⟨w.heap.size, 1, none⟩ = some (.slice A1 l1 c1) ∧ w'.cell? ⟨w.heap.size, 2, none⟩ = some (.slice A2 l2 c2) ∧
      w'.cell? ⟨w.heap.size + 1, 0, none⟩ = some (.bool s2) ∧ w'.cell? ⟨w.heap.size + 1, 1, none⟩ = some (.slice A3 l3 c3) ∧ w'.cell? ⟨w.heap.size + 1, 2, none⟩ = some (.slice A4 l4 c4)) (first | with_reducible exact bk6 k11 k21 | with_reducible exact bk6 k12 k22 | go_keep)
    (first
      | (go_at_call 141; ((with_reducible refine (M1.out _ (HB.out.drew)).mono ?_)); rintro e w1 ⟨hb1, x1, rfl, hx1⟩; have k11 := HK1.out.drew.below hb1 HK1.out.lt; have k21 := HK2.out.drew.below hb1 HK2.out.lt; have hB1 := HB.out.drew.trans (hb1.mono HB.out.size))
      | (go_at_call 141; ((with_reducible refine (M2.out _ hB1).mono ?_)); rintro e w2 ⟨hb2, x2, rfl, hx2⟩; have k12 := k11.below hb2 k11.lt; have k22 := k21.below hb2 k21.lt; have hB2 := hB1.trans (hb2.mono hB1.size)))
  have k32 := (HK3.out.drew.below hb1 HK3.out.lt).below hb2 (Nat.lt_of_lt_of_le HK3.out.lt hb1.size)
  have hy1 := hx1.next hb2
  obtain ⟨g0, g1, g2⟩ := bk3 k12
  obtain ⟨i0, i1, i2⟩ := bk3 k22
  clear a0 a1 a2 b0 b1 b2 k11 k21 hx1 HK1 HK2 HK3 M1 M2
  go_wp2_with fail
  refine (M3.out _ hB2).mono ?_
  rintro e w3 ⟨hb3, x3, rfl, hx3⟩
  have k13 := k12.below hb3 k12.lt
  have k23 := k22.below hb3 k22.lt
  have k33 := k32.below hb3 k32.lt
  have hy13 := hy1.next hb3
  have hy23 := hx2.next hb3
  have hB3 := hB2.trans (hb3.mono hB2.size)
  clear g0 g1 g2 i0 i1 i2 k12 k22 k32 hy1 hx2
  obtain ⟨g0, g1, g2⟩ := bk3 k13
  obtain ⟨i0, i1, i2⟩ := bk3 k23
  by_cases hs : s1 = s2
  · have hr := R1.out hs
    subst hs
    clear R1 R2 R3
    have hsz4 : (limbs (x + y)).length ≤ 500000000000 := by have := len_add_le x y; omega
    go_wp2_with fail
    go_region_held3 (fun w' => w'.cell? ⟨w.heap.size, 0, none⟩ = some (.bool s1)) (first | exact k14.cell 0 | exact k15.cell 0 | exact kk1.cell 0 | go_keep)
      (first
        | (go_at_call 142; ((with_reducible refine (add_any x y _ _ _ hy13.drew hy23.drew (by omega) (by omega)).mono ?_)); rintro e w4 ⟨hb4, x4, rfl, hx4⟩; have k14 := k13.drew.below hb4 k13.lt; have k34 := k33.drew.below hb4 k33.lt; have hB4 := hB3.drew.trans (hb4.mono hB3.size); have hx4 := hx4.is)
        | (go_at_call 79; ((with_reducible refine (make_any _ (x + y) d _ _ _ hd0 hx4 (hx3.drew.next hb4) hsz4 hsz3).mono ?_)); rintro e w5 ⟨hb5, x5, rfl, hx5⟩; have k15 := k14.below hb5 k14.lt; have k35 := k34.below hb5 k34.lt; have hB5 := hB4.trans (hb5.mono hB4.size); obtain ⟨t5, A5, l5, c5, A6, l6, c6, rfl⟩ := hx5.form; obtain ⟨d0, d1, d2⟩ := bk3 k35; have f0 := k35.frozen 0; have f1 := k35.frozen 1; have f2 := k35.frozen 2; have kk1 := bk_far3 (b' := w.heap.size + 1 + 1) (x := .bool t5) (y := .slice A5 l5 c5) (z := .slice A6 l6 c6) k15 (by omega)))
    go_wp2
    refine bodyPost_ret (v := .agg #[.bool t5, .slice A5 l5 c5, .slice A6 l6 c6]) (by simp [results, Tryz.results81, go_sem, d0, d1, d2]) rfl ?_
    refine ⟨set3_below hB5 (by omega), _, rfl, ?_⟩
    rw [hr]
    exact (hx5.set3 k35 (.bool t5) (.slice A5 l5 c5) (.slice A6 l6 c6)).more (by rw [show (World.setCell _ _ _) = set3 w5 (w.heap.size + 1 + 1) (.bool t5) (.slice A5 l5 c5) (.slice A6 l6 c6) from rfl, set3_size]; exact Nat.le_refl _)
  · have hsb : (s1 == s2) = false := by simpa using hs
    have hcm := cmp_any x y _ _ w3 hy13 hy23 (by omega)
    by_cases hxy : y ≤ x
    · have hr := R2.out hs hxy
      have hz : 0 ≤ cmpN x y := by unfold cmpN; rw [if_neg (by omega)]; split <;> omega
      have hsz4 : (limbs (x - y)).length ≤ 500000000000 := by have := len_mono (Nat.sub_le x y); omega
      have HXY := Lib.hid hxy
      generalize cmpN x y = z at *
      have HC := Lib.hid hcm
      have HRR := Lib.hid hr
      clear R1 R2 R3 hxy hs hcm hr
      go_wp2_with fail
      refine HC.out.mono ?_
      rintro e w4' ⟨rfl, nq, rfl⟩
      have hr := HRR.out
      clear g0 g1 g2 i0 i1 i2
      replace hy13 := hy13.drewN nq
      replace hy23 := hy23.drewN nq
      replace hx3 := hx3.drewN nq
      replace k13 := k13.drewN nq
      replace k23 := k23.drewN nq
      replace k33 := k33.drewN nq
      replace hB3 := below_drewN hB3 nq
      clear hb3
      clear HC
      generalize w3.drewN nq = wc at *
      obtain ⟨g0, g1, g2⟩ := bk3 k13
      obtain ⟨i0, i1, i2⟩ := bk3 k23
      go_wp2_with fail
      go_region_held3 (fun w' => w'.cell? ⟨w.heap.size, 0, none⟩ = some (.bool s1)) (first | exact k14.cell 0 | exact k15.cell 0 | exact kk1.cell 0 | go_keep)
        (first
          | (go_at_call 144; ((with_reducible refine (sub_any x y _ _ _ hy13.drew hy23.drew HXY.out (by omega)).mono ?_)); rintro e w4 ⟨hb4, x4, rfl, hx4⟩; have k14 := k13.drew.below hb4 k13.lt; have k34 := k33.drew.below hb4 k33.lt; have hB4 := hB3.drew.trans (hb4.mono hB3.size))
          | (go_at_call 79; ((with_reducible refine (make_any _ (x - y) d _ _ _ hd0 hx4 (hx3.drew.next hb4) hsz4 hsz3).mono ?_)); rintro e w5 ⟨hb5, x5, rfl, hx5⟩; have k15 := k14.below hb5 k14.lt; have k35 := k34.below hb5 k34.lt; have hB5 := hB4.trans (hb5.mono hB4.size); obtain ⟨t5, A5, l5, c5, A6, l6, c6, rfl⟩ := hx5.form; obtain ⟨d0, d1, d2⟩ := bk3 k35; have f0 := k35.frozen 0; have f1 := k35.frozen 1; have f2 := k35.frozen 2; have kk1 := bk_far3 (b' := w.heap.size + 1 + 1) (x := .bool t5) (y := .slice A5 l5 c5) (z := .slice A6 l6 c6) k15 (by omega)))
      go_wp2
      refine bodyPost_ret (v := .agg #[.bool t5, .slice A5 l5 c5, .slice A6 l6 c6]) (by simp [results, Tryz.results81, go_sem, d0, d1, d2]) rfl ?_
      refine ⟨set3_below hB5 (by omega), _, rfl, ?_⟩
      rw [hr]
      exact (hx5.set3 k35 (.bool t5) (.slice A5 l5 c5) (.slice A6 l6 c6)).more (by rw [show (World.setCell _ _ _) = set3 w5 (w.heap.size + 1 + 1) (.bool t5) (.slice A5 l5 c5) (.slice A6 l6 c6) from rfl, set3_size]; exact Nat.le_refl _)
    · have hr := R3.out hs (by omega)
      have hz : cmpN x y = -1 := cmpN_lt (by omega)
      have hsz4 : (limbs (y - x)).length ≤ 500000000000 := by have := len_mono (Nat.sub_le y x); omega
      have HXY : Hid (x ≤ y) := (show x ≤ y by omega)
      rw [hz] at hcm
      have HC := Lib.hid hcm
      have HRR := Lib.hid hr
      clear R1 R2 R3 hxy hs hcm hr hz
      go_wp2_with fail
      refine HC.out.mono ?_
      rintro e w4' ⟨rfl, nq, rfl⟩
      have hr := HRR.out
      clear g0 g1 g2 i0 i1 i2
      replace hy13 := hy13.drewN nq
      replace hy23 := hy23.drewN nq
      replace hx3 := hx3.drewN nq
      replace k13 := k13.drewN nq
      replace k23 := k23.drewN nq
      replace k33 := k33.drewN nq
      replace hB3 := below_drewN hB3 nq
      clear hb3
      clear HC
      generalize w3.drewN nq = wc at *
      obtain ⟨g0, g1, g2⟩ := bk3 k13
      obtain ⟨i0, i1, i2⟩ := bk3 k23
      go_wp2_with fail
      go_region_held3 (fun w' => w'.cell? ⟨w.heap.size + 1, 0, none⟩ = some (.bool s2)) (first | exact k14.cell 0 | exact k15.cell 0 | exact kk1.cell 0 | go_keep)
        (first
          | (go_at_call 144; ((with_reducible refine (sub_any y x _ _ _ hy23.drew hy13.drew HXY.out (by omega)).mono ?_)); rintro e w4 ⟨hb4, x4, rfl, hx4⟩; have k14 := k23.drew.below hb4 k23.lt; have k34 := k33.drew.below hb4 k33.lt; have hB4 := hB3.drew.trans (hb4.mono hB3.size))
          | (go_at_call 79; ((with_reducible refine (make_any _ (y - x) d _ _ _ hd0 hx4 (hx3.drew.next hb4) hsz4 hsz3).mono ?_)); rintro e w5 ⟨hb5, x5, rfl, hx5⟩; have k15 := k14.below hb5 k14.lt; have k35 := k34.below hb5 k34.lt; have hB5 := hB4.trans (hb5.mono hB4.size); obtain ⟨t5, A5, l5, c5, A6, l6, c6, rfl⟩ := hx5.form; obtain ⟨d0, d1, d2⟩ := bk3 k35; have f0 := k35.frozen 0; have f1 := k35.frozen 1; have f2 := k35.frozen 2; have kk1 := bk_far3 (b' := w.heap.size + 1 + 1) (x := .bool t5) (y := .slice A5 l5 c5) (z := .slice A6 l6 c6) k15 (by omega)))
      go_wp2
      refine bodyPost_ret (v := .agg #[.bool t5, .slice A5 l5 c5, .slice A6 l6 c6]) (by simp [results, Tryz.results81, go_sem, d0, d1, d2]) rfl ?_
      refine ⟨set3_below hB5 (by omega), _, rfl, ?_⟩
      rw [hr]
      exact (hx5.set3 k35 (.bool t5) (.slice A5 l5 c5) (.slice A6 l6 c6)).more (by rw [show (World.setCell _ _ _) = set3 w5 (w.heap.size + 1 + 1) (.bool t5) (.slice A5 l5 c5) (.slice A6 l6 c6) from rfl, set3_size]; exact Nat.le_refl _)
end Go.Proofs.YtpkhgdnkkdhlcaaGreatDoor

namespace Go.Proofs.YtpkhgdnkkdhlcaaGreatDoor
open Go.RowKit Ar

/-- A value that is no number. -/
def noInt (u : Value) : Prop := ∀ k i, u ≠ .int k i
/-- A block without numbers. -/
def NoIntB (w : World) (g : Option Nat) : Prop := ∀ b, g = some b → ∀ j k i, w.cell? ⟨b, j, none⟩ ≠ some (.int k i)
theorem zeroCells_no {z : Array Value} (hz : ∀ u ∈ z.toList, noInt u) (hs : 0 < z.size) (n : Nat) : ∀ u ∈ (Builtin.zeroCells z n).toList, noInt u := fun u hu => by
  unfold Builtin.zeroCells at hu
  simp only [Array.toList_map, List.mem_map] at hu
  obtain ⟨i, _, rfl⟩ := hu
  have hi : i % z.size < z.size := Nat.mod_lt _ hs
  rw [getElem!_pos z (i % z.size) hi]
  exact hz _ (by simp)
theorem alloc_no {w : World} {cs : Array Value} {e : TypeId} (h : ∀ u ∈ cs.toList, noInt u) : NoIntB (w.alloc (.cells cs e)) (some w.heap.size) := fun b hb j k i hc => by
  injection hb with hb
  subst hb
  rw [World.cell?] at hc
  simp only [heap_alloc_new] at hc
  have hm : Value.int k i ∈ cs.toList := by
    have := List.mem_of_getElem? (l := cs.toList) (i := j) (by simpa using hc)
    exact this
  exact h _ hm k i rfl
/-- append to a row of the call's own, without numbers in it. -/
theorem append_ni {P : Program} (w : World) (base : Nat) (t ty e : TypeId) (i : TypeInfo) (z : Value) (size bytes : Nat) (ht : P.underlying t = some (.slice e)) (hi : P.info? e = some i) (hz : i.zero = some z)
    (hsize : i.size = size) (hby : i.bytes = bytes) (hzs : z.cells.size = size) (hsz : 0 < size)
    (v : Value) (n : Nat) (xs : List Value) (hown : w.ownsRow base e size v n xs) (hni : NoIntB w v.ownBlock) (hzn : ∀ u ∈ z.cells.toList, noInt u)
    (a : Addr) (m c : Nat) (news : List Value) (hl : news.length = m * size) (hnews : ∀ j u, news[j]? = some u → w.cell? (a.add j) = some u) (h1 : ∀ u ∈ news, u.oneCell' = true) (hnn : ∀ u ∈ news, noInt u) (hm : 0 < m)
    (h63 : n + m ≤ maxLen) (hbytes : (n + m) * bytes ≤ 140737488355328) (hbase : base ≤ w.heap.size) :
    ∃ v' w', (Builtin.append_ #[t, t] ty #[v, .slice (some a) m c]).run P w = .ok v' w' ∧ w'.ownsRow base e size v' (n + m) (xs ++ news) ∧ w.grownBy w' v.ownBlock ∧ NoIntB w' v'.ownBlock := by
  obtain ⟨v', w', hr, h2, h3, _, _⟩ := run_append_own_at (P := P) w base t ty e i z size bytes ht hi hz hsize hby hzs hsz v n xs hown a m c news hl hnews h1 h63 hbytes hbase
  refine ⟨v', w', hr, h2, h3, ?_⟩
  subst hsize
  subst hby
  have hsmall : n + m ≤ 9223372036854775807 := by simp only [maxLen] at h63; omega
  rcases hown.2 with ⟨rfl, rfl⟩ | ⟨g, cap, cur, rfl, hbg, hg, hnc, hcm, hcs, htake⟩
  · have hr2 := run_append_nil (P := P) w t ty e i z ht hi hz a m c news hl hnews hm (by omega) (by have hb := hbytes; simp only [Nat.zero_add] at hb; omega)
    rw [hr] at hr2
    injection hr2 with e1 e2
    subst e1
    subst e2
    refine alloc_no (w := w.drew) fun u hu => ?_
    simp only [Array.toList_append, List.mem_append] at hu
    rcases hu with hu | hu
    · exact hnn u hu
    · exact zeroCells_no hzn (by omega) _ u hu
  · have hcur : ∀ u ∈ cur.toList, noInt u := fun u hu k j0 hk => by
      obtain ⟨j, hj⟩ := List.getElem?_of_mem hu
      subst hk
      refine hni g rfl j k j0 ?_
      rw [World.cell?]
      simp only [hg]
      simpa using hj
    by_cases hroom : n + m ≤ cap
    · have hfit : n * i.size + news.length ≤ cur.size := by rw [hl, hcs, ← Nat.add_mul]; exact Nat.mul_le_mul_right _ hroom
      have hr2 := run_append_room (P := P) w t ty e i ht hi g n cap cur hg a m c news hl hnews h1 hroom hfit
      rw [hr] at hr2
      injection hr2 with e1 e2
      subst e1
      subst e2
      intro b hb j k j0 hc
      have hbg' : b = g := by simpa [Value.ownBlock] using hb.symm
      subst hbg'
      rw [World.cell?] at hc
      simp only [setRow_heap w b cur _ e _ hg] at hc
      have hm2 := List.mem_of_getElem? (l := List.take (n * i.size) cur.toList ++ news ++ List.drop (n * i.size + news.length) cur.toList) (i := j) (a := Value.int k j0) (by simpa using hc)
      simp only [List.mem_append] at hm2
      rcases hm2 with (hm2 | hm2) | hm2
      · exact hcur _ (List.mem_of_mem_take hm2) k j0 rfl
      · exact hnn _ hm2 k j0 rfl
      · exact hcur _ (List.mem_of_mem_drop hm2) k j0 rfl
    · have holds : ∀ j u, xs[j]? = some u → w.cell? ((⟨g, 0, none⟩ : Addr).add j) = some u := hown.cells (g := g) rfl
      have hr2 := run_append_grow (P := P) w t ty e i z ht hi hz ⟨g, 0, none⟩ n cap xs hown.1 holds a m c news hl hnews (by omega) (by omega) (growslice_fits (by omega) hbytes)
      rw [hr] at hr2
      injection hr2 with e1 e2
      subst e1
      subst e2
      refine alloc_no (w := w.drew) fun u hu => ?_
      simp only [Array.toList_append, List.mem_append] at hu
      rcases hu with (hu | hu) | hu
      · rw [← htake] at hu
        exact hcur u (List.mem_of_mem_take hu)
      · exact hnn u hu
      · exact zeroCells_no hzn (by omega) _ u hu
/-- The same, at an operation of a region that draws its order. -/
theorem step_append {P : Program} {w : World} {o : Oper} {a : Act} {K : Act → World → Prop} {Q : Exit → Act → World → Prop} (s x : Operand) (t : TypeId)
    (ho : o.op = .call { callee := .builtin .append, args := #[s, x], argTypes := #[t, t] })
    (base : Nat) (e : TypeId) (i : TypeInfo) (z : Value) (size bytes : Nat) (ht : P.underlying t = some (.slice e)) (hi : P.info? e = some i) (hz : i.zero = some z)
    (hsize : i.size = size) (hby : i.bytes = bytes) (hzs : z.cells.size = size) (hsz : 0 < size)
    (v : Value) (n : Nat) (xs : List Value) (hs : a.eval s = v) (hown : w.ownsRow base e size v n xs) (hni : NoIntB w v.ownBlock) (hzn : ∀ u ∈ z.cells.toList, noInt u)
    (ad : Addr) (m c : Nat) (news : List Value) (hx : a.eval x = .slice (some ad) m c) (hl : news.length = m * size) (hnews : ∀ j u, news[j]? = some u → w.cell? (ad.add j) = some u) (h1 : ∀ u ∈ news, u.oneCell' = true) (hnn : ∀ u ∈ news, noInt u) (hm : 0 < m)
    (h63 : n + m ≤ maxLen) (hbytes : (n + m) * bytes ≤ 140737488355328) (hbase : base ≤ w.heap.size)
    (h : ∀ v' w', w'.ownsRow base e size v' (n + m) (xs ++ news) → w.grownBy w' v.ownBlock → NoIntB w' v'.ownBlock → K (a.put o.dst v') w') :
    Oper.wp P o a w K Q := by
  obtain ⟨v', w', hr, h2, h3, h5⟩ := append_ni (P := P) w base t o.type e i z size bytes ht hi hz hsize hby hzs hsz v n xs hown hni hzn ad m c news hl hnews h1 hnn hm h63 hbytes hbase
  unfold Oper.wp execOp
  simp only [ho, resolve, invoke, builtin, Sem.run_bind, Sem.run_pure, Result.andThen_ok, List.map_toArray, List.map_cons, List.map_nil, hs, hx, hr]
  exact h v' w' h2 h3 h5

theorem addr_plus (ad : Addr) (m j : Nat) : (⟨(ad.add m).block, (ad.add m).off + (j + 1), none⟩ : Addr) = ad.add (m + (j + 1)) := by
  unfold Addr.add
  rw [if_neg (show m + (j + 1) ≠ 0 by omega)]
  by_cases h : m = 0
  · subst h; simp
  · simp [h, Nat.add_assoc]
/-- Numbers are kept. -/
def Ints (w w' : World) : Prop := ∀ (p : Addr) k i, w.cell? p = some (.int k i) → w'.cell? p = some (.int k i)
theorem ints_grown {w w' : World} {g : Option Nat} (hg : w.grownBy w' g) (hn : NoIntB w g) : Ints w w' := fun p k i hp => by
  have hlt := World.block_lt_of_cell? _ _ hp
  have hsp : p.spot = none := by
    unfold World.cell? at hp
    split at hp
    · split at hp
      · cases hp
      · rename_i h0; simpa using h0
    · cases hp
  have hne : some p.block ≠ g := fun e => hn p.block e.symm p.off k i (by
    have : (⟨p.block, p.off, none⟩ : Addr) = p := by rw [← hsp]
    rw [this]; exact hp)
  unfold World.cell? at hp ⊢
  rw [hg.block p.block hlt hne]
  exact hp
theorem IsN.kept {w w' : World} {B : Nat} {k : IntKind} {v : Value} {n : Nat} (h : IsN w B k v n) (hg : Ints w w') : IsN w' B k v n := by
  obtain ⟨A, c, e, h1, h3⟩ := h
  refine ⟨A, c, e, h1, fun hn => ?_⟩
  obtain ⟨ad, e2, hb, hc⟩ := h3 hn
  refine ⟨ad, e2, hb, fun j u hu => ?_⟩
  have h5 := hc j u hu
  have hm : u ∈ ints k (limbs n) := List.mem_of_getElem? hu
  simp only [ints, List.mem_map] at hm
  obtain ⟨y, _, rfl⟩ := hm
  exact hg _ _ _ h5
theorem IsF.kept {w w' : World} {B : Nat} {v : Value} {q : Rat} (h : IsF w B v q) (hg : Ints w w') : IsF w' B v q := by
  obtain ⟨N', D', e, k1, k2⟩ := h
  exact ⟨N', D', e, k1.kept hg, k2.kept hg⟩
theorem Bk.next' {X Y : World} {g : Nat} {t : TypeId} {cs : Array Value} (h : Bk X g t cs) (hb : Below X.heap.size X Y) : Bk Y g t cs := h.below hb h.lt
theorem Bk.new2 (w : World) (o : Obj) (t : TypeId) (cs : Array Value) : Bk ((w.alloc o).alloc (.cells cs t)) (w.heap.size + 1) t cs := by simpa using Bk.new (w.alloc o) t cs
theorem below_step {W X Y : World} (h : Below W.heap.size W X) (hb : Below X.heap.size X Y) : Below W.heap.size W Y := h.trans (hb.mono h.size)
theorem wpL_append_ni {P : Program} {w : World} {ops : Array Oper} {rest : List Oper} {o : Oper} {a : Act} {Q : Exit → Act → World → Prop} (hgd : o.guard = none) (s x : Operand) (t : TypeId)
    (ho : o.op = .call { callee := .builtin .append, args := #[s, x], argTypes := #[t, t] })
    (base : Nat) (e : TypeId) (i : TypeInfo) (z : Value) (size bytes : Nat) (ht : P.underlying t = some (.slice e)) (hi : P.info? e = some i) (hz : i.zero = some z)
    (hsize : i.size = size) (hby : i.bytes = bytes) (hzs : z.cells.size = size) (hsz : 0 < size)
    (v : Value) (n : Nat) (xs : List Value) (hs : a.eval s = v) (hown : w.ownsRow base e size v n xs) (hni : NoIntB w v.ownBlock) (hzn : ∀ u ∈ z.cells.toList, noInt u)
    (ad : Addr) (m c : Nat) (news : List Value) (hx : a.eval x = .slice (some ad) m c) (hl : news.length = m * size) (hnews : ∀ j u, news[j]? = some u → w.cell? (ad.add j) = some u) (h1 : ∀ u ∈ news, u.oneCell' = true) (hnn : ∀ u ∈ news, noInt u) (hm : 0 < m)
    (h63 : n + m ≤ maxLen) (hbytes : (n + m) * bytes ≤ 140737488355328) (hbase : base ≤ w.heap.size)
    (h : ∀ v' w', w'.ownsRow base e size v' (n + m) (xs ++ news) → w.grownBy w' v.ownBlock → NoIntB w' v'.ownBlock → wpList P ops Q rest (a.put o.dst v') w') :
    wpList P ops Q (o :: rest) a w :=
  wpList_plain hgd fun _ hK => step_append s x t ho base e i z size bytes ht hi hz hsize hby hzs hsz v n xs hs hown hni hzn ad m c news hx hl hnews h1 hnn hm h63 hbytes hbase fun v' w' h2 h3 h4 => hK _ _ (h v' w' h2 h3 h4)
end Go.Proofs.YtpkhgdnkkdhlcaaGreatDoor
