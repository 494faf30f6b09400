/-
  Walk: package regrid's meet.
-/
import Derived.Test.YtbddmkklkbkliaaGreatDoorRegV
namespace Go.Proofs.YtbddmkklkbkliaaGreatDoor
open Go.RowKit Ar

/-- Where the segment from c to d meets a line, of whose ends p and q are the cross products. -/
def meetQ (c d : Qp) (p q : Rat) : Qp := (c.1 + (d.1 - c.1) * (p / (p - q)), c.2 + (d.2 - c.2) * (p / (p - q)))
theorem noIntB_bk {w : World} {b : Nat} {T : TypeId} {cs : Array Value} (h : Bk w b T cs) (hn : ∀ u ∈ cs.toList, noInt u) : NoIntB w (some b) := fun b' hb j k i hc => by
  injection hb with hb
  subst hb
  rw [h.cell] at hc
  exact hn _ (List.mem_of_getElem? (l := cs.toList) (i := j) (by simpa using hc)) k i rfl
def set6 (w : World) (b : Nat) (s : Sx) : World := (((((w.setCell ⟨b, 0, none⟩ (.bool s.b1)).setCell ⟨b, 1, none⟩ s.n1).setCell ⟨b, 2, none⟩ s.d1).setCell ⟨b, 3, none⟩ (.bool s.b2)).setCell ⟨b, 4, none⟩ s.n2).setCell ⟨b, 5, none⟩ s.d2
theorem set6_bk {w : World} {b : Nat} {T : TypeId} {s s0 : Sx} (hb : Bk w b T s0.cells.toArray) : Bk (set6 w b s) b T s.cells.toArray := by
  have := (((((hb.put 0 (.bool s.b1)).put 1 s.n1).put 2 s.d1).put 3 (.bool s.b2)).put 4 s.n2).put 5 s.d2
  simpa [set6, Sx.cells] using this
theorem set6_below {w w0 : World} {B b : Nat} {s : Sx} (h : Below B w0 w) (hb : B ≤ b) : Below B w0 (set6 w b s) :=
  (((((h.setCell (by exact hb) _).setCell (by exact hb) _).setCell (by exact hb) _).setCell (by exact hb) _).setCell (by exact hb) _).setCell (by exact hb) _
theorem set6_size (w : World) (b : Nat) (s : Sx) : (set6 w b s).heap.size = w.heap.size := by simp [set6, World.setCell]
theorem set6_grown (w : World) (b : Nat) (s : Sx) : w.grownBy (set6 w b s) (some b) :=
  grown_trans (grown_trans (grown_trans (grown_trans (grown_trans (grown_setCell w ⟨b, 0, none⟩ _) (grown_setCell _ ⟨b, 1, none⟩ _)) (grown_setCell _ ⟨b, 2, none⟩ _)) (grown_setCell _ ⟨b, 3, none⟩ _)) (grown_setCell _ ⟨b, 4, none⟩ _)) (grown_setCell _ ⟨b, 5, none⟩ _)
theorem set6_far {w : World} {b b' : Nat} {T : TypeId} {cs : Array Value} {s : Sx} (h : Bk w b T cs) (hne : b ≠ b') : Bk (set6 w b' s) b T cs :=
  (((((h.far (by exact hne) _).far (by exact hne) _).far (by exact hne) _).far (by exact hne) _).far (by exact hne) _).far (by exact hne) _
/-- A point's cells, none of them a number. -/
def Sx.plain (s : Sx) : Prop := noInt s.n1 ∧ noInt s.d1 ∧ noInt s.n2 ∧ noInt s.d2
theorem Sx.cells_no {s : Sx} (h : s.plain) : ∀ u ∈ s.cells.toArray.toList, noInt u := fun u hu => by
  simp [Sx.cells] at hu
  rcases hu with rfl | rfl | rfl | rfl | rfl | rfl
  · exact fun k i => by simp
  · exact h.1
  · exact h.2.1
  · exact fun k i => by simp
  · exact h.2.2.1
  · exact h.2.2.2
theorem set6_ints {w : World} {b : Nat} {T : TypeId} {s s0 : Sx} (hb : Bk w b T s0.cells.toArray) (h0 : s0.plain) : Ints w (set6 w b s) := ints_grown (set6_grown w b s) (noIntB_bk hb (Sx.cells_no h0))
/-- The point that nothing was written to. -/
def szero : Sx := ⟨false, .slice none 0 0, .slice none 0 0, false, .slice none 0 0, .slice none 0 0⟩
theorem szero_plain : szero.plain := ⟨fun k i => by simp [szero], fun k i => by simp [szero], fun k i => by simp [szero], fun k i => by simp [szero]⟩

/-- Two points and a fraction in blocks of a call's own, and a place for the result. -/
structure Mt (sc sd : Sx) (ts : Bool) (tn td : Value) (tb : Nat) (c d : Qp) (t : Rat) (w W : World) : Prop where
  below : Below w.heap.size w W
  k1 : Bk W w.heap.size 146 sc.cells.toArray
  k2 : Bk W (w.heap.size + 1) 146 sd.cells.toArray
  k3 : Bk W tb 66 #[.bool ts, tn, td]
  k4 : Bk W (w.heap.size + 1 + 1 + 1 + 1) 146 szero.cells.toArray
  p1 : IsPt W W.heap.size sc c
  p2 : IsPt W W.heap.size sd d
  p3 : IsF W W.heap.size (.agg #[.bool ts, tn, td]) t
section
variable {sc sd : Sx} {ts : Bool} {tn td : Value} {tb : Nat} {c d : Qp} {t : Rat} {w W W' : World}
theorem Mt.next (h : Mt sc sd ts tn td tb c d t w W) (hb : Below W.heap.size W W') : Mt sc sd ts tn td tb c d t w W' :=
  ⟨h.below.trans (hb.mono h.below.size), h.k1.below hb h.k1.lt, h.k2.below hb h.k2.lt, h.k3.below hb h.k3.lt, h.k4.below hb h.k4.lt, h.p1.next hb, h.p2.next hb, h.p3.next hb⟩
theorem Mt.drew (h : Mt sc sd ts tn td tb c d t w W) : Mt sc sd ts tn td tb c d t w W.drew := ⟨h.below.drew, h.k1, h.k2, h.k3, h.k4, h.p1, h.p2, h.p3⟩
theorem Mt.cells (h : Mt sc sd ts tn td tb c d t w W) :
    (W.cell? ⟨w.heap.size, 0, none⟩ = some (.bool sc.b1) ∧ W.cell? ⟨w.heap.size, 1, none⟩ = some sc.n1 ∧ W.cell? ⟨w.heap.size, 2, none⟩ = some sc.d1 ∧ W.cell? ⟨w.heap.size, 3, none⟩ = some (.bool sc.b2) ∧ W.cell? ⟨w.heap.size, 4, none⟩ = some sc.n2 ∧ W.cell? ⟨w.heap.size, 5, none⟩ = some sc.d2) ∧
    (W.cell? ⟨w.heap.size + 1, 0, none⟩ = some (.bool sd.b1) ∧ W.cell? ⟨w.heap.size + 1, 1, none⟩ = some sd.n1 ∧ W.cell? ⟨w.heap.size + 1, 2, none⟩ = some sd.d1 ∧ W.cell? ⟨w.heap.size + 1, 3, none⟩ = some (.bool sd.b2) ∧ W.cell? ⟨w.heap.size + 1, 4, none⟩ = some sd.n2 ∧ W.cell? ⟨w.heap.size + 1, 5, none⟩ = some sd.d2) ∧
    (W.cell? ⟨tb, 0, none⟩ = some (.bool ts) ∧ W.cell? ⟨tb, 1, none⟩ = some tn ∧ W.cell? ⟨tb, 2, none⟩ = some td) :=
  ⟨bk6c h.k1, bk6c h.k2, bk3 h.k3⟩
end

/-- The arguments in blocks of a call's own. -/
structure Zm (sc sd : Sx) (s1 s2 : Bool) (n1 d1 n2 d2 : Value) (c d : Qp) (p q : Rat) (w W : World) : Prop where
  below : Below w.heap.size w W
  kc : Bk W w.heap.size 146 sc.cells.toArray
  kd : Bk W (w.heap.size + 1) 146 sd.cells.toArray
  kp : Bk W (w.heap.size + 1 + 1) 66 #[.bool s1, n1, d1]
  kq : Bk W (w.heap.size + 1 + 1 + 1) 66 #[.bool s2, n2, d2]
  kr : Bk W (w.heap.size + 1 + 1 + 1 + 1) 146 szero.cells.toArray
  pc : IsPt W W.heap.size sc c
  pd : IsPt W W.heap.size sd d
  fp : IsF W W.heap.size (.agg #[.bool s1, n1, d1]) p
  fq : IsF W W.heap.size (.agg #[.bool s2, n2, d2]) q
section
variable {sc sd : Sx} {s1 s2 : Bool} {n1 d1 n2 d2 : Value} {c d : Qp} {p q : Rat} {w W W' : World}
theorem Zm.next (h : Zm sc sd s1 s2 n1 d1 n2 d2 c d p q w W) (hb : Below W.heap.size W W') : Zm sc sd s1 s2 n1 d1 n2 d2 c d p q w W' :=
  ⟨h.below.trans (hb.mono h.below.size), h.kc.below hb h.kc.lt, h.kd.below hb h.kd.lt, h.kp.below hb h.kp.lt, h.kq.below hb h.kq.lt, h.kr.below hb h.kr.lt, h.pc.next hb, h.pd.next hb, h.fp.next hb, h.fq.next hb⟩
theorem Zm.drew (h : Zm sc sd s1 s2 n1 d1 n2 d2 c d p q w W) : Zm sc sd s1 s2 n1 d1 n2 d2 c d p q w W.drew := ⟨h.below.drew, h.kc, h.kd, h.kp, h.kq, h.kr, h.pc, h.pd, h.fp, h.fq⟩
theorem Zm.cells (h : Zm sc sd s1 s2 n1 d1 n2 d2 c d p q w W) : (W.cell? ⟨w.heap.size + 1 + 1, 0, none⟩ = some (.bool s1) ∧ W.cell? ⟨w.heap.size + 1 + 1, 1, none⟩ = some n1 ∧ W.cell? ⟨w.heap.size + 1 + 1, 2, none⟩ = some d1) ∧ (W.cell? ⟨w.heap.size + 1 + 1 + 1, 0, none⟩ = some (.bool s2) ∧ W.cell? ⟨w.heap.size + 1 + 1 + 1, 1, none⟩ = some n2 ∧ W.cell? ⟨w.heap.size + 1 + 1 + 1, 2, none⟩ = some d2) := ⟨bk3 h.kp, bk3 h.kq⟩
/-- Behind the draw: the fraction t in a block of its own. -/
theorem Zm.mt {ts : Bool} {A A' : Option Addr} {l k l' k' : Nat} {tb : Nat} {t : Rat} (h : Zm sc sd s1 s2 n1 d1 n2 d2 c d p q w W) (ht : Bk W tb 66 #[.bool ts, .slice A l k, .slice A' l' k']) (hf : IsF W W.heap.size (.agg #[.bool ts, .slice A l k, .slice A' l' k']) t) :
    Mt sc sd ts (.slice A l k) (.slice A' l' k') tb c d t w W := ⟨h.below, h.kc, h.kd, ht, h.kr, h.pc, h.pd, hf⟩
theorem IsPt.set3 {w : World} {B b : Nat} {s : Sx} {p : Qp} (h : IsPt w B s p) {T : TypeId} {f : Bool} {A0 A1 : Option Addr} {l0 l1 c0 c1 : Nat} (hb : Bk w b T #[.bool f, .slice A0 l0 c0, .slice A1 l1 c1]) (x y z : Value) : IsPt (set3 w b x y z) B s p :=
  ⟨h.1.set3 hb x y z, h.2.set3 hb x y z⟩
theorem Zm.set3 (h : Zm sc sd s1 s2 n1 d1 n2 d2 c d p q w W) {b : Nat} {T : TypeId} {f : Bool} {A0 A1 : Option Addr} {l0 l1 c0 c1 : Nat} (hb : Bk W b T #[.bool f, .slice A0 l0 c0, .slice A1 l1 c1]) (hlt : w.heap.size + 1 + 1 + 1 + 1 < b) (x y z : Value) : Zm sc sd s1 s2 n1 d1 n2 d2 c d p q w (set3 W b x y z) := by
  have e := set3_size W b x y z
  exact ⟨set3_below h.below (by omega), bk_far3 h.kc (by omega), bk_far3 h.kd (by omega), bk_far3 h.kp (by omega), bk_far3 h.kq (by omega), bk_far3 h.kr (by omega), by rw [e]; exact h.pc.set3 hb x y z, by rw [e]; exact h.pd.set3 hb x y z, by rw [e]; exact h.fp.set3 hb x y z, by rw [e]; exact h.fq.set3 hb x y z⟩
end

set_option maxRecDepth 100000 in
set_option maxHeartbeats 6400000 in
theorem meet_any (c d : Qp) (p q : Rat) (sc sd : Sx) (v u : Value) (w : World) (hc : IsPt w w.heap.size sc c) (hd : IsPt w w.heap.size sd d) (hp : IsF w w.heap.size v p) (hq : IsF w w.heap.size u q) (hne : p - q ≠ 0)
    (lc : szp c ≤ 10000000000) (ld : szp d ≤ 10000000000) (lp : sz p ≤ 20000000000) (lq : sz q ≤ 20000000000) :
    Calls Tryz.prog 135 #[sc.val, sd.val, v, u] w fun e w' => Below w.heap.size w w' ∧ ∃ s : Sx, s.plain ∧ e = .returned s.val ∧ IsPt w' w'.heap.size s (meetQ c d p q) := by
  obtain ⟨s1, A1, l1, c1, A2, l2, c2, rfl⟩ := hp.form
  obtain ⟨s2, A3, l3, c3, A4, l4, c4, rfl⟩ := hq.form
  have HM : Hid (meetQ c d p q = (c.1 + (d.1 - c.1) * (p / (p - q)), c.2 + (d.2 - c.2) * (p / (p - q)))) := rfl
  unfold szp at *
  have z1 := sz_sub p q
  have z2 := sz_div p (p - q) hne
  have z3 := sz_sub d.1 c.1
  have z4 := sz_mul (d.1 - c.1) (p / (p - q))
  have z5 := sz_sub d.2 c.2
  have z6 := sz_mul (d.2 - c.2) (p / (p - q))
  have M0 : sz p ≤ 200000000000 := by omega
  have M0' : sz q ≤ 200000000000 := by omega
  have M1 : sz (p - q) ≤ 200000000000 := by omega
  have M2 : sz (p / (p - q)) ≤ 200000000000 := by omega
  have M3 : sz (d.1 - c.1) ≤ 200000000000 := by omega
  have M4 : sz ((d.1 - c.1) * (p / (p - q))) ≤ 200000000000 := by omega
  have M5 : sz (d.2 - c.2) ≤ 200000000000 := by omega
  have M6 : sz ((d.2 - c.2) * (p / (p - q))) ≤ 200000000000 := by omega
  have L1 : sz c.1 ≤ 200000000000 := by omega
  have L2 : sz c.2 ≤ 200000000000 := by omega
  have L3 : sz d.1 ≤ 200000000000 := by omega
  have L4 : sz d.2 ≤ 200000000000 := by omega
  clear z1 z2 z3 z4 z5 z6 lc ld lp lq
  unfold Sx.val
  go_enter Tryz.func135, Tryz.ntmps135
  go_wp2_with fail
  refine wp_name (fun W => Below w.heap.size w W ∧ Bk W w.heap.size 146 sc.cells.toArray ∧ Bk W (w.heap.size + 1) 146 sd.cells.toArray ∧ Bk W (w.heap.size + 1 + 1) 66 #[.bool s1, .slice A1 l1 c1, .slice A2 l2 c2] ∧ Bk W (w.heap.size + 1 + 1 + 1) 66 #[.bool s2, .slice A3 l3 c3, .slice A4 l4 c4] ∧ Bk W (w.heap.size + 1 + 1 + 1 + 1) 146 szero.cells.toArray) ⟨?_, ?_, ?_, ?_, ?_, ?_⟩ ?_
  · exact ((((below_alloc w _).alloc (by simp) _).alloc (by simp; omega) _).alloc (by simp; omega) _).alloc (by simp; omega) _
  · exact ((((Bk.new _ _ _).alloc _).alloc _).alloc _).alloc _
  · simpa [Sx.cells] using ((((Bk.new (w.alloc _) _ _).alloc _).alloc _).alloc _)
  · simpa using (((Bk.new ((w.alloc _).alloc _) _ _).alloc _).alloc _)
  · simpa using ((Bk.new (((w.alloc _).alloc _).alloc _) _ _).alloc _)
  · simpa [Sx.cells, szero] using (Bk.new ((((w.alloc _).alloc _).alloc _).alloc _) _ _)
  rintro W ⟨hB, kc, kd, kp, kq, kr⟩
  have z0 : Zm sc sd s1 s2 (.slice A1 l1 c1) (.slice A2 l2 c2) (.slice A3 l3 c3) (.slice A4 l4 c4) c d p q w W := ⟨hB, kc, kd, kp, kq, kr, hc.next hB, hd.next hB, hp.next hB, hq.next hB⟩
  have HLT := Lib.hid kr.lt
  clear hc hd hp hq hB kc kd kp kq kr
  have z0d := z0.drew
  obtain ⟨⟨a0, a1, a2⟩, b0, b1, b2⟩ := z0.cells
  go_region_held3 (fun W => (W.cell? ⟨w.heap.size + 1 + 1, 0, none⟩ = some (.bool s1) ∧ W.cell? ⟨w.heap.size + 1 + 1, 1, none⟩ = some (.slice A1 l1 c1) ∧ W.cell? ⟨w.heap.size + 1 + 1, 2, none⟩ = some (.slice A2 l2 c2)) ∧ (W.cell? ⟨w.heap.size + 1 + 1 + 1, 0, none⟩ = some (.bool s2) ∧ W.cell? ⟨w.heap.size + 1 + 1 + 1, 1, none⟩ = some (.slice A3 l3 c3) ∧ W.cell? ⟨w.heap.size + 1 + 1 + 1, 2, none⟩ = some (.slice A4 l4 c4)))
    (first | with_reducible exact z0d.cells | with_reducible exact z1.cells | with_reducible exact z2.cells | with_reducible exact (z0.next (below_alloc _ _)).drew.cells | with_reducible exact (z1.next (below_alloc _ _)).cells | with_reducible exact (z2.next (below_alloc _ _)).cells | exact z3.cells)
    (first
      | (go_at_call 159; (with_reducible refine (fsub_any p q _ _ _ z0d.fp z0d.fq M0 M0').mono ?_); rintro e w1 ⟨hb1, x1, rfl, y1⟩; obtain ⟨t1, B1, m1, e1, B2, m2, e2, rfl⟩ := y1.form; have z1 := z0d.next hb1)
      | (go_at_call 159; (with_reducible refine (fsub_any p q _ _ _ (z0.next (below_alloc W (.cells #[.bool false, .slice none 0 0, .slice none 0 0] 66))).drew.fp (z0.next (below_alloc W (.cells #[.bool false, .slice none 0 0, .slice none 0 0] 66))).drew.fq M0 M0').mono ?_); rintro e w1 ⟨hb1, x1, rfl, y1⟩; obtain ⟨t1, B1, m1, e1, B2, m2, e2, rfl⟩ := y1.form; have z1 := (z0.next (below_alloc W (.cells #[.bool false, .slice none 0 0, .slice none 0 0] 66))).drew.next hb1; have ktb1 := (Bk.new W 66 #[.bool false, .slice none 0 0, .slice none 0 0]).drew.below hb1 (Bk.new W 66 #[.bool false, .slice none 0 0, .slice none 0 0]).lt; have HTB : Hid (W.heap.size ≤ W.heap.size) := Nat.le_refl _)
      | (go_at_call 44; (with_reducible refine (fdiv_any p (p - q) _ _ _ hne z1.fp y1 M0 M1).mono ?_); rintro e w2 ⟨hb2, x2, rfl, y2⟩; obtain ⟨t2, B3, m3, e3, B4, m4, e4, rfl⟩ := y2.form; have z2 := z1.next hb2; have ktb2 := ktb1.below hb2 ktb1.lt; obtain ⟨i0, i1, i2⟩ := bk3 ktb2; have f0 := ktb2.frozen 0; have f1 := ktb2.frozen 1; have f2 := ktb2.frozen 2; have hlt2 := ktb2.lt; have z3 := z2.set3 ktb2 (Nat.lt_of_lt_of_le HLT.out HTB.out) (.bool t2) (.slice B3 m3 e3) (.slice B4 m4 e4))
      | (go_at_call 44; (with_reducible refine (fdiv_any p (p - q) _ _ _ hne z1.fp y1 M0 M1).mono ?_); rintro e w2 ⟨hb2, x2, rfl, y2⟩; obtain ⟨t2, B3, m3, e3, B4, m4, e4, rfl⟩ := y2.form; have z2 := z1.next hb2; have z3 := z2.next (below_alloc w2 (.cells #[.bool t2, .slice B3 m3 e3, .slice B4 m4 e4] 66)); have HTB : Hid (W.heap.size ≤ w2.heap.size) := Nat.le_trans hb1.size hb2.size)
      | (go_at_call 44; have hba1 := below_alloc w1 (.cells #[.bool false, .slice none 0 0, .slice none 0 0] 66); have z1a := z1.next hba1; (with_reducible refine (fdiv_any p (p - q) _ _ _ hne z1a.fp (y1.next hba1) M0 M1).mono ?_); rintro e w2 ⟨hb2, x2, rfl, y2⟩; obtain ⟨t2, B3, m3, e3, B4, m4, e4, rfl⟩ := y2.form; have z2 := z1a.next hb2; have ktb2 := (Bk.new w1 66 #[.bool false, .slice none 0 0, .slice none 0 0]).below hb2 (by simp); have HTB : Hid (W.heap.size ≤ w1.heap.size) := hb1.size; obtain ⟨i0, i1, i2⟩ := bk3 ktb2; have f0 := ktb2.frozen 0; have f1 := ktb2.frozen 1; have f2 := ktb2.frozen 2; have hlt2 := ktb2.lt; have z3 := z2.set3 ktb2 (Nat.lt_of_lt_of_le HLT.out HTB.out) (.bool t2) (.slice B3 m3 e3) (.slice B4 m4 e4)))
  · have htl : w.heap.size + 1 + 1 + 1 + 1 < w2.heap.size := Nat.lt_of_lt_of_le HLT.out HTB.out
    go_wp2_with fail
    refine wp_name (fun X => Mt sc sd t2 (.slice B3 m3 e3) (.slice B4 m4 e4) (w2.heap.size) c d (p / (p - q)) w X) (z3.mt (Bk.new w2 _ _) (y2.next (below_alloc w2 (.cells #[.bool t2, .slice B3 m3 e3, .slice B4 m4 e4] 66)))) ?_
    rintro W3 q3
    clear z0 z0d z1 z2 z3 y1 y2 hb1 hb2 a0 a1 a2 b0 b1 b2
    have hlt := q3.k4.lt
    have hlt3 := q3.k3.lt
    obtain ⟨⟨a0, a1, a2, a3, a4, a5⟩, ⟨b0, b1, b2, b3, b4, b5⟩, c0, c1', c2'⟩ := q3.cells
    have qd := q3.drew
    go_region_held3 (fun X => (X.cell? ⟨w.heap.size, 0, none⟩ = some (.bool sc.b1) ∧ X.cell? ⟨w.heap.size, 1, none⟩ = some sc.n1 ∧ X.cell? ⟨w.heap.size, 2, none⟩ = some sc.d1 ∧ X.cell? ⟨w.heap.size, 3, none⟩ = some (.bool sc.b2) ∧ X.cell? ⟨w.heap.size, 4, none⟩ = some sc.n2 ∧ X.cell? ⟨w.heap.size, 5, none⟩ = some sc.d2) ∧ (X.cell? ⟨w.heap.size + 1, 0, none⟩ = some (.bool sd.b1) ∧ X.cell? ⟨w.heap.size + 1, 1, none⟩ = some sd.n1 ∧ X.cell? ⟨w.heap.size + 1, 2, none⟩ = some sd.d1 ∧ X.cell? ⟨w.heap.size + 1, 3, none⟩ = some (.bool sd.b2) ∧ X.cell? ⟨w.heap.size + 1, 4, none⟩ = some sd.n2 ∧ X.cell? ⟨w.heap.size + 1, 5, none⟩ = some sd.d2) ∧ (X.cell? ⟨w2.heap.size, 0, none⟩ = some (.bool t2) ∧ X.cell? ⟨w2.heap.size, 1, none⟩ = some (.slice B3 m3 e3) ∧ X.cell? ⟨w2.heap.size, 2, none⟩ = some (.slice B4 m4 e4)))
      (first | with_reducible exact qd.cells | with_reducible exact q11.cells | with_reducible exact q12.cells | with_reducible exact q13.cells | with_reducible exact q14.cells | with_reducible exact q15.cells | with_reducible exact q16.cells | exact r5)
      (first
        | (go_at_call 159; (with_reducible refine (fsub_any d.1 c.1 _ _ _ qd.p2.x qd.p1.x L3 L1).mono ?_); rintro e w11 ⟨hb11, x11, rfl, y11⟩; obtain ⟨t11, A11, l11', c11, A11', n11, c11', rfl⟩ := y11.form; have q11 := qd.next hb11)
        | (go_at_call 27; (with_reducible refine (fmul_any (d.1 - c.1) (p / (p - q)) _ _ _ y11 q11.p3 M3 M2).mono ?_); rintro e w12 ⟨hb12, x12, rfl, y12⟩; obtain ⟨t12, A12, l12', c12, A12', n12, c12', rfl⟩ := y12.form; have q12 := q11.next hb12)
        | (go_at_call 42; (with_reducible refine (fadd_any c.1 ((d.1 - c.1) * (p / (p - q))) _ _ _ q12.p1.x y12 L1 M4).mono ?_); rintro e w13 ⟨hb13, x13, rfl, y13⟩; obtain ⟨t13, A13, l13', c13, A13', n13, c13', rfl⟩ := y13.form; have q13 := q12.next hb13)
        | (go_at_call 159; (with_reducible refine (fsub_any d.2 c.2 _ _ _ q13.p2.y q13.p1.y L4 L2).mono ?_); rintro e w14 ⟨hb14, x14, rfl, y14⟩; obtain ⟨t14, A14, l14', c14, A14', n14, c14', rfl⟩ := y14.form; have q14 := q13.next hb14; have y134 := y13.next hb14)
        | (go_at_call 27; (with_reducible refine (fmul_any (d.2 - c.2) (p / (p - q)) _ _ _ y14 q14.p3 M5 M2).mono ?_); rintro e w15 ⟨hb15, x15, rfl, y15⟩; obtain ⟨t15, A15, l15', c15, A15', n15, c15', rfl⟩ := y15.form; have q15 := q14.next hb15; have y135 := y134.next hb15)
        | (go_at_call 42; (with_reducible refine (fadd_any c.2 ((d.2 - c.2) * (p / (p - q))) _ _ _ q15.p1.y y15 L2 M6).mono ?_); rintro e w16 ⟨hb16, x16, rfl, y16⟩; obtain ⟨t16, A16, l16', c16, A16', n16, c16', rfl⟩ := y16.form; have q16 := q15.next hb16; have y136 := y135.next hb16; obtain ⟨g0, g1, g2, g3, g4, g5⟩ := bk6c q16.k4; have f0 := q16.k4.frozen 0; have f1 := q16.k4.frozen 1; have f2 := q16.k4.frozen 2; have f3 := q16.k4.frozen 3; have f4 := q16.k4.frozen 4; have f5 := q16.k4.frozen 5; have r5 := And.intro (bk6c (set6_far (s := ⟨t13, .slice A13 l13' c13, .slice A13' n13 c13', t16, .slice A16 l16' c16, .slice A16' n16 c16'⟩) q16.k1 (show w.heap.size ≠ w.heap.size + 1 + 1 + 1 + 1 by omega))) (And.intro (bk6c (set6_far (s := ⟨t13, .slice A13 l13' c13, .slice A13' n13 c13', t16, .slice A16 l16' c16, .slice A16' n16 c16'⟩) q16.k2 (show w.heap.size + 1 ≠ w.heap.size + 1 + 1 + 1 + 1 by omega))) (bk3 (set6_far (s := ⟨t13, .slice A13 l13' c13, .slice A13' n13 c13', t16, .slice A16 l16' c16, .slice A16' n16 c16'⟩) q16.k3 (show w2.heap.size ≠ w.heap.size + 1 + 1 + 1 + 1 by omega))))))
    go_wp2
    refine bodyPost_ret (v := .agg #[.bool t13, .slice A13 l13' c13, .slice A13' n13 c13', .bool t16, .slice A16 l16' c16, .slice A16' n16 c16']) (by simp [results, Tryz.results135, go_sem, g0, g1, g2, g3, g4, g5]) rfl ?_
    refine ⟨set6_below (s := ⟨t13, .slice A13 l13' c13, .slice A13' n13 c13', t16, .slice A16 l16' c16, .slice A16' n16 c16'⟩) q16.below (by omega), ⟨t13, .slice A13 l13' c13, .slice A13' n13 c13', t16, .slice A16 l16' c16, .slice A16' n16 c16'⟩, ⟨fun k i => by simp, fun k i => by simp, fun k i => by simp, fun k i => by simp⟩, rfl, ?_⟩
    have hI : Ints w16 (set6 w16 (w.heap.size + 1 + 1 + 1 + 1) ⟨t13, .slice A13 l13' c13, .slice A13' n13 c13', t16, .slice A16 l16' c16, .slice A16' n16 c16'⟩) := set6_ints q16.k4 szero_plain
    rw [HM.out]
    exact IsPt.more ⟨y136.kept hI, y16.kept hI⟩ (by rw [show (World.setCell _ _ _) = set6 w16 (w.heap.size + 1 + 1 + 1 + 1) ⟨t13, .slice A13 l13' c13, .slice A13' n13 c13', t16, .slice A16 l16' c16, .slice A16' n16 c16'⟩ from rfl, set6_size]; exact Nat.le_refl _)
  · have htl : w.heap.size + 1 + 1 + 1 + 1 < w1.heap.size := Nat.lt_of_lt_of_le HLT.out HTB.out
    go_wp2_with fail
    refine wp_name (fun X => Mt sc sd t2 (.slice B3 m3 e3) (.slice B4 m4 e4) (w1.heap.size) c d (p / (p - q)) w X) (z3.mt (set3_bk ktb2) (by rw [set3_size]; exact y2.set3 ktb2 (.bool t2) (.slice B3 m3 e3) (.slice B4 m4 e4))) ?_
    rintro W3 q3
    clear z0 z0d z1 z2 z3 y1 y2 hb1 hb2 a0 a1 a2 b0 b1 b2
    have hlt := q3.k4.lt
    have hlt3 := q3.k3.lt
    obtain ⟨⟨a0, a1, a2, a3, a4, a5⟩, ⟨b0, b1, b2, b3, b4, b5⟩, c0, c1', c2'⟩ := q3.cells
    have qd := q3.drew
    go_region_held3 (fun X => (X.cell? ⟨w.heap.size, 0, none⟩ = some (.bool sc.b1) ∧ X.cell? ⟨w.heap.size, 1, none⟩ = some sc.n1 ∧ X.cell? ⟨w.heap.size, 2, none⟩ = some sc.d1 ∧ X.cell? ⟨w.heap.size, 3, none⟩ = some (.bool sc.b2) ∧ X.cell? ⟨w.heap.size, 4, none⟩ = some sc.n2 ∧ X.cell? ⟨w.heap.size, 5, none⟩ = some sc.d2) ∧ (X.cell? ⟨w.heap.size + 1, 0, none⟩ = some (.bool sd.b1) ∧ X.cell? ⟨w.heap.size + 1, 1, none⟩ = some sd.n1 ∧ X.cell? ⟨w.heap.size + 1, 2, none⟩ = some sd.d1 ∧ X.cell? ⟨w.heap.size + 1, 3, none⟩ = some (.bool sd.b2) ∧ X.cell? ⟨w.heap.size + 1, 4, none⟩ = some sd.n2 ∧ X.cell? ⟨w.heap.size + 1, 5, none⟩ = some sd.d2) ∧ (X.cell? ⟨w1.heap.size, 0, none⟩ = some (.bool t2) ∧ X.cell? ⟨w1.heap.size, 1, none⟩ = some (.slice B3 m3 e3) ∧ X.cell? ⟨w1.heap.size, 2, none⟩ = some (.slice B4 m4 e4)))
      (first | with_reducible exact qd.cells | with_reducible exact q11.cells | with_reducible exact q12.cells | with_reducible exact q13.cells | with_reducible exact q14.cells | with_reducible exact q15.cells | with_reducible exact q16.cells | exact r5)
      (first
        | (go_at_call 159; (with_reducible refine (fsub_any d.1 c.1 _ _ _ qd.p2.x qd.p1.x L3 L1).mono ?_); rintro e w11 ⟨hb11, x11, rfl, y11⟩; obtain ⟨t11, A11, l11', c11, A11', n11, c11', rfl⟩ := y11.form; have q11 := qd.next hb11)
        | (go_at_call 27; (with_reducible refine (fmul_any (d.1 - c.1) (p / (p - q)) _ _ _ y11 q11.p3 M3 M2).mono ?_); rintro e w12 ⟨hb12, x12, rfl, y12⟩; obtain ⟨t12, A12, l12', c12, A12', n12, c12', rfl⟩ := y12.form; have q12 := q11.next hb12)
        | (go_at_call 42; (with_reducible refine (fadd_any c.1 ((d.1 - c.1) * (p / (p - q))) _ _ _ q12.p1.x y12 L1 M4).mono ?_); rintro e w13 ⟨hb13, x13, rfl, y13⟩; obtain ⟨t13, A13, l13', c13, A13', n13, c13', rfl⟩ := y13.form; have q13 := q12.next hb13)
        | (go_at_call 159; (with_reducible refine (fsub_any d.2 c.2 _ _ _ q13.p2.y q13.p1.y L4 L2).mono ?_); rintro e w14 ⟨hb14, x14, rfl, y14⟩; obtain ⟨t14, A14, l14', c14, A14', n14, c14', rfl⟩ := y14.form; have q14 := q13.next hb14; have y134 := y13.next hb14)
        | (go_at_call 27; (with_reducible refine (fmul_any (d.2 - c.2) (p / (p - q)) _ _ _ y14 q14.p3 M5 M2).mono ?_); rintro e w15 ⟨hb15, x15, rfl, y15⟩; obtain ⟨t15, A15, l15', c15, A15', n15, c15', rfl⟩ := y15.form; have q15 := q14.next hb15; have y135 := y134.next hb15)
        | (go_at_call 42; (with_reducible refine (fadd_any c.2 ((d.2 - c.2) * (p / (p - q))) _ _ _ q15.p1.y y15 L2 M6).mono ?_); rintro e w16 ⟨hb16, x16, rfl, y16⟩; obtain ⟨t16, A16, l16', c16, A16', n16, c16', rfl⟩ := y16.form; have q16 := q15.next hb16; have y136 := y135.next hb16; obtain ⟨g0, g1, g2, g3, g4, g5⟩ := bk6c q16.k4; have f0 := q16.k4.frozen 0; have f1 := q16.k4.frozen 1; have f2 := q16.k4.frozen 2; have f3 := q16.k4.frozen 3; have f4 := q16.k4.frozen 4; have f5 := q16.k4.frozen 5; have r5 := And.intro (bk6c (set6_far (s := ⟨t13, .slice A13 l13' c13, .slice A13' n13 c13', t16, .slice A16 l16' c16, .slice A16' n16 c16'⟩) q16.k1 (show w.heap.size ≠ w.heap.size + 1 + 1 + 1 + 1 by omega))) (And.intro (bk6c (set6_far (s := ⟨t13, .slice A13 l13' c13, .slice A13' n13 c13', t16, .slice A16 l16' c16, .slice A16' n16 c16'⟩) q16.k2 (show w.heap.size + 1 ≠ w.heap.size + 1 + 1 + 1 + 1 by omega))) (bk3 (set6_far (s := ⟨t13, .slice A13 l13' c13, .slice A13' n13 c13', t16, .slice A16 l16' c16, .slice A16' n16 c16'⟩) q16.k3 (show w1.heap.size ≠ w.heap.size + 1 + 1 + 1 + 1 by omega))))))
    go_wp2
    refine bodyPost_ret (v := .agg #[.bool t13, .slice A13 l13' c13, .slice A13' n13 c13', .bool t16, .slice A16 l16' c16, .slice A16' n16 c16']) (by simp [results, Tryz.results135, go_sem, g0, g1, g2, g3, g4, g5]) rfl ?_
    refine ⟨set6_below (s := ⟨t13, .slice A13 l13' c13, .slice A13' n13 c13', t16, .slice A16 l16' c16, .slice A16' n16 c16'⟩) q16.below (by omega), ⟨t13, .slice A13 l13' c13, .slice A13' n13 c13', t16, .slice A16 l16' c16, .slice A16' n16 c16'⟩, ⟨fun k i => by simp, fun k i => by simp, fun k i => by simp, fun k i => by simp⟩, rfl, ?_⟩
    have hI : Ints w16 (set6 w16 (w.heap.size + 1 + 1 + 1 + 1) ⟨t13, .slice A13 l13' c13, .slice A13' n13 c13', t16, .slice A16 l16' c16, .slice A16' n16 c16'⟩) := set6_ints q16.k4 szero_plain
    rw [HM.out]
    exact IsPt.more ⟨y136.kept hI, y16.kept hI⟩ (by rw [show (World.setCell _ _ _) = set6 w16 (w.heap.size + 1 + 1 + 1 + 1) ⟨t13, .slice A13 l13' c13, .slice A13' n13 c13', t16, .slice A16 l16' c16, .slice A16' n16 c16'⟩ from rfl, set6_size]; exact Nat.le_refl _)
  · have htl : w.heap.size + 1 + 1 + 1 + 1 < W.heap.size := Nat.lt_of_lt_of_le HLT.out HTB.out
    go_wp2_with fail
    refine wp_name (fun X => Mt sc sd t2 (.slice B3 m3 e3) (.slice B4 m4 e4) (W.heap.size) c d (p / (p - q)) w X) (z3.mt (set3_bk ktb2) (by rw [set3_size]; exact y2.set3 ktb2 (.bool t2) (.slice B3 m3 e3) (.slice B4 m4 e4))) ?_
    rintro W3 q3
    clear z0 z0d z1 z2 z3 y1 y2 hb1 hb2 a0 a1 a2 b0 b1 b2
    have hlt := q3.k4.lt
    have hlt3 := q3.k3.lt
    obtain ⟨⟨a0, a1, a2, a3, a4, a5⟩, ⟨b0, b1, b2, b3, b4, b5⟩, c0, c1', c2'⟩ := q3.cells
    have qd := q3.drew
    go_region_held3 (fun X => (X.cell? ⟨w.heap.size, 0, none⟩ = some (.bool sc.b1) ∧ X.cell? ⟨w.heap.size, 1, none⟩ = some sc.n1 ∧ X.cell? ⟨w.heap.size, 2, none⟩ = some sc.d1 ∧ X.cell? ⟨w.heap.size, 3, none⟩ = some (.bool sc.b2) ∧ X.cell? ⟨w.heap.size, 4, none⟩ = some sc.n2 ∧ X.cell? ⟨w.heap.size, 5, none⟩ = some sc.d2) ∧ (X.cell? ⟨w.heap.size + 1, 0, none⟩ = some (.bool sd.b1) ∧ X.cell? ⟨w.heap.size + 1, 1, none⟩ = some sd.n1 ∧ X.cell? ⟨w.heap.size + 1, 2, none⟩ = some sd.d1 ∧ X.cell? ⟨w.heap.size + 1, 3, none⟩ = some (.bool sd.b2) ∧ X.cell? ⟨w.heap.size + 1, 4, none⟩ = some sd.n2 ∧ X.cell? ⟨w.heap.size + 1, 5, none⟩ = some sd.d2) ∧ (X.cell? ⟨W.heap.size, 0, none⟩ = some (.bool t2) ∧ X.cell? ⟨W.heap.size, 1, none⟩ = some (.slice B3 m3 e3) ∧ X.cell? ⟨W.heap.size, 2, none⟩ = some (.slice B4 m4 e4)))
      (first | with_reducible exact qd.cells | with_reducible exact q11.cells | with_reducible exact q12.cells | with_reducible exact q13.cells | with_reducible exact q14.cells | with_reducible exact q15.cells | with_reducible exact q16.cells | exact r5)
      (first
        | (go_at_call 159; (with_reducible refine (fsub_any d.1 c.1 _ _ _ qd.p2.x qd.p1.x L3 L1).mono ?_); rintro e w11 ⟨hb11, x11, rfl, y11⟩; obtain ⟨t11, A11, l11', c11, A11', n11, c11', rfl⟩ := y11.form; have q11 := qd.next hb11)
        | (go_at_call 27; (with_reducible refine (fmul_any (d.1 - c.1) (p / (p - q)) _ _ _ y11 q11.p3 M3 M2).mono ?_); rintro e w12 ⟨hb12, x12, rfl, y12⟩; obtain ⟨t12, A12, l12', c12, A12', n12, c12', rfl⟩ := y12.form; have q12 := q11.next hb12)
        | (go_at_call 42; (with_reducible refine (fadd_any c.1 ((d.1 - c.1) * (p / (p - q))) _ _ _ q12.p1.x y12 L1 M4).mono ?_); rintro e w13 ⟨hb13, x13, rfl, y13⟩; obtain ⟨t13, A13, l13', c13, A13', n13, c13', rfl⟩ := y13.form; have q13 := q12.next hb13)
        | (go_at_call 159; (with_reducible refine (fsub_any d.2 c.2 _ _ _ q13.p2.y q13.p1.y L4 L2).mono ?_); rintro e w14 ⟨hb14, x14, rfl, y14⟩; obtain ⟨t14, A14, l14', c14, A14', n14, c14', rfl⟩ := y14.form; have q14 := q13.next hb14; have y134 := y13.next hb14)
        | (go_at_call 27; (with_reducible refine (fmul_any (d.2 - c.2) (p / (p - q)) _ _ _ y14 q14.p3 M5 M2).mono ?_); rintro e w15 ⟨hb15, x15, rfl, y15⟩; obtain ⟨t15, A15, l15', c15, A15', n15, c15', rfl⟩ := y15.form; have q15 := q14.next hb15; have y135 := y134.next hb15)
        | (go_at_call 42; (with_reducible refine (fadd_any c.2 ((d.2 - c.2) * (p / (p - q))) _ _ _ q15.p1.y y15 L2 M6).mono ?_); rintro e w16 ⟨hb16, x16, rfl, y16⟩; obtain ⟨t16, A16, l16', c16, A16', n16, c16', rfl⟩ := y16.form; have q16 := q15.next hb16; have y136 := y135.next hb16; obtain ⟨g0, g1, g2, g3, g4, g5⟩ := bk6c q16.k4; have f0 := q16.k4.frozen 0; have f1 := q16.k4.frozen 1; have f2 := q16.k4.frozen 2; have f3 := q16.k4.frozen 3; have f4 := q16.k4.frozen 4; have f5 := q16.k4.frozen 5; have r5 := And.intro (bk6c (set6_far (s := ⟨t13, .slice A13 l13' c13, .slice A13' n13 c13', t16, .slice A16 l16' c16, .slice A16' n16 c16'⟩) q16.k1 (show w.heap.size ≠ w.heap.size + 1 + 1 + 1 + 1 by omega))) (And.intro (bk6c (set6_far (s := ⟨t13, .slice A13 l13' c13, .slice A13' n13 c13', t16, .slice A16 l16' c16, .slice A16' n16 c16'⟩) q16.k2 (show w.heap.size + 1 ≠ w.heap.size + 1 + 1 + 1 + 1 by omega))) (bk3 (set6_far (s := ⟨t13, .slice A13 l13' c13, .slice A13' n13 c13', t16, .slice A16 l16' c16, .slice A16' n16 c16'⟩) q16.k3 (show W.heap.size ≠ w.heap.size + 1 + 1 + 1 + 1 by omega))))))
    go_wp2
    refine bodyPost_ret (v := .agg #[.bool t13, .slice A13 l13' c13, .slice A13' n13 c13', .bool t16, .slice A16 l16' c16, .slice A16' n16 c16']) (by simp [results, Tryz.results135, go_sem, g0, g1, g2, g3, g4, g5]) rfl ?_
    refine ⟨set6_below (s := ⟨t13, .slice A13 l13' c13, .slice A13' n13 c13', t16, .slice A16 l16' c16, .slice A16' n16 c16'⟩) q16.below (by omega), ⟨t13, .slice A13 l13' c13, .slice A13' n13 c13', t16, .slice A16 l16' c16, .slice A16' n16 c16'⟩, ⟨fun k i => by simp, fun k i => by simp, fun k i => by simp, fun k i => by simp⟩, rfl, ?_⟩
    have hI : Ints w16 (set6 w16 (w.heap.size + 1 + 1 + 1 + 1) ⟨t13, .slice A13 l13' c13, .slice A13' n13 c13', t16, .slice A16 l16' c16, .slice A16' n16 c16'⟩) := set6_ints q16.k4 szero_plain
    rw [HM.out]
    exact IsPt.more ⟨y136.kept hI, y16.kept hI⟩ (by rw [show (World.setCell _ _ _) = set6 w16 (w.heap.size + 1 + 1 + 1 + 1) ⟨t13, .slice A13 l13' c13, .slice A13' n13 c13', t16, .slice A16 l16' c16, .slice A16' n16 c16'⟩ from rfl, set6_size]; exact Nat.le_refl _)
end Go.Proofs.YtbddmkklkbkliaaGreatDoor
