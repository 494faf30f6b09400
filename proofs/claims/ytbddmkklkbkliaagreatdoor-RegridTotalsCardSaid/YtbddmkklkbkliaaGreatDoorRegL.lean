/-
  Walk: package regrid's clip.
-/
import Derived.Test.YtbddmkklkbkliaaGreatDoorRegJ
import Derived.Deep.Cut
import Derived.Deep.CutRange
namespace Go.Proofs.YtbddmkklkbkliaaGreatDoor
open Go.RowKit Ar

/-- The points of a round in blocks of the call's own. -/
structure Cl (sa sb sc sd : Sx) (a b c d : Qp) (ba bc : Nat) (W : World) : Prop where
  k1 : Bk W ba 146 sa.cells.toArray
  k2 : Bk W (ba + 1) 146 sb.cells.toArray
  k3 : Bk W bc 146 sc.cells.toArray
  k4 : Bk W (bc + 1) 146 sd.cells.toArray
  p1 : IsPt W W.heap.size sa a
  p2 : IsPt W W.heap.size sb b
  p3 : IsPt W W.heap.size sc c
  p4 : IsPt W W.heap.size sd d
section
variable {sa sb sc sd : Sx} {a b c d : Qp} {ba bc : Nat} {W W' : World}
theorem Cl.next (h : Cl sa sb sc sd a b c d ba bc W) (hb : Below W.heap.size W W') : Cl sa sb sc sd a b c d ba bc W' :=
  ⟨h.k1.below hb h.k1.lt, h.k2.below hb h.k2.lt, h.k3.below hb h.k3.lt, h.k4.below hb h.k4.lt, h.p1.next hb, h.p2.next hb, h.p3.next hb, h.p4.next hb⟩
theorem Cl.cells (h : Cl sa sb sc sd a b c d ba bc W) : (W.cell? ⟨ba, 0, none⟩ = some (.bool sa.b1) ∧ W.cell? ⟨ba, 1, none⟩ = some sa.n1 ∧ W.cell? ⟨ba, 2, none⟩ = some sa.d1 ∧ W.cell? ⟨ba, 3, none⟩ = some (.bool sa.b2) ∧ W.cell? ⟨ba, 4, none⟩ = some sa.n2 ∧ W.cell? ⟨ba, 5, none⟩ = some sa.d2) ∧ (W.cell? ⟨ba + 1, 0, none⟩ = some (.bool sb.b1) ∧ W.cell? ⟨ba + 1, 1, none⟩ = some sb.n1 ∧ W.cell? ⟨ba + 1, 2, none⟩ = some sb.d1 ∧ W.cell? ⟨ba + 1, 3, none⟩ = some (.bool sb.b2) ∧ W.cell? ⟨ba + 1, 4, none⟩ = some sb.n2 ∧ W.cell? ⟨ba + 1, 5, none⟩ = some sb.d2) ∧ (W.cell? ⟨bc, 0, none⟩ = some (.bool sc.b1) ∧ W.cell? ⟨bc, 1, none⟩ = some sc.n1 ∧ W.cell? ⟨bc, 2, none⟩ = some sc.d1 ∧ W.cell? ⟨bc, 3, none⟩ = some (.bool sc.b2) ∧ W.cell? ⟨bc, 4, none⟩ = some sc.n2 ∧ W.cell? ⟨bc, 5, none⟩ = some sc.d2) ∧ (W.cell? ⟨bc + 1, 0, none⟩ = some (.bool sd.b1) ∧ W.cell? ⟨bc + 1, 1, none⟩ = some sd.n1 ∧ W.cell? ⟨bc + 1, 2, none⟩ = some sd.d1 ∧ W.cell? ⟨bc + 1, 3, none⟩ = some (.bool sd.b2) ∧ W.cell? ⟨bc + 1, 4, none⟩ = some sd.n2 ∧ W.cell? ⟨bc + 1, 5, none⟩ = some sd.d2) :=
  ⟨bk6c h.k1, bk6c h.k2, bk6c h.k3, bk6c h.k4⟩
end
theorem IsPt.form {w : World} {B : Nat} {s : Sx} {p : Qp} (h : IsPt w B s p) : ∃ t A l c A' l' c' t' A2 l2 c2 A3 l3 c3, s = ⟨t, .slice A l c, .slice A' l' c', t', .slice A2 l2 c2, .slice A3 l3 c3⟩ := by
  obtain ⟨b1, n1, d1, b2, n2, d2⟩ := s
  obtain ⟨h1, h2⟩ := h
  obtain ⟨t, A, l, c, A', l', c', e1⟩ := h1.form
  obtain ⟨t', A2, l2, c2, A3, l3, c3, e2⟩ := h2.form
  simp at e1 e2
  obtain ⟨rfl, rfl, rfl⟩ := e1
  obtain ⟨rfl, rfl, rfl⟩ := e2
  exact ⟨_, _, _, _, _, _, _, _, _, _, _, _, _, _, rfl⟩
theorem sz_cross {a b c : Qp} {K : Nat} (la : szp a ≤ K) (lb : szp b ≤ K) (lc : szp c ≤ K) : sz (crossQ a b c) ≤ 8 * K + 5 := by
  unfold szp at *
  unfold crossQ
  have s1 := sz_sub b.1 a.1
  have s2 := sz_sub c.2 a.2
  have s3 := sz_mul (b.1 - a.1) (c.2 - a.2)
  have s4 := sz_sub b.2 a.2
  have s5 := sz_sub c.1 a.1
  have s6 := sz_mul (b.2 - a.2) (c.1 - a.1)
  have s7 := sz_sub ((b.1 - a.1) * (c.2 - a.2)) ((b.2 - a.2) * (c.1 - a.1))
  omega
theorem sgQ_in (q : Rat) : -1 ≤ sgQ q ∧ sgQ q ≤ 1 := by
  unfold sgQ
  split
  · omega
  · split <;> omega
theorem sg_ne {p q : Rat} (h : sgQ p * sgQ q < 0) : p - q ≠ 0 := fun e => by
  have : p = q := by grind
  subst this
  have := sgQ_in p
  rcases (show sgQ p = -1 ∨ sgQ p = 0 ∨ sgQ p = 1 by omega) with e | e | e <;> rw [e] at h <;> omega
theorem OwnPoly.lt_own {w : World} {base : Nat} {v : Value} {l : List Qp} (h : OwnPoly w base v l) {g : Nat} (hg : v.ownBlock = some g) : base ≤ g ∧ g < w.heap.size := by
  obtain ⟨S, _, hown, _, _⟩ := h
  rcases hown.2 with ⟨rfl, _⟩ | ⟨g', cap, cur, rfl, h1, h2, _⟩
  · simp [Value.ownBlock] at hg
  · have : g' = g := by simpa [Value.ownBlock] using hg
    subst this
    exact ⟨h1, (Array.getElem?_eq_some_iff.1 h2).1⟩
theorem Cl.grown {sa sb sc sd : Sx} {a b c d : Qp} {ba bc : Nat} {W W' : World} {row : Option Nat} (h : Cl sa sb sc sd a b c d ba bc W) (hg : W.grownBy W' row) (hI : Ints W W') (hn : ∀ g, row = some g → ba + 2 ≤ g ∧ g < bc) : Cl sa sb sc sd a b c d ba bc W' :=
  ⟨h.k1.grown hg fun e => by have := hn _ e.symm; omega, h.k2.grown hg fun e => by have := hn _ e.symm; omega, h.k3.grown hg fun e => by have := hn _ e.symm; omega, h.k4.grown hg fun e => by have := hn _ e.symm; omega,
    (h.p1.kept hI).more hg.size, (h.p2.kept hI).more hg.size, (h.p3.kept hI).more hg.size, (h.p4.kept hI).more hg.size⟩
/-- A fraction in a block. -/
def FracAt (w : World) (b : Nat) (q : Rat) : Prop := ∃ s A l c A' l' c', Bk w b 66 #[.bool s, .slice A l c, .slice A' l' c'] ∧ IsF w w.heap.size (.agg #[.bool s, .slice A l c, .slice A' l' c']) q
theorem FracAt.next {w w' : World} {b : Nat} {q : Rat} (h : FracAt w b q) (hb : Below w.heap.size w w') : FracAt w' b q := by
  obtain ⟨s, A, l, c, A', l', c', h1, h2⟩ := h
  exact ⟨s, A, l, c, A', l', c', h1.below hb h1.lt, h2.next hb⟩
section
variable {w : World} {s t : Bool} {A A' C C' : Option Addr} {l k l' k' n j n' j' : Nat} {p q : Rat} {b b2 : Nat}
theorem formA (hp : IsF w w.heap.size (.agg #[.bool s, .slice A l k, .slice A' l' k']) p) (hq : IsF w w.heap.size (.agg #[.bool t, .slice C n j, .slice C' n' j']) q) :
    FracAt ((w.alloc (.cells #[.bool s, .slice A l k, .slice A' l' k'] 66)).alloc (.cells #[.bool t, .slice C n j, .slice C' n' j'] 66)) w.heap.size p ∧ FracAt ((w.alloc (.cells #[.bool s, .slice A l k, .slice A' l' k'] 66)).alloc (.cells #[.bool t, .slice C n j, .slice C' n' j'] 66)) (w.heap.size + 1) q := by
  have h1 := below_alloc w (.cells #[.bool s, .slice A l k, .slice A' l' k'] 66)
  have h2 := below_alloc (w.alloc (.cells #[.bool s, .slice A l k, .slice A' l' k'] 66)) (.cells #[.bool t, .slice C n j, .slice C' n' j'] 66)
  exact ⟨⟨_, _, _, _, _, _, _, (Bk.new _ _ _).alloc _, (hp.next h1).next h2⟩, ⟨_, _, _, _, _, _, _, Bk.new2 _ _ _ _, (hq.next h1).next h2⟩⟩
theorem formC (kA : Bk w b 66 #[.bool false, .slice none 0 0, .slice none 0 0]) (hp : IsF w w.heap.size (.agg #[.bool s, .slice A l k, .slice A' l' k']) p) (hq : IsF w w.heap.size (.agg #[.bool t, .slice C n j, .slice C' n' j']) q) :
    FracAt ((((w.setCell ⟨b, 0, none⟩ (.bool s)).setCell ⟨b, 1, none⟩ (.slice A l k)).setCell ⟨b, 2, none⟩ (.slice A' l' k')).alloc (.cells #[.bool t, .slice C n j, .slice C' n' j'] 66)) b p ∧
      FracAt ((((w.setCell ⟨b, 0, none⟩ (.bool s)).setCell ⟨b, 1, none⟩ (.slice A l k)).setCell ⟨b, 2, none⟩ (.slice A' l' k')).alloc (.cells #[.bool t, .slice C n j, .slice C' n' j'] 66)) w.heap.size q := by
  have e := set3_size w b (.bool s) (.slice A l k) (.slice A' l' k')
  have h1 := below_alloc (set3 w b (.bool s) (.slice A l k) (.slice A' l' k')) (.cells #[.bool t, .slice C n j, .slice C' n' j'] 66)
  have hp1 : IsF (set3 w b (.bool s) (.slice A l k) (.slice A' l' k')) (set3 w b (.bool s) (.slice A l k) (.slice A' l' k')).heap.size (.agg #[.bool s, .slice A l k, .slice A' l' k']) p := by rw [e]; exact hp.set3 kA _ _ _
  have hq1 : IsF (set3 w b (.bool s) (.slice A l k) (.slice A' l' k')) (set3 w b (.bool s) (.slice A l k) (.slice A' l' k')).heap.size (.agg #[.bool t, .slice C n j, .slice C' n' j']) q := by rw [e]; exact hq.set3 kA _ _ _
  have kN := Bk.new (set3 w b (.bool s) (.slice A l k) (.slice A' l' k')) 66 #[.bool t, .slice C n j, .slice C' n' j']
  rw [e] at kN
  exact ⟨⟨s, A, l, k, A', l', k', (set3_bk kA).alloc _, hp1.next h1⟩, ⟨t, C, n, j, C', n', j', kN, hq1.next h1⟩⟩
theorem formE (kA : Bk w b 66 #[.bool false, .slice none 0 0, .slice none 0 0]) (kB : Bk w b2 66 #[.bool false, .slice none 0 0, .slice none 0 0]) (hne : b ≠ b2) (hp : IsF w w.heap.size (.agg #[.bool s, .slice A l k, .slice A' l' k']) p) (hq : IsF w w.heap.size (.agg #[.bool t, .slice C n j, .slice C' n' j']) q) :
    FracAt ((((((w.setCell ⟨b, 0, none⟩ (.bool s)).setCell ⟨b, 1, none⟩ (.slice A l k)).setCell ⟨b, 2, none⟩ (.slice A' l' k')).setCell ⟨b2, 0, none⟩ (.bool t)).setCell ⟨b2, 1, none⟩ (.slice C n j)).setCell ⟨b2, 2, none⟩ (.slice C' n' j')) b p ∧
      FracAt ((((((w.setCell ⟨b, 0, none⟩ (.bool s)).setCell ⟨b, 1, none⟩ (.slice A l k)).setCell ⟨b, 2, none⟩ (.slice A' l' k')).setCell ⟨b2, 0, none⟩ (.bool t)).setCell ⟨b2, 1, none⟩ (.slice C n j)).setCell ⟨b2, 2, none⟩ (.slice C' n' j')) b2 q := by
  have e := set3_size w b (.bool s) (.slice A l k) (.slice A' l' k')
  have e2 := set3_size (set3 w b (.bool s) (.slice A l k) (.slice A' l' k')) b2 (.bool t) (.slice C n j) (.slice C' n' j')
  have kB2 := bk_far3 (x := .bool s) (y := .slice A l k) (z := .slice A' l' k') kB (Ne.symm hne)
  have hp1 := hp.set3 kA (.bool s) (.slice A l k) (.slice A' l' k')
  have hq1 := hq.set3 kA (.bool s) (.slice A l k) (.slice A' l' k')
  have hp2 := hp1.set3 kB2 (.bool t) (.slice C n j) (.slice C' n' j')
  have hq2 := hq1.set3 kB2 (.bool t) (.slice C n j) (.slice C' n' j')
  rw [← e, ← e2] at hp2 hq2
  exact ⟨⟨_, _, _, _, _, _, _, bk_far3 (set3_bk kA) hne, hp2⟩, ⟨_, _, _, _, _, _, _, set3_bk kB2, hq2⟩⟩
end
/-- One round: what it adds. -/
def cutStep (a b c d : Qp) : List Qp :=
  (if 0 ≤ sgQ (crossQ a b c) then [c] else []) ++ (if sgQ (crossQ a b c) * sgQ (crossQ a b d) < 0 then [meetQ c d (crossQ a b c) (crossQ a b d)] else [])
def nx (l : List Qp) (i : Nat) : Qp := l.getD ((i + 1) % l.length) (0, 0)
def cutQ (l : List Qp) (a b : Qp) (k : Nat) : List Qp := (List.range k).flatMap fun i => cutStep a b (l.getD i (0, 0)) (nx l i)

set_option maxRecDepth 100000 in
set_option maxHeartbeats 6400000 in
theorem clip_any (l : List Qp) (a b : Qp) (v : Value) (sa sb : Sx) (K : Nat) (w : World) (h : IsPoly w w.heap.size v l) (ha : IsPt w w.heap.size sa a) (hb : IsPt w w.heap.size sb b) (hm : l.length ≤ 1000000)
    (hK : K ≤ 1000000000) (la : szp a ≤ K) (lb : szp b ≤ K) (lp : ∀ p ∈ l, szp p ≤ K) :
    Calls Tryz.prog 109 #[v, sa.val, sb.val] w fun e w' => Below w.heap.size w w' ∧ ∃ v, e = .returned v ∧ IsPoly w' w'.heap.size v (cutQ l a b l.length) := by
  obtain ⟨A, cp, Sl, rfl, hcp, hSl, hr, hS⟩ := h
  obtain ⟨i0, hi0, hz0, hz1, hz2⟩ := info_parts Tryz.point_info
  unfold Sx.val
  go_enter Tryz.func109, Tryz.ntmps109
  go_wp2_with fail
  refine wp_name (fun W => Below w.heap.size w W ∧ Bk W w.heap.size 146 sa.cells.toArray ∧ Bk W (w.heap.size + 1) 146 sb.cells.toArray) ⟨?_, ?_, ?_⟩ ?_
  · exact (below_alloc w _).alloc (by simp) _
  · exact (Bk.new _ _ _).alloc _
  · simpa [Sx.cells] using (Bk.new (w.alloc _) _ _)
  rintro W0 ⟨hB0, ka, kb⟩
  go_loopw [7, 15] (fun u i wr => ∃ k : Nat, k ≤ l.length ∧ i = .int .i64 k ∧ OwnPoly wr (w.heap.size + 2) u (cutQ l a b k) ∧ (cutQ l a b k).length ≤ 2 * k ∧ Below w.heap.size w wr ∧ Bk wr w.heap.size 146 sa.cells.toArray ∧ Bk wr (w.heap.size + 1) 146 sb.cells.toArray) (fun _ i _ => l.length - (intOf i).toNat)
  case atStart => exact ⟨0, Nat.zero_le _, rfl, OwnPoly.nil _ _, Nat.zero_le _, hB0, ka, kb⟩
  case round =>
    obtain ⟨k, hk, rfl, hO, hOl, hB, ka, kb⟩ := hrel
    rcases Nat.lt_or_ge k l.length with hlt | hge
    · obtain ⟨j1, hj1⟩ : ∃ j, j = (k + 1) % l.length := ⟨_, rfl⟩
      have hl1 : j1 < l.length := by rw [hj1]; exact Nat.mod_lt _ (by omega)
      have m1 : ((k : Int) + 1).tmod (l.length : Int) = (j1 : Int) := by rw [hj1]; rfl
      have n0 : ¬ l.length = 0 := by omega
      have ww1 : IntKind.i64.wrap ((k : Int) + 1) = (k : Int) + 1 := IntWalk.i64_in _ (by omega)
      obtain ⟨sc, hsc, hpc⟩ := hS k l[k] (List.getElem?_eq_getElem hlt)
      obtain ⟨sd, hsd, hpd⟩ := hS j1 l[j1] (List.getElem?_eq_getElem hl1)
      obtain ⟨ct, cA, cl, cc, cA', cl', cc', ct', cA2, cl2, cc2, cA3, cl3, cc3, rfl⟩ := hpc.form
      obtain ⟨dt, dA, dl, dc, dA', dl', dc', dt', dA2, dl2, dc2, dA3, dl3, dc3, rfl⟩ := hpd.form
      obtain ⟨ad, rfl, hab, x0, x1, x2, x3, x4, x5⟩ := (hr.below hB).point hsc
      obtain ⟨_, e1, _, z0, z1, z2, z3, z4, z5⟩ := ((hr.below hB).alloc hB.size (.cells #[.bool ct, .slice cA cl cc, .slice cA' cl' cc', .bool ct', .slice cA2 cl2 cc2, .slice cA3 cl3 cc3] 146)).point hsd
      injection e1 with e1
      subst e1
      have lc := lp _ (List.getElem_mem hlt)
      have ld := lp _ (List.getElem_mem hl1)
      have HC : Hid (l[k] = l.getD k (0, 0)) := by show _ = _; rw [List.getD_eq_getElem?_getD, List.getElem?_eq_getElem hlt]; rfl
      have HD : Hid (l[j1] = nx l k) := by show _ = _; unfold nx; rw [← hj1, List.getD_eq_getElem?_getD, List.getElem?_eq_getElem hl1]; rfl
      have hpc2 := (hpc.below hB).more hB.size
      have hpd2 := (hpd.below hB).more hB.size
      have ha2 := (ha.below hB).more hB.size
      have hb2' := (hb.below hB).more hB.size
      generalize l[k] = c at *
      generalize l[j1] = d at *
      clear hpc hpd hsc hsd hj1
      go_wp2_with fail
      have hqc : IsPt wr wr.heap.size ⟨ct, .slice cA cl cc, .slice cA' cl' cc', ct', .slice cA2 cl2 cc2, .slice cA3 cl3 cc3⟩ c := hpc2
      have hqd : IsPt wr wr.heap.size ⟨dt, .slice dA dl dc, .slice dA' dl' dc', dt', .slice dA2 dl2 dc2, .slice dA3 dl3 dc3⟩ d := hpd2
      clear hpc2 hpd2 x0 x1 x2 x3 x4 x5 z0 z1 z2 z3 z4 z5
      refine wp_name (fun W => Below wr.heap.size wr W ∧ Cl sa sb ⟨ct, .slice cA cl cc, .slice cA' cl' cc', ct', .slice cA2 cl2 cc2, .slice cA3 cl3 cc3⟩ ⟨dt, .slice dA dl dc, .slice dA' dl' dc', dt', .slice dA2 dl2 dc2, .slice dA3 dl3 dc3⟩ a b c d w.heap.size wr.heap.size W) ⟨?_, ?_⟩ ?_
      · exact (below_alloc wr _).alloc (by simp) _
      · have hb0 : Below wr.heap.size wr ((wr.alloc (.cells #[.bool ct, .slice cA cl cc, .slice cA' cl' cc', .bool ct', .slice cA2 cl2 cc2, .slice cA3 cl3 cc3] 146)).alloc (.cells #[.bool dt, .slice dA dl dc, .slice dA' dl' dc', .bool dt', .slice dA2 dl2 dc2, .slice dA3 dl3 dc3] 146)) := (below_alloc wr _).alloc (by simp) _
        exact ⟨ka.below hb0 ka.lt, kb.below hb0 kb.lt, (Bk.new _ _ _).alloc _, (by simpa [Sx.cells] using (Bk.new (wr.alloc _) _ _)), ha2.next hb0, hb2'.next hb0, hqc.next hb0, hqd.next hb0⟩
      rintro W ⟨hbW, q0⟩
      have hO0 := hO.keep hbW
      have HOW : Hid (∀ g, u7.ownBlock = some g → w.heap.size + 2 ≤ g ∧ g < wr.heap.size) := fun g hg => hO.lt_own hg
      have hBW := hB.trans (hbW.mono hB.size)
      clear hqc hqd ha2 hb2' hO ka kb
      have bb0 := Below.refl W.heap.size W
      have hbs0 := bb0.size
      have C1 := Lib.hid (fun X (h : Below W.heap.size W X) => cross_any a b c sa sb ⟨ct, .slice cA cl cc, .slice cA' cl' cc', ct', .slice cA2 cl2 cc2, .slice cA3 cl3 cc3⟩ X (q0.next h).p1 (q0.next h).p2 (q0.next h).p3 (by omega) (by omega) (by omega))
      have C2 := Lib.hid (fun X (h : Below W.heap.size W X) => cross_any a b d sa sb ⟨dt, .slice dA dl dc, .slice dA' dl' dc', dt', .slice dA2 dl2 dc2, .slice dA3 dl3 dc3⟩ X (q0.next h).p1 (q0.next h).p2 (q0.next h).p4 (by omega) (by omega) (by omega))
      have HP := Lib.hid (rfl : crossQ a b c = crossQ a b c)
      unfold Sx.val at C1 C2
      obtain ⟨⟨a0, a1, a2, a3, a4, a5⟩, ⟨b0, b1, b2, b3, b4, b5⟩, ⟨c0, c1, c2, c3, c4, c5⟩, d0, d1, d2, d3, d4, d5⟩ := q0.cells
      go_cut [11, 12, 15] from 15 to 57 (fun x y i wx => i = .int .i64 k ∧ ∃ bp bq, x = .pointer (some ⟨bp, 0, none⟩) ∧ y = .pointer (some ⟨bq, 0, none⟩) ∧ FracAt wx bp (crossQ a b c) ∧ FracAt wx bq (crossQ a b d) ∧ Below W.heap.size W wx ∧ W.heap.size ≤ bp ∧ W.heap.size ≤ bq)
      case first =>
        go_region_held3 (fun X => (X.cell? ⟨w.heap.size, 0, none⟩ = some (.bool sa.b1) ∧ X.cell? ⟨w.heap.size, 1, none⟩ = some sa.n1 ∧ X.cell? ⟨w.heap.size, 2, none⟩ = some sa.d1 ∧ X.cell? ⟨w.heap.size, 3, none⟩ = some (.bool sa.b2) ∧ X.cell? ⟨w.heap.size, 4, none⟩ = some sa.n2 ∧ X.cell? ⟨w.heap.size, 5, none⟩ = some sa.d2) ∧ (X.cell? ⟨w.heap.size + 1, 0, none⟩ = some (.bool sb.b1) ∧ X.cell? ⟨w.heap.size + 1, 1, none⟩ = some sb.n1 ∧ X.cell? ⟨w.heap.size + 1, 2, none⟩ = some sb.d1 ∧ X.cell? ⟨w.heap.size + 1, 3, none⟩ = some (.bool sb.b2) ∧ X.cell? ⟨w.heap.size + 1, 4, none⟩ = some sb.n2 ∧ X.cell? ⟨w.heap.size + 1, 5, none⟩ = some sb.d2) ∧ (X.cell? ⟨wr.heap.size, 0, none⟩ = some (.bool ct) ∧ X.cell? ⟨wr.heap.size, 1, none⟩ = some (.slice cA cl cc) ∧ X.cell? ⟨wr.heap.size, 2, none⟩ = some (.slice cA' cl' cc') ∧ X.cell? ⟨wr.heap.size, 3, none⟩ = some (.bool ct') ∧ X.cell? ⟨wr.heap.size, 4, none⟩ = some (.slice cA2 cl2 cc2) ∧ X.cell? ⟨wr.heap.size, 5, none⟩ = some (.slice cA3 cl3 cc3)) ∧ (X.cell? ⟨wr.heap.size + 1, 0, none⟩ = some (.bool dt) ∧ X.cell? ⟨wr.heap.size + 1, 1, none⟩ = some (.slice dA dl dc) ∧ X.cell? ⟨wr.heap.size + 1, 2, none⟩ = some (.slice dA' dl' dc') ∧ X.cell? ⟨wr.heap.size + 1, 3, none⟩ = some (.bool dt') ∧ X.cell? ⟨wr.heap.size + 1, 4, none⟩ = some (.slice dA2 dl2 dc2) ∧ X.cell? ⟨wr.heap.size + 1, 5, none⟩ = some (.slice dA3 dl3 dc3)))
          (((with_reducible refine (q0.next ?_).cells); repeat' (first | (with_reducible exact bb2) | (with_reducible exact bb1) | (with_reducible exact bb0) | ((with_reducible refine Below.setCell ?_ ?_ _); rotate_left; (focus first | omega | (simp; done) | (simp; omega) | (unfold World.setCell; simp; omega))) | ((with_reducible refine Below.alloc ?_ ?_ _); rotate_left; (focus first | omega | (simp; done) | (simp; omega) | (unfold World.setCell; simp; omega))) | (with_reducible refine Below.drew ?_))))
          (first
            | (go_at_call 134; (with_reducible refine (C1.out _ ?_).mono ?_); (focus repeat' (first | (with_reducible exact bb2) | (with_reducible exact bb1) | (with_reducible exact bb0) | ((with_reducible refine Below.setCell ?_ ?_ _); rotate_left; (focus first | omega | (simp; done) | (simp; omega) | (unfold World.setCell; simp; omega))) | ((with_reducible refine Below.alloc ?_ ?_ _); rotate_left; (focus first | omega | (simp; done) | (simp; omega) | (unfold World.setCell; simp; omega))) | (with_reducible refine Below.drew ?_))); rintro e w1 ⟨hb1, v1, rfl, y1⟩; have bb1 : Below W.heap.size W w1 := below_step (by repeat' (first | (with_reducible exact bb2) | (with_reducible exact bb1) | (with_reducible exact bb0) | ((with_reducible refine Below.setCell ?_ ?_ _); rotate_left; (focus first | omega | (simp; done) | (simp; omega) | (unfold World.setCell; simp; omega))) | ((with_reducible refine Below.alloc ?_ ?_ _); rotate_left; (focus first | omega | (simp; done) | (simp; omega) | (unfold World.setCell; simp; omega))) | (with_reducible refine Below.drew ?_))) hb1; have hbs1 := bb1.size; obtain ⟨t1, A1, l1, e1, A1', l1', e1', rfl⟩ := y1.form; (first | ((with_reducible have ka := ((Bk.new W 66 #[.bool false, .slice none 0 0, .slice none 0 0]).alloc (.cells #[.bool false, .slice none 0 0, .slice none 0 0] 66)).drew.next' hb1); (with_reducible have kb := (Bk.new2 W (.cells #[.bool false, .slice none 0 0, .slice none 0 0] 66) 66 #[.bool false, .slice none 0 0, .slice none 0 0]).drew.next' hb1); have la := ka.lt) | ((with_reducible have ka := (Bk.new W 66 #[.bool false, .slice none 0 0, .slice none 0 0]).drew.next' hb1); have la := ka.lt) | skip))
            | (go_at_call 134; (with_reducible refine (C2.out _ ?_).mono ?_); (focus repeat' (first | (with_reducible exact bb2) | (with_reducible exact bb1) | (with_reducible exact bb0) | ((with_reducible refine Below.setCell ?_ ?_ _); rotate_left; (focus first | omega | (simp; done) | (simp; omega) | (unfold World.setCell; simp; omega))) | ((with_reducible refine Below.alloc ?_ ?_ _); rotate_left; (focus first | omega | (simp; done) | (simp; omega) | (unfold World.setCell; simp; omega))) | (with_reducible refine Below.drew ?_))); rintro e w2 ⟨hb2, v2, rfl, y2⟩; have bb2 : Below W.heap.size W w2 := below_step (by repeat' (first | (with_reducible exact bb2) | (with_reducible exact bb1) | (with_reducible exact bb0) | ((with_reducible refine Below.setCell ?_ ?_ _); rotate_left; (focus first | omega | (simp; done) | (simp; omega) | (unfold World.setCell; simp; omega))) | ((with_reducible refine Below.alloc ?_ ?_ _); rotate_left; (focus first | omega | (simp; done) | (simp; omega) | (unfold World.setCell; simp; omega))) | (with_reducible refine Below.drew ?_))) hb2; have hbs2 := bb2.size; have rw1 := Below.refl w1.heap.size w1; have y12 := y1.next (below_step (by repeat' (first | (with_reducible exact rw1) | ((with_reducible refine Below.setCell ?_ ?_ _); rotate_left; (focus first | omega | (simp; done) | (simp; omega) | (unfold World.setCell; simp; omega))) | ((with_reducible refine Below.alloc ?_ ?_ _); rotate_left; (focus first | omega | (simp; done) | (simp; omega) | (unfold World.setCell; simp; omega))) | (with_reducible refine Below.drew ?_))) hb2); obtain ⟨t2, A2, l2, e2, A2', l2', e2', rfl⟩ := y2.form; (first | ((with_reducible have kA := ka.next' hb2); (with_reducible have kB := kb.next' hb2)) | (with_reducible have kA := ka.next' hb2) | ((with_reducible have kA := (ka.alloc (.cells #[.bool false, .slice none 0 0, .slice none 0 0] 66)).next' hb2); (with_reducible have kB := (Bk.new w1 66 #[.bool false, .slice none 0 0, .slice none 0 0]).next' hb2)) | ((with_reducible have kA := ((Bk.new w1 66 #[.bool false, .slice none 0 0, .slice none 0 0]).alloc (.cells #[.bool false, .slice none 0 0, .slice none 0 0] 66)).next' hb2); (with_reducible have kB := (Bk.new2 w1 (.cells #[.bool false, .slice none 0 0, .slice none 0 0] 66) 66 #[.bool false, .slice none 0 0, .slice none 0 0]).next' hb2)) | (with_reducible have kA := (Bk.new w1 66 #[.bool false, .slice none 0 0, .slice none 0 0]).next' hb2) | skip); (first | (obtain ⟨i0, i1, i2⟩ := bk3 kA; have f0 := kA.frozen 0; have f1 := kA.frozen 1; have f2 := kA.frozen 2; have lA := kA.lt; obtain ⟨j0, j1', j2⟩ := bk3 kB; have g0 := kB.frozen 0; have g1 := kB.frozen 1; have g2 := kB.frozen 2; have lB := kB.lt) | (obtain ⟨i0, i1, i2⟩ := bk3 kA; have f0 := kA.frozen 0; have f1 := kA.frozen 1; have f2 := kA.frozen 2; have lA := kA.lt) | skip)))
        all_goals (go_wp2_with fail)
        all_goals go_meet
        all_goals
          refine ⟨rfl, _, _, rfl, rfl, ?_, ?_, ?_, by omega, by omega⟩
          · first | (with_reducible exact (formA y12 y2).1) | (with_reducible exact (formA y2 y12).2) | (with_reducible exact (formC kA y12 y2).1) | (with_reducible exact (formC kA y2 y12).2) | (with_reducible exact (formE kA kB (by omega) y12 y2).1) | (with_reducible exact (formE kB kA (by omega) y12 y2).1)
          · first | (with_reducible exact (formA y12 y2).2) | (with_reducible exact (formA y2 y12).1) | (with_reducible exact (formC kA y12 y2).2) | (with_reducible exact (formC kA y2 y12).1) | (with_reducible exact (formE kA kB (by omega) y12 y2).2) | (with_reducible exact (formE kB kA (by omega) y12 y2).2)
          · repeat' (first | (with_reducible exact bb2) | (with_reducible exact bb1) | (with_reducible exact bb0) | ((with_reducible refine Below.setCell ?_ ?_ _); rotate_left; (focus first | omega | (simp; done) | (simp; omega) | (unfold World.setCell; simp; omega))) | ((with_reducible refine Below.alloc ?_ ?_ _); rotate_left; (focus first | omega | (simp; done) | (simp; omega) | (unfold World.setCell; simp; omega))) | (with_reducible refine Below.drew ?_))
      case rest =>
        obtain ⟨rfl, bp, bq, rfl, rfl, ⟨t1, A1, l1, e1, A1', l1', e1', kP, fP⟩, ⟨t2, A2, l2, e2, A2', l2', e2', kQ, fQ⟩, hbc, hbp, hbq⟩ := hcut
        have hWs := hbW.size
        have hbcs := hbc.size
        have q1 := q0.next hbc
        have hO1 := hO0.keep hbc
        have hBc := hBW.trans (hbc.mono hBW.size)
        have lP := sz_cross la lb lc
        have lQ := sz_cross la lb ld
        have HNE : Hid (sgQ (crossQ a b c) * sgQ (crossQ a b d) < 0 → crossQ a b c - crossQ a b d ≠ 0) := sg_ne
        have HST : Hid (cutQ l a b (k + 1) = cutQ l a b k ++ cutStep a b c d) := by
          show _ = _
          unfold cutQ
          rw [List.range_succ, List.flatMap_append]
          simp only [List.flatMap_cons, List.flatMap_nil, List.append_nil]
          rw [← HC.out, ← HD.out]
        have hs1 := sgQ_in (crossQ a b c)
        have hs2 := sgQ_in (crossQ a b d)
        have hs12 := unit_mul hs1 hs2
        have ws : IntKind.i64.wrap (sgQ (crossQ a b c) * sgQ (crossQ a b d)) = sgQ (crossQ a b c) * sgQ (crossQ a b d) := IntWalk.i64_in _ (by omega)
        unfold cutStep at HST
        clear C1 C2 HP q0 hO0 hBW hbc bb0 hbs0 hbW a0 a1 a2 a3 a4 a5 b0 b1 b2 b3 b4 b5 c0 c1 c2 c3 c4 c5 d0 d1 d2 d3 d4 d5
        generalize hpv : crossQ a b c = pv' at *
        generalize hqv : crossQ a b d = qv' at *
        generalize hs1v : sgQ pv' = s1 at *
        generalize hs2v : sgQ qv' = s2 at *
        obtain ⟨x0, x1, x2⟩ := bk3 kP
        go_wp2_with fail
        refine (fsign_any pv' _ _ fP).mono ?_
        rintro e w3 ⟨hb3, rfl⟩
        rw [hs1v]
        have q3 := q1.next hb3
        have hO3 := hO1.keep hb3
        have hB3 := hBc.trans (hb3.mono hBc.size)
        have kP3 := kP.below hb3 kP.lt
        have kQ3 := kQ.below hb3 kQ.lt
        have fP3 := fP.next hb3
        have fQ3 := fQ.next hb3
        clear q1 hO1 hBc kP kQ fP fQ x0 x1 x2
        have hpl : (cutQ l a b k).length ≤ 2000000 := by omega
        generalize hpts : cutQ l a b k = pts at *
        by_cases hge : 0 ≤ s1
        · obtain ⟨_, _, ⟨c0, c1, c2, c3, c4, c5⟩, _⟩ := q3.cells
          have hbA := below_alloc w3 (.cells #[.bool ct, .slice cA cl cc, .slice cA' cl' cc', .bool ct', .slice cA2 cl2 cc2, .slice cA3 cl3 cc3] 146)
          have hO4 := hO3.keep hbA
          have q4 := q3.next hbA
          have hB4 := hB3.trans (hbA.mono hB3.size)
          have kP4 := kP3.below hbA kP3.lt
          have kQ4 := kQ3.below hbA kQ3.lt
          have fP4 := fP3.next hbA
          have fQ4 := fQ3.next hbA
          obtain ⟨S, hS1, hS2, hS3, hS4⟩ := hO4
          go_wp2_with (at_builtin; refine wpL_append_ni rfl (.tmp 39) (.tmp 41) 143 rfl (w.heap.size + 2) 146 i0 zpt 6 112 Tryz.underlying143 hi0 hz0 hz1 hz2 rfl (by omega) _ pts.length (srow S) rfl hS2 hS3 zpt_no ⟨w3.heap.size, 0, none⟩ 1 1 [.bool ct, .slice cA cl cc, .slice cA' cl' cc', .bool ct', .slice cA2 cl2 cc2, .slice cA3 cl3 cc3] rfl rfl (new_cells w3 _ _) (by intro u hu; simp at hu; rcases hu with rfl | rfl | rfl | rfl | rfl | rfl <;> rfl) (by intro u hu k0 i1; simp at hu; rcases hu with rfl | rfl | rfl | rfl | rfl | rfl <;> simp) (by omega) (by unfold maxLen; omega) (by omega) (by have := hB4.size; have := q4.k2.lt; omega) ?_; intro v5 w5 hw1 hw2 hw3)
          have hPt : IsPt _ _ _ c := q4.p3
          have HO5 : OwnPoly w5 (w.heap.size + 2) v5 (pts ++ [c]) := OwnPoly.add hS1 hS3 hS4 hPt hw1 hw2 hw3
          have hI5 := ints_grown hw2 hS3
          have hlt5 : wr.heap.size ≤ w3.heap.size := Nat.le_trans (Nat.le_trans hWs hbcs) hb3.size
          have q5 := q4.grown hw2 hI5 (fun g hg => by have := HOW.out g hg; omega)
          have kP5 := kP4.grown hw2 (fun e => by have := HOW.out _ e.symm; omega)
          have kQ5 := kQ4.grown hw2 (fun e => by have := HOW.out _ e.symm; omega)
          have fP5 := (fP4.kept hI5).more hw2.size
          have fQ5 := (fQ4.kept hI5).more hw2.size
          have hB5 : Below w.heap.size w w5 := below_app hB4 hw2 (by have := hB4.size; omega) hS2 (by omega)
          have hpl5 : (pts ++ [c]).length ≤ 2000001 := by simp; omega
          have HOG : some w.heap.size ≠ v5.ownBlock := fun e => absurd (HO5.lt_own e.symm).1 (by omega)
          have HOG' : some (w.heap.size + 1) ≠ v5.ownBlock := fun e => absurd (HO5.lt_own e.symm).1 (by omega)
          clear hw1 hw2 hw3 hPt hS1 hS2 hS3 hS4 q4 kP4 kQ4 fP4 fQ4 hB4 hI5 hbA q3 hO3 hB3 kP3 kQ3 fP3 fQ3 c0 c1 c2 c3 c4 c5 hlt5
          go_wp2_with fail
          have r0 := And.intro (bk3 kP5.drew) (bk3 kQ5.drew)
          obtain ⟨x0, x1, x2⟩ := bk3 kP5
          obtain ⟨y0, y1, y2⟩ := bk3 kQ5
          go_region_held3 (fun X => (X.cell? ⟨bp, 0, none⟩ = some (.bool t1) ∧ X.cell? ⟨bp, 1, none⟩ = some (.slice A1 l1 e1) ∧ X.cell? ⟨bp, 2, none⟩ = some (.slice A1' l1' e1')) ∧ (X.cell? ⟨bq, 0, none⟩ = some (.bool t2) ∧ X.cell? ⟨bq, 1, none⟩ = some (.slice A2 l2 e2) ∧ X.cell? ⟨bq, 2, none⟩ = some (.slice A2' l2' e2')))
            (first | (with_reducible exact r0) | (with_reducible exact r1) | (with_reducible exact r2))
            (first
              | (go_at_call 43; (with_reducible refine (fsign_any pv' _ _ fP5.drew).mono ?_); rintro e w6 ⟨hb6, rfl⟩; rw [hs1v]; have k6 := kP5.drew.next' hb6; have k6' := kQ5.drew.next' hb6; have fQ6 := fQ5.drew.next hb6; have r1 := And.intro (bk3 k6) (bk3 k6'))
              | (go_at_call 43; (with_reducible refine (fsign_any qv' _ _ fQ6).mono ?_); rintro e w7 ⟨hb7, rfl⟩; rw [hs2v]; have k7 := k6.next' hb7; have k7' := k6'.next' hb7; have r2 := And.intro (bk3 k7) (bk3 k7')))
          have hb67 : Below w5.heap.size w5 w7 := (Below.drew (Below.refl _ _)).trans (hb6.trans (hb7.mono hb6.size))
          have q7 := q5.next hb67
          have hO7 := HO5.keep hb67
          have hB7 := hB5.trans (hb67.mono hB5.size)
          have fP7 := fP5.next hb67
          have fQ7 := fQ5.next hb67
          clear q5 HO5 hB5 fP5 fQ5 kP5 kQ5 k6 k6' fQ6 r0 r1 r2 hb6 hb7 hb67 x0 x1 x2 y0 y1 y2
          by_cases hlt0 : s1 * s2 < 0
          · rw [if_pos hge, if_pos hlt0] at HST
            have hne := HNE.out hlt0
            obtain ⟨_, _, ⟨c0, c1, c2, c3, c4, c5⟩, d0, d1, d2, d3, d4, d5⟩ := q7.cells
            obtain ⟨x0, x1, x2⟩ := bk3 k7
            obtain ⟨y0, y1, y2⟩ := bk3 k7'
            have MM := meet_any c d pv' qv' _ _ _ _ w7 q7.p3 q7.p4 fP7 fQ7 hne (by omega) (by omega) (by omega) (by omega)
            unfold Sx.val at MM
            go_wp2_with fail
            refine MM.mono ?_
            rintro e w8 ⟨hb8, sm, _, rfl, hpm⟩
            obtain ⟨mt, mA, ml, mc, mA', ml', mc', mt', mA2, ml2, mc2, mA3, ml3, mc3, rfl⟩ := hpm.form
            have hbA8 := below_alloc w8 (.cells #[.bool mt, .slice mA ml mc, .slice mA' ml' mc', .bool mt', .slice mA2 ml2 mc2, .slice mA3 ml3 mc3] 146)
            have hb89 := hb8.trans (hbA8.mono hb8.size)
            have q9 := q7.next hb89
            have hO9 := hO7.keep hb89
            have hB9 := hB7.trans (hb89.mono hB7.size)
            have hpm9 := hpm.next hbA8
            clear q7 hO7 hB7 fP7 fQ7 k7 k7' MM hpm c0 c1 c2 c3 c4 c5 d0 d1 d2 d3 d4 d5 x0 x1 x2 y0 y1 y2
            obtain ⟨S9, hT1, hT2, hT3, hT4⟩ := hO9
            go_wp2_with (at_builtin; refine wpL_append_ni rfl (.tmp 49) (.tmp 55) 143 rfl (w.heap.size + 2) 146 i0 zpt 6 112 Tryz.underlying143 hi0 hz0 hz1 hz2 rfl (by omega) _ (pts ++ [c]).length (srow S9) rfl hT2 hT3 zpt_no ⟨w8.heap.size, 0, none⟩ 1 1 [.bool mt, .slice mA ml mc, .slice mA' ml' mc', .bool mt', .slice mA2 ml2 mc2, .slice mA3 ml3 mc3] rfl rfl (new_cells w8 _ _) (by intro u hu; simp at hu; rcases hu with rfl | rfl | rfl | rfl | rfl | rfl <;> rfl) (by intro u hu k0 i1; simp at hu; rcases hu with rfl | rfl | rfl | rfl | rfl | rfl <;> simp) (by omega) (by unfold maxLen; omega) (by omega) (by have := hB9.size; have := q9.k2.lt; omega) ?_; intro v10 w10 hw1 hw2 hw3)
            have HO10 : Hid (OwnPoly w10 (w.heap.size + 2) v10 (pts ++ [c] ++ [meetQ c d pv' qv'])) := OwnPoly.add hT1 hT3 hT4 hpm9 hw1 hw2 hw3
            have hB10 : Below w.heap.size w w10 := below_app hB9 hw2 (by have := hB9.size; omega) hT2 (by omega)
            have ka10 := q9.k1.grown hw2 HOG
            have kb10 := q9.k2.grown hw2 HOG'
            clear hw1 hw2 hw3 hT1 hT2 hT3 hT4 q9 hB9 hpm9 hbA8 hb8 hb89
            go_wp2
            go_roundw
            case rel => exact ⟨k + 1, by omega, by go_num, by rw [HST.out]; first | exact HO10.out | (rw [← List.append_assoc]; exact HO10.out), by rw [HST.out]; simp; omega, hB10, ka10, kb10⟩
            case measure => simp [intOf]; omega
          · rw [if_pos hge, if_neg hlt0] at HST
            have ka10 := q7.k1
            have kb10 := q7.k2
            have HO10 := Lib.hid hO7
            clear q7 hO7 fP7 fQ7 k7 k7'
            go_wp2
            go_roundw
            case rel => exact ⟨k + 1, by omega, by go_num, by rw [HST.out]; simpa using HO10.out, by rw [HST.out]; simp; omega, hB7, ka10, kb10⟩
            case measure => simp [intOf]; omega
        · have HOG : some w.heap.size ≠ u7.ownBlock := fun e => absurd (hO3.lt_own e.symm).1 (by omega)
          have HOG' : some (w.heap.size + 1) ≠ u7.ownBlock := fun e => absurd (hO3.lt_own e.symm).1 (by omega)
          go_wp2_with fail
          have r0 := And.intro (bk3 kP3.drew) (bk3 kQ3.drew)
          obtain ⟨x0, x1, x2⟩ := bk3 kP3
          obtain ⟨y0, y1, y2⟩ := bk3 kQ3
          go_region_held3 (fun X => (X.cell? ⟨bp, 0, none⟩ = some (.bool t1) ∧ X.cell? ⟨bp, 1, none⟩ = some (.slice A1 l1 e1) ∧ X.cell? ⟨bp, 2, none⟩ = some (.slice A1' l1' e1')) ∧ (X.cell? ⟨bq, 0, none⟩ = some (.bool t2) ∧ X.cell? ⟨bq, 1, none⟩ = some (.slice A2 l2 e2) ∧ X.cell? ⟨bq, 2, none⟩ = some (.slice A2' l2' e2')))
            (first | (with_reducible exact r0) | (with_reducible exact r1) | (with_reducible exact r2))
            (first
              | (go_at_call 43; (with_reducible refine (fsign_any pv' _ _ fP3.drew).mono ?_); rintro e w6 ⟨hb6, rfl⟩; rw [hs1v]; have k6 := kP3.drew.next' hb6; have k6' := kQ3.drew.next' hb6; have fQ6 := fQ3.drew.next hb6; have r1 := And.intro (bk3 k6) (bk3 k6'))
              | (go_at_call 43; (with_reducible refine (fsign_any qv' _ _ fQ6).mono ?_); rintro e w7 ⟨hb7, rfl⟩; rw [hs2v]; have k7 := k6.next' hb7; have k7' := k6'.next' hb7; have r2 := And.intro (bk3 k7) (bk3 k7')))
          have hb67 : Below w3.heap.size w3 w7 := (Below.drew (Below.refl _ _)).trans (hb6.trans (hb7.mono hb6.size))
          have q7 := q3.next hb67
          have hO7 := hO3.keep hb67
          have hB7 := hB3.trans (hb67.mono hB3.size)
          have fP7 := fP3.next hb67
          have fQ7 := fQ3.next hb67
          clear q3 hO3 hB3 fP3 fQ3 kP3 kQ3 k6 k6' fQ6 r0 r1 r2 hb6 hb7 hb67 x0 x1 x2 y0 y1 y2
          by_cases hlt0 : s1 * s2 < 0
          · rw [if_neg (show ¬ 0 ≤ s1 by omega), if_pos hlt0] at HST
            have hne := HNE.out hlt0
            obtain ⟨_, _, ⟨c0, c1, c2, c3, c4, c5⟩, d0, d1, d2, d3, d4, d5⟩ := q7.cells
            obtain ⟨x0, x1, x2⟩ := bk3 k7
            obtain ⟨y0, y1, y2⟩ := bk3 k7'
            have MM := meet_any c d pv' qv' _ _ _ _ w7 q7.p3 q7.p4 fP7 fQ7 hne (by omega) (by omega) (by omega) (by omega)
            unfold Sx.val at MM
            go_wp2_with fail
            refine MM.mono ?_
            rintro e w8 ⟨hb8, sm, _, rfl, hpm⟩
            obtain ⟨mt, mA, ml, mc, mA', ml', mc', mt', mA2, ml2, mc2, mA3, ml3, mc3, rfl⟩ := hpm.form
            have hbA8 := below_alloc w8 (.cells #[.bool mt, .slice mA ml mc, .slice mA' ml' mc', .bool mt', .slice mA2 ml2 mc2, .slice mA3 ml3 mc3] 146)
            have hb89 := hb8.trans (hbA8.mono hb8.size)
            have q9 := q7.next hb89
            have hO9 := hO7.keep hb89
            have hB9 := hB7.trans (hb89.mono hB7.size)
            have hpm9 := hpm.next hbA8
            clear q7 hO7 hB7 fP7 fQ7 k7 k7' MM hpm c0 c1 c2 c3 c4 c5 d0 d1 d2 d3 d4 d5 x0 x1 x2 y0 y1 y2
            obtain ⟨S9, hT1, hT2, hT3, hT4⟩ := hO9
            go_wp2_with (at_builtin; refine wpL_append_ni rfl (.tmp 49) (.tmp 55) 143 rfl (w.heap.size + 2) 146 i0 zpt 6 112 Tryz.underlying143 hi0 hz0 hz1 hz2 rfl (by omega) _ (pts).length (srow S9) rfl hT2 hT3 zpt_no ⟨w8.heap.size, 0, none⟩ 1 1 [.bool mt, .slice mA ml mc, .slice mA' ml' mc', .bool mt', .slice mA2 ml2 mc2, .slice mA3 ml3 mc3] rfl rfl (new_cells w8 _ _) (by intro u hu; simp at hu; rcases hu with rfl | rfl | rfl | rfl | rfl | rfl <;> rfl) (by intro u hu k0 i1; simp at hu; rcases hu with rfl | rfl | rfl | rfl | rfl | rfl <;> simp) (by omega) (by unfold maxLen; omega) (by omega) (by have := hB9.size; have := q9.k2.lt; omega) ?_; intro v10 w10 hw1 hw2 hw3)
            have HO10 : Hid (OwnPoly w10 (w.heap.size + 2) v10 (pts ++ [meetQ c d pv' qv'])) := OwnPoly.add hT1 hT3 hT4 hpm9 hw1 hw2 hw3
            have hB10 : Below w.heap.size w w10 := below_app hB9 hw2 (by have := hB9.size; omega) hT2 (by omega)
            have ka10 := q9.k1.grown hw2 HOG
            have kb10 := q9.k2.grown hw2 HOG'
            clear hw1 hw2 hw3 hT1 hT2 hT3 hT4 q9 hB9 hpm9 hbA8 hb8 hb89
            go_wp2
            go_roundw
            case rel => exact ⟨k + 1, by omega, by go_num, by rw [HST.out]; first | exact HO10.out | (rw [← List.append_assoc]; exact HO10.out), by rw [HST.out]; simp; omega, hB10, ka10, kb10⟩
            case measure => simp [intOf]; omega
          · rw [if_neg (show ¬ 0 ≤ s1 by omega), if_neg hlt0] at HST
            have ka10 := q7.k1
            have kb10 := q7.k2
            have HO10 := Lib.hid hO7
            clear q7 hO7 fP7 fQ7 k7 k7'
            go_wp2
            go_roundw
            case rel => exact ⟨k + 1, by omega, by go_num, by rw [HST.out]; simpa using HO10.out, by rw [HST.out]; simp; omega, hB7, ka10, kb10⟩
            case measure => simp [intOf]; omega
    · have hkl : k = l.length := by omega
      subst hkl
      have hP := Lib.hid hO.is
      clear hO
      go_wp2
      go_ret
      exact ⟨hB, _, rfl, hP.out⟩
end Go.Proofs.YtbddmkklkbkliaaGreatDoor
