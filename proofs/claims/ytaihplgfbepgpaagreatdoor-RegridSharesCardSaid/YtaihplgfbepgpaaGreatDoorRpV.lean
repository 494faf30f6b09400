/-
  Walks: the reference's inside, added (printed by rpgen2.py).
  Walk: the reference's side (printed by rpgen3.py).
-/
import Derived.Test.YtaihplgfbepgpaaGreatDoorRpW
import Derived.Test.YtaihplgfbepgpaaGreatDoorRefA
import Derived.BigQuiet
import Derived.Deep.QuietTactic
namespace Go.Proofs.YtaihplgfbepgpaaGreatDoor
open Go.RowKit Ar

theorem Six.next {w w' : World} {p : Addr} {s : Sx} (h : Six w p s) (hb : Below w.heap.size w w') (hp : p.block < w.heap.size) : Six w' p s := by
  obtain ⟨h0, h1, h2, h3, h4, h5⟩ := h
  exact ⟨(hb.cell hp).trans h0, (hb.cell (p := ⟨p.block, p.off + 1, none⟩) hp).trans h1, (hb.cell (p := ⟨p.block, p.off + 2, none⟩) hp).trans h2, (hb.cell (p := ⟨p.block, p.off + 3, none⟩) hp).trans h3, (hb.cell (p := ⟨p.block, p.off + 4, none⟩) hp).trans h4, (hb.cell (p := ⟨p.block, p.off + 5, none⟩) hp).trans h5⟩
theorem Rd.point' {w : World} {B : Nat} {ad : Addr} {S : List Sx} (h : Rd w B (some ad) (srow S)) {i : Nat} {s : Sx} (hs : S[i]? = some s) : (ad.add (i * 6)).block < B ∧ Six w (ad.add (i * 6)) s := by
  obtain ⟨ad', e, hb, h6⟩ := h.point hs
  injection e with e
  subst e
  exact ⟨by rw [addr_block]; exact hb, h6⟩
/-- The i-th point. -/
def gt (l : List Qp) (i : Nat) : Qp := l.getD i (0, 0)
theorem gt_get {l : List Qp} {i : Nat} (h : i < l.length) : l[i] = gt l i := by unfold gt; rw [List.getD_eq_getElem?_getD, List.getElem?_eq_getElem h]; rfl
/-- A point is in a polygon, its sides included. -/
def InQ (l : List Qp) (p : Qp) : Prop := ∀ i, i < l.length → 0 ≤ sgQ (crossQ (gt l i) (nx l i) p)

set_option maxRecDepth 100000 in
set_option maxHeartbeats 3200000 in
theorem inside_any (l : List Qp) (p : Qp) (v : Value) (sp : Sx) (w : World) (h : IsRoly w w.heap.size v l) (hp : IsRt w w.heap.size sp p) (hm : l.length ≤ 1000000) (lp : szp p ≤ 10000000000) (ll : ∀ q ∈ l, szp q ≤ 10000000000) (z : Bool) (hz : z = true ↔ InQ l p) :
    Calls Tryz.prog 126 #[v, sp.val] w fun e w' => Below w.heap.size w w' ∧ e = .returned (.bool z) := by
  obtain ⟨A, cp, Sl, rfl, hcp, hSl, hr, hS⟩ := h
  unfold Sx.val
  go_enter Tryz.func126, Tryz.ntmps126
  go_wp2_with fail
  have hB0 := below_alloc w (.cells sp.cells.toArray 135)
  go_loopw [5] (fun i wr => ∃ k : Nat, k ≤ l.length ∧ i = .int .i64 k ∧ (∀ j, j < k → 0 ≤ sgQ (crossQ (gt l j) (nx l j) p)) ∧ Below w.heap.size w wr ∧ Bk wr w.heap.size 135 sp.cells.toArray) (fun i _ => l.length - (intOf i).toNat)
  case atStart => exact ⟨0, Nat.zero_le _, rfl, fun j hj => absurd hj (Nat.not_lt_zero j), hB0, Bk.new _ _ _⟩
  case round =>
    obtain ⟨k, hk, rfl, hI, hB, kp⟩ := hrel
    rcases Nat.lt_or_ge k l.length with hlt | hge
    · obtain ⟨j1, hj1⟩ : ∃ j, j = (k + 1) % l.length := ⟨_, rfl⟩
      have hl1 : j1 < l.length := by rw [hj1]; exact Nat.mod_lt _ (by omega)
      have m1 : ((k : Int) + 1).tmod (l.length : Int) = (j1 : Int) := by rw [hj1]; rfl
      have n0 : ¬ l.length = 0 := by omega
      have ww1 : IntKind.i64.wrap ((k : Int) + 1) = (k : Int) + 1 := IntWalk.i64_in _ (by omega)
      obtain ⟨sc, hsc, hpc⟩ := hS k l[k] (List.getElem?_eq_getElem hlt)
      obtain ⟨sd, hsd, hpd⟩ := hS j1 l[j1] (List.getElem?_eq_getElem hl1)
      obtain ⟨ad, rfl, hab, _⟩ := (hr.below hB).point hsc
      obtain ⟨hxb, hx6⟩ := (hr.below hB).point' hsc
      obtain ⟨hyb, hy6⟩ := (hr.below hB).point' hsd
      have lc := ll _ (List.getElem_mem hlt)
      have ld := ll _ (List.getElem_mem hl1)
      rw [gt_get hlt] at hpc lc
      have hnx : nx l k = gt l j1 := by unfold nx gt; rw [← hj1]
      rw [gt_get hl1, ← hnx] at hpd ld
      have hpc2 := (hpc.below hB).more hB.size
      have hpd2 := (hpd.below hB).more hB.size
      have hp2 := (hp.below hB).more hB.size
      have hbs := hB.size
      have HI : Hid (0 ≤ sgQ (crossQ (gt l k) (nx l k) p) → ∀ j, j < k + 1 → 0 ≤ sgQ (crossQ (gt l j) (nx l j) p)) := fun h0 j hj => by
        rcases Nat.lt_or_ge j k with h1 | h1
        · exact hI j h1
        · rw [show j = k by omega]; exact h0
      have HF : Hid (¬ 0 ≤ sgQ (crossQ (gt l k) (nx l k) p) → z = false) := fun h0 => by
        cases z with
        | false => rfl
        | true => exact absurd (hz.1 rfl k hlt) h0
      have L1 := Lib.hid (fun X (h : Below wr.heap.size wr X) => left_any (gt l k) (nx l k) p sc sd sp X (hpc2.next h) (hpd2.next h) (hp2.next h) lc ld lp)
      unfold Sx.val at L1
      generalize crossQ (gt l k) (nx l k) p = cr at *
      have KK : Hid (∀ X, Below wr.heap.size wr X → ((X.cell? (ad.add (k * 6)) = some (.bool sc.b1) ∧ X.cell? ⟨(ad.add (k * 6)).block, (ad.add (k * 6)).off + 1, none⟩ = some sc.n1 ∧ X.cell? ⟨(ad.add (k * 6)).block, (ad.add (k * 6)).off + 2, none⟩ = some sc.d1 ∧ X.cell? ⟨(ad.add (k * 6)).block, (ad.add (k * 6)).off + 3, none⟩ = some (.bool sc.b2) ∧ X.cell? ⟨(ad.add (k * 6)).block, (ad.add (k * 6)).off + 4, none⟩ = some sc.n2 ∧ X.cell? ⟨(ad.add (k * 6)).block, (ad.add (k * 6)).off + 5, none⟩ = some sc.d2) ∧ (X.cell? (ad.add (j1 * 6)) = some (.bool sd.b1) ∧ X.cell? ⟨(ad.add (j1 * 6)).block, (ad.add (j1 * 6)).off + 1, none⟩ = some sd.n1 ∧ X.cell? ⟨(ad.add (j1 * 6)).block, (ad.add (j1 * 6)).off + 2, none⟩ = some sd.d1 ∧ X.cell? ⟨(ad.add (j1 * 6)).block, (ad.add (j1 * 6)).off + 3, none⟩ = some (.bool sd.b2) ∧ X.cell? ⟨(ad.add (j1 * 6)).block, (ad.add (j1 * 6)).off + 4, none⟩ = some sd.n2 ∧ X.cell? ⟨(ad.add (j1 * 6)).block, (ad.add (j1 * 6)).off + 5, none⟩ = some sd.d2) ∧ (X.cell? ⟨w.heap.size, 0, none⟩ = some (.bool sp.b1) ∧ X.cell? ⟨w.heap.size, 1, none⟩ = some sp.n1 ∧ X.cell? ⟨w.heap.size, 2, none⟩ = some sp.d1 ∧ X.cell? ⟨w.heap.size, 3, none⟩ = some (.bool sp.b2) ∧ X.cell? ⟨w.heap.size, 4, none⟩ = some sp.n2 ∧ X.cell? ⟨w.heap.size, 5, none⟩ = some sp.d2))) := fun X h => ⟨hx6.next h (Nat.lt_of_lt_of_le hxb hbs), hy6.next h (Nat.lt_of_lt_of_le hyb hbs), bk6c (kp.next' h)⟩
      clear hpc hpd hsc hsd hj1 hpc2 hpd2 hx6 hy6 hxb hyb hab hnx
      obtain ⟨⟨x0, x1, x2, x3, x4, x5⟩, ⟨y0, y1, y2, y3, y4, y5⟩, z0, z1, z2, z3, z4, z5⟩ := KK.out wr (Below.refl _ _)
      have bb0 := Below.refl wr.heap.size wr
      go_wp2_with fail
      go_region_held3 (fun X => (X.cell? (ad.add (k * 6)) = some (.bool sc.b1) ∧ X.cell? ⟨(ad.add (k * 6)).block, (ad.add (k * 6)).off + 1, none⟩ = some sc.n1 ∧ X.cell? ⟨(ad.add (k * 6)).block, (ad.add (k * 6)).off + 2, none⟩ = some sc.d1 ∧ X.cell? ⟨(ad.add (k * 6)).block, (ad.add (k * 6)).off + 3, none⟩ = some (.bool sc.b2) ∧ X.cell? ⟨(ad.add (k * 6)).block, (ad.add (k * 6)).off + 4, none⟩ = some sc.n2 ∧ X.cell? ⟨(ad.add (k * 6)).block, (ad.add (k * 6)).off + 5, none⟩ = some sc.d2) ∧ (X.cell? (ad.add (j1 * 6)) = some (.bool sd.b1) ∧ X.cell? ⟨(ad.add (j1 * 6)).block, (ad.add (j1 * 6)).off + 1, none⟩ = some sd.n1 ∧ X.cell? ⟨(ad.add (j1 * 6)).block, (ad.add (j1 * 6)).off + 2, none⟩ = some sd.d1 ∧ X.cell? ⟨(ad.add (j1 * 6)).block, (ad.add (j1 * 6)).off + 3, none⟩ = some (.bool sd.b2) ∧ X.cell? ⟨(ad.add (j1 * 6)).block, (ad.add (j1 * 6)).off + 4, none⟩ = some sd.n2 ∧ X.cell? ⟨(ad.add (j1 * 6)).block, (ad.add (j1 * 6)).off + 5, none⟩ = some sd.d2) ∧ (X.cell? ⟨w.heap.size, 0, none⟩ = some (.bool sp.b1) ∧ X.cell? ⟨w.heap.size, 1, none⟩ = some sp.n1 ∧ X.cell? ⟨w.heap.size, 2, none⟩ = some sp.d1 ∧ X.cell? ⟨w.heap.size, 3, none⟩ = some (.bool sp.b2) ∧ X.cell? ⟨w.heap.size, 4, none⟩ = some sp.n2 ∧ X.cell? ⟨w.heap.size, 5, none⟩ = some sp.d2))
        (((with_reducible refine KK.out _ ?_); repeat' (first | (with_reducible exact bb1) | (with_reducible exact bb0) | ((with_reducible refine Below.setCell ?_ ?_ _); rotate_left; (focus first | omega | (simp; done) | (simp; omega) | (unfold World.setCell; simp; omega))) | ((with_reducible refine Below.alloc ?_ ?_ _); rotate_left; (focus first | omega | (simp; done) | (simp; omega) | (unfold World.setCell; simp; omega))) | (with_reducible refine Below.drew ?_))))
        (first
          | (go_at_call 124; (with_reducible refine (L1.out _ bb0.drew).mono ?_); rintro e w1 ⟨hb1, rfl⟩; have bb1 := below_step bb0.drew hb1))
      have kp1 := kp.next' bb1
      have hB1 := hB.trans (bb1.mono hB.size)
      clear KK L1 x0 x1 x2 x3 x4 x5 y0 y1 y2 y3 y4 y5 z0 z1 z2 z3 z4 z5 kp
      by_cases hneg : sgQ cr < 0
      · have hzf := Lib.hid (HF.out (by omega))
        clear HI HF
        go_wp2
        go_ret
        exact ⟨hB1, by rw [hzf.out] <;> rfl⟩
      · have hI1 := Lib.hid (HI.out (by omega))
        clear HI HF
        go_wp2
        go_roundw
        case rel => exact ⟨k + 1, by omega, by go_num, hI1.out, hB1, kp1⟩
        case measure => simp [intOf]; omega
    · have hkl : k = l.length := by omega
      subst hkl
      have hzt : Hid (z = true) := hz.2 hI
      clear hI hz
      go_wp2
      go_ret
      exact ⟨hB, by rw [hzt.out] <;> rfl⟩

theorem stepH {P : Program} {md : Region.Mode} {Q : Exit → Act → World → Prop} {S : World → Prop} {l : List Oper} {i : Nat} {oi : Oper} {fuel : Nat} {listed : Array Bool} {a : Act} {w : World} (hi : l[i]? = some oi)
    (hr : Region.ready md l.toArray listed = [i])
    (h : ∀ K' : Act → World → Prop, Shut (∀ a w, S w → (S w → wpAnyH P md l.toArray Q S fuel (listed.setIfInBounds i true) a w) → K' a w) → if Region.wanted oi (yielded l.toArray a.tmps) = true then Oper.wp P oi a w K' Q else K' (a.put oi.dst undef) w) :
    wpAnyH P md l.toArray Q S (fuel + 1) listed a w :=
  wpAnyH_ready hr (by simp) (AllReadyH.cons (by simpa using hi) h AllReadyH.nil)
/-- A list of points and one more, if it is not there yet. -/
def addQ (l : List Qp) (p : Qp) : List Qp := if p ∈ l then l else l ++ [p]
theorem cmpQ_zero (p q : Rat) : cmpQ p q = 0 ↔ p = q := by
  unfold cmpQ sgQ
  split
  · rename_i h; exact ⟨fun _ => by grind, fun _ => rfl⟩
  · rename_i h
    constructor
    · intro h2; split at h2 <;> omega
    · intro h2; exact absurd (by grind) h

set_option maxRecDepth 100000 in
set_option maxHeartbeats 3200000 in
theorem added_any (base : Nat) (l : List Qp) (p : Qp) (v : Value) (sp : Sx) (w : World) (hbase : base ≤ w.heap.size) (h : OwnRoly w base v l) (hp : IsRt w w.heap.size sp p) (hm : l.length ≤ 1000000) (lp : szp p ≤ 10000000000) (ll : ∀ q ∈ l, szp q ≤ 10000000000) :
    Calls Tryz.prog 127 #[v, sp.val] w fun e w' => Below base w w' ∧ ∃ v', e = .returned v' ∧ OwnRoly w' base v' (addQ l p) := by
  obtain ⟨A, cp, Sl, rfl, hcp, hSl, hr, hS⟩ := h.is
  obtain ⟨i0, hi0, hz0, hz1, hz2⟩ := info_parts Tryz.rpoint_info
  have HO := Lib.hid h
  clear h
  obtain ⟨pt, pA, pl, pc, pA', pl', pc', pt', pA2, pl2, pc2, pA3, pl3, pc3, rfl⟩ := hp.form
  unfold Sx.val
  go_enter Tryz.func127, Tryz.ntmps127
  go_wp2_with fail
  have hB0 := below_alloc w (.cells #[.bool pt, .slice pA pl pc, .slice pA' pl' pc', .bool pt', .slice pA2 pl2 pc2, .slice pA3 pl3 pc3] 135)
  go_loopw [5] (fun i wr => ∃ k : Nat, k ≤ l.length ∧ i = .int .i64 k ∧ (∀ j, j < k → gt l j ≠ p) ∧ Below w.heap.size w wr ∧ Bk wr w.heap.size 135 #[.bool pt, .slice pA pl pc, .slice pA' pl' pc', .bool pt', .slice pA2 pl2 pc2, .slice pA3 pl3 pc3]) (fun i _ => l.length - (intOf i).toNat)
  case atStart => exact ⟨0, Nat.zero_le _, rfl, fun j hj => absurd hj (Nat.not_lt_zero j), hB0, Bk.new _ _ _⟩
  case round =>
    obtain ⟨k, hk, rfl, hI, hB, kp⟩ := hrel
    rcases Nat.lt_or_ge k l.length with hlt | hge
    · obtain ⟨sc, hsc, hpc⟩ := hS k l[k] (List.getElem?_eq_getElem hlt)
      obtain ⟨ad, rfl, hab, _⟩ := (hr.below hB).point hsc
      obtain ⟨hxb, hx6⟩ := (hr.below hB).point' hsc
      have lc := ll _ (List.getElem_mem hlt)
      rw [gt_get hlt] at hpc lc
      have hpc2 := (hpc.below hB).more hB.size
      have hp2 := (hp.below hB).more hB.size
      have hbs := hB.size
      have HI : Hid (gt l k ≠ p → ∀ j, j < k + 1 → gt l j ≠ p) := fun h0 j hj => by
        rcases Nat.lt_or_ge j k with h1 | h1
        · exact hI j h1
        · rw [show j = k by omega]; exact h0
      have HF : Hid (gt l k = p → addQ l p = l) := fun h0 => by
        unfold addQ
        rw [if_pos]
        rw [← h0, ← gt_get hlt]
        exact List.getElem_mem hlt
      unfold szp at lc lp
      have L1 := Lib.hid (fun X (h : Below wr.heap.size wr X) => qcmp_any (gt l k).1 p.1 _ _ X (hpc2.next h).x (hp2.next h).x (by omega) (by omega))
      have L2 := Lib.hid (fun X (h : Below wr.heap.size wr X) => qcmp_any (gt l k).2 p.2 _ _ X (hpc2.next h).y (hp2.next h).y (by omega) (by omega))
      have HX := Lib.hid (cmpQ_zero (gt l k).1 p.1)
      have HY := Lib.hid (cmpQ_zero (gt l k).2 p.2)
      have HE : Hid (gt l k = p ↔ (gt l k).1 = p.1 ∧ (gt l k).2 = p.2) := ⟨fun h => by rw [h]; exact ⟨rfl, rfl⟩, fun h => Prod.ext h.1 h.2⟩
      have hcr : -1 ≤ cmpQ (gt l k).1 p.1 ∧ cmpQ (gt l k).1 p.1 ≤ 1 := sgQ_in _
      generalize cmpQ (gt l k).1 p.1 = cx at *
      generalize cmpQ (gt l k).2 p.2 = cy at *
      have KK : Hid (∀ X, Below wr.heap.size wr X → ((X.cell? (ad.add (k * 6)) = some (.bool sc.b1) ∧ X.cell? ⟨(ad.add (k * 6)).block, (ad.add (k * 6)).off + 1, none⟩ = some sc.n1 ∧ X.cell? ⟨(ad.add (k * 6)).block, (ad.add (k * 6)).off + 2, none⟩ = some sc.d1 ∧ X.cell? ⟨(ad.add (k * 6)).block, (ad.add (k * 6)).off + 3, none⟩ = some (.bool sc.b2) ∧ X.cell? ⟨(ad.add (k * 6)).block, (ad.add (k * 6)).off + 4, none⟩ = some sc.n2 ∧ X.cell? ⟨(ad.add (k * 6)).block, (ad.add (k * 6)).off + 5, none⟩ = some sc.d2) ∧ (X.cell? ⟨w.heap.size, 0, none⟩ = some (.bool pt) ∧ X.cell? ⟨w.heap.size, 1, none⟩ = some (.slice pA pl pc) ∧ X.cell? ⟨w.heap.size, 2, none⟩ = some (.slice pA' pl' pc') ∧ X.cell? ⟨w.heap.size, 3, none⟩ = some (.bool pt') ∧ X.cell? ⟨w.heap.size, 4, none⟩ = some (.slice pA2 pl2 pc2) ∧ X.cell? ⟨w.heap.size, 5, none⟩ = some (.slice pA3 pl3 pc3)))) := fun X h => ⟨hx6.next h (Nat.lt_of_lt_of_le hxb hbs), bk6c (s := ⟨pt, .slice pA pl pc, .slice pA' pl' pc', pt', .slice pA2 pl2 pc2, .slice pA3 pl3 pc3⟩) (kp.next' h)⟩
      clear hpc hsc hpc2 hp2 hx6 hxb hab
      obtain ⟨⟨x0, x1, x2, x3, x4, x5⟩, z0, z1, z2, z3, z4, z5⟩ := KK.out wr (Below.refl _ _)
      have bb0 := Below.refl wr.heap.size wr
      by_cases hcx : cx = 0
      · go_wp2_with fail
        go_region_held3 (fun X => (X.cell? (ad.add (k * 6)) = some (.bool sc.b1) ∧ X.cell? ⟨(ad.add (k * 6)).block, (ad.add (k * 6)).off + 1, none⟩ = some sc.n1 ∧ X.cell? ⟨(ad.add (k * 6)).block, (ad.add (k * 6)).off + 2, none⟩ = some sc.d1 ∧ X.cell? ⟨(ad.add (k * 6)).block, (ad.add (k * 6)).off + 3, none⟩ = some (.bool sc.b2) ∧ X.cell? ⟨(ad.add (k * 6)).block, (ad.add (k * 6)).off + 4, none⟩ = some sc.n2 ∧ X.cell? ⟨(ad.add (k * 6)).block, (ad.add (k * 6)).off + 5, none⟩ = some sc.d2) ∧ (X.cell? ⟨w.heap.size, 0, none⟩ = some (.bool pt) ∧ X.cell? ⟨w.heap.size, 1, none⟩ = some (.slice pA pl pc) ∧ X.cell? ⟨w.heap.size, 2, none⟩ = some (.slice pA' pl' pc') ∧ X.cell? ⟨w.heap.size, 3, none⟩ = some (.bool pt') ∧ X.cell? ⟨w.heap.size, 4, none⟩ = some (.slice pA2 pl2 pc2) ∧ X.cell? ⟨w.heap.size, 5, none⟩ = some (.slice pA3 pl3 pc3)))
          (((with_reducible refine KK.out _ ?_); repeat' (first | (with_reducible exact bb2) | (with_reducible exact bb1) | (with_reducible exact bb0) | ((with_reducible refine Below.setCell ?_ ?_ _); rotate_left; (focus first | omega | (simp; done) | (simp; omega) | (unfold World.setCell; simp; omega))) | ((with_reducible refine Below.alloc ?_ ?_ _); rotate_left; (focus first | omega | (simp; done) | (simp; omega) | (unfold World.setCell; simp; omega))) | (with_reducible refine Below.drew ?_))))
          (first
            | (go_at_call 44; (with_reducible refine (L1.out _ bb0.drew).mono ?_); rintro e w1 ⟨hb1, rfl⟩; have bb1 := below_step bb0.drew hb1; rw [hcx])
            | (go_at_call 44; (with_reducible refine (L2.out _ bb1).mono ?_); rintro e w2 ⟨hb2, rfl⟩; have bb2 := below_step bb1 hb2))
        have kp1 := kp.next' bb2
        have hB1 := hB.trans (bb2.mono hB.size)
        clear KK L1 L2 x0 x1 x2 x3 x4 x5 z0 z1 z2 z3 z4 z5 kp
        by_cases hcy : cy = 0
        · have hE := Lib.hid (HF.out (HE.out.2 ⟨HX.out.1 hcx, HY.out.1 hcy⟩))
          clear HI HF HE HX HY
          subst hcy
          go_wp2
          go_ret
          refine ⟨hB1.mono hbase, _, rfl, ?_⟩
          rw [hE.out]
          exact HO.out.keep hB1
        · have hI1 := Lib.hid (HI.out (fun h => hcy (HY.out.2 (HE.out.1 h).2)))
          clear HI HF HE HX HY
          have hcy' : (cy == 0) = false := by rw [beq_eq_false_iff_ne]; exact hcy
          go_wp2
          go_roundw
          case rel => exact ⟨k + 1, by omega, by go_num, hI1.out, hB1, kp1⟩
          case measure => simp [intOf]; omega
      · rcases (show cx = 1 ∨ cx = -1 by omega) with hcv | hcv
        · go_wp2_with fail
          refine wp_region_held_drew (S := fun X => (X.cell? (ad.add (k * 6)) = some (.bool sc.b1) ∧ X.cell? ⟨(ad.add (k * 6)).block, (ad.add (k * 6)).off + 1, none⟩ = some sc.n1 ∧ X.cell? ⟨(ad.add (k * 6)).block, (ad.add (k * 6)).off + 2, none⟩ = some sc.d1 ∧ X.cell? ⟨(ad.add (k * 6)).block, (ad.add (k * 6)).off + 3, none⟩ = some (.bool sc.b2) ∧ X.cell? ⟨(ad.add (k * 6)).block, (ad.add (k * 6)).off + 4, none⟩ = some sc.n2 ∧ X.cell? ⟨(ad.add (k * 6)).block, (ad.add (k * 6)).off + 5, none⟩ = some sc.d2) ∧ (X.cell? ⟨w.heap.size, 0, none⟩ = some (.bool pt) ∧ X.cell? ⟨w.heap.size, 1, none⟩ = some (.slice pA pl pc) ∧ X.cell? ⟨w.heap.size, 2, none⟩ = some (.slice pA' pl' pc') ∧ X.cell? ⟨w.heap.size, 3, none⟩ = some (.bool pt') ∧ X.cell? ⟨w.heap.size, 4, none⟩ = some (.slice pA2 pl2 pc2) ∧ X.cell? ⟨w.heap.size, 5, none⟩ = some (.slice pA3 pl3 pc3))) (by kernel_rfl) (KK.out wr bb0) (fun hS => ?_)
          refine takeH (i := 0) (v := ?_) rfl (by kernel_rfl) (by kernel_rfl) (by kernel_rfl) (fun _ _ _ h => h) (by rfl) (by assumption) ?_ ?_
          rotate_left
          · intro w hSw; (try dsimp only at hSw); go_simp <;> with_reducible rfl
          try simp only [Act.put, List.setIfInBounds_toArray, List.set_cons_zero, List.set_cons_succ]
          refine takeH (i := 1) (v := ?_) rfl (by kernel_rfl) (by kernel_rfl) (by kernel_rfl) (fun _ _ _ h => h) (by rfl) (by assumption) ?_ ?_
          rotate_left
          · intro w hSw; (try dsimp only at hSw); go_simp <;> with_reducible rfl
          try simp only [Act.put, List.setIfInBounds_toArray, List.set_cons_zero, List.set_cons_succ]
          refine takeH (i := 2) (v := ?_) rfl (by kernel_rfl) (by kernel_rfl) (by kernel_rfl) (fun _ _ _ h => h) (by rfl) (by assumption) ?_ ?_
          rotate_left
          · intro w hSw; (try dsimp only at hSw); go_simp <;> with_reducible rfl
          try simp only [Act.put, List.setIfInBounds_toArray, List.set_cons_zero, List.set_cons_succ]
          refine takeH (i := 3) (v := ?_) rfl (by kernel_rfl) (by kernel_rfl) (by kernel_rfl) (fun _ _ _ h => h) (by rfl) (by assumption) ?_ ?_
          rotate_left
          · intro w hSw; (try dsimp only at hSw); go_simp <;> with_reducible rfl
          try simp only [Act.put, List.setIfInBounds_toArray, List.set_cons_zero, List.set_cons_succ]
          refine takeH (i := 4) (v := ?_) rfl (by kernel_rfl) (by kernel_rfl) (by kernel_rfl) (fun _ _ _ h => h) (by rfl) (by assumption) ?_ ?_
          rotate_left
          · intro w hSw; (try dsimp only at hSw); go_simp <;> with_reducible rfl
          try simp only [Act.put, List.setIfInBounds_toArray, List.set_cons_zero, List.set_cons_succ]
          refine takeH (i := 5) (v := ?_) rfl (by kernel_rfl) (by kernel_rfl) (by kernel_rfl) (fun _ _ _ h => h) (by rfl) (by assumption) ?_ ?_
          rotate_left
          · intro w hSw; (try dsimp only at hSw); go_simp <;> with_reducible rfl
          try simp only [Act.put, List.setIfInBounds_toArray, List.set_cons_zero, List.set_cons_succ]
          refine takeH (i := 6) (v := ?_) rfl (by kernel_rfl) (by kernel_rfl) (by kernel_rfl) (fun _ _ _ h => h) (by rfl) (by assumption) ?_ ?_
          rotate_left
          · intro w hSw; (try dsimp only at hSw); go_simp <;> with_reducible rfl
          try simp only [Act.put, List.setIfInBounds_toArray, List.set_cons_zero, List.set_cons_succ]
          refine stepH (i := 7) rfl (by kernel_rfl) (fun K hK => ?_)
          go_simp
          refine (L1.out _ bb0.drew).mono ?_
          rintro e w1 ⟨hb1, rfl⟩
          have bb1 := below_step bb0.drew hb1
          rw [hcv]
          go_wp2_with fail
          refine hK.out _ _ (KK.out _ bb1) (fun hH => ?_)
          clear hK K hS
          try simp only [Act.put, List.setIfInBounds_toArray, List.set_cons_zero, List.set_cons_succ]
          refine takeH (i := 8) (v := ?_) rfl (by kernel_rfl) (by kernel_rfl) (by kernel_rfl) (fun _ _ _ h => h) (by rfl) (by assumption) ?_ ?_
          rotate_left
          · intro w hSw; (try dsimp only at hSw); go_simp <;> with_reducible rfl
          try simp only [Act.put, List.setIfInBounds_toArray, List.set_cons_zero, List.set_cons_succ]
          refine takeH (i := 9) (v := ?_) rfl (by kernel_rfl) (by kernel_rfl) (by kernel_rfl) (fun _ _ _ h => h) (by rfl) (by assumption) ?_ ?_
          rotate_left
          · intro w hSw; (try dsimp only at hSw); go_simp <;> with_reducible rfl
          try simp only [Act.put, List.setIfInBounds_toArray, List.set_cons_zero, List.set_cons_succ]
          refine skipH (i := 10) rfl (by kernel_rfl) (by kernel_rfl) (by kernel_rfl) (fun _ _ _ h => h) (by rfl) (by assumption) ?_
          try simp only [Act.put, List.setIfInBounds_toArray, List.set_cons_zero, List.set_cons_succ]
          refine skipH (i := 11) rfl (by kernel_rfl) (by kernel_rfl) (by kernel_rfl) (fun _ _ _ h => h) (by rfl) (by assumption) ?_
          try simp only [Act.put, List.setIfInBounds_toArray, List.set_cons_zero, List.set_cons_succ]
          refine skipH (i := 12) rfl (by kernel_rfl) (by kernel_rfl) (by kernel_rfl) (fun _ _ _ h => h) (by rfl) (by assumption) ?_
          try simp only [Act.put, List.setIfInBounds_toArray, List.set_cons_zero, List.set_cons_succ]
          refine skipH (i := 13) rfl (by kernel_rfl) (by kernel_rfl) (by kernel_rfl) (fun _ _ _ h => h) (by rfl) (by assumption) ?_
          try simp only [Act.put, List.setIfInBounds_toArray, List.set_cons_zero, List.set_cons_succ]
          refine skipH (i := 14) rfl (by kernel_rfl) (by kernel_rfl) (by kernel_rfl) (fun _ _ _ h => h) (by rfl) (by assumption) ?_
          try simp only [Act.put, List.setIfInBounds_toArray, List.set_cons_zero, List.set_cons_succ]
          refine skipH (i := 15) rfl (by kernel_rfl) (by kernel_rfl) (by kernel_rfl) (fun _ _ _ h => h) (by rfl) (by assumption) ?_
          try simp only [Act.put, List.setIfInBounds_toArray, List.set_cons_zero, List.set_cons_succ]
          refine skipH (i := 16) rfl (by kernel_rfl) (by kernel_rfl) (by kernel_rfl) (fun _ _ _ h => h) (by rfl) (by assumption) ?_
          try simp only [Act.put, List.setIfInBounds_toArray, List.set_cons_zero, List.set_cons_succ]
          refine skipH (i := 17) rfl (by kernel_rfl) (by kernel_rfl) (by kernel_rfl) (fun _ _ _ h => h) (by rfl) (by assumption) ?_
          try simp only [Act.put, List.setIfInBounds_toArray, List.set_cons_zero, List.set_cons_succ]
          refine skipH (i := 18) rfl (by kernel_rfl) (by kernel_rfl) (by kernel_rfl) (fun _ _ _ h => h) (by rfl) (by assumption) ?_
          try simp only [Act.put, List.setIfInBounds_toArray, List.set_cons_zero, List.set_cons_succ]
          refine takeH (i := 19) (v := ?_) rfl (by kernel_rfl) (by kernel_rfl) (by kernel_rfl) (fun _ _ _ h => h) (by rfl) (by assumption) ?_ ?_
          rotate_left
          · intro w hSw; (try dsimp only at hSw); go_simp <;> with_reducible rfl
          try simp only [Act.put, List.setIfInBounds_toArray, List.set_cons_zero, List.set_cons_succ]
          refine wpAnyH_done (by kernel_rfl) ?_ _
          have kp1 := kp.next' bb1
          have hB1 := hB.trans (bb1.mono hB.size)
          have hI1 := Lib.hid (HI.out (fun h => hcx (HX.out.2 (HE.out.1 h).1)))
          clear KK L1 L2 x0 x1 x2 x3 x4 x5 z0 z1 z2 z3 z4 z5 kp HI HF HE HX HY hH
          go_wp2
          go_roundw
          case rel => exact ⟨k + 1, by omega, by go_num, hI1.out, hB1, kp1⟩
          case measure => simp [intOf]; omega
        · go_wp2_with fail
          refine wp_region_held_drew (S := fun X => (X.cell? (ad.add (k * 6)) = some (.bool sc.b1) ∧ X.cell? ⟨(ad.add (k * 6)).block, (ad.add (k * 6)).off + 1, none⟩ = some sc.n1 ∧ X.cell? ⟨(ad.add (k * 6)).block, (ad.add (k * 6)).off + 2, none⟩ = some sc.d1 ∧ X.cell? ⟨(ad.add (k * 6)).block, (ad.add (k * 6)).off + 3, none⟩ = some (.bool sc.b2) ∧ X.cell? ⟨(ad.add (k * 6)).block, (ad.add (k * 6)).off + 4, none⟩ = some sc.n2 ∧ X.cell? ⟨(ad.add (k * 6)).block, (ad.add (k * 6)).off + 5, none⟩ = some sc.d2) ∧ (X.cell? ⟨w.heap.size, 0, none⟩ = some (.bool pt) ∧ X.cell? ⟨w.heap.size, 1, none⟩ = some (.slice pA pl pc) ∧ X.cell? ⟨w.heap.size, 2, none⟩ = some (.slice pA' pl' pc') ∧ X.cell? ⟨w.heap.size, 3, none⟩ = some (.bool pt') ∧ X.cell? ⟨w.heap.size, 4, none⟩ = some (.slice pA2 pl2 pc2) ∧ X.cell? ⟨w.heap.size, 5, none⟩ = some (.slice pA3 pl3 pc3))) (by kernel_rfl) (KK.out wr bb0) (fun hS => ?_)
          refine takeH (i := 0) (v := ?_) rfl (by kernel_rfl) (by kernel_rfl) (by kernel_rfl) (fun _ _ _ h => h) (by rfl) (by assumption) ?_ ?_
          rotate_left
          · intro w hSw; (try dsimp only at hSw); go_simp <;> with_reducible rfl
          try simp only [Act.put, List.setIfInBounds_toArray, List.set_cons_zero, List.set_cons_succ]
          refine takeH (i := 1) (v := ?_) rfl (by kernel_rfl) (by kernel_rfl) (by kernel_rfl) (fun _ _ _ h => h) (by rfl) (by assumption) ?_ ?_
          rotate_left
          · intro w hSw; (try dsimp only at hSw); go_simp <;> with_reducible rfl
          try simp only [Act.put, List.setIfInBounds_toArray, List.set_cons_zero, List.set_cons_succ]
          refine takeH (i := 2) (v := ?_) rfl (by kernel_rfl) (by kernel_rfl) (by kernel_rfl) (fun _ _ _ h => h) (by rfl) (by assumption) ?_ ?_
          rotate_left
          · intro w hSw; (try dsimp only at hSw); go_simp <;> with_reducible rfl
          try simp only [Act.put, List.setIfInBounds_toArray, List.set_cons_zero, List.set_cons_succ]
          refine takeH (i := 3) (v := ?_) rfl (by kernel_rfl) (by kernel_rfl) (by kernel_rfl) (fun _ _ _ h => h) (by rfl) (by assumption) ?_ ?_
          rotate_left
          · intro w hSw; (try dsimp only at hSw); go_simp <;> with_reducible rfl
          try simp only [Act.put, List.setIfInBounds_toArray, List.set_cons_zero, List.set_cons_succ]
          refine takeH (i := 4) (v := ?_) rfl (by kernel_rfl) (by kernel_rfl) (by kernel_rfl) (fun _ _ _ h => h) (by rfl) (by assumption) ?_ ?_
          rotate_left
          · intro w hSw; (try dsimp only at hSw); go_simp <;> with_reducible rfl
          try simp only [Act.put, List.setIfInBounds_toArray, List.set_cons_zero, List.set_cons_succ]
          refine takeH (i := 5) (v := ?_) rfl (by kernel_rfl) (by kernel_rfl) (by kernel_rfl) (fun _ _ _ h => h) (by rfl) (by assumption) ?_ ?_
          rotate_left
          · intro w hSw; (try dsimp only at hSw); go_simp <;> with_reducible rfl
          try simp only [Act.put, List.setIfInBounds_toArray, List.set_cons_zero, List.set_cons_succ]
          refine takeH (i := 6) (v := ?_) rfl (by kernel_rfl) (by kernel_rfl) (by kernel_rfl) (fun _ _ _ h => h) (by rfl) (by assumption) ?_ ?_
          rotate_left
          · intro w hSw; (try dsimp only at hSw); go_simp <;> with_reducible rfl
          try simp only [Act.put, List.setIfInBounds_toArray, List.set_cons_zero, List.set_cons_succ]
          refine stepH (i := 7) rfl (by kernel_rfl) (fun K hK => ?_)
          go_simp
          refine (L1.out _ bb0.drew).mono ?_
          rintro e w1 ⟨hb1, rfl⟩
          have bb1 := below_step bb0.drew hb1
          rw [hcv]
          go_wp2_with fail
          refine hK.out _ _ (KK.out _ bb1) (fun hH => ?_)
          clear hK K hS
          try simp only [Act.put, List.setIfInBounds_toArray, List.set_cons_zero, List.set_cons_succ]
          refine takeH (i := 8) (v := ?_) rfl (by kernel_rfl) (by kernel_rfl) (by kernel_rfl) (fun _ _ _ h => h) (by rfl) (by assumption) ?_ ?_
          rotate_left
          · intro w hSw; (try dsimp only at hSw); go_simp <;> with_reducible rfl
          try simp only [Act.put, List.setIfInBounds_toArray, List.set_cons_zero, List.set_cons_succ]
          refine takeH (i := 9) (v := ?_) rfl (by kernel_rfl) (by kernel_rfl) (by kernel_rfl) (fun _ _ _ h => h) (by rfl) (by assumption) ?_ ?_
          rotate_left
          · intro w hSw; (try dsimp only at hSw); go_simp <;> with_reducible rfl
          try simp only [Act.put, List.setIfInBounds_toArray, List.set_cons_zero, List.set_cons_succ]
          refine skipH (i := 10) rfl (by kernel_rfl) (by kernel_rfl) (by kernel_rfl) (fun _ _ _ h => h) (by rfl) (by assumption) ?_
          try simp only [Act.put, List.setIfInBounds_toArray, List.set_cons_zero, List.set_cons_succ]
          refine skipH (i := 11) rfl (by kernel_rfl) (by kernel_rfl) (by kernel_rfl) (fun _ _ _ h => h) (by rfl) (by assumption) ?_
          try simp only [Act.put, List.setIfInBounds_toArray, List.set_cons_zero, List.set_cons_succ]
          refine skipH (i := 12) rfl (by kernel_rfl) (by kernel_rfl) (by kernel_rfl) (fun _ _ _ h => h) (by rfl) (by assumption) ?_
          try simp only [Act.put, List.setIfInBounds_toArray, List.set_cons_zero, List.set_cons_succ]
          refine skipH (i := 13) rfl (by kernel_rfl) (by kernel_rfl) (by kernel_rfl) (fun _ _ _ h => h) (by rfl) (by assumption) ?_
          try simp only [Act.put, List.setIfInBounds_toArray, List.set_cons_zero, List.set_cons_succ]
          refine skipH (i := 14) rfl (by kernel_rfl) (by kernel_rfl) (by kernel_rfl) (fun _ _ _ h => h) (by rfl) (by assumption) ?_
          try simp only [Act.put, List.setIfInBounds_toArray, List.set_cons_zero, List.set_cons_succ]
          refine skipH (i := 15) rfl (by kernel_rfl) (by kernel_rfl) (by kernel_rfl) (fun _ _ _ h => h) (by rfl) (by assumption) ?_
          try simp only [Act.put, List.setIfInBounds_toArray, List.set_cons_zero, List.set_cons_succ]
          refine skipH (i := 16) rfl (by kernel_rfl) (by kernel_rfl) (by kernel_rfl) (fun _ _ _ h => h) (by rfl) (by assumption) ?_
          try simp only [Act.put, List.setIfInBounds_toArray, List.set_cons_zero, List.set_cons_succ]
          refine skipH (i := 17) rfl (by kernel_rfl) (by kernel_rfl) (by kernel_rfl) (fun _ _ _ h => h) (by rfl) (by assumption) ?_
          try simp only [Act.put, List.setIfInBounds_toArray, List.set_cons_zero, List.set_cons_succ]
          refine skipH (i := 18) rfl (by kernel_rfl) (by kernel_rfl) (by kernel_rfl) (fun _ _ _ h => h) (by rfl) (by assumption) ?_
          try simp only [Act.put, List.setIfInBounds_toArray, List.set_cons_zero, List.set_cons_succ]
          refine takeH (i := 19) (v := ?_) rfl (by kernel_rfl) (by kernel_rfl) (by kernel_rfl) (fun _ _ _ h => h) (by rfl) (by assumption) ?_ ?_
          rotate_left
          · intro w hSw; (try dsimp only at hSw); go_simp <;> with_reducible rfl
          try simp only [Act.put, List.setIfInBounds_toArray, List.set_cons_zero, List.set_cons_succ]
          refine wpAnyH_done (by kernel_rfl) ?_ _
          have kp1 := kp.next' bb1
          have hB1 := hB.trans (bb1.mono hB.size)
          have hI1 := Lib.hid (HI.out (fun h => hcx (HX.out.2 (HE.out.1 h).1)))
          clear KK L1 L2 x0 x1 x2 x3 x4 x5 z0 z1 z2 z3 z4 z5 kp HI HF HE HX HY hH
          go_wp2
          go_roundw
          case rel => exact ⟨k + 1, by omega, by go_num, hI1.out, hB1, kp1⟩
          case measure => simp [intOf]; omega
    · have hkl : k = l.length := by omega
      subst hkl
      have hN : Hid (addQ l p = l ++ [p]) := by
        show _ = _
        unfold addQ
        rw [if_neg]
        intro hm
        obtain ⟨j, hj, e⟩ := List.mem_iff_getElem.1 hm
        exact hI j hj (by rw [← gt_get hj]; exact e)
      obtain ⟨z0, z1, z2, z3, z4, z5⟩ := bk6c (s := ⟨pt, .slice pA pl pc, .slice pA' pl' pc', pt', .slice pA2 pl2 pc2, .slice pA3 pl3 pc3⟩) kp
      have hp2 := (hp.below hB).more hB.size
      have hbA := below_alloc wr (.cells #[.bool pt, .slice pA pl pc, .slice pA' pl' pc', .bool pt', .slice pA2 pl2 pc2, .slice pA3 pl3 pc3] 135)
      have hO4 := (HO.out.keep hB).keep hbA
      have hB4 := hB.trans (hbA.mono hB.size)
      have hp4 := hp2.next hbA
      obtain ⟨S, hS1, hS2, hS3, hS4⟩ := hO4
      clear hI hS kp hp2
      go_wp2_with (at_builtin; refine wpL_append_ni rfl (.tmp 33) (.tmp 35) 96 rfl base 135 i0 zpt 6 112 Tryz.underlying96 hi0 hz0 hz1 hz2 rfl (by omega) _ l.length (srow S) rfl hS2 hS3 zpt_no ⟨wr.heap.size, 0, none⟩ 1 1 [.bool pt, .slice pA pl pc, .slice pA' pl' pc', .bool pt', .slice pA2 pl2 pc2, .slice pA3 pl3 pc3] rfl rfl (new_cells wr _ _) (by intro u hu; simp at hu; rcases hu with rfl | rfl | rfl | rfl | rfl | rfl <;> rfl) (by intro u hu k0 i1; simp at hu; rcases hu with rfl | rfl | rfl | rfl | rfl | rfl <;> simp) (by omega) (by unfold maxLen; omega) (by omega) (by have := hB.size; simp; omega) ?_; intro v5 w5 hw1 hw2 hw3)
      have HO5 : Hid (OwnRoly w5 base v5 (l ++ [p])) := OwnRoly.add hS1 hS3 hS4 hp4 hw1 hw2 hw3
      have hB5 : Below base w w5 := below_app (hB4.mono hbase) hw2 (by have := hB.size; simp; omega) hS2 (by omega)
      clear hw1 hw2 hw3 hS1 hS2 hS3 hS4
      go_wp2
      go_ret
      exact ⟨hB5, _, rfl, by rw [hN.out]; exact HO5.out⟩
end Go.Proofs.YtaihplgfbepgpaaGreatDoor

namespace Go.Proofs.YtaihplgfbepgpaaGreatDoor
open Go.RowKit Ar

/-- A side of the hull of some points, from the i-th to the k-th. -/
def SideQ (l : List Qp) (i k : Nat) : Prop := ∀ j, j < l.length → j ≠ i → j ≠ k → 0 < sgQ (crossQ (gt l i) (gt l k) (gt l j)) ∨ (sgQ (crossQ (gt l i) (gt l k) (gt l j)) = 0 ∧ 0 ≤ sgQ (btwR (gt l i) (gt l k) (gt l j)))

set_option maxRecDepth 100000 in
set_option maxHeartbeats 3200000 in
theorem side_any (l : List Qp) (i k : Nat) (v : Value) (w : World) (h : IsRoly w w.heap.size v l) (hi : i < l.length) (hk : k < l.length) (hm : l.length ≤ 1000000) (ll : ∀ q ∈ l, szp q ≤ 10000000000) (z : Bool) (hz : z = true ↔ SideQ l i k) :
    Calls Tryz.prog 100 #[v, .int .i64 i, .int .i64 k] w fun e w' => Below w.heap.size w w' ∧ e = .returned (.bool z) := by
  obtain ⟨A, cp, Sl, rfl, hcp, hSl, hr, hS⟩ := h
  obtain ⟨si, hsi, hpi⟩ := hS i l[i] (List.getElem?_eq_getElem hi)
  obtain ⟨sk, hsk, hpk⟩ := hS k l[k] (List.getElem?_eq_getElem hk)
  have li := ll _ (List.getElem_mem hi)
  have lk := ll _ (List.getElem_mem hk)
  rw [gt_get hi] at hpi li
  rw [gt_get hk] at hpk lk
  obtain ⟨ad, rfl, hab, _⟩ := hr.point hsi
  obtain ⟨hib, hi6⟩ := hr.point' hsi
  obtain ⟨hkb, hk6⟩ := hr.point' hsk
  have b1 : (0 : Int) ≤ (i : Int) := by omega
  have b2 : (i : Int) < (l.length : Int) := by omega
  have b3 : (0 : Int) ≤ (k : Int) := by omega
  have b4 : (k : Int) < (l.length : Int) := by omega
  go_enter Tryz.func100, Tryz.ntmps100
  go_wp2_with fail
  go_loopw [7] (fun x wr => ∃ j : Nat, j ≤ l.length ∧ x = .int .i64 j ∧ (∀ j', j' < j → j' ≠ i → j' ≠ k → 0 < sgQ (crossQ (gt l i) (gt l k) (gt l j')) ∨ (sgQ (crossQ (gt l i) (gt l k) (gt l j')) = 0 ∧ 0 ≤ sgQ (btwR (gt l i) (gt l k) (gt l j')))) ∧ Below w.heap.size w wr) (fun x _ => l.length - (intOf x).toNat)
  case atStart => exact ⟨0, Nat.zero_le _, rfl, fun j hj => absurd hj (Nat.not_lt_zero j), Below.refl _ _⟩
  case round =>
    obtain ⟨j, hj, rfl, hI, hB⟩ := hrel
    rcases Nat.lt_or_ge j l.length with hlt | hge
    · have HI : Hid ((j ≠ i → j ≠ k → 0 < sgQ (crossQ (gt l i) (gt l k) (gt l j)) ∨ (sgQ (crossQ (gt l i) (gt l k) (gt l j)) = 0 ∧ 0 ≤ sgQ (btwR (gt l i) (gt l k) (gt l j)))) → ∀ j', j' < j + 1 → j' ≠ i → j' ≠ k → 0 < sgQ (crossQ (gt l i) (gt l k) (gt l j')) ∨ (sgQ (crossQ (gt l i) (gt l k) (gt l j')) = 0 ∧ 0 ≤ sgQ (btwR (gt l i) (gt l k) (gt l j')))) := fun h0 j' hj' => by
        rcases Nat.lt_or_ge j' j with h1 | h1
        · exact hI j' h1
        · rw [show j' = j by omega]; exact h0
      have HF : Hid (j ≠ i → j ≠ k → ¬ (0 < sgQ (crossQ (gt l i) (gt l k) (gt l j)) ∨ (sgQ (crossQ (gt l i) (gt l k) (gt l j)) = 0 ∧ 0 ≤ sgQ (btwR (gt l i) (gt l k) (gt l j)))) → z = false) := fun h1 h2 h0 => by
        cases z with
        | false => rfl
        | true => exact absurd (hz.1 rfl j hlt h1 h2) h0
      clear hI hz
      by_cases hji : j = i
      · have hI1 := Lib.hid (HI.out (fun h => absurd hji h))
        clear HI HF
        subst hji
        go_wp2
        go_roundw
        case rel => exact ⟨j + 1, by omega, by go_num, hI1.out, hB⟩
        case measure => simp [intOf]; omega
      by_cases hjk : j = k
      · have hI1 := Lib.hid (HI.out (fun _ h => absurd hjk h))
        have e1 : ((j : Int) == (i : Int)) = false := by rw [beq_eq_false_iff_ne]; omega
        clear HI HF
        subst hjk
        go_wp2
        go_roundw
        case rel => exact ⟨j + 1, by omega, by go_num, hI1.out, hB⟩
        case measure => simp [intOf]; omega
      have HI := Lib.hid (HI.out)
      have HI2 := Lib.hid (fun h0 => HI.out (fun _ _ => h0))
      have HF2 := Lib.hid (HF.out hji hjk)
      have e1 : ((j : Int) == (i : Int)) = false := by rw [beq_eq_false_iff_ne]; omega
      have e2 : ((j : Int) == (k : Int)) = false := by rw [beq_eq_false_iff_ne]; omega
      obtain ⟨sj, hsj, hpj⟩ := hS j l[j] (List.getElem?_eq_getElem hlt)
      have lj := ll _ (List.getElem_mem hlt)
      rw [gt_get hlt] at hpj lj
      obtain ⟨hjb, hj6⟩ := hr.point' hsj
      have hpi2 := (hpi.below hB).more hB.size
      have hpk2 := (hpk.below hB).more hB.size
      have hpj2 := (hpj.below hB).more hB.size
      have hbs := hB.size
      have L1 := Lib.hid (fun X (h : Below wr.heap.size wr X) => left_any (gt l i) (gt l k) (gt l j) si sk sj X (hpi2.next h) (hpk2.next h) (hpj2.next h) li lk lj)
      have L2 := Lib.hid (fun X (h : Below wr.heap.size wr X) => between_any (gt l i) (gt l k) (gt l j) si sk sj X (hpi2.next h) (hpk2.next h) (hpj2.next h) li lk lj)
      unfold Sx.val at L1 L2
      have KK : Hid (∀ X, Below wr.heap.size wr X → ((X.cell? (ad.add (i * 6)) = some (.bool si.b1) ∧ X.cell? ⟨(ad.add (i * 6)).block, (ad.add (i * 6)).off + 1, none⟩ = some si.n1 ∧ X.cell? ⟨(ad.add (i * 6)).block, (ad.add (i * 6)).off + 2, none⟩ = some si.d1 ∧ X.cell? ⟨(ad.add (i * 6)).block, (ad.add (i * 6)).off + 3, none⟩ = some (.bool si.b2) ∧ X.cell? ⟨(ad.add (i * 6)).block, (ad.add (i * 6)).off + 4, none⟩ = some si.n2 ∧ X.cell? ⟨(ad.add (i * 6)).block, (ad.add (i * 6)).off + 5, none⟩ = some si.d2) ∧ (X.cell? (ad.add (k * 6)) = some (.bool sk.b1) ∧ X.cell? ⟨(ad.add (k * 6)).block, (ad.add (k * 6)).off + 1, none⟩ = some sk.n1 ∧ X.cell? ⟨(ad.add (k * 6)).block, (ad.add (k * 6)).off + 2, none⟩ = some sk.d1 ∧ X.cell? ⟨(ad.add (k * 6)).block, (ad.add (k * 6)).off + 3, none⟩ = some (.bool sk.b2) ∧ X.cell? ⟨(ad.add (k * 6)).block, (ad.add (k * 6)).off + 4, none⟩ = some sk.n2 ∧ X.cell? ⟨(ad.add (k * 6)).block, (ad.add (k * 6)).off + 5, none⟩ = some sk.d2) ∧ (X.cell? (ad.add (j * 6)) = some (.bool sj.b1) ∧ X.cell? ⟨(ad.add (j * 6)).block, (ad.add (j * 6)).off + 1, none⟩ = some sj.n1 ∧ X.cell? ⟨(ad.add (j * 6)).block, (ad.add (j * 6)).off + 2, none⟩ = some sj.d1 ∧ X.cell? ⟨(ad.add (j * 6)).block, (ad.add (j * 6)).off + 3, none⟩ = some (.bool sj.b2) ∧ X.cell? ⟨(ad.add (j * 6)).block, (ad.add (j * 6)).off + 4, none⟩ = some sj.n2 ∧ X.cell? ⟨(ad.add (j * 6)).block, (ad.add (j * 6)).off + 5, none⟩ = some sj.d2))) := fun X h => ⟨hi6.next (hB.trans (h.mono hbs)) hib, hk6.next (hB.trans (h.mono hbs)) hkb, hj6.next (hB.trans (h.mono hbs)) hjb⟩
      have hcr := sgQ_in (crossQ (gt l i) (gt l k) (gt l j))
      generalize crossQ (gt l i) (gt l k) (gt l j) = cr at *
      generalize btwR (gt l i) (gt l k) (gt l j) = bt at *
      generalize hsv : sgQ cr = s at *
      clear HI HF hpi2 hpk2 hpj2 hpj hsj hj6 hjb hji hjk hsv lj
      obtain ⟨⟨x0, x1, x2, x3, x4, x5⟩, ⟨y0, y1, y2, y3, y4, y5⟩, z0, z1, z2, z3, z4, z5⟩ := KK.out wr (Below.refl _ _)
      have bb0 := Below.refl wr.heap.size wr
      go_wp2_with fail
      go_region_held3 (fun X => (X.cell? (ad.add (i * 6)) = some (.bool si.b1) ∧ X.cell? ⟨(ad.add (i * 6)).block, (ad.add (i * 6)).off + 1, none⟩ = some si.n1 ∧ X.cell? ⟨(ad.add (i * 6)).block, (ad.add (i * 6)).off + 2, none⟩ = some si.d1 ∧ X.cell? ⟨(ad.add (i * 6)).block, (ad.add (i * 6)).off + 3, none⟩ = some (.bool si.b2) ∧ X.cell? ⟨(ad.add (i * 6)).block, (ad.add (i * 6)).off + 4, none⟩ = some si.n2 ∧ X.cell? ⟨(ad.add (i * 6)).block, (ad.add (i * 6)).off + 5, none⟩ = some si.d2) ∧ (X.cell? (ad.add (k * 6)) = some (.bool sk.b1) ∧ X.cell? ⟨(ad.add (k * 6)).block, (ad.add (k * 6)).off + 1, none⟩ = some sk.n1 ∧ X.cell? ⟨(ad.add (k * 6)).block, (ad.add (k * 6)).off + 2, none⟩ = some sk.d1 ∧ X.cell? ⟨(ad.add (k * 6)).block, (ad.add (k * 6)).off + 3, none⟩ = some (.bool sk.b2) ∧ X.cell? ⟨(ad.add (k * 6)).block, (ad.add (k * 6)).off + 4, none⟩ = some sk.n2 ∧ X.cell? ⟨(ad.add (k * 6)).block, (ad.add (k * 6)).off + 5, none⟩ = some sk.d2) ∧ (X.cell? (ad.add (j * 6)) = some (.bool sj.b1) ∧ X.cell? ⟨(ad.add (j * 6)).block, (ad.add (j * 6)).off + 1, none⟩ = some sj.n1 ∧ X.cell? ⟨(ad.add (j * 6)).block, (ad.add (j * 6)).off + 2, none⟩ = some sj.d1 ∧ X.cell? ⟨(ad.add (j * 6)).block, (ad.add (j * 6)).off + 3, none⟩ = some (.bool sj.b2) ∧ X.cell? ⟨(ad.add (j * 6)).block, (ad.add (j * 6)).off + 4, none⟩ = some sj.n2 ∧ X.cell? ⟨(ad.add (j * 6)).block, (ad.add (j * 6)).off + 5, none⟩ = some sj.d2))
        (((with_reducible refine KK.out _ ?_); repeat' (first | (with_reducible exact bb1) | (with_reducible exact bb0) | ((with_reducible refine Below.setCell ?_ ?_ _); rotate_left; (focus first | omega | (simp; done) | (simp; omega) | (unfold World.setCell; simp; omega))) | ((with_reducible refine Below.alloc ?_ ?_ _); rotate_left; (focus first | omega | (simp; done) | (simp; omega) | (unfold World.setCell; simp; omega))) | (with_reducible refine Below.drew ?_))))
        (first
          | (go_at_call 124; (with_reducible refine (L1.out _ bb0.drew).mono ?_); rintro e w1 ⟨hb1, rfl⟩; have bb1 := below_step bb0.drew hb1))
      clear x0 x1 x2 x3 x4 x5 y0 y1 y2 y3 y4 y5 z0 z1 z2 z3 z4 z5
      have hB1 := hB.trans (bb1.mono hB.size)
      rcases (show s = -1 ∨ s = 0 ∨ s = 1 by omega) with hs | hs | hs
      · have hzf := Lib.hid (HF2.out (by omega))
        rw [hs]
        clear HI2 HF2 L1 L2 KK hs
        go_wp2_with fail
        go_quiet (fail)
        go_wp2
        go_ret
        exact ⟨below_drewN hB1 nq, by rw [hzf.out] <;> rfl⟩
      · have HFb : Hid (sgQ bt < 0 → z = false) := fun h => HF2.out (by omega)
        have HIb : Hid (0 ≤ sgQ bt → _) := fun h => HI2.out (Or.inr ⟨hs, h⟩)
        rw [hs]
        clear HI2 HF2 L1 hs
        obtain ⟨⟨x0, x1, x2, x3, x4, x5⟩, ⟨y0, y1, y2, y3, y4, y5⟩, z0, z1, z2, z3, z4, z5⟩ := KK.out w1 bb1
        go_wp2_with fail
        go_region_held3 (fun X => (X.cell? (ad.add (i * 6)) = some (.bool si.b1) ∧ X.cell? ⟨(ad.add (i * 6)).block, (ad.add (i * 6)).off + 1, none⟩ = some si.n1 ∧ X.cell? ⟨(ad.add (i * 6)).block, (ad.add (i * 6)).off + 2, none⟩ = some si.d1 ∧ X.cell? ⟨(ad.add (i * 6)).block, (ad.add (i * 6)).off + 3, none⟩ = some (.bool si.b2) ∧ X.cell? ⟨(ad.add (i * 6)).block, (ad.add (i * 6)).off + 4, none⟩ = some si.n2 ∧ X.cell? ⟨(ad.add (i * 6)).block, (ad.add (i * 6)).off + 5, none⟩ = some si.d2) ∧ (X.cell? (ad.add (k * 6)) = some (.bool sk.b1) ∧ X.cell? ⟨(ad.add (k * 6)).block, (ad.add (k * 6)).off + 1, none⟩ = some sk.n1 ∧ X.cell? ⟨(ad.add (k * 6)).block, (ad.add (k * 6)).off + 2, none⟩ = some sk.d1 ∧ X.cell? ⟨(ad.add (k * 6)).block, (ad.add (k * 6)).off + 3, none⟩ = some (.bool sk.b2) ∧ X.cell? ⟨(ad.add (k * 6)).block, (ad.add (k * 6)).off + 4, none⟩ = some sk.n2 ∧ X.cell? ⟨(ad.add (k * 6)).block, (ad.add (k * 6)).off + 5, none⟩ = some sk.d2) ∧ (X.cell? (ad.add (j * 6)) = some (.bool sj.b1) ∧ X.cell? ⟨(ad.add (j * 6)).block, (ad.add (j * 6)).off + 1, none⟩ = some sj.n1 ∧ X.cell? ⟨(ad.add (j * 6)).block, (ad.add (j * 6)).off + 2, none⟩ = some sj.d1 ∧ X.cell? ⟨(ad.add (j * 6)).block, (ad.add (j * 6)).off + 3, none⟩ = some (.bool sj.b2) ∧ X.cell? ⟨(ad.add (j * 6)).block, (ad.add (j * 6)).off + 4, none⟩ = some sj.n2 ∧ X.cell? ⟨(ad.add (j * 6)).block, (ad.add (j * 6)).off + 5, none⟩ = some sj.d2))
          (((with_reducible refine KK.out _ ?_); repeat' (first | (with_reducible exact bb2) | (with_reducible exact bb1) | ((with_reducible refine Below.setCell ?_ ?_ _); rotate_left; (focus first | omega | (simp; done) | (simp; omega) | (unfold World.setCell; simp; omega))) | ((with_reducible refine Below.alloc ?_ ?_ _); rotate_left; (focus first | omega | (simp; done) | (simp; omega) | (unfold World.setCell; simp; omega))) | (with_reducible refine Below.drew ?_))))
          (first
            | (go_at_call 125; (with_reducible refine (L2.out _ bb1.drew).mono ?_); rintro e w2 ⟨hb2, rfl⟩; have bb2 := below_step bb1.drew hb2))
        clear x0 x1 x2 x3 x4 x5 y0 y1 y2 y3 y4 y5 z0 z1 z2 z3 z4 z5 L2 KK
        have hB2 := hB.trans (bb2.mono hB.size)
        by_cases hb : sgQ bt < 0
        · have hzf := Lib.hid (HFb.out hb)
          clear HFb HIb
          go_wp2
          go_ret
          exact ⟨hB2, by rw [hzf.out] <;> rfl⟩
        · have hI1 := Lib.hid (HIb.out (by omega))
          clear HFb HIb
          go_wp2
          go_roundw
          case rel => exact ⟨j + 1, by omega, by go_num, hI1.out, hB2⟩
          case measure => simp [intOf]; omega
      · have hI1 := Lib.hid (HI2.out (Or.inl (by omega)))
        rw [hs]
        clear HI2 HF2 L1 L2 KK hs
        go_wp2_with fail
        go_quiet (fail)
        go_wp2
        go_roundw
        case rel => exact ⟨j + 1, by omega, by go_num, hI1.out, below_drewN hB1 nq⟩
        case measure => simp [intOf]; omega
    · have hkl : j = l.length := by omega
      subst hkl
      have hzt : Hid (z = true) := hz.2 hI
      clear hI hz
      go_wp2
      go_ret
      exact ⟨hB, by rw [hzt.out] <;> rfl⟩
end Go.Proofs.YtaihplgfbepgpaaGreatDoor
