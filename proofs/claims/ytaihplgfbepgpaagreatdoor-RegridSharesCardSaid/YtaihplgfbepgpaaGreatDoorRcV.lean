/-
  Walks: the reference's reach, apart, common, area.
  Plain law: the two ways to find what two cells have in common, and the area of one, come to the same.
-/
import Derived.Test.YtaihplgfbepgpaaGreatDoorRegX
import Derived.Test.YtaihplgfbepgpaaGreatDoorRpW
import Derived.Test.YtaihplgfbepgpaaGreatDoorRpI
import Derived.Test.YtaihplgfbepgpaaGreatDoorRefA
import Derived.Test.YtaihplgfbepgpaaGreatDoorQqV
import Derived.Test.YtaihplgfbepgpaaGreatDoorRegY
import Derived.Test.YtaihplgfbepgpaaGreatDoorRegS
import Derived.Test.YtaihplgfbepgpaaGreatDoorLawA
namespace Go.Proofs.YtaihplgfbepgpaaGreatDoor
open Go.RowKit Ar

def set2 (w : World) (b : Nat) (x y : Value) : World := (w.setCell ⟨b, 0, none⟩ x).setCell ⟨b, 1, none⟩ y
theorem set2_bk {w : World} {b : Nat} {T : TypeId} {x y x0 y0 : Value} (hb : Bk w b T #[x0, y0]) : Bk (set2 w b x y) b T #[x, y] := by
  have := (hb.put 0 x).put 1 y
  simpa [set2] using this
theorem set2_below {w w0 : World} {B b : Nat} {x y : Value} (h : Below B w0 w) (hb : B ≤ b) : Below B w0 (set2 w b x y) := (h.setCell (by exact hb) x).setCell (by exact hb) y
theorem bk_far2 {w : World} {b b' : Nat} {T : TypeId} {cs : Array Value} {x y : Value} (h : Bk w b T cs) (hne : b ≠ b') : Bk (set2 w b' x y) b T cs := (h.far (by exact hne) x).far (by exact hne) y
theorem set2_size (w : World) (b : Nat) (x y : Value) : (set2 w b x y).heap.size = w.heap.size := by simp [set2, World.setCell]

set_option maxRecDepth 100000 in
set_option maxHeartbeats 400000 in
theorem reach_any (l : List Pl) (m : Bool) (v : Value) (w : World) (h : IsC w w.heap.size v l m) (h0 : 0 < l.length) (hm : l.length ≤ 1000000000) :
    Calls Tryz.prog 67 #[v] w fun e w' => Below w.heap.size w w' ∧ e = .returned (.tuple #[.agg #[.int .i64 (bbox l).1, .int .i64 (bbox l).2.2.1], .agg #[.int .i64 (bbox l).2.1, .int .i64 (bbox l).2.2.2]]) := by
  obtain ⟨A, c, rfl, hc, hcm, hin, hr⟩ := h
  obtain ⟨p0, hp0⟩ : ∃ p, cn l 0 = p := ⟨_, rfl⟩
  obtain ⟨ad, rfl, hab, d1, d2⟩ := hr.place (cn_at (l := l) (i := 0) h0)
  rw [hp0] at d1 d2
  have ea : ad.add (0 * 2) = ad := rfl
  rw [ea] at d1 d2
  have h0' : (0 : Int) < l.length := by omega
  have HP0 : Hid (bbox l = l.foldl bstep (p0.1, p0.1, p0.2, p0.2)) := by show _ = _; unfold bbox; rw [hp0]
  clear hp0
  obtain ⟨x0, y0⟩ := p0
  simp only at d1 d2 HP0
  go_enter Tryz.func67, Tryz.ntmps67
  go_wp2_with fail
  refine wp_name (fun W => Below w.heap.size w W ∧ w.heap.size + 3 ≤ W.heap.size ∧ Bk W w.heap.size 33 #[.slice (some ad) l.length c, .bool m] ∧ Bk W (w.heap.size + 1) 50 #[.int .i64 0, .int .i64 0] ∧ Bk W (w.heap.size + 1 + 1) 50 #[.int .i64 0, .int .i64 0])
    ⟨((below_alloc w _).alloc (by simp) _).alloc (by simp; omega) _, by simp, ((Bk.new _ _ _).alloc _).alloc _, (by simpa using ((Bk.new (w.alloc _) _ _).alloc _)), (by simpa using (Bk.new ((w.alloc _).alloc _) _ _))⟩ ?_
  rintro W ⟨hB0, hWs, kc, k1, k2⟩
  have d1' := (hB0.cell (p := ad) hab).trans d1
  have d2' := (hB0.cell (p := ⟨ad.block, ad.off + 1, none⟩) hab).trans d2
  obtain ⟨g0, g1⟩ := bk2 kc
  have habW : ad.block < W.heap.size := by omega
  clear d1 d2 ea
  have KK : Hid (∀ X, Below W.heap.size W X → ((X.cell? ⟨w.heap.size, 0, none⟩ = some (.slice (some ad) l.length c) ∧ X.cell? ⟨w.heap.size, 1, none⟩ = some (.bool m)) ∧ X.cell? ad = some (.int .i64 x0) ∧ X.cell? ⟨ad.block, ad.off + 1, none⟩ = some (.int .i64 y0))) := fun X h => ⟨bk2 (kc.next' h), (h.cell (p := ad) habW).trans d1', (h.cell (p := ⟨ad.block, ad.off + 1, none⟩) habW).trans d2'⟩
  have bb0 := Below.refl W.heap.size W
  have hbs0 := bb0.size
  go_cut [4, 5] from 8 to 49 (fun x y wx => ∃ b4 b5, x = .pointer (some ⟨b4, 0, none⟩) ∧ y = .pointer (some ⟨b5, 0, none⟩) ∧ b4 ≠ b5 ∧ W.heap.size ≤ b4 ∧ W.heap.size ≤ b5 ∧ Below W.heap.size W wx ∧ Bk wx b4 50 #[.int .i64 x0, .int .i64 y0] ∧ Bk wx b5 50 #[.int .i64 x0, .int .i64 y0])
  case first =>
    go_region_held3 (fun X => (X.cell? ⟨w.heap.size, 0, none⟩ = some (.slice (some ad) l.length c) ∧ X.cell? ⟨w.heap.size, 1, none⟩ = some (.bool m)) ∧ X.cell? ad = some (.int .i64 x0) ∧ X.cell? ⟨ad.block, ad.off + 1, none⟩ = some (.int .i64 y0))
      (((with_reducible refine KK.out _ ?_); repeat' (first | (with_reducible exact bb0) | ((with_reducible refine Below.setCell ?_ ?_ _); rotate_left; (focus first | omega | (simp; done) | (simp; omega) | (unfold World.setCell; simp; omega))) | ((with_reducible refine Below.alloc ?_ ?_ _); rotate_left; (focus first | omega | (simp; done) | (simp; omega) | (unfold World.setCell; simp; omega))) | (with_reducible refine Below.drew ?_))))
      (fail)
    all_goals (go_wp2_with fail)
    all_goals go_meet
    all_goals
      refine ⟨_, _, rfl, rfl, by omega, by omega, by omega, ?_, ?_, ?_⟩
      · exact ((below_alloc W _).alloc (by simp) _).drew
      · first | exact ((Bk.new W _ _).alloc _).drew | exact (Bk.new2 W _ _ _).drew
      · first | exact (Bk.new2 W _ _ _).drew | exact ((Bk.new W _ _).alloc _).drew
  case rest =>
  obtain ⟨b4, b5, rfl, rfl, h45, h4, h5, hbc, k4, k5⟩ := hcut
  have hB1 := hB0.trans (hbc.mono hB0.size)
  have kc1 := kc.next' hbc
  have k11 := k1.next' hbc
  have k21 := k2.next' hbc
  have h4' : w.heap.size + 3 ≤ b4 := by omega
  have h5' : w.heap.size + 3 ≤ b5 := by omega
  clear KK bb0 hbs0 hbc kc k1 k2 hB0 d1' d2' g0 g1 habW h4 h5 hWs
  go_wp2_with fail
  go_loopw [6] (fun x wr => ∃ (k : Nat) (b : Bx), k ≤ l.length ∧ x = .int .i64 k ∧ Hid (b = (l.take k).foldl bstep (x0, x0, y0, y0)) ∧ Below w.heap.size w wr ∧ Bk wr w.heap.size 33 #[.slice (some ad) l.length c, .bool m] ∧ Bk wr (w.heap.size + 1) 50 #[.int .i64 0, .int .i64 0] ∧ Bk wr (w.heap.size + 1 + 1) 50 #[.int .i64 0, .int .i64 0] ∧ Bk wr b4 50 #[.int .i64 b.1, .int .i64 b.2.2.1] ∧ Bk wr b5 50 #[.int .i64 b.2.1, .int .i64 b.2.2.2]) (fun x _ => l.length - (intOf x).toNat)
  case atStart => exact ⟨0, (x0, x0, y0, y0), Nat.zero_le _, rfl, rfl, hB1, kc1, k11, k21, k4, k5⟩
  case round =>
    clear hB1 kc1 k11 k21 k4 k5
    obtain ⟨k, b, hk, rfl, HB, hB, kc, k1, k2, k4, k5⟩ := hrel
    obtain ⟨b1, b2, b3, b4'⟩ := b
    simp only at k4 k5
    obtain ⟨g0, g1⟩ := bk2 kc
    rcases Nat.lt_or_ge k l.length with hlt | hge
    · obtain ⟨d1, d2⟩ := (hr.below hB).place' (cn_at (l := l) (i := k) hlt)
      have HB2 : Hid (bstep (b1, b2, b3, b4') (cn l k) = (l.take (k + 1)).foldl bstep (x0, x0, y0, y0)) := by
        show _ = _
        rw [List.take_add_one, cn_at hlt, List.foldl_append, ← HB.out]
        rfl
      obtain ⟨i0, i1⟩ := bk2 k4
      obtain ⟨j0, j1⟩ := bk2 k5
      have e0 := k4.frozen 0
      have e1 := k4.frozen 1
      have f0 := k5.frozen 0
      have f1 := k5.frozen 1
      have hlt4 := k4.lt
      have hlt5 := k5.lt
      generalize cn l k = p at *
      obtain ⟨x, y⟩ := p
      simp only at d1 d2
      go_wp2_with fail
      go_roundw
      case rel =>
        have hS := set2_below (x := .int .i64 (max b2 x)) (y := .int .i64 (max b4' y)) (set2_below (x := .int .i64 (min b1 x)) (y := .int .i64 (min b3 y)) hB (show w.heap.size ≤ b4 by omega)) (show w.heap.size ≤ b5 by omega)
        exact ⟨k + 1, (min b1 x, max b2 x, min b3 y, max b4' y), by omega, by go_num, HB2.out, hS.alloc hS.size _, (bk_far2 (bk_far2 kc (by omega)) (by omega)).alloc _, (bk_far2 (bk_far2 k1 (by omega)) (by omega)).alloc _, (bk_far2 (bk_far2 k2 (by omega)) (by omega)).alloc _, (bk_far2 (set2_bk k4) h45).alloc _, (set2_bk (bk_far2 k5 (Ne.symm h45))).alloc _⟩
      case measure => simp [intOf]; omega
    · have hkl : k = l.length := by omega
      subst hkl
      have HB2 : Hid (bbox l = (b1, b2, b3, b4')) := by show _ = _; rw [HP0.out, HB.out, List.take_length]
      obtain ⟨i0, i1⟩ := bk2 k4
      obtain ⟨j0, j1⟩ := bk2 k5
      obtain ⟨u0, u1⟩ := bk2 k1
      obtain ⟨v0, v1⟩ := bk2 k2
      have e0 := k1.frozen 0
      have e1 := k1.frozen 1
      have f0 := k2.frozen 0
      have f1 := k2.frozen 1
      have hl1 := k1.lt
      have hl2 := k2.lt
      have n4 : w.heap.size + 1 ≠ b4 := by omega
      have n5 : w.heap.size + 1 ≠ b5 := by omega
      go_wp2_with fail
      go_region
      all_goals
        go_wp2_with fail
        refine bodyPost_ret (v := .tuple #[.agg #[.int .i64 b1, .int .i64 b3], .agg #[.int .i64 b2, .int .i64 b4']]) (by simp [results, Tryz.results67, go_sem, u0, u1, v0, v1]) rfl ?_
        refine ⟨?_, ?_⟩
        · repeat' (first | (with_reducible exact hB) | ((with_reducible refine Below.setCell ?_ ?_ _); rotate_left; (focus first | omega | (simp; done) | (simp; omega))) | (with_reducible refine Below.drew ?_))
        · rw [HB2.out]

set_option maxRecDepth 100000 in
set_option maxHeartbeats 800000 in
theorem rapart_any (la lb : List Pl) (ma mb : Bool) (va vb : Value) (dx : Int) (w : World) (ha : IsC w w.heap.size va la ma) (hb : IsC w w.heap.size vb lb mb) (h0a : 0 < la.length) (h0b : 0 < lb.length) (hma : la.length ≤ 1000000000) (hmb : lb.length ≤ 1000000000) (oka : ∀ p ∈ la, okP p) (okb : ∀ p ∈ lb, okP p) (hdx : -100000000 ≤ dx ∧ dx ≤ 100000000) (q : Bool) (hq : q = true ↔ apartB (bbox la) (shiftB (bbox lb) dx)) :
    Calls Tryz.prog 104 #[va, vb, .int .i64 dx] w fun e w' => Below w.heap.size w w' ∧ e = .returned (.bool q) := by
  have HQ := Lib.hid hq
  clear hq
  have ia := bbox_in h0a oka
  have ib := bbox_in h0b okb
  have R1 := Lib.hid (fun X (h : Below w.heap.size w X) => reach_any la ma va X ((ha.below h).more h.size) h0a hma)
  have R2 := Lib.hid (fun X (h : Below w.heap.size w X) => reach_any lb mb vb X ((hb.below h).more h.size) h0b hmb)
  obtain ⟨A, ca, rfl⟩ := ha.form
  obtain ⟨B, cb, rfl⟩ := hb.form
  generalize bbox la = xa at *
  generalize bbox lb = xb at *
  obtain ⟨a1, a2, a3, a4⟩ := xa
  obtain ⟨b1, b2, b3, b4⟩ := xb
  unfold inB at ia ib
  unfold shiftB apartB at HQ
  simp only at ia ib HQ R1 R2
  have w1' : IntKind.i64.wrap (b1 + dx) = b1 + dx := IntWalk.i64_in _ (by omega)
  have w2' : IntKind.i64.wrap (b2 + dx) = b2 + dx := IntWalk.i64_in _ (by omega)
  clear ha hb oka okb
  go_enter Tryz.func104, Tryz.ntmps104
  go_wp2_with fail
  have hB0 : Below w.heap.size w ((w.alloc (.cells #[.slice A la.length ca, .bool ma] 33)).alloc (.cells #[.slice B lb.length cb, .bool mb] 33)) := (below_alloc w _).alloc (by simp) _
  refine (R1.out _ hB0).mono ?_
  rintro e w1 ⟨hb1, rfl⟩
  have hB1 := hB0.trans (hb1.mono hB0.size)
  have k2 := (Bk.new2 w (.cells #[.slice A la.length ca, .bool ma] 33) 33 #[.slice B lb.length cb, .bool mb]).next' hb1
  have hk2 := k2.lt
  obtain ⟨g0, g1⟩ := bk2 ((k2.alloc (.cells #[.int .i64 a1, .int .i64 a3] 50)).alloc (.cells #[.int .i64 a2, .int .i64 a4] 50))
  clear hB0
  go_wp2_with fail
  have hbA := (below_alloc w1 (.cells #[.int .i64 a1, .int .i64 a3] 50)).alloc (by simp) (.cells #[.int .i64 a2, .int .i64 a4] 50)
  have k3 := (Bk.new w1 50 #[.int .i64 a1, .int .i64 a3]).alloc (.cells #[.int .i64 a2, .int .i64 a4] 50)
  have k4 := Bk.new2 w1 (.cells #[.int .i64 a1, .int .i64 a3] 50) 50 #[.int .i64 a2, .int .i64 a4]
  have hB2 := hB1.trans (hbA.mono hB1.size)
  refine (R2.out _ hB2).mono ?_
  rintro e w2 ⟨hb2, rfl⟩
  have hB3 := hB2.trans (hb2.mono hB2.size)
  have k32 := k3.next' hb2
  have k42 := k4.next' hb2
  obtain ⟨i0, i1⟩ := bk2 k32
  obtain ⟨j0, j1⟩ := bk2 k42
  have hl3 := k32.lt
  have hl4 := k42.lt
  clear hb1 hb2 k2 k3 k4 k32 k42 hbA hB1 hB2 R1 R2 g0 g1
  go_wp2
  all_goals
    go_ret
    refine ⟨(hB3.alloc (by have := hB3.size; omega) _).alloc (by have := hB3.size; simp; omega) _, ret_boolR ?_⟩
    rw [HQ.out]
    grind
end Go.Proofs.YtaihplgfbepgpaaGreatDoor

namespace Go.Proofs.YtaihplgfbepgpaaGreatDoor
open Go.RowKit Ar

/-- What two cells have in common, as the reference finds it. -/
noncomputable def rcommonQ (la lb : List Pl) (dx : Int) : Rat := if apartB (bbox la) (shiftB (bbox lb) dx) then 0 else hullQ (sharedQ (poly la 0) (poly lb dx)) / 2
theorem shared_len {la lb : List Pl} (ka : validC la) (kb : validC lb) {dx : Int} (hdx : -100000000 ≤ dx ∧ dx ≤ 100000000) : (sharedQ (poly la 0) (poly lb dx)).length ≤ 200 ∧ ∀ q ∈ sharedQ (poly la 0) (poly lb dx), szp q ≤ 1000 := by
  obtain ⟨h1, h2⟩ := sh3_ok (poly_sz ka.2.2.1 (dx := 0) (by omega)) (poly_sz kb.2.2.1 hdx) (poly la 0).length (Nat.le_refl _)
  rw [poly_len, poly_len] at h1
  have h8a := ka.2.1
  have h8b := kb.2.1
  have hm : la.length * lb.length ≤ 8 * 8 := Nat.mul_le_mul h8a h8b
  refine ⟨?_, fun q hq => Nat.le_trans (h2 q hq) (by omega)⟩
  have e : sharedQ (poly la 0) (poly lb dx) = nestQ (f3Q (poly la 0) (poly lb dx)) (poly lb dx).length (sh2 (poly la 0) (poly lb dx)) (poly la 0).length := rfl
  rw [e, poly_len, poly_len]
  omega
theorem half_sz {q : Rat} (h : sz q ≤ 1000000000) : sz (q / 2) ≤ 1000000001 := by
  have := sz_div q 2 (by decide)
  have : sz (2 : Rat) ≤ 1 := sz_small 2 (by decide)
  omega
theorem rcommonQ_sz {la lb : List Pl} (ka : validC la) (kb : validC lb) {dx : Int} (hdx : -100000000 ≤ dx ∧ dx ≤ 100000000) : sz (rcommonQ la lb dx) ≤ 1000000001 := by
  unfold rcommonQ
  split
  · have := sz_zero1; omega
  · obtain ⟨h1, h2⟩ := shared_len ka kb hdx
    exact half_sz (sz_hull h2 h1)

set_option maxRecDepth 100000 in
set_option maxHeartbeats 3200000 in
theorem rcommon_any (la lb : List Pl) (ma mb : Bool) (va vb : Value) (dx : Int) (w : World) (ha : IsC w w.heap.size va la ma) (hb : IsC w w.heap.size vb lb mb) (ka : validC la) (kb : validC lb) (hdx : -100000000 ≤ dx ∧ dx ≤ 100000000) :
    Calls Tryz.prog 65 #[va, vb, .int .i64 dx] w fun e w' => Below w.heap.size w w' ∧ ∃ v, e = .returned v ∧ IsQ w' w'.heap.size v (rcommonQ la lb dx) := by
  have h8a := ka.2.1
  have h8b := kb.2.1
  have h3a := ka.1
  have h3b := kb.1
  obtain ⟨q, hq⟩ := bool_of (apartB (bbox la) (shiftB (bbox lb) dx))
  have AP := Lib.hid (fun X (h : Below w.heap.size w X) => rapart_any la lb ma mb va vb dx X ((ha.below h).more h.size) ((hb.below h).more h.size) (by omega) (by omega) (by omega) (by omega) ka.2.2.1 kb.2.2.1 hdx q hq)
  have CA := Lib.hid (fun X (h : Below w.heap.size w X) => corners_any la ma va 0 X ((ha.below h).more h.size) (by omega) (by omega) ka.2.2.1)
  have CB := Lib.hid (fun X (h : Below w.heap.size w X) => corners_any lb mb vb dx X ((hb.below h).more h.size) (by omega) hdx kb.2.2.1)
  obtain ⟨hl1, hl2⟩ := shared_len ka kb hdx
  have hsa := poly_sz ka.2.2.1 (dx := 0) (by omega)
  have hsb := poly_sz kb.2.2.1 hdx
  have HE : Hid (q = false → rcommonQ la lb dx = hullQ (sharedQ (poly la 0) (poly lb dx)) / 2) := fun h => by unfold rcommonQ; rw [if_neg]; exact fun h2 => by rw [hq.2 h2] at h; cases h
  have HE0 : Hid (q = true → rcommonQ la lb dx = 0) := fun h => by unfold rcommonQ; rw [if_pos (hq.1 h)]
  have hla := poly_len la 0
  have hlb := poly_len lb dx
  obtain ⟨A, ca, rfl⟩ := ha.form
  obtain ⟨B, cb, rfl⟩ := hb.form
  clear ha hb hq
  have HPA : Hid ((la.map fun p => qp p 0) = poly la 0) := rfl
  have HPB : Hid ((lb.map fun p => qp p dx) = poly lb dx) := rfl
  generalize rcommonQ la lb dx = rr at *
  go_enter Tryz.func65, Tryz.ntmps65
  go_wp2_with fail
  have hB0 : Below w.heap.size w (((w.alloc (.cells #[.slice A la.length ca, .bool ma] 33)).alloc (.cells #[.slice B lb.length cb, .bool mb] 33)).alloc (.cells #[.bool false, .slice none 0 0, .slice none 0 0] 66)) := ((below_alloc w _).alloc (by simp) _).alloc (by simp; omega) _
  have kr := Bk.new3 w (.cells #[.slice A la.length ca, .bool ma] 33) (.cells #[.slice B lb.length cb, .bool mb] 33) 66 #[.bool false, .slice none 0 0, .slice none 0 0]
  have k1 : Bk (((w.alloc (.cells #[.slice A la.length ca, .bool ma] 33)).alloc (.cells #[.slice B lb.length cb, .bool mb] 33)).alloc (.cells #[.bool false, .slice none 0 0, .slice none 0 0] 66)) w.heap.size 33 #[.slice A la.length ca, .bool ma] := ((Bk.new _ _ _).alloc _).alloc _
  have k2 : Bk (((w.alloc (.cells #[.slice A la.length ca, .bool ma] 33)).alloc (.cells #[.slice B lb.length cb, .bool mb] 33)).alloc (.cells #[.bool false, .slice none 0 0, .slice none 0 0] 66)) (w.heap.size + 1) 33 #[.slice B lb.length cb, .bool mb] := (Bk.new2 _ _ _ _).alloc _
  refine (AP.out _ hB0).mono ?_
  rintro e w1 ⟨hb1, rfl⟩
  have hB1 := hB0.trans (hb1.mono hB0.size)
  replace kr := kr.next' hb1
  replace k1 := k1.next' hb1
  replace k2 := k2.next' hb1
  clear AP hB0 hb1
  cases q with
  | true =>
    have hE := Lib.hid (HE0.out rfl)
    clear HE HE0 CA CB
    go_wp2_with fail
    refine (intQ_any 0 _ (by omega)).mono ?_
    rintro e w2 ⟨hb2, v2, rfl, y2⟩
    obtain ⟨t3, A5, l5, c5, A6, l6, c6, rfl⟩ := y2.form
    replace kr := kr.next' hb2
    have hB2 := hB1.trans (hb2.mono hB1.size)
    obtain ⟨e0, e1, e2⟩ := bk3 kr
    have f0 := kr.frozen 0
    have f1 := kr.frozen 1
    have f2 := kr.frozen 2
    have hlt := kr.lt
    clear k1 k2
    go_wp2
    refine bodyPost_ret (v := .agg #[.bool t3, .slice A5 l5 c5, .slice A6 l6 c6]) (by simp [results, Tryz.results65, go_sem, e0, e1, e2]) rfl ?_
    have ST := y2.stored (w := w) kr hB2 (by omega)
    refine ⟨ST.1, _, rfl, ?_⟩
    rw [hE.out]
    exact ST.2
  | false =>
    have hE := Lib.hid (HE.out rfl)
    clear HE HE0
    have r0 := And.intro (bk2 k1.drew) (bk2 k2.drew)
    obtain ⟨x0, x1⟩ := bk2 k1
    obtain ⟨y0, y1⟩ := bk2 k2
    have hlt0 := kr.lt
    go_wp2_with fail
    go_region_held3 (fun X => (X.cell? ⟨w.heap.size, 0, none⟩ = some (.slice A la.length ca) ∧ X.cell? ⟨w.heap.size, 1, none⟩ = some (.bool ma)) ∧ (X.cell? ⟨w.heap.size + 1, 0, none⟩ = some (.slice B lb.length cb) ∧ X.cell? ⟨w.heap.size + 1, 1, none⟩ = some (.bool mb)))
      (first | (with_reducible exact r0) | (with_reducible exact r2) | (with_reducible exact r3) | (with_reducible exact r4) | (with_reducible exact r5) | (with_reducible exact r6) | (with_reducible exact r7) | (with_reducible exact r8))
      (first
        | (go_at_call 63; (with_reducible refine (CA.out _ hB1.drew).mono ?_); rintro e w2 ⟨hb2, v2, rfl, z2⟩; have hB2 := hB1.drew.trans (hb2.mono hB1.size); have k12 := k1.drew.next' hb2; have k22 := k2.drew.next' hb2; have kr2 := kr.drew.next' hb2; have r2 := And.intro (bk2 k12) (bk2 k22); rw [HPA.out] at z2)
        | (go_at_call 63; (with_reducible refine (CB.out _ hB2).mono ?_); rintro e w3 ⟨hb3, v3, rfl, z3⟩; have hB3 := hB2.trans (hb3.mono hB2.size); have k13 := k12.next' hb3; have k23 := k22.next' hb3; have kr3 := kr2.next' hb3; have r3 := And.intro (bk2 k13) (bk2 k23); rw [HPB.out] at z3; have z23 := z2.next hb3)
        | (go_at_call 105; (with_reducible refine (shared_any (poly la 0) (poly lb dx) _ _ _ z23 z3 (by omega) (by omega) hsa hsb).mono ?_); rintro e w4 ⟨hb4, v4, rfl, z4⟩; have hB4 := hB3.trans (hb4.mono hB3.size); have k14 := k13.next' hb4; have k24 := k23.next' hb4; have kr4 := kr3.next' hb4; have r4 := And.intro (bk2 k14) (bk2 k24))
        | (go_at_call 62; (with_reducible refine (hull_any _ _ _ z4 hl1 hl2).mono ?_); rintro e w5 ⟨hb5, v5, rfl, z5⟩; have hB5 := hB4.trans (hb5.mono hB4.size); have k15 := k14.next' hb5; have k25 := k24.next' hb5; have kr5 := kr4.next' hb5; have r5 := And.intro (bk2 k15) (bk2 k25))
        | (go_at_call 64; (with_reducible refine (intQ_any 2 _ (by omega)).mono ?_); rintro e w6 ⟨hb6, v6, rfl, z6⟩; have hB6 := hB5.trans (hb6.mono hB5.size); have k16 := k15.next' hb6; have k26 := k25.next' hb6; have kr6 := kr5.next' hb6; have r6 := And.intro (bk2 k16) (bk2 k26); have z56 := z5.next hb6)
        | (go_at_call 61; (with_reducible refine (qquot_any _ _ _ _ _ z56 z6 (Nat.le_trans (sz_hull hl2 hl1) (by omega)) (Nat.le_trans (sz_small 2 (by decide)) (by omega))).mono ?_); rintro e w7 ⟨hb7, v7, rfl, z7⟩; have hB7 := hB6.trans (hb7.mono hB6.size); have k17 := k16.next' hb7; have k27 := k26.next' hb7; have kr7 := kr6.next' hb7; have r7 := And.intro (bk2 k17) (bk2 k27); obtain ⟨t3, A5, l5, c5, A6, l6, c6, rfl⟩ := z7.form; obtain ⟨e0, e1, e2⟩ := bk3 kr7; have f0 := kr7.frozen 0; have f1 := kr7.frozen 1; have f2 := kr7.frozen 2; have hlt := kr7.lt;
            have r8 := (show ∀ X, X = ((w7.setCell ⟨w.heap.size + 1 + 1, 0, none⟩ (.bool t3)).setCell ⟨w.heap.size + 1 + 1, 1, none⟩ (.slice A5 l5 c5)).setCell ⟨w.heap.size + 1 + 1, 2, none⟩ (.slice A6 l6 c6) → ((X.cell? ⟨w.heap.size, 0, none⟩ = some (.slice A la.length ca) ∧ X.cell? ⟨w.heap.size, 1, none⟩ = some (.bool ma)) ∧ (X.cell? ⟨w.heap.size + 1, 0, none⟩ = some (.slice B lb.length cb) ∧ X.cell? ⟨w.heap.size + 1, 1, none⟩ = some (.bool mb))) from fun X e => by subst e; exact ⟨bk2 (bk_far3 k17 (by omega)), bk2 (bk_far3 k27 (by omega))⟩) _ rfl))
    clear r0 r2 r3 r4 r5 r6 r7 r8 x0 x1 y0 y1
    go_wp2
    refine bodyPost_ret (v := .agg #[.bool t3, .slice A5 l5 c5, .slice A6 l6 c6]) (by simp [results, Tryz.results65, go_sem, e0, e1, e2]) rfl ?_
    have ST := z7.stored (w := w) kr7 hB7 (by omega)
    refine ⟨ST.1, _, rfl, ?_⟩
    rw [hE.out]
    exact ST.2

end Go.Proofs.YtaihplgfbepgpaaGreatDoor

namespace Go.Proofs.YtaihplgfbepgpaaGreatDoor
open Go.RowKit Ar

theorem toP_inj {p q : Qp} : toP p = toP q ↔ p = q := ⟨fun h => by
  have h1 : (toP p).x = (toP q).x := by rw [h]
  have h2 : (toP p).y = (toP q).y := by rw [h]
  exact Prod.ext h1 h2, fun h => by rw [h]⟩
theorem addQ_map (L : List Qp) (p : Qp) : (addQ L p).map toP = Geo.addPt (L.map toP) (toP p) := by
  unfold addQ Geo.addPt
  by_cases h : p ∈ L
  · rw [if_pos h, if_pos (List.mem_map.2 ⟨p, h, rfl⟩)]
  · rw [if_neg h, if_neg]
    · simp
    · intro h2
      obtain ⟨x, hx, e⟩ := List.mem_map.1 h2
      rw [toP_inj] at e
      exact h (e ▸ hx)
theorem colQ_map (f : Nat → Option Qp) (L : List Qp) : ∀ n, (colQ f L n).map toP = (((List.range n).filterMap f).map toP).foldl Geo.addPt (L.map toP)
  | 0 => rfl
  | n + 1 => by
    rw [List.range_succ, List.filterMap_append, List.map_append, List.foldl_append, ← colQ_map f L n]
    cases h : f n with
    | none => rw [colQ_none h]; simp [h]
    | some p => rw [colQ_some h, addQ_map]; simp [h]
theorem nestQ_map (g : Nat → Nat → Option Qp) (m : Nat) (L : List Qp) : ∀ n, (nestQ g m L n).map toP = (((List.range n).flatMap fun i => (List.range m).filterMap (g i)).map toP).foldl Geo.addPt (L.map toP)
  | 0 => rfl
  | n + 1 => by
    rw [List.range_succ, List.flatMap_append, List.map_append, List.foldl_append, ← nestQ_map g m L n]
    show (colQ (g n) (nestQ g m L n) m).map toP = _
    rw [colQ_map]
    simp
theorem map_range (L : List Qp) : L.map toP = (List.range L.length).map fun i => toP (gt L i) := by
  apply List.ext_getElem
  · simp
  · intro i h1 h2
    simp at h1
    simp only [List.getElem_map, List.getElem_range]
    rw [gt_get h1]
theorem InQ_geo (l : List Qp) (p : Qp) : InQ l p ↔ Geo.In (l.map toP) (toP p) := by
  unfold InQ Geo.In
  rw [cyc_range]
  constructor
  · intro h c d hm
    obtain ⟨i, hi, e⟩ := List.mem_map.1 hm
    injection e with e1 e2
    subst e1 e2
    exact (sgQ_ge _).1 (h i (by simpa using hi))
  · intro h i hi
    exact (sgQ_ge _).2 (h _ _ (List.mem_map.2 ⟨i, by simpa using hi, rfl⟩))
theorem meeting_geo (a b c d : Qp) : toP (meetingQ a b c d) = Geo.cutAt (toP a, toP b) (toP c, toP d) := by
  have h1 : (toP (meetingQ a b c d)).x = (Geo.cutAt (toP a, toP b) (toP c, toP d)).x := by
    show a.1 + alongQ a c d / detQ a b c d * (b.1 - a.1) = a.1 + (b.1 - a.1) * (alongQ a c d / detQ a b c d)
    rw [Rat.mul_comm]
  have h2 : (toP (meetingQ a b c d)).y = (Geo.cutAt (toP a, toP b) (toP c, toP d)).y := by
    show a.2 + alongQ a c d / detQ a b c d * (b.2 - a.2) = a.2 + (b.2 - a.2) * (alongQ a c d / detQ a b c d)
    rw [Rat.mul_comm]
  exact Geo.Pt.ext' h1 h2
theorem f1_geo (A B : List Qp) : ∀ R : List Nat, (R.filterMap (f1Q A B)).map toP = (R.map fun i => toP (gt A i)).filter (fun p => @decide (Geo.In (B.map toP) p) (Classical.propDecidable _))
  | [] => rfl
  | i :: R => by
    rw [List.filterMap_cons, List.map_cons, List.filter_cons, ← f1_geo A B R]
    by_cases h : InQ B (gt A i)
    · have e : f1Q A B i = some (gt A i) := by unfold f1Q; rw [if_pos h]
      rw [e, if_pos (by simpa using (InQ_geo _ _).1 h)]
      rfl
    · have e : f1Q A B i = none := by unfold f1Q; rw [if_neg h]
      rw [e, if_neg (by simpa using fun h2 => h ((InQ_geo _ _).2 h2))]
theorem f3_geo (A B : List Qp) (i : Nat) : ∀ R : List Nat, (R.filterMap (f3Q A B i)).map toP = R.flatMap fun k => Geo.meets (A.map toP) (B.map toP) (toP (gt A i), toP (nx A i)) (toP (gt B k), toP (nx B k))
  | [] => rfl
  | k :: R => by
    rw [List.filterMap_cons, List.flatMap_cons, ← f3_geo A B i R]
    unfold Geo.meets
    rw [← meeting_geo]
    by_cases h : detQ (gt A i) (nx A i) (gt B k) (nx B k) ≠ 0 ∧ InQ A (meetingQ (gt A i) (nx A i) (gt B k) (nx B k)) ∧ InQ B (meetingQ (gt A i) (nx A i) (gt B k) (nx B k))
    · have e : f3Q A B i k = some (meetingQ (gt A i) (nx A i) (gt B k) (nx B k)) := by unfold f3Q; rw [if_pos h]
      rw [e, if_pos ⟨h.1, (InQ_geo _ _).1 h.2.1, (InQ_geo _ _).1 h.2.2⟩]
      rfl
    · have e : f3Q A B i k = none := by unfold f3Q; rw [if_neg h]
      rw [e, if_neg (fun h2 => h ⟨h2.1, (InQ_geo _ _).2 h2.2.1, (InQ_geo _ _).2 h2.2.2⟩)]
      rfl
theorem shared_geo (A B : List Qp) : (sharedQ A B).map toP = Geo.shared (A.map toP) (B.map toP) := by
  unfold sharedQ sh2
  rw [nestQ_map, colQ_map, colQ_map, ← List.foldl_append, ← List.foldl_append]
  unfold Geo.shared Geo.cand
  rw [f1_geo, f1_geo, ← map_range, ← map_range, cyc_range, cyc_range, List.map_flatMap, List.flatMap_map]
  congr 1
  rw [List.append_assoc]
  congr 2
  refine congrArg (fun f => List.flatMap f _) (funext fun i => ?_)
  rw [f3_geo, List.flatMap_map]
  rfl
theorem sgQ_pos_iff (q : Rat) : 0 < sgQ q ↔ 0 < q := by
  unfold sgQ
  split
  · rename_i h; subst h; simp
  · rename_i h
    split
    · rename_i h2; exact ⟨fun h3 => absurd h3 (by decide), fun h3 => absurd h3 (by grind)⟩
    · rename_i h2; exact ⟨fun _ => by grind, fun _ => by decide⟩
theorem sgQ_zero_iff (q : Rat) : sgQ q = 0 ↔ q = 0 := by
  unfold sgQ
  split
  · rename_i h; exact ⟨fun _ => h, fun _ => rfl⟩
  · rename_i h
    split <;> exact ⟨fun h3 => absurd h3 (by decide), fun h3 => absurd h3 h⟩
theorem gt_inj {L : List Qp} (hn : L.Nodup) {i j : Nat} (hi : i < L.length) (hj : j < L.length) : gt L i = gt L j ↔ i = j := by
  refine ⟨fun h => ?_, fun h => by rw [h]⟩
  have hp := List.pairwise_iff_getElem.1 hn
  rcases Nat.lt_trichotomy i j with h1 | h1 | h1
  · exact absurd (by rw [gt_get hi, gt_get hj]; exact h) (hp i j hi hj h1)
  · exact h1
  · exact absurd (by rw [gt_get hi, gt_get hj]; exact h.symm) (hp j i hj hi h1)
theorem side_geo {L : List Qp} (hn : L.Nodup) {i k : Nat} (hi : i < L.length) (hk : k < L.length) : SideQ L i k ↔ Geo.SideOf (L.map toP) (toP (gt L i)) (toP (gt L k)) := by
  have key : ∀ j, j < L.length → ((0 < sgQ (crossQ (gt L i) (gt L k) (gt L j)) ∨ (sgQ (crossQ (gt L i) (gt L k) (gt L j)) = 0 ∧ 0 ≤ sgQ (btwR (gt L i) (gt L k) (gt L j)))) ↔
      (0 < Geo.cross (toP (gt L i)) (toP (gt L k)) (toP (gt L j)) ∨ (Geo.cross (toP (gt L i)) (toP (gt L k)) (toP (gt L j)) = 0 ∧ ¬ Geo.Btw (toP (gt L i)) (toP (gt L k)) (toP (gt L j))))) := fun j _ => by
    rw [sgQ_pos_iff, sgQ_zero_iff, sgQ_ge]
    have e : (¬ Geo.Btw (toP (gt L i)) (toP (gt L k)) (toP (gt L j))) ↔ 0 ≤ btwR (gt L i) (gt L k) (gt L j) := Rat.not_lt
    rw [e]
    rfl
  constructor
  · intro h x hx h1 h2
    obtain ⟨q, hq, rfl⟩ := List.mem_map.1 hx
    obtain ⟨j, hj, rfl⟩ := List.mem_iff_getElem.1 hq
    rw [gt_get hj] at h1 h2 ⊢
    exact (key j hj).1 (h j hj (fun e => h1 (by rw [e])) (fun e => h2 (by rw [e])))
  · intro h j hj h1 h2
    refine (key j hj).2 (h _ (List.mem_map.2 ⟨gt L j, ?_, rfl⟩) (fun e => h1 ((gt_inj hn hj hi).1 (toP_inj.1 e))) (fun e => h2 ((gt_inj hn hj hk).1 (toP_inj.1 e))))
    rw [← gt_get hj]
    exact List.getElem_mem hj
theorem inn_sm (L : List Qp) (i : Nat) : ∀ k, innQ L i k = Geo.sm (List.range k) (hullStep L i)
  | 0 => rfl
  | k + 1 => by
    rw [List.range_succ, Geo.sm_append, ← inn_sm L i k, Geo.sm_cons, Geo.sm_nil, Rat.add_zero]
    rfl
theorem out_sm (L : List Qp) : ∀ n, outQ L n = Geo.sm (List.range n) (fun i => Geo.sm (List.range L.length) (hullStep L i))
  | 0 => rfl
  | n + 1 => by
    rw [List.range_succ, Geo.sm_append, ← out_sm L n, Geo.sm_cons, Geo.sm_nil, Rat.add_zero, ← inn_sm]
    rfl
theorem hull_geo {L : List Qp} (hn : L.Nodup) : hullQ L = Geo.hullS (L.map toP) := by
  unfold hullQ Geo.hullS
  rw [out_sm]
  conv => rhs; rw [map_range, Geo.sm_map]
  refine Geo.sm_congr fun i hi => ?_
  rw [Geo.sm_map]
  refine Geo.sm_congr fun k hk => ?_
  have hi' : i < L.length := by simpa using hi
  have hk' : k < L.length := by simpa using hk
  rw [← map_range]
  unfold hullStep
  by_cases h : i ≠ k ∧ SideQ L i k
  · rw [if_pos h, if_pos ⟨fun e => h.1 ((gt_inj hn hi' hk').1 (toP_inj.1 e)), (side_geo hn hi' hk').1 h.2⟩]
    rfl
  · rw [if_neg h, if_neg]
    exact fun h2 => h ⟨fun e => h2.1 (by rw [e]), (side_geo hn hi' hk').2 h2.2⟩
theorem shared_nodup (A B : List Qp) : (sharedQ A B).Nodup := by
  have h : ((sharedQ A B).map toP).Nodup := by
    rw [shared_geo]
    exact (Geo.foldl_addPt _ [] List.nodup_nil).1
  have h2 := List.pairwise_map.1 h
  exact h2.imp fun {a b} hab e => hab (by rw [e])
theorem rpoly_tc {l : List Pl} (h : validC l) (dx : Int) : Geo.TC ((poly l dx).map toP) ∧ 3 ≤ ((poly l dx).map toP).length := by
  refine ⟨?_, ?_⟩
  · rw [poly_pts]; exact h.tc.mv _
  · rw [List.length_map, poly_len]; exact h.1
/-- THE TWO WAYS come to the same. -/
theorem rcommon_eq {la lb : List Pl} (ka : validC la) (kb : validC lb) (dx : Int) : rcommonQ la lb dx = commonQ la lb dx := by
  rw [commonQ_geo]
  unfold rcommonQ
  rw [hull_geo (shared_nodup _ _), shared_geo, ← Geo.common_shared (rpoly_tc ka 0).1 (rpoly_tc ka 0).2 (rpoly_tc kb dx).1 (rpoly_tc kb dx).2]
end Go.Proofs.YtaihplgfbepgpaaGreatDoor

namespace Go.Proofs.YtaihplgfbepgpaaGreatDoor
open Go.RowKit Ar

noncomputable def rareaQ (la : List Pl) : Rat := hullQ (poly la 0) / 2

set_option maxRecDepth 100000 in
set_option maxHeartbeats 3200000 in
theorem rarea_any (la : List Pl) (ma : Bool) (va : Value) (w : World) (ha : IsC w w.heap.size va la ma) (ka : validC la) :
    Calls Tryz.prog 29 #[va] w fun e w' => Below w.heap.size w w' ∧ ∃ v, e = .returned v ∧ IsQ w' w'.heap.size v (rareaQ la) := by
  have h8a := ka.2.1
  have CA := Lib.hid (fun X (h : Below w.heap.size w X) => corners_any la ma va 0 X ((ha.below h).more h.size) (by omega) (by omega) ka.2.2.1)
  have hsa := poly_sz ka.2.2.1 (dx := 0) (by omega)
  have hl2 : ∀ q ∈ poly la 0, szp q ≤ 1000 := fun q hq => Nat.le_trans (hsa q hq) (by omega)
  have hl1 : (poly la 0).length ≤ 200 := by rw [poly_len]; omega
  have HPA : Hid ((la.map fun p => qp p 0) = poly la 0) := rfl
  have HR : Hid (rareaQ la = hullQ (poly la 0) / 2) := rfl
  obtain ⟨A, ca, rfl⟩ := ha.form
  clear ha ka
  go_enter Tryz.func29, Tryz.ntmps29
  go_wp2_with fail
  have hB0 : Below w.heap.size w ((w.alloc (.cells #[.slice A la.length ca, .bool ma] 33)).alloc (.cells #[.bool false, .slice none 0 0, .slice none 0 0] 66)) := (below_alloc w _).alloc (by simp) _
  have kr := Bk.new2 w (.cells #[.slice A la.length ca, .bool ma] 33) 66 #[.bool false, .slice none 0 0, .slice none 0 0]
  refine (CA.out _ hB0).mono ?_
  rintro e w1 ⟨hb1, v1, rfl, z1⟩
  rw [HPA.out] at z1
  have hB1 := hB0.trans (hb1.mono hB0.size)
  replace kr := kr.next' hb1
  go_wp2_with fail
  refine (hull_any _ _ _ z1 hl1 hl2).mono ?_
  rintro e w2 ⟨hb2, v2, rfl, z2⟩
  have hB2 := hB1.trans (hb2.mono hB1.size)
  replace kr := kr.next' hb2
  go_wp2_with fail
  refine (intQ_any 2 _ (by omega)).mono ?_
  rintro e w3 ⟨hb3, v3, rfl, z3⟩
  have hB3 := hB2.trans (hb3.mono hB2.size)
  replace kr := kr.next' hb3
  go_wp2_with fail
  refine (qquot_any _ _ _ _ _ (z2.next hb3) z3 (Nat.le_trans (sz_hull hl2 hl1) (by omega)) (Nat.le_trans (sz_small 2 (by decide)) (by omega))).mono ?_
  rintro e w4 ⟨hb4, v4, rfl, z4⟩
  have hB4 := hB3.trans (hb4.mono hB3.size)
  replace kr := kr.next' hb4
  obtain ⟨t3, A5, l5, c5, A6, l6, c6, rfl⟩ := z4.form
  obtain ⟨e0, e1, e2⟩ := bk3 kr
  have f0 := kr.frozen 0
  have f1 := kr.frozen 1
  have f2 := kr.frozen 2
  have hlt := kr.lt
  clear z1 z2 z3
  go_wp2
  refine bodyPost_ret (v := .agg #[.bool t3, .slice A5 l5 c5, .slice A6 l6 c6]) (by simp [results, Tryz.results29, go_sem, e0, e1, e2]) rfl ?_
  have ST := z4.stored (w := w) kr hB4 (by omega)
  refine ⟨ST.1, _, rfl, ?_⟩
  rw [HR.out]
  exact ST.2
theorem poly_nodup {la : List Pl} (ka : validC la) : (poly la 0).Nodup := by
  have h := (rpoly_tc ka 0).1.nodup (rpoly_tc ka 0).2
  have h2 := List.pairwise_map.1 h
  exact h2.imp fun {a b} hab e => hab (by rw [e])
theorem rarea_eq {la : List Pl} (ka : validC la) : rareaQ la = areaQ (poly la 0) := by
  unfold rareaQ
  rw [areaQ_eq, hull_geo (poly_nodup ka), Geo.area_hull (rpoly_tc ka 0).1 (rpoly_tc ka 0).2]
theorem rareaQ_sz {la : List Pl} (ka : validC la) : sz (rareaQ la) ≤ 1000000001 := by
  unfold rareaQ
  exact half_sz (sz_hull (fun q hq => Nat.le_trans (poly_sz ka.2.2.1 (dx := 0) (by omega) q hq) (by omega)) (by rw [poly_len]; have := ka.2.1; omega))

end Go.Proofs.YtaihplgfbepgpaaGreatDoor
