/-
  Walk: the reference's hull (printed by rpgen4.py).
  Walk: the reference's shared (printed by rpgen5.py).
-/
import Derived.Test.YtaihplgfbepgpaaGreatDoorRpV
import Derived.Test.YtaihplgfbepgpaaGreatDoorRpD
import Derived.Test.YtaihplgfbepgpaaGreatDoorHeldM
namespace Go.Proofs.YtaihplgfbepgpaaGreatDoor
open Go.RowKit Ar

def wQ (p q : Qp) : Rat := p.1 * q.2 - p.2 * q.1
open Classical in
/-- What a pair of points adds; what the pairs of one point add; the sum. -/
noncomputable def hullStep (l : List Qp) (i k : Nat) : Rat := if i ≠ k ∧ SideQ l i k then wQ (gt l i) (gt l k) else 0
noncomputable def innQ (l : List Qp) (i : Nat) : Nat → Rat
  | 0 => 0
  | k + 1 => innQ l i k + hullStep l i k
noncomputable def outQ (l : List Qp) : Nat → Rat
  | 0 => 0
  | i + 1 => outQ l i + innQ l i l.length
noncomputable def hullQ (l : List Qp) : Rat := outQ l l.length
theorem szp_gt {l : List Qp} {K : Nat} (h : ∀ p ∈ l, szp p ≤ K) {i : Nat} (hi : i < l.length) : szp (gt l i) ≤ K := by rw [← gt_get hi]; exact h _ (List.getElem_mem hi)
theorem sz_zero1 : sz 0 ≤ 1 := sz_small 0 (by decide)
theorem sz_step {l : List Qp} {K : Nat} (h : ∀ p ∈ l, szp p ≤ K) {i k : Nat} (hi : i < l.length) (hk : k < l.length) : sz (hullStep l i k) ≤ 4 * K + 1 := by
  unfold hullStep
  split
  · have h1 := szp_gt h hi
    have h2 := szp_gt h hk
    unfold szp at h1 h2
    unfold wQ
    have := sz_sub ((gt l i).1 * (gt l k).2) ((gt l i).2 * (gt l k).1)
    have := sz_mul (gt l i).1 (gt l k).2
    have := sz_mul (gt l i).2 (gt l k).1
    omega
  · have := sz_zero1; omega
theorem sz_inn {l : List Qp} {K : Nat} (h : ∀ p ∈ l, szp p ≤ K) {i : Nat} (hi : i < l.length) (q : Rat) : ∀ k, k ≤ l.length → sz (q + innQ l i k) ≤ sz q + k * (4 * K + 2)
  | 0, _ => by
    have e : q + innQ l i 0 = q := Rat.add_zero q
    rw [e]; omega
  | k + 1, hk => by
    have h1 := sz_inn h hi q k (by omega)
    have h2 := sz_step h hi (k := k) (by omega)
    have e : q + innQ l i (k + 1) = q + innQ l i k + hullStep l i k := (Rat.add_assoc _ _ _).symm
    rw [e]
    have := sz_add (q + innQ l i k) (hullStep l i k)
    have : (k + 1) * (4 * K + 2) = k * (4 * K + 2) + (4 * K + 2) := by rw [Nat.add_mul]; omega
    omega
theorem sz_out {l : List Qp} {K : Nat} (h : ∀ p ∈ l, szp p ≤ K) : ∀ i, i ≤ l.length → sz (outQ l i) ≤ i * (l.length * (4 * K + 2)) + 1
  | 0, _ => by have := sz_zero1; show sz 0 ≤ _; omega
  | i + 1, hi => by
    have h1 := sz_out h i (by omega)
    have h2 := sz_inn h (i := i) (by omega) (outQ l i) l.length (Nat.le_refl _)
    show sz (outQ l i + innQ l i l.length) ≤ _
    have : (i + 1) * (l.length * (4 * K + 2)) = i * (l.length * (4 * K + 2)) + l.length * (4 * K + 2) := by rw [Nat.add_mul]; omega
    omega
theorem sz_acc {l : List Qp} (h : ∀ p ∈ l, szp p ≤ 1000) (hm : l.length ≤ 200) {i k : Nat} (hi : i < l.length) (hk : k ≤ l.length) : sz (outQ l i + innQ l i k) ≤ 1000000000 := by
  have h1 := sz_out h i (by omega)
  have h2 := sz_inn h hi (outQ l i) k hk
  have h3 : i * (l.length * (4 * 1000 + 2)) ≤ 200 * (200 * (4 * 1000 + 2)) := Nat.mul_le_mul (by omega) (Nat.mul_le_mul (by omega) (Nat.le_refl _))
  have h4 : k * (4 * 1000 + 2) ≤ 200 * (4 * 1000 + 2) := Nat.mul_le_mul (by omega) (Nat.le_refl _)
  omega
theorem sz_hull {l : List Qp} (h : ∀ p ∈ l, szp p ≤ 1000) (hm : l.length ≤ 200) : sz (hullQ l) ≤ 1000000000 := by
  have h1 := sz_out h l.length (Nat.le_refl _)
  have h3 : l.length * (l.length * (4 * 1000 + 2)) ≤ 200 * (200 * (4 * 1000 + 2)) := Nat.mul_le_mul (by omega) (Nat.mul_le_mul (by omega) (Nat.le_refl _))
  unfold hullQ
  omega

set_option maxRecDepth 100000 in
set_option maxHeartbeats 6400000 in
theorem hull_any (l : List Qp) (v : Value) (w : World) (h : IsRoly w w.heap.size v l) (hm : l.length ≤ 200) (ll : ∀ q ∈ l, szp q ≤ 1000) :
    Calls Tryz.prog 62 #[v] w fun e w' => Below w.heap.size w w' ∧ ∃ v, e = .returned v ∧ IsQ w' w'.heap.size v (hullQ l) := by
  have hlist := h
  obtain ⟨A, cp, Sl, rfl, hcp, hSl, hr, hS⟩ := h
  go_enter Tryz.func62, Tryz.ntmps62
  go_wp2_with fail
  refine (intQ_any 0 _ (by omega)).mono ?_
  rintro e w1 ⟨hb1, v1, rfl, y1⟩
  obtain ⟨s1, A1, l1, c1, A1', l1', c1', rfl⟩ := y1.form
  have hB1 := (below_alloc w (.cells #[.bool false, .slice none 0 0, .slice none 0 0] 66)).trans (hb1.mono (by simp))
  have k01 := (Bk.new w 66 #[.bool false, .slice none 0 0, .slice none 0 0]).next' hb1
  have hbs0 := k01.lt
  go_wp2_with fail
  refine wp_name (fun W => ∃ bs, bs = w1.heap.size ∧ w.heap.size < bs ∧ Below w.heap.size w W ∧ Bk W w.heap.size 66 #[.bool false, .slice none 0 0, .slice none 0 0] ∧ QAt W bs 0) ⟨_, rfl, hbs0, hB1.alloc (by omega) _, k01.alloc _, qatN y1⟩ ?_
  rintro W ⟨bs, hbs, hbs1, hB0, k0, kS0⟩
  rw [← hbs]
  clear hb1 y1 hB1 k01 hbs0 hbs
  go_loopw [4] (fun x wr => ∃ i : Nat, i ≤ l.length ∧ x = .int .i64 i ∧ Below w.heap.size w wr ∧ Bk wr w.heap.size 66 #[.bool false, .slice none 0 0, .slice none 0 0] ∧ QAt wr bs (outQ l i)) (fun x _ => l.length - (intOf x).toNat)
  case atStart => exact ⟨0, Nat.zero_le _, rfl, hB0, k0, kS0⟩
  case round =>
    obtain ⟨i, hi, rfl, hB, kR, kS⟩ := hrel
    rcases Nat.lt_or_ge i l.length with hlt | hge
    · obtain ⟨si, hsi, hpi⟩ := hS i l[i] (List.getElem?_eq_getElem hlt)
      have li := ll _ (List.getElem_mem hlt)
      rw [gt_get hlt] at hpi li
      obtain ⟨ad, rfl, hab, _⟩ := hr.point hsi
      obtain ⟨hib, hi6⟩ := hr.point' hsi
      have HO : Hid (outQ l (i + 1) = outQ l i + innQ l i l.length) := rfl
      have kS' : QAt wr bs (outQ l i + innQ l i 0) := by
        have e : outQ l i + innQ l i 0 = outQ l i := Rat.add_zero _
        rw [e]; exact kS
      have b1 : (0 : Int) ≤ (i : Int) := by omega
      have b2 : (i : Int) < (l.length : Int) := by omega
      clear kS
      go_wp2_with fail
      go_loopw [5] (fun x wr => ∃ k : Nat, k ≤ l.length ∧ x = .int .i64 k ∧ Below w.heap.size w wr ∧ Bk wr w.heap.size 66 #[.bool false, .slice none 0 0, .slice none 0 0] ∧ QAt wr bs (outQ l i + innQ l i k)) (fun x _ => l.length - (intOf x).toNat)
      case atStart => exact ⟨0, Nat.zero_le _, rfl, hB, kR, kS'⟩
      case round =>
        clear hB kR kS'
        obtain ⟨k, hk, rfl, hB, kR, kS⟩ := hrel
        rcases Nat.lt_or_ge k l.length with hltk | hgek
        · have HA : Hid (outQ l i + innQ l i (k + 1) = outQ l i + innQ l i k + hullStep l i k) := (Rat.add_assoc _ _ _).symm
          have HZ : Hid (hullStep l i k = 0 → outQ l i + innQ l i (k + 1) = outQ l i + innQ l i k) := fun h => by rw [HA.out, h]; exact Rat.add_zero _
          have hacc := sz_acc ll hm hlt (Nat.le_of_lt hltk)
          by_cases hik : i = k
          · have hs0 : hullStep l i k = 0 := by unfold hullStep; rw [if_neg]; exact fun h => h.1 hik
            have hE := Lib.hid (HZ.out hs0)
            have e1 : ((i : Int) != (k : Int)) = false := by simp; omega
            clear HA HZ hs0
            go_wp2
            go_roundw
            case rel => exact ⟨k + 1, by omega, by go_num, hB, kR, by rw [hE.out]; exact kS⟩
            case measure => simp [intOf]; omega
          have e1 : ((i : Int) != (k : Int)) = true := by simp; omega
          obtain ⟨z, hz⟩ : ∃ z : Bool, (z = true ↔ SideQ l i k) := by
            by_cases h : SideQ l i k
            · exact ⟨true, by simp [h]⟩
            · exact ⟨false, by simp [h]⟩
          have SD := side_any l i k _ wr ((hlist.below hB).more hB.size) hlt hltk (by omega) (fun q hq => Nat.le_trans (ll q hq) (by omega)) z hz
          have hsB := hB.size
          go_wp2_with fail
          refine SD.mono ?_
          rintro e W0 ⟨hb0, rfl⟩
          have hB2 := hB.trans (hb0.mono hsB)
          have kR2 := kR.next' hb0
          have kS2 := kS.next hb0
          clear SD kR kS hB hb0 hsB
          cases z with
          | false =>
            have hs0 : hullStep l i k = 0 := by unfold hullStep; rw [if_neg]; exact fun h => absurd (hz.2 h.2) (by simp)
            have hE := Lib.hid (HZ.out hs0)
            clear HA HZ hs0 hz
            go_wp2
            go_roundw
            case rel => exact ⟨k + 1, by omega, by go_num, hB2, kR2, by rw [hE.out]; exact kS2⟩
            case measure => simp [intOf]; omega
          | true =>
          have hs0 : hullStep l i k = (gt l i).1 * (gt l k).2 - (gt l i).2 * (gt l k).1 := by unfold hullStep; rw [if_pos ⟨hik, hz.1 rfl⟩]; rfl
          rw [hs0] at HA
          obtain ⟨sk, hsk, hpk⟩ := hS k l[k] (List.getElem?_eq_getElem hltk)
          have lk := ll _ (List.getElem_mem hltk)
          rw [gt_get hltk] at hpk lk
          obtain ⟨hkb, hk6⟩ := hr.point' hsk
          have hpi2 := (hpi.below hB2).more hB2.size
          have hpk2 := (hpk.below hB2).more hB2.size
          have hsB := hB2.size
          clear HZ hs0 hz hsk hpk
          unfold szp at li lk
          have u1 : sz ((gt l i).1 * (gt l k).2) ≤ 2000 := by have := sz_mul (gt l i).1 (gt l k).2; omega
          have u2 : sz ((gt l i).2 * (gt l k).1) ≤ 2000 := by have := sz_mul (gt l i).2 (gt l k).1; omega
          have u3 : sz ((gt l i).1 * (gt l k).2 - (gt l i).2 * (gt l k).1) ≤ 4001 := by have := sz_sub ((gt l i).1 * (gt l k).2) ((gt l i).2 * (gt l k).1); omega
          have b3 : (0 : Int) ≤ (k : Int) := by omega
          have b4 : (k : Int) < (l.length : Int) := by omega
          have KK : Hid (∀ X, Below W0.heap.size W0 X → ((X.cell? (ad.add (i * 6)) = some (.bool si.b1) ∧ X.cell? ⟨(ad.add (i * 6)).block, (ad.add (i * 6)).off + 1, none⟩ = some si.n1 ∧ X.cell? ⟨(ad.add (i * 6)).block, (ad.add (i * 6)).off + 2, none⟩ = some si.d1 ∧ X.cell? ⟨(ad.add (i * 6)).block, (ad.add (i * 6)).off + 3, none⟩ = some (.bool si.b2) ∧ X.cell? ⟨(ad.add (i * 6)).block, (ad.add (i * 6)).off + 4, none⟩ = some si.n2 ∧ X.cell? ⟨(ad.add (i * 6)).block, (ad.add (i * 6)).off + 5, none⟩ = some si.d2) ∧ (X.cell? (ad.add (k * 6)) = some (.bool sk.b1) ∧ X.cell? ⟨(ad.add (k * 6)).block, (ad.add (k * 6)).off + 1, none⟩ = some sk.n1 ∧ X.cell? ⟨(ad.add (k * 6)).block, (ad.add (k * 6)).off + 2, none⟩ = some sk.d1 ∧ X.cell? ⟨(ad.add (k * 6)).block, (ad.add (k * 6)).off + 3, none⟩ = some (.bool sk.b2) ∧ X.cell? ⟨(ad.add (k * 6)).block, (ad.add (k * 6)).off + 4, none⟩ = some sk.n2 ∧ X.cell? ⟨(ad.add (k * 6)).block, (ad.add (k * 6)).off + 5, none⟩ = some sk.d2))) := fun X h => ⟨hi6.next (hB2.trans (h.mono hsB)) hib, hk6.next (hB2.trans (h.mono hsB)) hkb⟩
          generalize hpq : gt l i = pi at *
          generalize hpq2 : gt l k = pk at *
          clear hpq hpq2
          have C1 := Lib.hid (fun X (h : Below W0.heap.size W0 X) => qprod_any pi.1 pk.2 _ _ X (hpi2.next h).x (hpk2.next h).y (by omega) (by omega))
          obtain ⟨⟨x0, x1, x2, x3, x4, x5⟩, y0, y1, y2, y3, y4, y5⟩ := KK.out W0 (Below.refl _ _)
          go_wp2_with fail
          have bb0 := Below.refl W0.heap.size W0
          have hbs0 := bb0.size
          go_cut [6] from 15 to 56 (fun x wx => ∃ b6, x = .pointer (some ⟨b6, 0, none⟩) ∧ QAt wx b6 (pi.1 * pk.2) ∧ Below W0.heap.size W0 wx ∧ W0.heap.size ≤ b6)
          case first =>
            go_region_held3 (fun X => (X.cell? (ad.add (i * 6)) = some (.bool si.b1) ∧ X.cell? ⟨(ad.add (i * 6)).block, (ad.add (i * 6)).off + 1, none⟩ = some si.n1 ∧ X.cell? ⟨(ad.add (i * 6)).block, (ad.add (i * 6)).off + 2, none⟩ = some si.d1 ∧ X.cell? ⟨(ad.add (i * 6)).block, (ad.add (i * 6)).off + 3, none⟩ = some (.bool si.b2) ∧ X.cell? ⟨(ad.add (i * 6)).block, (ad.add (i * 6)).off + 4, none⟩ = some si.n2 ∧ X.cell? ⟨(ad.add (i * 6)).block, (ad.add (i * 6)).off + 5, none⟩ = some si.d2) ∧ (X.cell? (ad.add (k * 6)) = some (.bool sk.b1) ∧ X.cell? ⟨(ad.add (k * 6)).block, (ad.add (k * 6)).off + 1, none⟩ = some sk.n1 ∧ X.cell? ⟨(ad.add (k * 6)).block, (ad.add (k * 6)).off + 2, none⟩ = some sk.d1 ∧ X.cell? ⟨(ad.add (k * 6)).block, (ad.add (k * 6)).off + 3, none⟩ = some (.bool sk.b2) ∧ X.cell? ⟨(ad.add (k * 6)).block, (ad.add (k * 6)).off + 4, none⟩ = some sk.n2 ∧ X.cell? ⟨(ad.add (k * 6)).block, (ad.add (k * 6)).off + 5, none⟩ = some sk.d2))
              (((with_reducible refine KK.out _ ?_); repeat' (first | (with_reducible exact bb1) | (with_reducible exact bb0) | ((with_reducible refine Below.setCell ?_ ?_ _); rotate_left; (focus first | omega | (simp; done) | (simp; omega) | (unfold World.setCell; simp; omega))) | ((with_reducible refine Below.alloc ?_ ?_ _); rotate_left; (focus first | omega | (simp; done) | (simp; omega) | (unfold World.setCell; simp; omega))) | (with_reducible refine Below.drew ?_))))
              (first
                | (go_at_call 101; (with_reducible refine (C1.out _ ?_).mono ?_); (focus repeat' (first | (with_reducible exact bb0) | ((with_reducible refine Below.setCell ?_ ?_ _); rotate_left; (focus first | omega | (simp; done) | (simp; omega) | (unfold World.setCell; simp; omega))) | ((with_reducible refine Below.alloc ?_ ?_ _); rotate_left; (focus first | omega | (simp; done) | (simp; omega) | (unfold World.setCell; simp; omega))) | (with_reducible refine Below.drew ?_))); rintro e w1 ⟨hb1, v1, rfl, y1⟩; have bb1 : Below W0.heap.size W0 w1 := below_step (by repeat' (first | (with_reducible exact bb0) | ((with_reducible refine Below.setCell ?_ ?_ _); rotate_left; (focus first | omega | (simp; done) | (simp; omega) | (unfold World.setCell; simp; omega))) | ((with_reducible refine Below.alloc ?_ ?_ _); rotate_left; (focus first | omega | (simp; done) | (simp; omega) | (unfold World.setCell; simp; omega))) | (with_reducible refine Below.drew ?_))) hb1; have hbs1 := bb1.size; have rw1 := Below.refl w1.heap.size w1; obtain ⟨t1, A1, l1, e1, A1', l1', e1', rfl⟩ := y1.form; (first | (with_reducible have ka := (Bk.new W0 66 #[.bool false, .slice none 0 0, .slice none 0 0]).drew.next' hb1; have la := ka.lt) | skip); (first | (obtain ⟨i0, i1, i2⟩ := bk3 ka; have f0 := ka.frozen 0; have f1 := ka.frozen 1; have f2 := ka.frozen 2) | skip)))
            all_goals (go_wp2_with fail)
            all_goals go_meet
            all_goals
              refine ⟨_, rfl, ?_, ?_, by omega⟩
              · first | (with_reducible exact qatN y1) | (with_reducible exact qatS ka y1)
              · repeat' (first | (with_reducible exact bb1) | (with_reducible exact bb0) | ((with_reducible refine Below.setCell ?_ ?_ _); rotate_left; (focus first | omega | (simp; done) | (simp; omega) | (unfold World.setCell; simp; omega))) | ((with_reducible refine Below.alloc ?_ ?_ _); rotate_left; (focus first | omega | (simp; done) | (simp; omega) | (unfold World.setCell; simp; omega))) | (with_reducible refine Below.drew ?_))
          case rest =>
          obtain ⟨b6, rfl, X6, hbc, h6⟩ := hcut
          have hB3 := hB2.trans (hbc.mono hsB)
          have hsC := hbc.size
          have kR3 := kR2.next' hbc
          have kS3 := kS2.next hbc
          have hpi3 := hpi2.next hbc
          have hpk3 := hpk2.next hbc
          have KK3 : Hid (∀ X, Below wc.heap.size wc X → ((X.cell? (ad.add (i * 6)) = some (.bool si.b1) ∧ X.cell? ⟨(ad.add (i * 6)).block, (ad.add (i * 6)).off + 1, none⟩ = some si.n1 ∧ X.cell? ⟨(ad.add (i * 6)).block, (ad.add (i * 6)).off + 2, none⟩ = some si.d1 ∧ X.cell? ⟨(ad.add (i * 6)).block, (ad.add (i * 6)).off + 3, none⟩ = some (.bool si.b2) ∧ X.cell? ⟨(ad.add (i * 6)).block, (ad.add (i * 6)).off + 4, none⟩ = some si.n2 ∧ X.cell? ⟨(ad.add (i * 6)).block, (ad.add (i * 6)).off + 5, none⟩ = some si.d2) ∧ (X.cell? (ad.add (k * 6)) = some (.bool sk.b1) ∧ X.cell? ⟨(ad.add (k * 6)).block, (ad.add (k * 6)).off + 1, none⟩ = some sk.n1 ∧ X.cell? ⟨(ad.add (k * 6)).block, (ad.add (k * 6)).off + 2, none⟩ = some sk.d1 ∧ X.cell? ⟨(ad.add (k * 6)).block, (ad.add (k * 6)).off + 3, none⟩ = some (.bool sk.b2) ∧ X.cell? ⟨(ad.add (k * 6)).block, (ad.add (k * 6)).off + 4, none⟩ = some sk.n2 ∧ X.cell? ⟨(ad.add (k * 6)).block, (ad.add (k * 6)).off + 5, none⟩ = some sk.d2))) := fun X h => KK.out X (hbc.trans (h.mono hsC))
          clear KK C1 hpi2 hpk2 kR2 kS2 hB2 bb0 hbs0 hbc x0 x1 x2 x3 x4 x5 y0 y1 y2 y3 y4 y5
          generalize wc = V1 at *
          have C1 := Lib.hid (fun X (h : Below V1.heap.size V1 X) => qprod_any pi.2 pk.1 _ _ X (hpi3.next h).y (hpk3.next h).x (by omega) (by omega))
          obtain ⟨⟨x0, x1, x2, x3, x4, x5⟩, y0, y1, y2, y3, y4, y5⟩ := KK3.out V1 (Below.refl _ _)
          go_wp2_with fail
          have bb0 := Below.refl V1.heap.size V1
          have hbs0 := bb0.size
          go_cut [7] from 15 to 56 (fun x wx => ∃ b7, x = .pointer (some ⟨b7, 0, none⟩) ∧ QAt wx b7 (pi.2 * pk.1) ∧ Below V1.heap.size V1 wx ∧ V1.heap.size ≤ b7)
          case first =>
            go_region_held3 (fun X => (X.cell? (ad.add (i * 6)) = some (.bool si.b1) ∧ X.cell? ⟨(ad.add (i * 6)).block, (ad.add (i * 6)).off + 1, none⟩ = some si.n1 ∧ X.cell? ⟨(ad.add (i * 6)).block, (ad.add (i * 6)).off + 2, none⟩ = some si.d1 ∧ X.cell? ⟨(ad.add (i * 6)).block, (ad.add (i * 6)).off + 3, none⟩ = some (.bool si.b2) ∧ X.cell? ⟨(ad.add (i * 6)).block, (ad.add (i * 6)).off + 4, none⟩ = some si.n2 ∧ X.cell? ⟨(ad.add (i * 6)).block, (ad.add (i * 6)).off + 5, none⟩ = some si.d2) ∧ (X.cell? (ad.add (k * 6)) = some (.bool sk.b1) ∧ X.cell? ⟨(ad.add (k * 6)).block, (ad.add (k * 6)).off + 1, none⟩ = some sk.n1 ∧ X.cell? ⟨(ad.add (k * 6)).block, (ad.add (k * 6)).off + 2, none⟩ = some sk.d1 ∧ X.cell? ⟨(ad.add (k * 6)).block, (ad.add (k * 6)).off + 3, none⟩ = some (.bool sk.b2) ∧ X.cell? ⟨(ad.add (k * 6)).block, (ad.add (k * 6)).off + 4, none⟩ = some sk.n2 ∧ X.cell? ⟨(ad.add (k * 6)).block, (ad.add (k * 6)).off + 5, none⟩ = some sk.d2))
              (((with_reducible refine KK3.out _ ?_); repeat' (first | (with_reducible exact bb1) | (with_reducible exact bb0) | ((with_reducible refine Below.setCell ?_ ?_ _); rotate_left; (focus first | omega | (simp; done) | (simp; omega) | (unfold World.setCell; simp; omega))) | ((with_reducible refine Below.alloc ?_ ?_ _); rotate_left; (focus first | omega | (simp; done) | (simp; omega) | (unfold World.setCell; simp; omega))) | (with_reducible refine Below.drew ?_))))
              (first
                | (go_at_call 101; (with_reducible refine (C1.out _ ?_).mono ?_); (focus repeat' (first | (with_reducible exact bb0) | ((with_reducible refine Below.setCell ?_ ?_ _); rotate_left; (focus first | omega | (simp; done) | (simp; omega) | (unfold World.setCell; simp; omega))) | ((with_reducible refine Below.alloc ?_ ?_ _); rotate_left; (focus first | omega | (simp; done) | (simp; omega) | (unfold World.setCell; simp; omega))) | (with_reducible refine Below.drew ?_))); rintro e w1 ⟨hb1, v1, rfl, y1⟩; have bb1 : Below V1.heap.size V1 w1 := below_step (by repeat' (first | (with_reducible exact bb0) | ((with_reducible refine Below.setCell ?_ ?_ _); rotate_left; (focus first | omega | (simp; done) | (simp; omega) | (unfold World.setCell; simp; omega))) | ((with_reducible refine Below.alloc ?_ ?_ _); rotate_left; (focus first | omega | (simp; done) | (simp; omega) | (unfold World.setCell; simp; omega))) | (with_reducible refine Below.drew ?_))) hb1; have hbs1 := bb1.size; have rw1 := Below.refl w1.heap.size w1; obtain ⟨t1, A1, l1, e1, A1', l1', e1', rfl⟩ := y1.form; (first | (with_reducible have ka := (Bk.new V1 66 #[.bool false, .slice none 0 0, .slice none 0 0]).drew.next' hb1; have la := ka.lt) | skip); (first | (obtain ⟨i0, i1, i2⟩ := bk3 ka; have f0 := ka.frozen 0; have f1 := ka.frozen 1; have f2 := ka.frozen 2) | skip)))
            all_goals (go_wp2_with fail)
            all_goals go_meet
            all_goals
              refine ⟨_, rfl, ?_, ?_, by omega⟩
              · first | (with_reducible exact qatN y1) | (with_reducible exact qatS ka y1)
              · repeat' (first | (with_reducible exact bb1) | (with_reducible exact bb0) | ((with_reducible refine Below.setCell ?_ ?_ _); rotate_left; (focus first | omega | (simp; done) | (simp; omega) | (unfold World.setCell; simp; omega))) | ((with_reducible refine Below.alloc ?_ ?_ _); rotate_left; (focus first | omega | (simp; done) | (simp; omega) | (unfold World.setCell; simp; omega))) | (with_reducible refine Below.drew ?_))
          case rest =>
          obtain ⟨b7, rfl, X7, hbc, h7⟩ := hcut
          have hsD := hbc.size
          have hB4 := hB3.trans (hbc.mono (Nat.le_trans hsB hsC))
          have kR4 := kR3.next' hbc
          have kS4 := kS3.next hbc
          replace X6 := X6.next hbc
          have hl6 := X6.lt
          clear KK3 C1 hpi3 hpk3 kR3 kS3 hB3 bb0 hbs0 hbc x0 x1 x2 x3 x4 x5 y0 y1 y2 y3 y4 y5
          generalize wc = V2 at *
          obtain ⟨s6, A6, l6, c6, A6', l6', c6', k6, f6⟩ := X6
          obtain ⟨s7, A7, l7, c7, A7', l7', c7', k7, f7⟩ := X7
          obtain ⟨s3, A3, l3, c3, A3', l3', c3', k3, f3⟩ := kS4
          have ST0 := And.intro (bk3 k3.drew) (And.intro (bk3 k6.drew) (bk3 k7.drew))
          go_wp2_with fail
          refine wp_region_M 5 (by kernel_rfl) (fun X => (X.cell? ⟨bs, 0, none⟩ = some (.bool s3) ∧ X.cell? ⟨bs, 1, none⟩ = some (.slice A3 l3 c3) ∧ X.cell? ⟨bs, 2, none⟩ = some (.slice A3' l3' c3')) ∧ (X.cell? ⟨b6, 0, none⟩ = some (.bool s6) ∧ X.cell? ⟨b6, 1, none⟩ = some (.slice A6 l6 c6) ∧ X.cell? ⟨b6, 2, none⟩ = some (.slice A6' l6' c6')) ∧ (X.cell? ⟨b7, 0, none⟩ = some (.bool s7) ∧ X.cell? ⟨b7, 1, none⟩ = some (.slice A7 l7 c7) ∧ X.cell? ⟨b7, 2, none⟩ = some (.slice A7' l7' c7'))) ST0 (fun hS0 => ?_)
          refine takeM (i := 0) (v := ?_) rfl (by kernel_rfl) (by decide) (by kernel_rfl) (by kernel_rfl) (by kernel_rfl) (fun _ _ _ h => h) (by rfl) (by assumption) ?_ ?_
          rotate_left
          · intro w hSw; (try dsimp only at hSw); go_simp <;> with_reducible rfl
          try simp only [Act.put, List.setIfInBounds_toArray, List.set_cons_zero, List.set_cons_succ]
          refine takeM (i := 1) (v := ?_) rfl (by kernel_rfl) (by decide) (by kernel_rfl) (by kernel_rfl) (by kernel_rfl) (fun _ _ _ h => h) (by rfl) (by assumption) ?_ ?_
          rotate_left
          · intro w hSw; (try dsimp only at hSw); go_simp <;> with_reducible rfl
          try simp only [Act.put, List.setIfInBounds_toArray, List.set_cons_zero, List.set_cons_succ]
          refine takeM (i := 2) (v := ?_) rfl (by kernel_rfl) (by decide) (by kernel_rfl) (by kernel_rfl) (by kernel_rfl) (fun _ _ _ h => h) (by rfl) (by assumption) ?_ ?_
          rotate_left
          · intro w hSw; (try dsimp only at hSw); go_simp <;> with_reducible rfl
          try simp only [Act.put, List.setIfInBounds_toArray, List.set_cons_zero, List.set_cons_succ]
          clear hS0 ST0
          refine stepM (i := 3) rfl (by kernel_rfl) (fun K0 hK0 => ?_)
          go_simp
          have MM := qminus_any _ _ _ _ V2.drew f6 f7 (by omega) (by omega)
          refine MM.mono ?_
          rintro e w2 ⟨hb2, v2, rfl, yy2⟩
          obtain ⟨t2, A2, l2, c2, A2', l2', c2', rfl⟩ := yy2.form
          have hB5 := hB4.drew.trans (hb2.mono hB4.size)
          have kR5 := kR4.drew.next' hb2
          have k35 := k3.drew.next' hb2
          have hS5 := And.intro (bk3 k35) (And.intro (bk3 (k6.drew.next' hb2)) (bk3 (k7.drew.next' hb2)))
          have f35 := (show IsQ V2.drew V2.drew.heap.size _ _ from f3).next hb2
          have k65 := k6.drew.next' hb2
          have k75 := k7.drew.next' hb2
          have PP := qplus_any _ _ _ _ w2 f35 yy2 (by omega) (by omega)
          clear MM hb2 k3 k6 k7 f6 f7 f3 kR4 hB4
          go_wp2_with fail
          refine hK0.out _ _ (fun _ => hS5) (fun _ => ?_)
          clear hK0 K0
          try simp only [Act.put, List.setIfInBounds_toArray, List.set_cons_zero, List.set_cons_succ]
          refine stepM (i := 4) rfl (by kernel_rfl) (fun K0 hK0 => ?_)
          go_simp
          refine PP.mono ?_
          rintro e w3 ⟨hb3, v3, rfl, yy3⟩
          obtain ⟨t4, A4, l4, c4, A4', l4', c4', rfl⟩ := yy3.form
          have hB6 := hB5.trans (hb3.mono hB5.size)
          have kR6 := kR5.next' hb3
          have k36 := k35.next' hb3
          have hS6 := And.intro (bk3 k36) (And.intro (bk3 (k65.next' hb3)) (bk3 (k75.next' hb3)))
          obtain ⟨d0, d1, d2⟩ := bk3 k36
          have g0 := k36.frozen 0
          have g1 := k36.frozen 1
          have g2 := k36.frozen 2
          clear PP hS5 kR5 k35 f35 yy2 hB5 hb3 k65 k75
          go_wp2_with fail
          refine hK0.out _ _ (fun _ => hS6) (fun _ => ?_)
          clear hK0 K0
          try simp only [Act.put, List.setIfInBounds_toArray, List.set_cons_zero, List.set_cons_succ]
          refine stepM (i := 5) rfl (by kernel_rfl) (fun K0 hK0 => ?_)
          go_simp
          refine hK0.out _ _ (fun h => absurd rfl h) (fun _ => ?_)
          clear hK0 K0
          try simp only [Act.put, List.setIfInBounds_toArray, List.set_cons_zero, List.set_cons_succ]
          refine doneM (by kernel_rfl) ?_ _
          have hB7 := set3_below (x := .bool t4) (y := .slice A4 l4 c4) (z := .slice A4' l4' c4') hB6 (Nat.le_of_lt hbs1)
          have kR7 := bk_far3 (x := .bool t4) (y := .slice A4 l4 c4) (z := .slice A4' l4' c4') kR6 (Nat.ne_of_lt hbs1)
          have kS7 := qatS' k36 yy3
          clear hS6 d0 d1 d2 g0 g1 g2 kR6 k36 yy3 hB6
          unfold set3 at hB7 kR7 kS7
          rw [← HA.out] at kS7
          clear HA
          generalize (((w3.setCell ⟨bs, 0, none⟩ (.bool t4)).setCell ⟨bs, 1, none⟩ (.slice A4 l4 c4)).setCell ⟨bs, 2, none⟩ (.slice A4' l4' c4')) = w4 at *
          go_wp2
          go_roundw
          case rel => exact ⟨k + 1, by omega, by go_num, hB7, kR7, kS7⟩
          case measure => simp [intOf]; omega
        · have hkl : k = l.length := by omega
          subst hkl
          rw [← HO.out] at kS
          go_wp2
          go_roundw
          case rel => exact ⟨i + 1, by omega, by go_num, hB, kR, kS⟩
          case measure => simp [intOf]; omega
    · have hkl : i = l.length := by omega
      subst hkl
      have HQ : Hid (hullQ l = outQ l l.length) := rfl
      obtain ⟨s3, A3, l3, c3, A3', l3', c3', k3, f3⟩ := kS
      obtain ⟨d0, d1, d2⟩ := bk3 k3
      obtain ⟨e0, e1, e2⟩ := bk3 kR
      have g0 := kR.frozen 0
      have g1 := kR.frozen 1
      have g2 := kR.frozen 2
      have hlt3 := kR.lt
      go_wp2
      refine bodyPost_ret (v := .agg #[.bool s3, .slice A3 l3 c3, .slice A3' l3' c3']) (by simp [results, Tryz.results62, go_sem, e0, e1, e2]) rfl ?_
      have ST := f3.stored (w := w) kR hB (Nat.le_refl _)
      refine ⟨ST.1, _, rfl, ?_⟩
      rw [HQ.out]
      exact ST.2
end Go.Proofs.YtaihplgfbepgpaaGreatDoor

namespace Go.Proofs.YtaihplgfbepgpaaGreatDoor
open Go.RowKit Ar

/-- Points collected one after the other. -/
def colQ (f : Nat → Option Qp) (L : List Qp) : Nat → List Qp
  | 0 => L
  | n + 1 => match f n with
    | some p => addQ (colQ f L n) p
    | none => colQ f L n
theorem colQ_some {f : Nat → Option Qp} {L : List Qp} {n : Nat} {p : Qp} (h : f n = some p) : colQ f L (n + 1) = addQ (colQ f L n) p := by simp only [colQ, h]
theorem colQ_none {f : Nat → Option Qp} {L : List Qp} {n : Nat} (h : f n = none) : colQ f L (n + 1) = colQ f L n := by simp only [colQ, h]
def nestQ (g : Nat → Nat → Option Qp) (m : Nat) (L : List Qp) : Nat → List Qp
  | 0 => L
  | n + 1 => colQ (g n) (nestQ g m L n) m
open Classical in
noncomputable def f1Q (A B : List Qp) (i : Nat) : Option Qp := if InQ B (gt A i) then some (gt A i) else none
open Classical in
noncomputable def f3Q (A B : List Qp) (i k : Nat) : Option Qp :=
  if detQ (gt A i) (nx A i) (gt B k) (nx B k) ≠ 0 ∧ InQ A (meetingQ (gt A i) (nx A i) (gt B k) (nx B k)) ∧ InQ B (meetingQ (gt A i) (nx A i) (gt B k) (nx B k)) then some (meetingQ (gt A i) (nx A i) (gt B k) (nx B k)) else none
noncomputable def sh2 (A B : List Qp) : List Qp := colQ (f1Q B A) (colQ (f1Q A B) [] A.length) B.length
noncomputable def sharedQ (A B : List Qp) : List Qp := nestQ (f3Q A B) B.length (sh2 A B) A.length
theorem addQ_len (L : List Qp) (p : Qp) : (addQ L p).length ≤ L.length + 1 := by
  unfold addQ; split
  · omega
  · simp
theorem addQ_mem {L : List Qp} {p x : Qp} (h : x ∈ addQ L p) : x ∈ L ∨ x = p := by
  unfold addQ at h; split at h
  · exact .inl h
  · simpa using h
theorem colQ_ok {f : Nat → Option Qp} {L : List Qp} {P : Qp → Prop} (hL : ∀ q ∈ L, P q) {m : Nat} (hf : ∀ i, i < m → ∀ p, f i = some p → P p) : ∀ n, n ≤ m → (colQ f L n).length ≤ L.length + n ∧ ∀ q ∈ colQ f L n, P q
  | 0, _ => ⟨Nat.le_refl _, hL⟩
  | n + 1, hn => by
    obtain ⟨h1, h2⟩ := colQ_ok hL hf n (by omega)
    cases h : f n with
    | none => rw [colQ_none h]; exact ⟨by omega, h2⟩
    | some p =>
      rw [colQ_some h]
      have := addQ_len (colQ f L n) p
      refine ⟨by omega, fun q hq => ?_⟩
      rcases addQ_mem hq with h3 | h3
      · exact h2 q h3
      · rw [h3]; exact hf n (by omega) p h
theorem nestQ_ok {g : Nat → Nat → Option Qp} {L : List Qp} {P : Qp → Prop} (hL : ∀ q ∈ L, P q) {m M : Nat} (hg : ∀ i k, i < M → k < m → ∀ p, g i k = some p → P p) : ∀ n, n ≤ M → (nestQ g m L n).length ≤ L.length + n * m ∧ ∀ q ∈ nestQ g m L n, P q
  | 0, _ => ⟨by simp [nestQ], hL⟩
  | n + 1, hn => by
    obtain ⟨h1, h2⟩ := nestQ_ok hL hg n (by omega)
    obtain ⟨h3, h4⟩ := colQ_ok h2 (fun k hk p hp => hg n k (by omega) hk p hp) m (Nat.le_refl _)
    refine ⟨?_, h4⟩
    show (colQ (g n) (nestQ g m L n) m).length ≤ _
    rw [Nat.add_mul]
    omega
theorem sz_meeting {a b c d : Qp} (la : szp a ≤ 1) (lb : szp b ≤ 1) (lc : szp c ≤ 1) (ld : szp d ≤ 1) (h : detQ a b c d ≠ 0) : szp (meetingQ a b c d) ≤ 31 := by
  unfold szp at *
  have h1 := sz_sub b.1 a.1
  have h2 := sz_sub b.2 a.2
  have h3 := sz_sub d.1 c.1
  have h4 := sz_sub d.2 c.2
  have h5 := sz_sub c.1 a.1
  have h6 := sz_sub c.2 a.2
  have k1 := sz_mul (b.1 - a.1) (d.2 - c.2)
  have k2 := sz_mul (b.2 - a.2) (d.1 - c.1)
  have k3 := sz_mul (c.1 - a.1) (d.2 - c.2)
  have k4 := sz_mul (c.2 - a.2) (d.1 - c.1)
  have z1 : sz (detQ a b c d) ≤ 13 := by unfold detQ; have := sz_sub ((b.1 - a.1) * (d.2 - c.2)) ((b.2 - a.2) * (d.1 - c.1)); omega
  have z2 : sz (alongQ a c d) ≤ 13 := by unfold alongQ; have := sz_sub ((c.1 - a.1) * (d.2 - c.2)) ((c.2 - a.2) * (d.1 - c.1)); omega
  have z3 := sz_div (alongQ a c d) (detQ a b c d) h
  have z4 := sz_mul (alongQ a c d / detQ a b c d) (b.1 - a.1)
  have z5 := sz_mul (alongQ a c d / detQ a b c d) (b.2 - a.2)
  have z6 := sz_add a.1 (alongQ a c d / detQ a b c d * (b.1 - a.1))
  have z7 := sz_add a.2 (alongQ a c d / detQ a b c d * (b.2 - a.2))
  unfold meetingQ
  simp only
  omega
theorem nx_at {l : List Qp} {i j : Nat} (h : j = (i + 1) % l.length) : nx l i = gt l j := by unfold nx gt; rw [h]
theorem nx_szp {l : List Qp} {K : Nat} (h : ∀ p ∈ l, szp p ≤ K) {i : Nat} (hi : i < l.length) : szp (nx l i) ≤ K := by
  rw [nx_at rfl]
  have hl : (i + 1) % l.length < l.length := Nat.mod_lt _ (by omega)
  rw [← gt_get hl]
  exact h _ (List.getElem_mem hl)
theorem f1_ok {A B : List Qp} (la : ∀ p ∈ A, szp p ≤ 1) : ∀ i, i < A.length → ∀ p, f1Q A B i = some p → szp p ≤ 31 := fun i hi p hp => by
  unfold f1Q at hp
  split at hp
  · injection hp with hp
    rw [← hp, ← gt_get hi]
    exact Nat.le_trans (la _ (List.getElem_mem hi)) (by omega)
  · cases hp
theorem f3_ok {A B : List Qp} (la : ∀ p ∈ A, szp p ≤ 1) (lb : ∀ p ∈ B, szp p ≤ 1) : ∀ i k, i < A.length → k < B.length → ∀ p, f3Q A B i k = some p → szp p ≤ 31 := fun i k hi hk p hp => by
  unfold f3Q at hp
  split at hp
  · rename_i h
    injection hp with hp
    rw [← hp]
    exact sz_meeting (by rw [← gt_get hi]; exact la _ (List.getElem_mem hi)) (nx_szp la hi) (by rw [← gt_get hk]; exact lb _ (List.getElem_mem hk)) (nx_szp lb hk) h.1
  · cases hp
theorem sh1_ok {A B : List Qp} (la : ∀ p ∈ A, szp p ≤ 1) (n : Nat) (hn : n ≤ A.length) : (colQ (f1Q A B) [] n).length ≤ n ∧ ∀ q ∈ colQ (f1Q A B) [] n, szp q ≤ 31 := by
  have := colQ_ok (L := []) (P := fun q => szp q ≤ 31) (fun q hq => by cases hq) (f1_ok (B := B) la) n hn
  simpa using this
theorem sh2_ok {A B : List Qp} (la : ∀ p ∈ A, szp p ≤ 1) (lb : ∀ p ∈ B, szp p ≤ 1) (n : Nat) (hn : n ≤ B.length) : (colQ (f1Q B A) (colQ (f1Q A B) [] A.length) n).length ≤ A.length + n ∧ ∀ q ∈ colQ (f1Q B A) (colQ (f1Q A B) [] A.length) n, szp q ≤ 31 := by
  obtain ⟨h1, h2⟩ := sh1_ok (B := B) la A.length (Nat.le_refl _)
  obtain ⟨h3, h4⟩ := colQ_ok h2 (f1_ok (B := A) lb) n hn
  exact ⟨by omega, h4⟩
theorem sh3_ok {A B : List Qp} (la : ∀ p ∈ A, szp p ≤ 1) (lb : ∀ p ∈ B, szp p ≤ 1) (n : Nat) (hn : n ≤ A.length) : (nestQ (f3Q A B) B.length (sh2 A B) n).length ≤ A.length + B.length + n * B.length ∧ ∀ q ∈ nestQ (f3Q A B) B.length (sh2 A B) n, szp q ≤ 31 := by
  obtain ⟨h1, h2⟩ := sh2_ok la lb B.length (Nat.le_refl _)
  obtain ⟨h3, h4⟩ := nestQ_ok (L := sh2 A B) h2 (f3_ok la lb) n hn
  have : (sh2 A B).length ≤ A.length + B.length := h1
  exact ⟨by omega, h4⟩
theorem sh4_ok {A B : List Qp} (la : ∀ p ∈ A, szp p ≤ 1) (lb : ∀ p ∈ B, szp p ≤ 1) (i : Nat) (hi : i < A.length) (n : Nat) (hn : n ≤ B.length) : (colQ (f3Q A B i) (nestQ (f3Q A B) B.length (sh2 A B) i) n).length ≤ A.length + B.length + i * B.length + n ∧ ∀ q ∈ colQ (f3Q A B i) (nestQ (f3Q A B) B.length (sh2 A B) i) n, szp q ≤ 31 := by
  obtain ⟨h1, h2⟩ := sh3_ok la lb i (by omega)
  obtain ⟨h3, h4⟩ := colQ_ok h2 (fun k hk p hp => f3_ok la lb i k hi hk p hp) n hn
  exact ⟨by omega, h4⟩
section
variable {w : World} {b : Nat} {t1 t2 : Bool} {A1 A1' A2 A3 : Option Addr} {l1 c1 l1' c1' l2 c2 l3 c3 : Nat} {p : Qp} {P : Prop}
theorem rtN (h : P → IsRt w w.heap.size ⟨t1, .slice A1 l1 c1, .slice A1' l1' c1', t2, .slice A2 l2 c2, .slice A3 l3 c3⟩ p) : Bk (w.alloc (.cells #[.bool t1, .slice A1 l1 c1, .slice A1' l1' c1', .bool t2, .slice A2 l2 c2, .slice A3 l3 c3] 135)) w.heap.size 135 (Sx.cells ⟨t1, .slice A1 l1 c1, .slice A1' l1' c1', t2, .slice A2 l2 c2, .slice A3 l3 c3⟩).toArray ∧ (P → IsRt (w.alloc (.cells #[.bool t1, .slice A1 l1 c1, .slice A1' l1' c1', .bool t2, .slice A2 l2 c2, .slice A3 l3 c3] 135)) (w.alloc (.cells #[.bool t1, .slice A1 l1 c1, .slice A1' l1' c1', .bool t2, .slice A2 l2 c2, .slice A3 l3 c3] 135)).heap.size ⟨t1, .slice A1 l1 c1, .slice A1' l1' c1', t2, .slice A2 l2 c2, .slice A3 l3 c3⟩ p) :=
  ⟨Bk.new _ _ _, fun hp => (h hp).next (below_alloc w _)⟩
theorem rtS (k : Bk w b 135 #[.bool false, .slice none 0 0, .slice none 0 0, .bool false, .slice none 0 0, .slice none 0 0]) (h : P → IsRt w w.heap.size ⟨t1, .slice A1 l1 c1, .slice A1' l1' c1', t2, .slice A2 l2 c2, .slice A3 l3 c3⟩ p) : Bk ((((((w.setCell ⟨b, 0, none⟩ (.bool t1)).setCell ⟨b, 1, none⟩ (.slice A1 l1 c1)).setCell ⟨b, 2, none⟩ (.slice A1' l1' c1')).setCell ⟨b, 3, none⟩ (.bool t2)).setCell ⟨b, 4, none⟩ (.slice A2 l2 c2)).setCell ⟨b, 5, none⟩ (.slice A3 l3 c3)) b 135 (Sx.cells ⟨t1, .slice A1 l1 c1, .slice A1' l1' c1', t2, .slice A2 l2 c2, .slice A3 l3 c3⟩).toArray ∧ (P → IsRt ((((((w.setCell ⟨b, 0, none⟩ (.bool t1)).setCell ⟨b, 1, none⟩ (.slice A1 l1 c1)).setCell ⟨b, 2, none⟩ (.slice A1' l1' c1')).setCell ⟨b, 3, none⟩ (.bool t2)).setCell ⟨b, 4, none⟩ (.slice A2 l2 c2)).setCell ⟨b, 5, none⟩ (.slice A3 l3 c3)) ((((((w.setCell ⟨b, 0, none⟩ (.bool t1)).setCell ⟨b, 1, none⟩ (.slice A1 l1 c1)).setCell ⟨b, 2, none⟩ (.slice A1' l1' c1')).setCell ⟨b, 3, none⟩ (.bool t2)).setCell ⟨b, 4, none⟩ (.slice A2 l2 c2)).setCell ⟨b, 5, none⟩ (.slice A3 l3 c3)).heap.size ⟨t1, .slice A1 l1 c1, .slice A1' l1' c1', t2, .slice A2 l2 c2, .slice A3 l3 c3⟩ p) :=
  ⟨set6_bk (s := ⟨t1, .slice A1 l1 c1, .slice A1' l1' c1', t2, .slice A2 l2 c2, .slice A3 l3 c3⟩) (s0 := szero) k, fun hp => IsRt.more ((h hp).kept (set6_ints (s := ⟨t1, .slice A1 l1 c1, .slice A1' l1' c1', t2, .slice A2 l2 c2, .slice A3 l3 c3⟩) (s0 := szero) k szero_plain)) (by rw [show ((((((w.setCell ⟨b, 0, none⟩ (.bool t1)).setCell ⟨b, 1, none⟩ (.slice A1 l1 c1)).setCell ⟨b, 2, none⟩ (.slice A1' l1' c1')).setCell ⟨b, 3, none⟩ (.bool t2)).setCell ⟨b, 4, none⟩ (.slice A2 l2 c2)).setCell ⟨b, 5, none⟩ (.slice A3 l3 c3)) = set6 w b ⟨t1, .slice A1 l1 c1, .slice A1' l1' c1', t2, .slice A2 l2 c2, .slice A3 l3 c3⟩ from rfl, set6_size]; exact Nat.le_refl _)⟩
end

set_option maxRecDepth 100000 in
set_option maxHeartbeats 3200000 in
theorem shared_any (la lb : List Qp) (va vb : Value) (w : World) (ha : IsRoly w w.heap.size va la) (hb : IsRoly w w.heap.size vb lb) (hma : la.length ≤ 8) (hmb : lb.length ≤ 8) (lla : ∀ q ∈ la, szp q ≤ 1) (llb : ∀ q ∈ lb, szp q ≤ 1) :
    Calls Tryz.prog 105 #[va, vb] w fun e w' => Below w.heap.size w w' ∧ ∃ v, e = .returned v ∧ IsRoly w' w'.heap.size v (sharedQ la lb) := by
  have hA := ha
  have hB' := hb
  obtain ⟨A, ca, Sa, rfl, hca, hSa, hra, hSA⟩ := ha
  obtain ⟨B, cb, Sb, rfl, hcb, hSb, hrb, hSB⟩ := hb
  go_enter Tryz.func105, Tryz.ntmps105
  go_wp2_with fail
  go_loopw [5, 6] (fun u x wr => ∃ i : Nat, i ≤ la.length ∧ x = .int .i64 i ∧ Below w.heap.size w wr ∧ OwnRoly wr w.heap.size u (colQ (f1Q la lb) [] i)) (fun _ x _ => la.length - (intOf x).toNat)
  case atStart => exact ⟨0, Nat.zero_le _, rfl, Below.refl _ _, OwnRoly.nil _ _⟩
  case round =>
    obtain ⟨i, hi, rfl, hB, hO⟩ := hrel
    rcases Nat.lt_or_ge i la.length with hlt | hge
    · obtain ⟨sp, hsp, hpp⟩ := hSA i la[i] (List.getElem?_eq_getElem hlt)
      have lp := lla _ (List.getElem_mem hlt)
      rw [gt_get hlt] at hpp lp
      obtain ⟨ad, rfl, hab, _⟩ := hra.point hsp
      obtain ⟨hpb, hp6⟩ := hra.point' hsp
      have b1 : (0 : Int) ≤ (i : Int) := by omega
      have b2 : (i : Int) < (la.length : Int) := by omega
      have hbs := hB.size
      have hp2 := (hpp.below hB).more hbs
      obtain ⟨hl1, hl2⟩ := sh1_ok (B := lb) lla i hi
      obtain ⟨z, hz⟩ := bool_of (InQ lb (gt la i))
      have I1 := inside_any lb (gt la i) _ sp wr ((hB'.below hB).more hbs) hp2 (by omega) (by omega) (fun q hq => Nat.le_trans (llb q hq) (by omega)) z hz
      unfold Sx.val at I1
      obtain ⟨x0, x1, x2, x3, x4, x5⟩ := hp6.next hB hpb
      go_wp2_with fail
      refine I1.mono ?_
      rintro e w1 ⟨hb1, rfl⟩
      have hB1 := hB.trans (hb1.mono hbs)
      have hO1 := hO.keep hb1
      have hp3 := hp2.next hb1
      clear I1 x0 x1 x2 x3 x4 x5 hO hB hp2 hb1 hbs
      cases z with
      | false =>
        have hE : Hid (colQ (f1Q la lb) [] (i + 1) = colQ (f1Q la lb) [] i) := colQ_none (by unfold f1Q; rw [if_neg]; exact fun h => absurd (hz.2 h) (by simp))
        clear hz
        go_wp2
        go_roundw
        case rel => exact ⟨i + 1, by omega, by go_num, hB1, by rw [hE.out]; exact hO1⟩
        case measure => simp [intOf]; omega
      | true =>
        have hE : Hid (colQ (f1Q la lb) [] (i + 1) = addQ (colQ (f1Q la lb) [] i) (gt la i)) := colQ_some (by unfold f1Q; rw [if_pos (hz.1 rfl)])
        have I2 := added_any w.heap.size _ (gt la i) _ sp w1 hB1.size hO1 hp3 (by omega) (by omega) (fun q hq => Nat.le_trans (hl2 q hq) (by omega))
        unfold Sx.val at I2
        obtain ⟨x0, x1, x2, x3, x4, x5⟩ := hp6.next hB1 hpb
        clear hz
        go_wp2_with fail
        refine I2.mono ?_
        rintro e w2 ⟨hb2, v2, rfl, hO2⟩
        have hB2 := hB1.trans hb2
        clear I2 x0 x1 x2 x3 x4 x5 hO1 hB1 hb2 hp3
        go_wp2
        go_roundw
        case rel => exact ⟨i + 1, by omega, by go_num, hB2, by rw [hE.out]; exact hO2⟩
        case measure => simp [intOf]; omega
    · have hkl : i = la.length := by omega
      subst hkl
      have hOp1 := hO
      have hBp1 := hB
      clear hO hB
      go_wp2_with fail
      go_loopw [5, 7] (fun u x wr => ∃ i : Nat, i ≤ lb.length ∧ x = .int .i64 i ∧ Below w.heap.size w wr ∧ OwnRoly wr w.heap.size u (colQ (f1Q lb la) (colQ (f1Q la lb) [] la.length) i)) (fun _ x _ => lb.length - (intOf x).toNat)
      case atStart => exact ⟨0, Nat.zero_le _, rfl, hBp1, hOp1⟩
      case round =>
        obtain ⟨i, hi, rfl, hB, hO⟩ := hrel
        rcases Nat.lt_or_ge i lb.length with hlt | hge
        · obtain ⟨sp, hsp, hpp⟩ := hSB i lb[i] (List.getElem?_eq_getElem hlt)
          have lp := llb _ (List.getElem_mem hlt)
          rw [gt_get hlt] at hpp lp
          obtain ⟨ad, rfl, hab, _⟩ := hrb.point hsp
          obtain ⟨hpb, hp6⟩ := hrb.point' hsp
          have b1 : (0 : Int) ≤ (i : Int) := by omega
          have b2 : (i : Int) < (lb.length : Int) := by omega
          have hbs := hB.size
          have hp2 := (hpp.below hB).more hbs
          obtain ⟨hl1, hl2⟩ := sh2_ok lla llb i hi
          obtain ⟨z, hz⟩ := bool_of (InQ la (gt lb i))
          have I1 := inside_any la (gt lb i) _ sp wr ((hA.below hB).more hbs) hp2 (by omega) (by omega) (fun q hq => Nat.le_trans (lla q hq) (by omega)) z hz
          unfold Sx.val at I1
          obtain ⟨x0, x1, x2, x3, x4, x5⟩ := hp6.next hB hpb
          go_wp2_with fail
          refine I1.mono ?_
          rintro e w1 ⟨hb1, rfl⟩
          have hB1 := hB.trans (hb1.mono hbs)
          have hO1 := hO.keep hb1
          have hp3 := hp2.next hb1
          clear I1 x0 x1 x2 x3 x4 x5 hO hB hp2 hb1 hbs
          cases z with
          | false =>
            have hE : Hid (colQ (f1Q lb la) (colQ (f1Q la lb) [] la.length) (i + 1) = colQ (f1Q lb la) (colQ (f1Q la lb) [] la.length) i) := colQ_none (by unfold f1Q; rw [if_neg]; exact fun h => absurd (hz.2 h) (by simp))
            clear hz
            go_wp2
            go_roundw
            case rel => exact ⟨i + 1, by omega, by go_num, hB1, by rw [hE.out]; exact hO1⟩
            case measure => simp [intOf]; omega
          | true =>
            have hE : Hid (colQ (f1Q lb la) (colQ (f1Q la lb) [] la.length) (i + 1) = addQ (colQ (f1Q lb la) (colQ (f1Q la lb) [] la.length) i) (gt lb i)) := colQ_some (by unfold f1Q; rw [if_pos (hz.1 rfl)])
            have I2 := added_any w.heap.size _ (gt lb i) _ sp w1 hB1.size hO1 hp3 (by omega) (by omega) (fun q hq => Nat.le_trans (hl2 q hq) (by omega))
            unfold Sx.val at I2
            obtain ⟨x0, x1, x2, x3, x4, x5⟩ := hp6.next hB1 hpb
            clear hz
            go_wp2_with fail
            refine I2.mono ?_
            rintro e w2 ⟨hb2, v2, rfl, hO2⟩
            have hB2 := hB1.trans hb2
            clear I2 x0 x1 x2 x3 x4 x5 hO1 hB1 hb2 hp3
            go_wp2
            go_roundw
            case rel => exact ⟨i + 1, by omega, by go_num, hB2, by rw [hE.out]; exact hO2⟩
            case measure => simp [intOf]; omega
        · have hkl : i = lb.length := by omega
          subst hkl
          have hOp2 := hO
          have hBp2 := hB
          clear hO hB
          go_wp2_with fail
          go_loopw [5, 8] (fun u x wr => ∃ i : Nat, i ≤ la.length ∧ x = .int .i64 i ∧ Below w.heap.size w wr ∧ OwnRoly wr w.heap.size u (nestQ (f3Q la lb) lb.length (sh2 la lb) i)) (fun _ x _ => la.length - (intOf x).toNat)
          case atStart => exact ⟨0, Nat.zero_le _, rfl, hBp2, hOp2⟩
          case round =>
            obtain ⟨i, hi, rfl, hB, hO⟩ := hrel
            rcases Nat.lt_or_ge i la.length with hlt | hge
            · obtain ⟨i1, hi1⟩ : ∃ j, j = (i + 1) % la.length := ⟨_, rfl⟩
              have hl1 : i1 < la.length := by rw [hi1]; exact Nat.mod_lt _ (by omega)
              have m1 : ((i : Int) + 1).tmod (la.length : Int) = (i1 : Int) := by rw [hi1]; rfl
              have n0 : ¬ la.length = 0 := by omega
              have ww1 : IntKind.i64.wrap ((i : Int) + 1) = (i : Int) + 1 := IntWalk.i64_in _ (by omega)
              obtain ⟨sa, hsa, hpa⟩ := hSA i la[i] (List.getElem?_eq_getElem hlt)
              obtain ⟨sb, hsb, hpb⟩ := hSA i1 la[i1] (List.getElem?_eq_getElem hl1)
              have lpa := lla _ (List.getElem_mem hlt)
              have lpb := lla _ (List.getElem_mem hl1)
              rw [gt_get hlt] at hpa lpa
              rw [gt_get hl1, ← nx_at hi1] at hpb lpb
              obtain ⟨ad, rfl, hab, _⟩ := hra.point hsa
              obtain ⟨hab0, ha6⟩ := hra.point' hsa
              obtain ⟨hbb0, hb6⟩ := hra.point' hsb
              have b1 : (0 : Int) ≤ (i : Int) := by omega
              have b2 : (i : Int) < (la.length : Int) := by omega
              have HN : Hid (nestQ (f3Q la lb) lb.length (sh2 la lb) (i + 1) = colQ (f3Q la lb i) (nestQ (f3Q la lb) lb.length (sh2 la lb) i) lb.length) := rfl
              have hO' : OwnRoly wr w.heap.size u5 (colQ (f3Q la lb i) (nestQ (f3Q la lb) lb.length (sh2 la lb) i) 0) := hO
              have hmul : i * lb.length ≤ 7 * 8 := Nat.mul_le_mul (by omega) hmb
              clear hO hi1
              go_wp2_with fail
              go_loopw [5, 9] (fun u x wr => ∃ k : Nat, k ≤ lb.length ∧ x = .int .i64 k ∧ Below w.heap.size w wr ∧ OwnRoly wr w.heap.size u (colQ (f3Q la lb i) (nestQ (f3Q la lb) lb.length (sh2 la lb) i) k)) (fun _ x _ => lb.length - (intOf x).toNat)
              case atStart => exact ⟨0, Nat.zero_le _, rfl, hB, hO'⟩
              case round =>
                clear hB hO'
                obtain ⟨k, hk, rfl, hB, hO⟩ := hrel
                rcases Nat.lt_or_ge k lb.length with hltk | hgek
                · obtain ⟨k1, hk1⟩ : ∃ j, j = (k + 1) % lb.length := ⟨_, rfl⟩
                  have hl2 : k1 < lb.length := by rw [hk1]; exact Nat.mod_lt _ (by omega)
                  have m2 : ((k : Int) + 1).tmod (lb.length : Int) = (k1 : Int) := by rw [hk1]; rfl
                  have n2 : ¬ lb.length = 0 := by omega
                  have ww2 : IntKind.i64.wrap ((k : Int) + 1) = (k : Int) + 1 := IntWalk.i64_in _ (by omega)
                  obtain ⟨sc, hsc, hpc⟩ := hSB k lb[k] (List.getElem?_eq_getElem hltk)
                  obtain ⟨sd, hsd, hpd⟩ := hSB k1 lb[k1] (List.getElem?_eq_getElem hl2)
                  have lpc := llb _ (List.getElem_mem hltk)
                  have lpd := llb _ (List.getElem_mem hl2)
                  rw [gt_get hltk] at hpc lpc
                  rw [gt_get hl2, ← nx_at hk1] at hpd lpd
                  obtain ⟨bd, rfl, hbd, _⟩ := hrb.point hsc
                  obtain ⟨hcb0, hc6⟩ := hrb.point' hsc
                  obtain ⟨hdb0, hd6⟩ := hrb.point' hsd
                  have b3 : (0 : Int) ≤ (k : Int) := by omega
                  have b4 : (k : Int) < (lb.length : Int) := by omega
                  have hbs := hB.size
                  obtain ⟨hq1, hq2⟩ := sh4_ok lla llb i hlt k hk
                  have HS : Hid (∀ p, f3Q la lb i k = some p → colQ (f3Q la lb i) (nestQ (f3Q la lb) lb.length (sh2 la lb) i) (k + 1) = addQ (colQ (f3Q la lb i) (nestQ (f3Q la lb) lb.length (sh2 la lb) i) k) p) := fun p h => colQ_some h
                  have HO0 : Hid (f3Q la lb i k = none → colQ (f3Q la lb i) (nestQ (f3Q la lb) lb.length (sh2 la lb) i) (k + 1) = colQ (f3Q la lb i) (nestQ (f3Q la lb) lb.length (sh2 la lb) i) k) := fun h => colQ_none h
                  have HF : Hid (∀ m, meetingQ (gt la i) (nx la i) (gt lb k) (nx lb k) = m → (detQ (gt la i) (nx la i) (gt lb k) (nx lb k) ≠ 0 → InQ la m → InQ lb m → f3Q la lb i k = some m) ∧ (¬ (detQ (gt la i) (nx la i) (gt lb k) (nx lb k) ≠ 0 ∧ InQ la m ∧ InQ lb m) → f3Q la lb i k = none)) := fun m hm => by
                    subst hm
                    exact ⟨fun h1 h2 h3 => by unfold f3Q; rw [if_pos ⟨h1, h2, h3⟩], fun h => by unfold f3Q; rw [if_neg h]⟩
                  have HSZ : Hid (detQ (gt la i) (nx la i) (gt lb k) (nx lb k) ≠ 0 → szp (meetingQ (gt la i) (nx la i) (gt lb k) (nx lb k)) ≤ 31) := fun h => sz_meeting lpa lpb lpc lpd h
                  have pa2 := (hpa.below hB).more hbs
                  have pb2 := (hpb.below hB).more hbs
                  have pc2 := (hpc.below hB).more hbs
                  have pd2 := (hpd.below hB).more hbs
                  have M1 := Lib.hid (fun X (h : Below wr.heap.size wr X) => meeting_any (gt la i) (nx la i) (gt lb k) (nx lb k) sa sb sc sd X (pa2.next h) (pb2.next h) (pc2.next h) (pd2.next h) (by omega) (by omega) (by omega) (by omega))
                  unfold Sx.val at M1
                  have KK : Hid (∀ X, Below wr.heap.size wr X → ((X.cell? (ad.add (i * 6)) = some (.bool sa.b1) ∧ X.cell? ⟨(ad.add (i * 6)).block, (ad.add (i * 6)).off + 1, none⟩ = some sa.n1 ∧ X.cell? ⟨(ad.add (i * 6)).block, (ad.add (i * 6)).off + 2, none⟩ = some sa.d1 ∧ X.cell? ⟨(ad.add (i * 6)).block, (ad.add (i * 6)).off + 3, none⟩ = some (.bool sa.b2) ∧ X.cell? ⟨(ad.add (i * 6)).block, (ad.add (i * 6)).off + 4, none⟩ = some sa.n2 ∧ X.cell? ⟨(ad.add (i * 6)).block, (ad.add (i * 6)).off + 5, none⟩ = some sa.d2) ∧ (X.cell? (ad.add (i1 * 6)) = some (.bool sb.b1) ∧ X.cell? ⟨(ad.add (i1 * 6)).block, (ad.add (i1 * 6)).off + 1, none⟩ = some sb.n1 ∧ X.cell? ⟨(ad.add (i1 * 6)).block, (ad.add (i1 * 6)).off + 2, none⟩ = some sb.d1 ∧ X.cell? ⟨(ad.add (i1 * 6)).block, (ad.add (i1 * 6)).off + 3, none⟩ = some (.bool sb.b2) ∧ X.cell? ⟨(ad.add (i1 * 6)).block, (ad.add (i1 * 6)).off + 4, none⟩ = some sb.n2 ∧ X.cell? ⟨(ad.add (i1 * 6)).block, (ad.add (i1 * 6)).off + 5, none⟩ = some sb.d2) ∧ (X.cell? (bd.add (k * 6)) = some (.bool sc.b1) ∧ X.cell? ⟨(bd.add (k * 6)).block, (bd.add (k * 6)).off + 1, none⟩ = some sc.n1 ∧ X.cell? ⟨(bd.add (k * 6)).block, (bd.add (k * 6)).off + 2, none⟩ = some sc.d1 ∧ X.cell? ⟨(bd.add (k * 6)).block, (bd.add (k * 6)).off + 3, none⟩ = some (.bool sc.b2) ∧ X.cell? ⟨(bd.add (k * 6)).block, (bd.add (k * 6)).off + 4, none⟩ = some sc.n2 ∧ X.cell? ⟨(bd.add (k * 6)).block, (bd.add (k * 6)).off + 5, none⟩ = some sc.d2) ∧ (X.cell? (bd.add (k1 * 6)) = some (.bool sd.b1) ∧ X.cell? ⟨(bd.add (k1 * 6)).block, (bd.add (k1 * 6)).off + 1, none⟩ = some sd.n1 ∧ X.cell? ⟨(bd.add (k1 * 6)).block, (bd.add (k1 * 6)).off + 2, none⟩ = some sd.d1 ∧ X.cell? ⟨(bd.add (k1 * 6)).block, (bd.add (k1 * 6)).off + 3, none⟩ = some (.bool sd.b2) ∧ X.cell? ⟨(bd.add (k1 * 6)).block, (bd.add (k1 * 6)).off + 4, none⟩ = some sd.n2 ∧ X.cell? ⟨(bd.add (k1 * 6)).block, (bd.add (k1 * 6)).off + 5, none⟩ = some sd.d2))) := fun X h => ⟨ha6.next (hB.trans (h.mono hbs)) hab0, hb6.next (hB.trans (h.mono hbs)) hbb0, hc6.next (hB.trans (h.mono hbs)) hcb0, hd6.next (hB.trans (h.mono hbs)) hdb0⟩
                  generalize meetingQ (gt la i) (nx la i) (gt lb k) (nx lb k) = mt at *
                  generalize detQ (gt la i) (nx la i) (gt lb k) (nx lb k) = dt at *
                  replace HF := Lib.hid (HF.out mt rfl)
                  generalize f3Q la lb i k = fo at HS HO0 HF
                  clear hsc hsd hpc hpd pa2 pb2 pc2 pd2 lpc lpd hk1
                  obtain ⟨⟨x0, x1, x2, x3, x4, x5⟩, ⟨y0, y1, y2, y3, y4, y5⟩, ⟨z0, z1, z2, z3, z4, z5⟩, v0, v1, v2, v3, v4, v5⟩ := KK.out wr (Below.refl _ _)
                  have bb0 := Below.refl wr.heap.size wr
                  have hbs0 := bb0.size
                  go_wp2_with fail
                  go_cut [10, 11] from 54 to 101 (fun x y wx => ∃ (b10 : Nat) (s : Sx), x = .pointer (some ⟨b10, 0, none⟩) ∧ y = .bool (!decide (dt = 0)) ∧ Bk wx b10 135 s.cells.toArray ∧ (dt ≠ 0 → IsRt wx wx.heap.size s mt) ∧ Below wr.heap.size wr wx)
                  case first =>
                    go_region_held3 (fun X => (X.cell? (ad.add (i * 6)) = some (.bool sa.b1) ∧ X.cell? ⟨(ad.add (i * 6)).block, (ad.add (i * 6)).off + 1, none⟩ = some sa.n1 ∧ X.cell? ⟨(ad.add (i * 6)).block, (ad.add (i * 6)).off + 2, none⟩ = some sa.d1 ∧ X.cell? ⟨(ad.add (i * 6)).block, (ad.add (i * 6)).off + 3, none⟩ = some (.bool sa.b2) ∧ X.cell? ⟨(ad.add (i * 6)).block, (ad.add (i * 6)).off + 4, none⟩ = some sa.n2 ∧ X.cell? ⟨(ad.add (i * 6)).block, (ad.add (i * 6)).off + 5, none⟩ = some sa.d2) ∧ (X.cell? (ad.add (i1 * 6)) = some (.bool sb.b1) ∧ X.cell? ⟨(ad.add (i1 * 6)).block, (ad.add (i1 * 6)).off + 1, none⟩ = some sb.n1 ∧ X.cell? ⟨(ad.add (i1 * 6)).block, (ad.add (i1 * 6)).off + 2, none⟩ = some sb.d1 ∧ X.cell? ⟨(ad.add (i1 * 6)).block, (ad.add (i1 * 6)).off + 3, none⟩ = some (.bool sb.b2) ∧ X.cell? ⟨(ad.add (i1 * 6)).block, (ad.add (i1 * 6)).off + 4, none⟩ = some sb.n2 ∧ X.cell? ⟨(ad.add (i1 * 6)).block, (ad.add (i1 * 6)).off + 5, none⟩ = some sb.d2) ∧ (X.cell? (bd.add (k * 6)) = some (.bool sc.b1) ∧ X.cell? ⟨(bd.add (k * 6)).block, (bd.add (k * 6)).off + 1, none⟩ = some sc.n1 ∧ X.cell? ⟨(bd.add (k * 6)).block, (bd.add (k * 6)).off + 2, none⟩ = some sc.d1 ∧ X.cell? ⟨(bd.add (k * 6)).block, (bd.add (k * 6)).off + 3, none⟩ = some (.bool sc.b2) ∧ X.cell? ⟨(bd.add (k * 6)).block, (bd.add (k * 6)).off + 4, none⟩ = some sc.n2 ∧ X.cell? ⟨(bd.add (k * 6)).block, (bd.add (k * 6)).off + 5, none⟩ = some sc.d2) ∧ (X.cell? (bd.add (k1 * 6)) = some (.bool sd.b1) ∧ X.cell? ⟨(bd.add (k1 * 6)).block, (bd.add (k1 * 6)).off + 1, none⟩ = some sd.n1 ∧ X.cell? ⟨(bd.add (k1 * 6)).block, (bd.add (k1 * 6)).off + 2, none⟩ = some sd.d1 ∧ X.cell? ⟨(bd.add (k1 * 6)).block, (bd.add (k1 * 6)).off + 3, none⟩ = some (.bool sd.b2) ∧ X.cell? ⟨(bd.add (k1 * 6)).block, (bd.add (k1 * 6)).off + 4, none⟩ = some sd.n2 ∧ X.cell? ⟨(bd.add (k1 * 6)).block, (bd.add (k1 * 6)).off + 5, none⟩ = some sd.d2))
                      (((with_reducible refine KK.out _ ?_); repeat' (first | (with_reducible exact bb1) | (with_reducible exact bb0) | ((with_reducible refine Below.setCell ?_ ?_ _); rotate_left; (focus first | omega | (simp; done) | (simp; omega) | (unfold World.setCell; simp; omega))) | ((with_reducible refine Below.alloc ?_ ?_ _); rotate_left; (focus first | omega | (simp; done) | (simp; omega) | (unfold World.setCell; simp; omega))) | (with_reducible refine Below.drew ?_))))
                      (first
                        | (go_at_call 128; (with_reducible refine (M1.out _ ?_).mono ?_); (focus repeat' (first | (with_reducible exact bb0) | ((with_reducible refine Below.setCell ?_ ?_ _); rotate_left; (focus first | omega | (simp; done) | (simp; omega) | (unfold World.setCell; simp; omega))) | ((with_reducible refine Below.alloc ?_ ?_ _); rotate_left; (focus first | omega | (simp; done) | (simp; omega) | (unfold World.setCell; simp; omega))) | (with_reducible refine Below.drew ?_))); rintro e w1 ⟨hb1, s, rfl, ⟨t1, A1, l1, c1, A1', l1', c1', t2, A2, l2, c2, A3, l3, c3, rfl⟩, hpm⟩; have bb1 : Below wr.heap.size wr w1 := below_step (by repeat' (first | (with_reducible exact bb0) | ((with_reducible refine Below.setCell ?_ ?_ _); rotate_left; (focus first | omega | (simp; done) | (simp; omega) | (unfold World.setCell; simp; omega))) | ((with_reducible refine Below.alloc ?_ ?_ _); rotate_left; (focus first | omega | (simp; done) | (simp; omega) | (unfold World.setCell; simp; omega))) | (with_reducible refine Below.drew ?_))) hb1; have hbs1 := bb1.size; (first | ((with_reducible have ka := (Bk.new wr 135 #[.bool false, .slice none 0 0, .slice none 0 0, .bool false, .slice none 0 0, .slice none 0 0]).drew.next' hb1); have la1 := ka.lt; obtain ⟨g0, g1, g2, g3, g4, g5⟩ := bk6c (s := szero) ka; have f0 := ka.frozen 0; have f1 := ka.frozen 1; have f2 := ka.frozen 2; have f3 := ka.frozen 3; have f4 := ka.frozen 4; have f5 := ka.frozen 5; simp only [szero] at g0 g1 g2 g3 g4 g5) | skip)))
                    all_goals (go_wp2_with fail)
                    all_goals go_meet
                    all_goals
                      refine ⟨_, ⟨t1, .slice A1 l1 c1, .slice A1' l1' c1', t2, .slice A2 l2 c2, .slice A3 l3 c3⟩, rfl, rfl, ?_, ?_, ?_⟩
                      · first | (with_reducible exact (rtN hpm).1) | (with_reducible exact (rtS ka hpm).1)
                      · first | (with_reducible exact (rtN hpm).2) | (with_reducible exact (rtS ka hpm).2)
                      · repeat' (first | (with_reducible exact bb1) | (with_reducible exact bb0) | ((with_reducible refine Below.setCell ?_ ?_ _); rotate_left; (focus first | omega | (simp; done) | (simp; omega) | (unfold World.setCell; simp; omega))) | ((with_reducible refine Below.alloc ?_ ?_ _); rotate_left; (focus first | omega | (simp; done) | (simp; omega) | (unfold World.setCell; simp; omega))) | (with_reducible refine Below.drew ?_))
                  case rest =>
                    obtain ⟨b10, s, rfl, rfl, k10, hpm, hbc⟩ := hcut
                    have hB1 := hB.trans (hbc.mono hbs)
                    have hO1 := hO.keep hbc
                    clear KK M1 hO hB hbc bb0 hbs0 hbs x0 x1 x2 x3 x4 x5 y0 y1 y2 y3 y4 y5 z0 z1 z2 z3 z4 z5 v0 v1 v2 v3 v4 v5
                    by_cases hdt : dt = 0
                    · have hE := Lib.hid (HO0.out (HF.out.2 (fun h => h.1 hdt)))
                      have hdd : (!decide (dt = 0)) = false := by simp [hdt]
                      rw [hdd]
                      clear HS HO0 HF HSZ hdd hdt hpm
                      go_wp2
                      go_roundw
                      case rel => exact ⟨k + 1, by omega, by go_num, hB1, by rw [hE.out]; exact hO1⟩
                      case measure => simp [intOf]; omega
                    have hdd : (!decide (dt = 0)) = true := by simp [hdt]
                    rw [hdd]
                    have hlm := HSZ.out hdt
                    have hpm1 := hpm hdt
                    have hF1 := Lib.hid (HF.out.1 hdt)
                    have hF2 := Lib.hid (HF.out.2)
                    obtain ⟨z1, hz1⟩ := bool_of (InQ la mt)
                    have hs1 := hB1.size
                    have I1 := inside_any la mt _ s wc ((hA.below hB1).more hs1) hpm1 (by omega) (by omega) (fun q hq => Nat.le_trans (lla q hq) (by omega)) z1 hz1
                    unfold Sx.val at I1
                    clear HF HSZ hdd hpm
                    obtain ⟨x0, x1, x2, x3, x4, x5⟩ := bk6c k10
                    go_wp2_with fail
                    refine I1.mono ?_
                    rintro e w2 ⟨hb2, rfl⟩
                    have hB2 := hB1.trans (hb2.mono hs1)
                    have hO2 := hO1.keep hb2
                    have hp2 := hpm1.next hb2
                    have k102 := k10.next' hb2
                    clear I1 hB1 hO1 hpm1 k10 x0 x1 x2 x3 x4 x5 hb2 hs1
                    cases z1 with
                    | false =>
                      have hE := Lib.hid (HO0.out (hF2.out (fun h => absurd (hz1.2 h.2.1) (by simp))))
                      clear HS HO0 hF1 hF2 hdt hz1
                      go_wp2
                      go_roundw
                      case rel => exact ⟨k + 1, by omega, by go_num, hB2, by rw [hE.out]; exact hO2⟩
                      case measure => simp [intOf]; omega
                    | true =>
                    have hy1 : InQ la mt := hz1.1 rfl
                    clear hz1
                    obtain ⟨z2, hz2⟩ := bool_of (InQ lb mt)
                    have hs2 := hB2.size
                    have I1 := inside_any lb mt _ s w2 ((hB'.below hB2).more hs2) hp2 (by omega) (by omega) (fun q hq => Nat.le_trans (llb q hq) (by omega)) z2 hz2
                    unfold Sx.val at I1
                    obtain ⟨x0, x1, x2, x3, x4, x5⟩ := bk6c k102
                    go_wp2_with fail
                    refine I1.mono ?_
                    rintro e w3 ⟨hb3, rfl⟩
                    have hB3 := hB2.trans (hb3.mono hs2)
                    have hO3 := hO2.keep hb3
                    have hp3 := hp2.next hb3
                    have k103 := k102.next' hb3
                    clear I1 hB2 hO2 hp2 k102 x0 x1 x2 x3 x4 x5 hb3 hs2
                    cases z2 with
                    | false =>
                      have hE := Lib.hid (HO0.out (hF2.out (fun h => absurd (hz2.2 h.2.2) (by simp))))
                      clear HS HO0 hF1 hF2 hdt hz2
                      go_wp2
                      go_roundw
                      case rel => exact ⟨k + 1, by omega, by go_num, hB3, by rw [hE.out]; exact hO3⟩
                      case measure => simp [intOf]; omega
                    | true =>
                    have hy2 : InQ lb mt := hz2.1 rfl
                    have hE := Lib.hid (HS.out mt (hF1.out hy1 hy2))
                    have I2 := added_any w.heap.size _ mt _ s w3 hB3.size hO3 hp3 (by omega) (by omega) (fun q hq => Nat.le_trans (hq2 q hq) (by omega))
                    unfold Sx.val at I2
                    obtain ⟨x0, x1, x2, x3, x4, x5⟩ := bk6c k103
                    clear HS HO0 hF1 hF2 hdt hz2 hy1 hy2
                    go_wp2_with fail
                    refine I2.mono ?_
                    rintro e w4 ⟨hb4, v4, rfl, hO4⟩
                    have hB4 := hB3.trans hb4
                    clear I2 x0 x1 x2 x3 x4 x5 hO3 hB3 hb4 hp3 k103
                    go_wp2
                    go_roundw
                    case rel => exact ⟨k + 1, by omega, by go_num, hB4, by rw [hE.out]; exact hO4⟩
                    case measure => simp [intOf]; omega
                · have hkl : k = lb.length := by omega
                  subst hkl
                  rw [← HN.out] at hO
                  go_wp2
                  go_roundw
                  case rel => exact ⟨i + 1, by omega, by go_num, hB, hO⟩
                  case measure => simp [intOf]; omega
            · have hkl : i = la.length := by omega
              subst hkl
              have HQ : Hid (IsRoly wr wr.heap.size u5 (sharedQ la lb)) := hO.is
              clear hO
              go_wp2
              go_ret
              exact ⟨hB, _, rfl, HQ.out⟩
end Go.Proofs.YtaihplgfbepgpaaGreatDoor
