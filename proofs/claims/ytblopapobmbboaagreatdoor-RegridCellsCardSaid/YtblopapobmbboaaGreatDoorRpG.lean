/-
  Walk: the reference's hull (printed by rpgen4.py).
-/
import Derived.Test.YtblopapobmbboaaGreatDoorRpV
import Derived.Test.YtblopapobmbboaaGreatDoorRpD
import Derived.Test.YtblopapobmbboaaGreatDoorHeldM
namespace Go.Proofs.YtblopapobmbboaaGreatDoor
open Go.RowKit Ar

def wQ (p q : Qp) : Rat := p.1 * q.2 - p.2 * q.1
open Classical in
/-- What a pair of points adds; what the pairs of one point add; the sum. -/
noncomputable def hullStep (l : List Qp) (i k : Nat) : Rat := if i ≠ k ∧ SideQ l i k then wQ (gt l i) (gt l k) else 0
noncomputable def innQ (l : List Qp) (i : Nat) : Nat → Rat
  | 0 => 0
  | k + 1 => innQ l i k + hullStep l i k
noncomputable def outQ (l : List Qp) : Nat → Rat
  | 0 => 0
  | i + 1 => outQ l i + innQ l i l.length
noncomputable def hullQ (l : List Qp) : Rat := outQ l l.length
theorem szp_gt {l : List Qp} {K : Nat} (h : ∀ p ∈ l, szp p ≤ K) {i : Nat} (hi : i < l.length) : szp (gt l i) ≤ K := by rw [← gt_get hi]; exact h _ (List.getElem_mem hi)
theorem sz_zero1 : sz 0 ≤ 1 := sz_small 0 (by decide)
theorem sz_step {l : List Qp} {K : Nat} (h : ∀ p ∈ l, szp p ≤ K) {i k : Nat} (hi : i < l.length) (hk : k < l.length) : sz (hullStep l i k) ≤ 4 * K + 1 := by
  unfold hullStep
  split
  · have h1 := szp_gt h hi
    have h2 := szp_gt h hk
    unfold szp at h1 h2
    unfold wQ
    have := sz_sub ((gt l i).1 * (gt l k).2) ((gt l i).2 * (gt l k).1)
    have := sz_mul (gt l i).1 (gt l k).2
    have := sz_mul (gt l i).2 (gt l k).1
    omega
  · have := sz_zero1; omega
theorem sz_inn {l : List Qp} {K : Nat} (h : ∀ p ∈ l, szp p ≤ K) {i : Nat} (hi : i < l.length) (q : Rat) : ∀ k, k ≤ l.length → sz (q + innQ l i k) ≤ sz q + k * (4 * K + 2)
  | 0, _ => by
    have e : q + innQ l i 0 = q := Rat.add_zero q
    rw [e]; omega
  | k + 1, hk => by
    have h1 := sz_inn h hi q k (by omega)
    have h2 := sz_step h hi (k := k) (by omega)
    have e : q + innQ l i (k + 1) = q + innQ l i k + hullStep l i k := (Rat.add_assoc _ _ _).symm
    rw [e]
    have := sz_add (q + innQ l i k) (hullStep l i k)
    have : (k + 1) * (4 * K + 2) = k * (4 * K + 2) + (4 * K + 2) := by rw [Nat.add_mul]; omega
    omega
theorem sz_out {l : List Qp} {K : Nat} (h : ∀ p ∈ l, szp p ≤ K) : ∀ i, i ≤ l.length → sz (outQ l i) ≤ i * (l.length * (4 * K + 2)) + 1
  | 0, _ => by have := sz_zero1; show sz 0 ≤ _; omega
  | i + 1, hi => by
    have h1 := sz_out h i (by omega)
    have h2 := sz_inn h (i := i) (by omega) (outQ l i) l.length (Nat.le_refl _)
    show sz (outQ l i + innQ l i l.length) ≤ _
    have : (i + 1) * (l.length * (4 * K + 2)) = i * (l.length * (4 * K + 2)) + l.length * (4 * K + 2) := by rw [Nat.add_mul]; omega
    omega
theorem sz_acc {l : List Qp} (h : ∀ p ∈ l, szp p ≤ 1000) (hm : l.length ≤ 200) {i k : Nat} (hi : i < l.length) (hk : k ≤ l.length) : sz (outQ l i + innQ l i k) ≤ 1000000000 := by
  have h1 := sz_out h i (by omega)
  have h2 := sz_inn h hi (outQ l i) k hk
  have h3 : i * (l.length * (4 * 1000 + 2)) ≤ 200 * (200 * (4 * 1000 + 2)) := Nat.mul_le_mul (by omega) (Nat.mul_le_mul (by omega) (Nat.le_refl _))
  have h4 : k * (4 * 1000 + 2) ≤ 200 * (4 * 1000 + 2) := Nat.mul_le_mul (by omega) (Nat.le_refl _)
  omega
theorem sz_hull {l : List Qp} (h : ∀ p ∈ l, szp p ≤ 1000) (hm : l.length ≤ 200) : sz (hullQ l) ≤ 1000000000 := by
  have h1 := sz_out h l.length (Nat.le_refl _)
  have h3 : l.length * (l.length * (4 * 1000 + 2)) ≤ 200 * (200 * (4 * 1000 + 2)) := Nat.mul_le_mul (by omega) (Nat.mul_le_mul (by omega) (Nat.le_refl _))
  unfold hullQ
  omega

set_option maxRecDepth 100000 in
set_option maxHeartbeats 6400000 in
theorem hull_any (l : List Qp) (v : Value) (w : World) (h : IsRoly w w.heap.size v l) (hm : l.length ≤ 200) (ll : ∀ q ∈ l, szp q ≤ 1000) :
    Calls Tryz.prog 63 #[v] w fun e w' => Below w.heap.size w w' ∧ ∃ v, e = .returned v ∧ IsQ w' w'.heap.size v (hullQ l) := by
  have hlist := h
  obtain ⟨A, cp, Sl, rfl, hcp, hSl, hr, hS⟩ := h
  go_enter Tryz.func63, Tryz.ntmps63
  go_wp2_with fail
  refine (intQ_any 0 _ (by omega)).mono ?_
  rintro e w1 ⟨hb1, v1, rfl, y1⟩
  obtain ⟨s1, A1, l1, c1, A1', l1', c1', rfl⟩ := y1.form
  have hB1 := (below_alloc w (.cells #[.bool false, .slice none 0 0, .slice none 0 0] 59)).trans (hb1.mono (by simp))
  have k01 := (Bk.new w 59 #[.bool false, .slice none 0 0, .slice none 0 0]).next' hb1
  have hbs0 := k01.lt
  go_wp2_with fail
  refine wp_name (fun W => ∃ bs, bs = w1.heap.size ∧ w.heap.size < bs ∧ Below w.heap.size w W ∧ Bk W w.heap.size 59 #[.bool false, .slice none 0 0, .slice none 0 0] ∧ QAt W bs 0) ⟨_, rfl, hbs0, hB1.alloc (by omega) _, k01.alloc _, qatN y1⟩ ?_
  rintro W ⟨bs, hbs, hbs1, hB0, k0, kS0⟩
  rw [← hbs]
  clear hb1 y1 hB1 k01 hbs0 hbs
  go_loopw [4] (fun x wr => ∃ i : Nat, i ≤ l.length ∧ x = .int .i64 i ∧ Below w.heap.size w wr ∧ Bk wr w.heap.size 59 #[.bool false, .slice none 0 0, .slice none 0 0] ∧ QAt wr bs (outQ l i)) (fun x _ => l.length - (intOf x).toNat)
  case atStart => exact ⟨0, Nat.zero_le _, rfl, hB0, k0, kS0⟩
  case round =>
    obtain ⟨i, hi, rfl, hB, kR, kS⟩ := hrel
    rcases Nat.lt_or_ge i l.length with hlt | hge
    · obtain ⟨si, hsi, hpi⟩ := hS i l[i] (List.getElem?_eq_getElem hlt)
      have li := ll _ (List.getElem_mem hlt)
      rw [gt_get hlt] at hpi li
      obtain ⟨ad, rfl, hab, _⟩ := hr.point hsi
      obtain ⟨hib, hi6⟩ := hr.point' hsi
      have HO : Hid (outQ l (i + 1) = outQ l i + innQ l i l.length) := rfl
      have kS' : QAt wr bs (outQ l i + innQ l i 0) := by
        have e : outQ l i + innQ l i 0 = outQ l i := Rat.add_zero _
        rw [e]; exact kS
      have b1 : (0 : Int) ≤ (i : Int) := by omega
      have b2 : (i : Int) < (l.length : Int) := by omega
      clear kS
      go_wp2_with fail
      go_loopw [5] (fun x wr => ∃ k : Nat, k ≤ l.length ∧ x = .int .i64 k ∧ Below w.heap.size w wr ∧ Bk wr w.heap.size 59 #[.bool false, .slice none 0 0, .slice none 0 0] ∧ QAt wr bs (outQ l i + innQ l i k)) (fun x _ => l.length - (intOf x).toNat)
      case atStart => exact ⟨0, Nat.zero_le _, rfl, hB, kR, kS'⟩
      case round =>
        clear hB kR kS'
        obtain ⟨k, hk, rfl, hB, kR, kS⟩ := hrel
        rcases Nat.lt_or_ge k l.length with hltk | hgek
        · have HA : Hid (outQ l i + innQ l i (k + 1) = outQ l i + innQ l i k + hullStep l i k) := (Rat.add_assoc _ _ _).symm
          have HZ : Hid (hullStep l i k = 0 → outQ l i + innQ l i (k + 1) = outQ l i + innQ l i k) := fun h => by rw [HA.out, h]; exact Rat.add_zero _
          have hacc := sz_acc ll hm hlt (Nat.le_of_lt hltk)
          by_cases hik : i = k
          · have hs0 : hullStep l i k = 0 := by unfold hullStep; rw [if_neg]; exact fun h => h.1 hik
            have hE := Lib.hid (HZ.out hs0)
            have e1 : ((i : Int) != (k : Int)) = false := by simp; omega
            clear HA HZ hs0
            go_wp2
            go_roundw
            case rel => exact ⟨k + 1, by omega, by go_num, hB, kR, by rw [hE.out]; exact kS⟩
            case measure => simp [intOf]; omega
          have e1 : ((i : Int) != (k : Int)) = true := by simp; omega
          obtain ⟨z, hz⟩ : ∃ z : Bool, (z = true ↔ SideQ l i k) := by
            by_cases h : SideQ l i k
            · exact ⟨true, by simp [h]⟩
            · exact ⟨false, by simp [h]⟩
          have SD := side_any l i k _ wr ((hlist.below hB).more hB.size) hlt hltk (by omega) (fun q hq => Nat.le_trans (ll q hq) (by omega)) z hz
          have hsB := hB.size
          go_wp2_with fail
          refine SD.mono ?_
          rintro e W0 ⟨hb0, rfl⟩
          have hB2 := hB.trans (hb0.mono hsB)
          have kR2 := kR.next' hb0
          have kS2 := kS.next hb0
          clear SD kR kS hB hb0 hsB
          cases z with
          | false =>
            have hs0 : hullStep l i k = 0 := by unfold hullStep; rw [if_neg]; exact fun h => absurd (hz.2 h.2) (by simp)
            have hE := Lib.hid (HZ.out hs0)
            clear HA HZ hs0 hz
            go_wp2
            go_roundw
            case rel => exact ⟨k + 1, by omega, by go_num, hB2, kR2, by rw [hE.out]; exact kS2⟩
            case measure => simp [intOf]; omega
          | true =>
          have hs0 : hullStep l i k = (gt l i).1 * (gt l k).2 - (gt l i).2 * (gt l k).1 := by unfold hullStep; rw [if_pos ⟨hik, hz.1 rfl⟩]; rfl
          rw [hs0] at HA
          obtain ⟨sk, hsk, hpk⟩ := hS k l[k] (List.getElem?_eq_getElem hltk)
          have lk := ll _ (List.getElem_mem hltk)
          rw [gt_get hltk] at hpk lk
          obtain ⟨hkb, hk6⟩ := hr.point' hsk
          have hpi2 := (hpi.below hB2).more hB2.size
          have hpk2 := (hpk.below hB2).more hB2.size
          have hsB := hB2.size
          clear HZ hs0 hz hsk hpk
          unfold szp at li lk
          have u1 : sz ((gt l i).1 * (gt l k).2) ≤ 2000 := by have := sz_mul (gt l i).1 (gt l k).2; omega
          have u2 : sz ((gt l i).2 * (gt l k).1) ≤ 2000 := by have := sz_mul (gt l i).2 (gt l k).1; omega
          have u3 : sz ((gt l i).1 * (gt l k).2 - (gt l i).2 * (gt l k).1) ≤ 4001 := by have := sz_sub ((gt l i).1 * (gt l k).2) ((gt l i).2 * (gt l k).1); omega
          have b3 : (0 : Int) ≤ (k : Int) := by omega
          have b4 : (k : Int) < (l.length : Int) := by omega
          have KK : Hid (∀ X, Below W0.heap.size W0 X → ((X.cell? (ad.add (i * 6)) = some (.bool si.b1) ∧ X.cell? ⟨(ad.add (i * 6)).block, (ad.add (i * 6)).off + 1, none⟩ = some si.n1 ∧ X.cell? ⟨(ad.add (i * 6)).block, (ad.add (i * 6)).off + 2, none⟩ = some si.d1 ∧ X.cell? ⟨(ad.add (i * 6)).block, (ad.add (i * 6)).off + 3, none⟩ = some (.bool si.b2) ∧ X.cell? ⟨(ad.add (i * 6)).block, (ad.add (i * 6)).off + 4, none⟩ = some si.n2 ∧ X.cell? ⟨(ad.add (i * 6)).block, (ad.add (i * 6)).off + 5, none⟩ = some si.d2) ∧ (X.cell? (ad.add (k * 6)) = some (.bool sk.b1) ∧ X.cell? ⟨(ad.add (k * 6)).block, (ad.add (k * 6)).off + 1, none⟩ = some sk.n1 ∧ X.cell? ⟨(ad.add (k * 6)).block, (ad.add (k * 6)).off + 2, none⟩ = some sk.d1 ∧ X.cell? ⟨(ad.add (k * 6)).block, (ad.add (k * 6)).off + 3, none⟩ = some (.bool sk.b2) ∧ X.cell? ⟨(ad.add (k * 6)).block, (ad.add (k * 6)).off + 4, none⟩ = some sk.n2 ∧ X.cell? ⟨(ad.add (k * 6)).block, (ad.add (k * 6)).off + 5, none⟩ = some sk.d2))) := fun X h => ⟨hi6.next (hB2.trans (h.mono hsB)) hib, hk6.next (hB2.trans (h.mono hsB)) hkb⟩
          generalize hpq : gt l i = pi at *
          generalize hpq2 : gt l k = pk at *
          clear hpq hpq2
          have C1 := Lib.hid (fun X (h : Below W0.heap.size W0 X) => qprod_any pi.1 pk.2 _ _ X (hpi2.next h).x (hpk2.next h).y (by omega) (by omega))
          obtain ⟨⟨x0, x1, x2, x3, x4, x5⟩, y0, y1, y2, y3, y4, y5⟩ := KK.out W0 (Below.refl _ _)
          go_wp2_with fail
          have bb0 := Below.refl W0.heap.size W0
          have hbs0 := bb0.size
          go_cut [6] from 15 to 56 (fun x wx => ∃ b6, x = .pointer (some ⟨b6, 0, none⟩) ∧ QAt wx b6 (pi.1 * pk.2) ∧ Below W0.heap.size W0 wx ∧ W0.heap.size ≤ b6)
          case first =>
            go_region_held3 (fun X => (X.cell? (ad.add (i * 6)) = some (.bool si.b1) ∧ X.cell? ⟨(ad.add (i * 6)).block, (ad.add (i * 6)).off + 1, none⟩ = some si.n1 ∧ X.cell? ⟨(ad.add (i * 6)).block, (ad.add (i * 6)).off + 2, none⟩ = some si.d1 ∧ X.cell? ⟨(ad.add (i * 6)).block, (ad.add (i * 6)).off + 3, none⟩ = some (.bool si.b2) ∧ X.cell? ⟨(ad.add (i * 6)).block, (ad.add (i * 6)).off + 4, none⟩ = some si.n2 ∧ X.cell? ⟨(ad.add (i * 6)).block, (ad.add (i * 6)).off + 5, none⟩ = some si.d2) ∧ (X.cell? (ad.add (k * 6)) = some (.bool sk.b1) ∧ X.cell? ⟨(ad.add (k * 6)).block, (ad.add (k * 6)).off + 1, none⟩ = some sk.n1 ∧ X.cell? ⟨(ad.add (k * 6)).block, (ad.add (k * 6)).off + 2, none⟩ = some sk.d1 ∧ X.cell? ⟨(ad.add (k * 6)).block, (ad.add (k * 6)).off + 3, none⟩ = some (.bool sk.b2) ∧ X.cell? ⟨(ad.add (k * 6)).block, (ad.add (k * 6)).off + 4, none⟩ = some sk.n2 ∧ X.cell? ⟨(ad.add (k * 6)).block, (ad.add (k * 6)).off + 5, none⟩ = some sk.d2))
              (((with_reducible refine KK.out _ ?_); repeat' (first | (with_reducible exact bb1) | (with_reducible exact bb0) | ((with_reducible refine Below.setCell ?_ ?_ _); rotate_left; (focus first | omega | (simp; done) | (simp; omega) | (unfold World.setCell; simp; omega))) | ((with_reducible refine Below.alloc ?_ ?_ _); rotate_left; (focus first | omega | (simp; done) | (simp; omega) | (unfold World.setCell; simp; omega))) | (with_reducible refine Below.drew ?_))))
              (first
                | (go_at_call 91; (with_reducible refine (C1.out _ ?_).mono ?_); (focus repeat' (first | (with_reducible exact bb0) | ((with_reducible refine Below.setCell ?_ ?_ _); rotate_left; (focus first | omega | (simp; done) | (simp; omega) | (unfold World.setCell; simp; omega))) | ((with_reducible refine Below.alloc ?_ ?_ _); rotate_left; (focus first | omega | (simp; done) | (simp; omega) | (unfold World.setCell; simp; omega))) | (with_reducible refine Below.drew ?_))); rintro e w1 ⟨hb1, v1, rfl, y1⟩; have bb1 : Below W0.heap.size W0 w1 := below_step (by repeat' (first | (with_reducible exact bb0) | ((with_reducible refine Below.setCell ?_ ?_ _); rotate_left; (focus first | omega | (simp; done) | (simp; omega) | (unfold World.setCell; simp; omega))) | ((with_reducible refine Below.alloc ?_ ?_ _); rotate_left; (focus first | omega | (simp; done) | (simp; omega) | (unfold World.setCell; simp; omega))) | (with_reducible refine Below.drew ?_))) hb1; have hbs1 := bb1.size; have rw1 := Below.refl w1.heap.size w1; obtain ⟨t1, A1, l1, e1, A1', l1', e1', rfl⟩ := y1.form; (first | (with_reducible have ka := (Bk.new W0 59 #[.bool false, .slice none 0 0, .slice none 0 0]).drew.next' hb1; have la := ka.lt) | skip); (first | (obtain ⟨i0, i1, i2⟩ := bk3 ka; have f0 := ka.frozen 0; have f1 := ka.frozen 1; have f2 := ka.frozen 2) | skip)))
            all_goals (go_wp2_with fail)
            all_goals go_meet
            all_goals
              refine ⟨_, rfl, ?_, ?_, by omega⟩
              · first | (with_reducible exact qatN y1) | (with_reducible exact qatS ka y1)
              · repeat' (first | (with_reducible exact bb1) | (with_reducible exact bb0) | ((with_reducible refine Below.setCell ?_ ?_ _); rotate_left; (focus first | omega | (simp; done) | (simp; omega) | (unfold World.setCell; simp; omega))) | ((with_reducible refine Below.alloc ?_ ?_ _); rotate_left; (focus first | omega | (simp; done) | (simp; omega) | (unfold World.setCell; simp; omega))) | (with_reducible refine Below.drew ?_))
          case rest =>
          obtain ⟨b6, rfl, X6, hbc, h6⟩ := hcut
          have hB3 := hB2.trans (hbc.mono hsB)
          have hsC := hbc.size
          have kR3 := kR2.next' hbc
          have kS3 := kS2.next hbc
          have hpi3 := hpi2.next hbc
          have hpk3 := hpk2.next hbc
          have KK3 : Hid (∀ X, Below wc.heap.size wc X → ((X.cell? (ad.add (i * 6)) = some (.bool si.b1) ∧ X.cell? ⟨(ad.add (i * 6)).block, (ad.add (i * 6)).off + 1, none⟩ = some si.n1 ∧ X.cell? ⟨(ad.add (i * 6)).block, (ad.add (i * 6)).off + 2, none⟩ = some si.d1 ∧ X.cell? ⟨(ad.add (i * 6)).block, (ad.add (i * 6)).off + 3, none⟩ = some (.bool si.b2) ∧ X.cell? ⟨(ad.add (i * 6)).block, (ad.add (i * 6)).off + 4, none⟩ = some si.n2 ∧ X.cell? ⟨(ad.add (i * 6)).block, (ad.add (i * 6)).off + 5, none⟩ = some si.d2) ∧ (X.cell? (ad.add (k * 6)) = some (.bool sk.b1) ∧ X.cell? ⟨(ad.add (k * 6)).block, (ad.add (k * 6)).off + 1, none⟩ = some sk.n1 ∧ X.cell? ⟨(ad.add (k * 6)).block, (ad.add (k * 6)).off + 2, none⟩ = some sk.d1 ∧ X.cell? ⟨(ad.add (k * 6)).block, (ad.add (k * 6)).off + 3, none⟩ = some (.bool sk.b2) ∧ X.cell? ⟨(ad.add (k * 6)).block, (ad.add (k * 6)).off + 4, none⟩ = some sk.n2 ∧ X.cell? ⟨(ad.add (k * 6)).block, (ad.add (k * 6)).off + 5, none⟩ = some sk.d2))) := fun X h => KK.out X (hbc.trans (h.mono hsC))
          clear KK C1 hpi2 hpk2 kR2 kS2 hB2 bb0 hbs0 hbc x0 x1 x2 x3 x4 x5 y0 y1 y2 y3 y4 y5
          generalize wc = V1 at *
          have C1 := Lib.hid (fun X (h : Below V1.heap.size V1 X) => qprod_any pi.2 pk.1 _ _ X (hpi3.next h).y (hpk3.next h).x (by omega) (by omega))
          obtain ⟨⟨x0, x1, x2, x3, x4, x5⟩, y0, y1, y2, y3, y4, y5⟩ := KK3.out V1 (Below.refl _ _)
          go_wp2_with fail
          have bb0 := Below.refl V1.heap.size V1
          have hbs0 := bb0.size
          go_cut [7] from 15 to 56 (fun x wx => ∃ b7, x = .pointer (some ⟨b7, 0, none⟩) ∧ QAt wx b7 (pi.2 * pk.1) ∧ Below V1.heap.size V1 wx ∧ V1.heap.size ≤ b7)
          case first =>
            go_region_held3 (fun X => (X.cell? (ad.add (i * 6)) = some (.bool si.b1) ∧ X.cell? ⟨(ad.add (i * 6)).block, (ad.add (i * 6)).off + 1, none⟩ = some si.n1 ∧ X.cell? ⟨(ad.add (i * 6)).block, (ad.add (i * 6)).off + 2, none⟩ = some si.d1 ∧ X.cell? ⟨(ad.add (i * 6)).block, (ad.add (i * 6)).off + 3, none⟩ = some (.bool si.b2) ∧ X.cell? ⟨(ad.add (i * 6)).block, (ad.add (i * 6)).off + 4, none⟩ = some si.n2 ∧ X.cell? ⟨(ad.add (i * 6)).block, (ad.add (i * 6)).off + 5, none⟩ = some si.d2) ∧ (X.cell? (ad.add (k * 6)) = some (.bool sk.b1) ∧ X.cell? ⟨(ad.add (k * 6)).block, (ad.add (k * 6)).off + 1, none⟩ = some sk.n1 ∧ X.cell? ⟨(ad.add (k * 6)).block, (ad.add (k * 6)).off + 2, none⟩ = some sk.d1 ∧ X.cell? ⟨(ad.add (k * 6)).block, (ad.add (k * 6)).off + 3, none⟩ = some (.bool sk.b2) ∧ X.cell? ⟨(ad.add (k * 6)).block, (ad.add (k * 6)).off + 4, none⟩ = some sk.n2 ∧ X.cell? ⟨(ad.add (k * 6)).block, (ad.add (k * 6)).off + 5, none⟩ = some sk.d2))
              (((with_reducible refine KK3.out _ ?_); repeat' (first | (with_reducible exact bb1) | (with_reducible exact bb0) | ((with_reducible refine Below.setCell ?_ ?_ _); rotate_left; (focus first | omega | (simp; done) | (simp; omega) | (unfold World.setCell; simp; omega))) | ((with_reducible refine Below.alloc ?_ ?_ _); rotate_left; (focus first | omega | (simp; done) | (simp; omega) | (unfold World.setCell; simp; omega))) | (with_reducible refine Below.drew ?_))))
              (first
                | (go_at_call 91; (with_reducible refine (C1.out _ ?_).mono ?_); (focus repeat' (first | (with_reducible exact bb0) | ((with_reducible refine Below.setCell ?_ ?_ _); rotate_left; (focus first | omega | (simp; done) | (simp; omega) | (unfold World.setCell; simp; omega))) | ((with_reducible refine Below.alloc ?_ ?_ _); rotate_left; (focus first | omega | (simp; done) | (simp; omega) | (unfold World.setCell; simp; omega))) | (with_reducible refine Below.drew ?_))); rintro e w1 ⟨hb1, v1, rfl, y1⟩; have bb1 : Below V1.heap.size V1 w1 := below_step (by repeat' (first | (with_reducible exact bb0) | ((with_reducible refine Below.setCell ?_ ?_ _); rotate_left; (focus first | omega | (simp; done) | (simp; omega) | (unfold World.setCell; simp; omega))) | ((with_reducible refine Below.alloc ?_ ?_ _); rotate_left; (focus first | omega | (simp; done) | (simp; omega) | (unfold World.setCell; simp; omega))) | (with_reducible refine Below.drew ?_))) hb1; have hbs1 := bb1.size; have rw1 := Below.refl w1.heap.size w1; obtain ⟨t1, A1, l1, e1, A1', l1', e1', rfl⟩ := y1.form; (first | (with_reducible have ka := (Bk.new V1 59 #[.bool false, .slice none 0 0, .slice none 0 0]).drew.next' hb1; have la := ka.lt) | skip); (first | (obtain ⟨i0, i1, i2⟩ := bk3 ka; have f0 := ka.frozen 0; have f1 := ka.frozen 1; have f2 := ka.frozen 2) | skip)))
            all_goals (go_wp2_with fail)
            all_goals go_meet
            all_goals
              refine ⟨_, rfl, ?_, ?_, by omega⟩
              · first | (with_reducible exact qatN y1) | (with_reducible exact qatS ka y1)
              · repeat' (first | (with_reducible exact bb1) | (with_reducible exact bb0) | ((with_reducible refine Below.setCell ?_ ?_ _); rotate_left; (focus first | omega | (simp; done) | (simp; omega) | (unfold World.setCell; simp; omega))) | ((with_reducible refine Below.alloc ?_ ?_ _); rotate_left; (focus first | omega | (simp; done) | (simp; omega) | (unfold World.setCell; simp; omega))) | (with_reducible refine Below.drew ?_))
          case rest =>
          obtain ⟨b7, rfl, X7, hbc, h7⟩ := hcut
          have hsD := hbc.size
          have hB4 := hB3.trans (hbc.mono (Nat.le_trans hsB hsC))
          have kR4 := kR3.next' hbc
          have kS4 := kS3.next hbc
          replace X6 := X6.next hbc
          have hl6 := X6.lt
          clear KK3 C1 hpi3 hpk3 kR3 kS3 hB3 bb0 hbs0 hbc x0 x1 x2 x3 x4 x5 y0 y1 y2 y3 y4 y5
          generalize wc = V2 at *
          obtain ⟨s6, A6, l6, c6, A6', l6', c6', k6, f6⟩ := X6
          obtain ⟨s7, A7, l7, c7, A7', l7', c7', k7, f7⟩ := X7
          obtain ⟨s3, A3, l3, c3, A3', l3', c3', k3, f3⟩ := kS4
          have ST0 := And.intro (bk3 k3.drew) (And.intro (bk3 k6.drew) (bk3 k7.drew))
          go_wp2_with fail
          refine wp_region_M 5 (by kernel_rfl) (fun X => (X.cell? ⟨bs, 0, none⟩ = some (.bool s3) ∧ X.cell? ⟨bs, 1, none⟩ = some (.slice A3 l3 c3) ∧ X.cell? ⟨bs, 2, none⟩ = some (.slice A3' l3' c3')) ∧ (X.cell? ⟨b6, 0, none⟩ = some (.bool s6) ∧ X.cell? ⟨b6, 1, none⟩ = some (.slice A6 l6 c6) ∧ X.cell? ⟨b6, 2, none⟩ = some (.slice A6' l6' c6')) ∧ (X.cell? ⟨b7, 0, none⟩ = some (.bool s7) ∧ X.cell? ⟨b7, 1, none⟩ = some (.slice A7 l7 c7) ∧ X.cell? ⟨b7, 2, none⟩ = some (.slice A7' l7' c7'))) ST0 (fun hS0 => ?_)
          refine takeM (i := 0) (v := ?_) rfl (by kernel_rfl) (by decide) (by kernel_rfl) (by kernel_rfl) (by kernel_rfl) (fun _ _ _ h => h) (by rfl) (by assumption) ?_ ?_
          rotate_left
          · intro w hSw; (try dsimp only at hSw); go_simp <;> with_reducible rfl
          try simp only [Act.put, List.setIfInBounds_toArray, List.set_cons_zero, List.set_cons_succ]
          refine takeM (i := 1) (v := ?_) rfl (by kernel_rfl) (by decide) (by kernel_rfl) (by kernel_rfl) (by kernel_rfl) (fun _ _ _ h => h) (by rfl) (by assumption) ?_ ?_
          rotate_left
          · intro w hSw; (try dsimp only at hSw); go_simp <;> with_reducible rfl
          try simp only [Act.put, List.setIfInBounds_toArray, List.set_cons_zero, List.set_cons_succ]
          refine takeM (i := 2) (v := ?_) rfl (by kernel_rfl) (by decide) (by kernel_rfl) (by kernel_rfl) (by kernel_rfl) (fun _ _ _ h => h) (by rfl) (by assumption) ?_ ?_
          rotate_left
          · intro w hSw; (try dsimp only at hSw); go_simp <;> with_reducible rfl
          try simp only [Act.put, List.setIfInBounds_toArray, List.set_cons_zero, List.set_cons_succ]
          clear hS0 ST0
          refine stepM (i := 3) rfl (by kernel_rfl) (fun K0 hK0 => ?_)
          go_simp
          have MM := qminus_any _ _ _ _ V2.drew f6 f7 (by omega) (by omega)
          refine MM.mono ?_
          rintro e w2 ⟨hb2, v2, rfl, yy2⟩
          obtain ⟨t2, A2, l2, c2, A2', l2', c2', rfl⟩ := yy2.form
          have hB5 := hB4.drew.trans (hb2.mono hB4.size)
          have kR5 := kR4.drew.next' hb2
          have k35 := k3.drew.next' hb2
          have hS5 := And.intro (bk3 k35) (And.intro (bk3 (k6.drew.next' hb2)) (bk3 (k7.drew.next' hb2)))
          have f35 := (show IsQ V2.drew V2.drew.heap.size _ _ from f3).next hb2
          have k65 := k6.drew.next' hb2
          have k75 := k7.drew.next' hb2
          have PP := qplus_any _ _ _ _ w2 f35 yy2 (by omega) (by omega)
          clear MM hb2 k3 k6 k7 f6 f7 f3 kR4 hB4
          go_wp2_with fail
          refine hK0.out _ _ (fun _ => hS5) (fun _ => ?_)
          clear hK0 K0
          try simp only [Act.put, List.setIfInBounds_toArray, List.set_cons_zero, List.set_cons_succ]
          refine stepM (i := 4) rfl (by kernel_rfl) (fun K0 hK0 => ?_)
          go_simp
          refine PP.mono ?_
          rintro e w3 ⟨hb3, v3, rfl, yy3⟩
          obtain ⟨t4, A4, l4, c4, A4', l4', c4', rfl⟩ := yy3.form
          have hB6 := hB5.trans (hb3.mono hB5.size)
          have kR6 := kR5.next' hb3
          have k36 := k35.next' hb3
          have hS6 := And.intro (bk3 k36) (And.intro (bk3 (k65.next' hb3)) (bk3 (k75.next' hb3)))
          obtain ⟨d0, d1, d2⟩ := bk3 k36
          have g0 := k36.frozen 0
          have g1 := k36.frozen 1
          have g2 := k36.frozen 2
          clear PP hS5 kR5 k35 f35 yy2 hB5 hb3 k65 k75
          go_wp2_with fail
          refine hK0.out _ _ (fun _ => hS6) (fun _ => ?_)
          clear hK0 K0
          try simp only [Act.put, List.setIfInBounds_toArray, List.set_cons_zero, List.set_cons_succ]
          refine stepM (i := 5) rfl (by kernel_rfl) (fun K0 hK0 => ?_)
          go_simp
          refine hK0.out _ _ (fun h => absurd rfl h) (fun _ => ?_)
          clear hK0 K0
          try simp only [Act.put, List.setIfInBounds_toArray, List.set_cons_zero, List.set_cons_succ]
          refine doneM (by kernel_rfl) ?_ _
          have hB7 := set3_below (x := .bool t4) (y := .slice A4 l4 c4) (z := .slice A4' l4' c4') hB6 (Nat.le_of_lt hbs1)
          have kR7 := bk_far3 (x := .bool t4) (y := .slice A4 l4 c4) (z := .slice A4' l4' c4') kR6 (Nat.ne_of_lt hbs1)
          have kS7 := qatS' k36 yy3
          clear hS6 d0 d1 d2 g0 g1 g2 kR6 k36 yy3 hB6
          unfold set3 at hB7 kR7 kS7
          rw [← HA.out] at kS7
          clear HA
          generalize (((w3.setCell ⟨bs, 0, none⟩ (.bool t4)).setCell ⟨bs, 1, none⟩ (.slice A4 l4 c4)).setCell ⟨bs, 2, none⟩ (.slice A4' l4' c4')) = w4 at *
          go_wp2
          go_roundw
          case rel => exact ⟨k + 1, by omega, by go_num, hB7, kR7, kS7⟩
          case measure => simp [intOf]; omega
        · have hkl : k = l.length := by omega
          subst hkl
          rw [← HO.out] at kS
          go_wp2
          go_roundw
          case rel => exact ⟨i + 1, by omega, by go_num, hB, kR, kS⟩
          case measure => simp [intOf]; omega
    · have hkl : i = l.length := by omega
      subst hkl
      have HQ : Hid (hullQ l = outQ l l.length) := rfl
      obtain ⟨s3, A3, l3, c3, A3', l3', c3', k3, f3⟩ := kS
      obtain ⟨d0, d1, d2⟩ := bk3 k3
      obtain ⟨e0, e1, e2⟩ := bk3 kR
      have g0 := kR.frozen 0
      have g1 := kR.frozen 1
      have g2 := kR.frozen 2
      have hlt3 := kR.lt
      go_wp2
      refine bodyPost_ret (v := .agg #[.bool s3, .slice A3 l3 c3, .slice A3' l3' c3']) (by simp [results, Tryz.results63, go_sem, e0, e1, e2]) rfl ?_
      have ST := f3.stored (w := w) kR hB (Nat.le_refl _)
      refine ⟨ST.1, _, rfl, ?_⟩
      rw [HQ.out]
      exact ST.2
end Go.Proofs.YtblopapobmbboaaGreatDoor
