/-
  Walk: the reference's shared (printed by rpgen5.py).
-/
import Derived.Test.YtblopapobmbboaaGreatDoorRpV
import Derived.Test.YtblopapobmbboaaGreatDoorRpD
namespace Go.Proofs.YtblopapobmbboaaGreatDoor
open Go.RowKit Ar

/-- Points collected one after the other. -/
def colQ (f : Nat → Option Qp) (L : List Qp) : Nat → List Qp
  | 0 => L
  | n + 1 => match f n with
    | some p => addQ (colQ f L n) p
    | none => colQ f L n
theorem colQ_some {f : Nat → Option Qp} {L : List Qp} {n : Nat} {p : Qp} (h : f n = some p) : colQ f L (n + 1) = addQ (colQ f L n) p := by simp only [colQ, h]
theorem colQ_none {f : Nat → Option Qp} {L : List Qp} {n : Nat} (h : f n = none) : colQ f L (n + 1) = colQ f L n := by simp only [colQ, h]
def nestQ (g : Nat → Nat → Option Qp) (m : Nat) (L : List Qp) : Nat → List Qp
  | 0 => L
  | n + 1 => colQ (g n) (nestQ g m L n) m
open Classical in
noncomputable def f1Q (A B : List Qp) (i : Nat) : Option Qp := if InQ B (gt A i) then some (gt A i) else none
open Classical in
noncomputable def f3Q (A B : List Qp) (i k : Nat) : Option Qp :=
  if detQ (gt A i) (nx A i) (gt B k) (nx B k) ≠ 0 ∧ InQ A (meetingQ (gt A i) (nx A i) (gt B k) (nx B k)) ∧ InQ B (meetingQ (gt A i) (nx A i) (gt B k) (nx B k)) then some (meetingQ (gt A i) (nx A i) (gt B k) (nx B k)) else none
noncomputable def sh2 (A B : List Qp) : List Qp := colQ (f1Q B A) (colQ (f1Q A B) [] A.length) B.length
noncomputable def sharedQ (A B : List Qp) : List Qp := nestQ (f3Q A B) B.length (sh2 A B) A.length
theorem addQ_len (L : List Qp) (p : Qp) : (addQ L p).length ≤ L.length + 1 := by
  unfold addQ; split
  · omega
  · simp
theorem addQ_mem {L : List Qp} {p x : Qp} (h : x ∈ addQ L p) : x ∈ L ∨ x = p := by
  unfold addQ at h; split at h
  · exact .inl h
  · simpa using h
theorem colQ_ok {f : Nat → Option Qp} {L : List Qp} {P : Qp → Prop} (hL : ∀ q ∈ L, P q) {m : Nat} (hf : ∀ i, i < m → ∀ p, f i = some p → P p) : ∀ n, n ≤ m → (colQ f L n).length ≤ L.length + n ∧ ∀ q ∈ colQ f L n, P q
  | 0, _ => ⟨Nat.le_refl _, hL⟩
  | n + 1, hn => by
    obtain ⟨h1, h2⟩ := colQ_ok hL hf n (by omega)
    cases h : f n with
    | none => rw [colQ_none h]; exact ⟨by omega, h2⟩
    | some p =>
      rw [colQ_some h]
      have := addQ_len (colQ f L n) p
      refine ⟨by omega, fun q hq => ?_⟩
      rcases addQ_mem hq with h3 | h3
      · exact h2 q h3
      · rw [h3]; exact hf n (by omega) p h
theorem nestQ_ok {g : Nat → Nat → Option Qp} {L : List Qp} {P : Qp → Prop} (hL : ∀ q ∈ L, P q) {m M : Nat} (hg : ∀ i k, i < M → k < m → ∀ p, g i k = some p → P p) : ∀ n, n ≤ M → (nestQ g m L n).length ≤ L.length + n * m ∧ ∀ q ∈ nestQ g m L n, P q
  | 0, _ => ⟨by simp [nestQ], hL⟩
  | n + 1, hn => by
    obtain ⟨h1, h2⟩ := nestQ_ok hL hg n (by omega)
    obtain ⟨h3, h4⟩ := colQ_ok h2 (fun k hk p hp => hg n k (by omega) hk p hp) m (Nat.le_refl _)
    refine ⟨?_, h4⟩
    show (colQ (g n) (nestQ g m L n) m).length ≤ _
    rw [Nat.add_mul]
    omega
theorem sz_meeting {a b c d : Qp} (la : szp a ≤ 1) (lb : szp b ≤ 1) (lc : szp c ≤ 1) (ld : szp d ≤ 1) (h : detQ a b c d ≠ 0) : szp (meetingQ a b c d) ≤ 31 := by
  unfold szp at *
  have h1 := sz_sub b.1 a.1
  have h2 := sz_sub b.2 a.2
  have h3 := sz_sub d.1 c.1
  have h4 := sz_sub d.2 c.2
  have h5 := sz_sub c.1 a.1
  have h6 := sz_sub c.2 a.2
  have k1 := sz_mul (b.1 - a.1) (d.2 - c.2)
  have k2 := sz_mul (b.2 - a.2) (d.1 - c.1)
  have k3 := sz_mul (c.1 - a.1) (d.2 - c.2)
  have k4 := sz_mul (c.2 - a.2) (d.1 - c.1)
  have z1 : sz (detQ a b c d) ≤ 13 := by unfold detQ; have := sz_sub ((b.1 - a.1) * (d.2 - c.2)) ((b.2 - a.2) * (d.1 - c.1)); omega
  have z2 : sz (alongQ a c d) ≤ 13 := by unfold alongQ; have := sz_sub ((c.1 - a.1) * (d.2 - c.2)) ((c.2 - a.2) * (d.1 - c.1)); omega
  have z3 := sz_div (alongQ a c d) (detQ a b c d) h
  have z4 := sz_mul (alongQ a c d / detQ a b c d) (b.1 - a.1)
  have z5 := sz_mul (alongQ a c d / detQ a b c d) (b.2 - a.2)
  have z6 := sz_add a.1 (alongQ a c d / detQ a b c d * (b.1 - a.1))
  have z7 := sz_add a.2 (alongQ a c d / detQ a b c d * (b.2 - a.2))
  unfold meetingQ
  simp only
  omega
theorem nx_at {l : List Qp} {i j : Nat} (h : j = (i + 1) % l.length) : nx l i = gt l j := by unfold nx gt; rw [h]
theorem nx_szp {l : List Qp} {K : Nat} (h : ∀ p ∈ l, szp p ≤ K) {i : Nat} (hi : i < l.length) : szp (nx l i) ≤ K := by
  rw [nx_at rfl]
  have hl : (i + 1) % l.length < l.length := Nat.mod_lt _ (by omega)
  rw [← gt_get hl]
  exact h _ (List.getElem_mem hl)
theorem f1_ok {A B : List Qp} (la : ∀ p ∈ A, szp p ≤ 1) : ∀ i, i < A.length → ∀ p, f1Q A B i = some p → szp p ≤ 31 := fun i hi p hp => by
  unfold f1Q at hp
  split at hp
  · injection hp with hp
    rw [← hp, ← gt_get hi]
    exact Nat.le_trans (la _ (List.getElem_mem hi)) (by omega)
  · cases hp
theorem f3_ok {A B : List Qp} (la : ∀ p ∈ A, szp p ≤ 1) (lb : ∀ p ∈ B, szp p ≤ 1) : ∀ i k, i < A.length → k < B.length → ∀ p, f3Q A B i k = some p → szp p ≤ 31 := fun i k hi hk p hp => by
  unfold f3Q at hp
  split at hp
  · rename_i h
    injection hp with hp
    rw [← hp]
    exact sz_meeting (by rw [← gt_get hi]; exact la _ (List.getElem_mem hi)) (nx_szp la hi) (by rw [← gt_get hk]; exact lb _ (List.getElem_mem hk)) (nx_szp lb hk) h.1
  · cases hp
theorem sh1_ok {A B : List Qp} (la : ∀ p ∈ A, szp p ≤ 1) (n : Nat) (hn : n ≤ A.length) : (colQ (f1Q A B) [] n).length ≤ n ∧ ∀ q ∈ colQ (f1Q A B) [] n, szp q ≤ 31 := by
  have := colQ_ok (L := []) (P := fun q => szp q ≤ 31) (fun q hq => by cases hq) (f1_ok (B := B) la) n hn
  simpa using this
theorem sh2_ok {A B : List Qp} (la : ∀ p ∈ A, szp p ≤ 1) (lb : ∀ p ∈ B, szp p ≤ 1) (n : Nat) (hn : n ≤ B.length) : (colQ (f1Q B A) (colQ (f1Q A B) [] A.length) n).length ≤ A.length + n ∧ ∀ q ∈ colQ (f1Q B A) (colQ (f1Q A B) [] A.length) n, szp q ≤ 31 := by
  obtain ⟨h1, h2⟩ := sh1_ok (B := B) la A.length (Nat.le_refl _)
  obtain ⟨h3, h4⟩ := colQ_ok h2 (f1_ok (B := A) lb) n hn
  exact ⟨by omega, h4⟩
theorem sh3_ok {A B : List Qp} (la : ∀ p ∈ A, szp p ≤ 1) (lb : ∀ p ∈ B, szp p ≤ 1) (n : Nat) (hn : n ≤ A.length) : (nestQ (f3Q A B) B.length (sh2 A B) n).length ≤ A.length + B.length + n * B.length ∧ ∀ q ∈ nestQ (f3Q A B) B.length (sh2 A B) n, szp q ≤ 31 := by
  obtain ⟨h1, h2⟩ := sh2_ok la lb B.length (Nat.le_refl _)
  obtain ⟨h3, h4⟩ := nestQ_ok (L := sh2 A B) h2 (f3_ok la lb) n hn
  have : (sh2 A B).length ≤ A.length + B.length := h1
  exact ⟨by omega, h4⟩
theorem sh4_ok {A B : List Qp} (la : ∀ p ∈ A, szp p ≤ 1) (lb : ∀ p ∈ B, szp p ≤ 1) (i : Nat) (hi : i < A.length) (n : Nat) (hn : n ≤ B.length) : (colQ (f3Q A B i) (nestQ (f3Q A B) B.length (sh2 A B) i) n).length ≤ A.length + B.length + i * B.length + n ∧ ∀ q ∈ colQ (f3Q A B i) (nestQ (f3Q A B) B.length (sh2 A B) i) n, szp q ≤ 31 := by
  obtain ⟨h1, h2⟩ := sh3_ok la lb i (by omega)
  obtain ⟨h3, h4⟩ := colQ_ok h2 (fun k hk p hp => f3_ok la lb i k hi hk p hp) n hn
  exact ⟨by omega, h4⟩
section
variable {w : World} {b : Nat} {t1 t2 : Bool} {A1 A1' A2 A3 : Option Addr} {l1 c1 l1' c1' l2 c2 l3 c3 : Nat} {p : Qp} {P : Prop}
theorem rtN (h : P → IsRt w w.heap.size ⟨t1, .slice A1 l1 c1, .slice A1' l1' c1', t2, .slice A2 l2 c2, .slice A3 l3 c3⟩ p) : Bk (w.alloc (.cells #[.bool t1, .slice A1 l1 c1, .slice A1' l1' c1', .bool t2, .slice A2 l2 c2, .slice A3 l3 c3] 119)) w.heap.size 119 (Sx.cells ⟨t1, .slice A1 l1 c1, .slice A1' l1' c1', t2, .slice A2 l2 c2, .slice A3 l3 c3⟩).toArray ∧ (P → IsRt (w.alloc (.cells #[.bool t1, .slice A1 l1 c1, .slice A1' l1' c1', .bool t2, .slice A2 l2 c2, .slice A3 l3 c3] 119)) (w.alloc (.cells #[.bool t1, .slice A1 l1 c1, .slice A1' l1' c1', .bool t2, .slice A2 l2 c2, .slice A3 l3 c3] 119)).heap.size ⟨t1, .slice A1 l1 c1, .slice A1' l1' c1', t2, .slice A2 l2 c2, .slice A3 l3 c3⟩ p) :=
  ⟨Bk.new _ _ _, fun hp => (h hp).next (below_alloc w _)⟩
theorem rtS (k : Bk w b 119 #[.bool false, .slice none 0 0, .slice none 0 0, .bool false, .slice none 0 0, .slice none 0 0]) (h : P → IsRt w w.heap.size ⟨t1, .slice A1 l1 c1, .slice A1' l1' c1', t2, .slice A2 l2 c2, .slice A3 l3 c3⟩ p) : Bk ((((((w.setCell ⟨b, 0, none⟩ (.bool t1)).setCell ⟨b, 1, none⟩ (.slice A1 l1 c1)).setCell ⟨b, 2, none⟩ (.slice A1' l1' c1')).setCell ⟨b, 3, none⟩ (.bool t2)).setCell ⟨b, 4, none⟩ (.slice A2 l2 c2)).setCell ⟨b, 5, none⟩ (.slice A3 l3 c3)) b 119 (Sx.cells ⟨t1, .slice A1 l1 c1, .slice A1' l1' c1', t2, .slice A2 l2 c2, .slice A3 l3 c3⟩).toArray ∧ (P → IsRt ((((((w.setCell ⟨b, 0, none⟩ (.bool t1)).setCell ⟨b, 1, none⟩ (.slice A1 l1 c1)).setCell ⟨b, 2, none⟩ (.slice A1' l1' c1')).setCell ⟨b, 3, none⟩ (.bool t2)).setCell ⟨b, 4, none⟩ (.slice A2 l2 c2)).setCell ⟨b, 5, none⟩ (.slice A3 l3 c3)) ((((((w.setCell ⟨b, 0, none⟩ (.bool t1)).setCell ⟨b, 1, none⟩ (.slice A1 l1 c1)).setCell ⟨b, 2, none⟩ (.slice A1' l1' c1')).setCell ⟨b, 3, none⟩ (.bool t2)).setCell ⟨b, 4, none⟩ (.slice A2 l2 c2)).setCell ⟨b, 5, none⟩ (.slice A3 l3 c3)).heap.size ⟨t1, .slice A1 l1 c1, .slice A1' l1' c1', t2, .slice A2 l2 c2, .slice A3 l3 c3⟩ p) :=
  ⟨set6_bk (s := ⟨t1, .slice A1 l1 c1, .slice A1' l1' c1', t2, .slice A2 l2 c2, .slice A3 l3 c3⟩) (s0 := szero) k, fun hp => IsRt.more ((h hp).kept (set6_ints (s := ⟨t1, .slice A1 l1 c1, .slice A1' l1' c1', t2, .slice A2 l2 c2, .slice A3 l3 c3⟩) (s0 := szero) k szero_plain)) (by rw [show ((((((w.setCell ⟨b, 0, none⟩ (.bool t1)).setCell ⟨b, 1, none⟩ (.slice A1 l1 c1)).setCell ⟨b, 2, none⟩ (.slice A1' l1' c1')).setCell ⟨b, 3, none⟩ (.bool t2)).setCell ⟨b, 4, none⟩ (.slice A2 l2 c2)).setCell ⟨b, 5, none⟩ (.slice A3 l3 c3)) = set6 w b ⟨t1, .slice A1 l1 c1, .slice A1' l1' c1', t2, .slice A2 l2 c2, .slice A3 l3 c3⟩ from rfl, set6_size]; exact Nat.le_refl _)⟩
end

set_option maxRecDepth 100000 in
set_option maxHeartbeats 3200000 in
theorem shared_any (la lb : List Qp) (va vb : Value) (w : World) (ha : IsRoly w w.heap.size va la) (hb : IsRoly w w.heap.size vb lb) (hma : la.length ≤ 8) (hmb : lb.length ≤ 8) (lla : ∀ q ∈ la, szp q ≤ 1) (llb : ∀ q ∈ lb, szp q ≤ 1) :
    Calls Tryz.prog 64 #[va, vb] w fun e w' => Below w.heap.size w w' ∧ ∃ v, e = .returned v ∧ IsRoly w' w'.heap.size v (sharedQ la lb) := by
  have hA := ha
  have hB' := hb
  obtain ⟨A, ca, Sa, rfl, hca, hSa, hra, hSA⟩ := ha
  obtain ⟨B, cb, Sb, rfl, hcb, hSb, hrb, hSB⟩ := hb
  go_enter Tryz.func64, Tryz.ntmps64
  go_wp2_with fail
  go_loopw [5, 6] (fun u x wr => ∃ i : Nat, i ≤ la.length ∧ x = .int .i64 i ∧ Below w.heap.size w wr ∧ OwnRoly wr w.heap.size u (colQ (f1Q la lb) [] i)) (fun _ x _ => la.length - (intOf x).toNat)
  case atStart => exact ⟨0, Nat.zero_le _, rfl, Below.refl _ _, OwnRoly.nil _ _⟩
  case round =>
    obtain ⟨i, hi, rfl, hB, hO⟩ := hrel
    rcases Nat.lt_or_ge i la.length with hlt | hge
    · obtain ⟨sp, hsp, hpp⟩ := hSA i la[i] (List.getElem?_eq_getElem hlt)
      have lp := lla _ (List.getElem_mem hlt)
      rw [gt_get hlt] at hpp lp
      obtain ⟨ad, rfl, hab, _⟩ := hra.point hsp
      obtain ⟨hpb, hp6⟩ := hra.point' hsp
      have b1 : (0 : Int) ≤ (i : Int) := by omega
      have b2 : (i : Int) < (la.length : Int) := by omega
      have hbs := hB.size
      have hp2 := (hpp.below hB).more hbs
      obtain ⟨hl1, hl2⟩ := sh1_ok (B := lb) lla i hi
      obtain ⟨z, hz⟩ := bool_of (InQ lb (gt la i))
      have I1 := inside_any lb (gt la i) _ sp wr ((hB'.below hB).more hbs) hp2 (by omega) (by omega) (fun q hq => Nat.le_trans (llb q hq) (by omega)) z hz
      unfold Sx.val at I1
      obtain ⟨x0, x1, x2, x3, x4, x5⟩ := hp6.next hB hpb
      go_wp2_with fail
      refine I1.mono ?_
      rintro e w1 ⟨hb1, rfl⟩
      have hB1 := hB.trans (hb1.mono hbs)
      have hO1 := hO.keep hb1
      have hp3 := hp2.next hb1
      clear I1 x0 x1 x2 x3 x4 x5 hO hB hp2 hb1 hbs
      cases z with
      | false =>
        have hE : Hid (colQ (f1Q la lb) [] (i + 1) = colQ (f1Q la lb) [] i) := colQ_none (by unfold f1Q; rw [if_neg]; exact fun h => absurd (hz.2 h) (by simp))
        clear hz
        go_wp2
        go_roundw
        case rel => exact ⟨i + 1, by omega, by go_num, hB1, by rw [hE.out]; exact hO1⟩
        case measure => simp [intOf]; omega
      | true =>
        have hE : Hid (colQ (f1Q la lb) [] (i + 1) = addQ (colQ (f1Q la lb) [] i) (gt la i)) := colQ_some (by unfold f1Q; rw [if_pos (hz.1 rfl)])
        have I2 := added_any w.heap.size _ (gt la i) _ sp w1 hB1.size hO1 hp3 (by omega) (by omega) (fun q hq => Nat.le_trans (hl2 q hq) (by omega))
        unfold Sx.val at I2
        obtain ⟨x0, x1, x2, x3, x4, x5⟩ := hp6.next hB1 hpb
        clear hz
        go_wp2_with fail
        refine I2.mono ?_
        rintro e w2 ⟨hb2, v2, rfl, hO2⟩
        have hB2 := hB1.trans hb2
        clear I2 x0 x1 x2 x3 x4 x5 hO1 hB1 hb2 hp3
        go_wp2
        go_roundw
        case rel => exact ⟨i + 1, by omega, by go_num, hB2, by rw [hE.out]; exact hO2⟩
        case measure => simp [intOf]; omega
    · have hkl : i = la.length := by omega
      subst hkl
      have hOp1 := hO
      have hBp1 := hB
      clear hO hB
      go_wp2_with fail
      go_loopw [5, 7] (fun u x wr => ∃ i : Nat, i ≤ lb.length ∧ x = .int .i64 i ∧ Below w.heap.size w wr ∧ OwnRoly wr w.heap.size u (colQ (f1Q lb la) (colQ (f1Q la lb) [] la.length) i)) (fun _ x _ => lb.length - (intOf x).toNat)
      case atStart => exact ⟨0, Nat.zero_le _, rfl, hBp1, hOp1⟩
      case round =>
        obtain ⟨i, hi, rfl, hB, hO⟩ := hrel
        rcases Nat.lt_or_ge i lb.length with hlt | hge
        · obtain ⟨sp, hsp, hpp⟩ := hSB i lb[i] (List.getElem?_eq_getElem hlt)
          have lp := llb _ (List.getElem_mem hlt)
          rw [gt_get hlt] at hpp lp
          obtain ⟨ad, rfl, hab, _⟩ := hrb.point hsp
          obtain ⟨hpb, hp6⟩ := hrb.point' hsp
          have b1 : (0 : Int) ≤ (i : Int) := by omega
          have b2 : (i : Int) < (lb.length : Int) := by omega
          have hbs := hB.size
          have hp2 := (hpp.below hB).more hbs
          obtain ⟨hl1, hl2⟩ := sh2_ok lla llb i hi
          obtain ⟨z, hz⟩ := bool_of (InQ la (gt lb i))
          have I1 := inside_any la (gt lb i) _ sp wr ((hA.below hB).more hbs) hp2 (by omega) (by omega) (fun q hq => Nat.le_trans (lla q hq) (by omega)) z hz
          unfold Sx.val at I1
          obtain ⟨x0, x1, x2, x3, x4, x5⟩ := hp6.next hB hpb
          go_wp2_with fail
          refine I1.mono ?_
          rintro e w1 ⟨hb1, rfl⟩
          have hB1 := hB.trans (hb1.mono hbs)
          have hO1 := hO.keep hb1
          have hp3 := hp2.next hb1
          clear I1 x0 x1 x2 x3 x4 x5 hO hB hp2 hb1 hbs
          cases z with
          | false =>
            have hE : Hid (colQ (f1Q lb la) (colQ (f1Q la lb) [] la.length) (i + 1) = colQ (f1Q lb la) (colQ (f1Q la lb) [] la.length) i) := colQ_none (by unfold f1Q; rw [if_neg]; exact fun h => absurd (hz.2 h) (by simp))
            clear hz
            go_wp2
            go_roundw
            case rel => exact ⟨i + 1, by omega, by go_num, hB1, by rw [hE.out]; exact hO1⟩
            case measure => simp [intOf]; omega
          | true =>
            have hE : Hid (colQ (f1Q lb la) (colQ (f1Q la lb) [] la.length) (i + 1) = addQ (colQ (f1Q lb la) (colQ (f1Q la lb) [] la.length) i) (gt lb i)) := colQ_some (by unfold f1Q; rw [if_pos (hz.1 rfl)])
            have I2 := added_any w.heap.size _ (gt lb i) _ sp w1 hB1.size hO1 hp3 (by omega) (by omega) (fun q hq => Nat.le_trans (hl2 q hq) (by omega))
            unfold Sx.val at I2
            obtain ⟨x0, x1, x2, x3, x4, x5⟩ := hp6.next hB1 hpb
            clear hz
            go_wp2_with fail
            refine I2.mono ?_
            rintro e w2 ⟨hb2, v2, rfl, hO2⟩
            have hB2 := hB1.trans hb2
            clear I2 x0 x1 x2 x3 x4 x5 hO1 hB1 hb2 hp3
            go_wp2
            go_roundw
            case rel => exact ⟨i + 1, by omega, by go_num, hB2, by rw [hE.out]; exact hO2⟩
            case measure => simp [intOf]; omega
        · have hkl : i = lb.length := by omega
          subst hkl
          have hOp2 := hO
          have hBp2 := hB
          clear hO hB
          go_wp2_with fail
          go_loopw [5, 8] (fun u x wr => ∃ i : Nat, i ≤ la.length ∧ x = .int .i64 i ∧ Below w.heap.size w wr ∧ OwnRoly wr w.heap.size u (nestQ (f3Q la lb) lb.length (sh2 la lb) i)) (fun _ x _ => la.length - (intOf x).toNat)
          case atStart => exact ⟨0, Nat.zero_le _, rfl, hBp2, hOp2⟩
          case round =>
            obtain ⟨i, hi, rfl, hB, hO⟩ := hrel
            rcases Nat.lt_or_ge i la.length with hlt | hge
            · obtain ⟨i1, hi1⟩ : ∃ j, j = (i + 1) % la.length := ⟨_, rfl⟩
              have hl1 : i1 < la.length := by rw [hi1]; exact Nat.mod_lt _ (by omega)
              have m1 : ((i : Int) + 1).tmod (la.length : Int) = (i1 : Int) := by rw [hi1]; rfl
              have n0 : ¬ la.length = 0 := by omega
              have ww1 : IntKind.i64.wrap ((i : Int) + 1) = (i : Int) + 1 := IntWalk.i64_in _ (by omega)
              obtain ⟨sa, hsa, hpa⟩ := hSA i la[i] (List.getElem?_eq_getElem hlt)
              obtain ⟨sb, hsb, hpb⟩ := hSA i1 la[i1] (List.getElem?_eq_getElem hl1)
              have lpa := lla _ (List.getElem_mem hlt)
              have lpb := lla _ (List.getElem_mem hl1)
              rw [gt_get hlt] at hpa lpa
              rw [gt_get hl1, ← nx_at hi1] at hpb lpb
              obtain ⟨ad, rfl, hab, _⟩ := hra.point hsa
              obtain ⟨hab0, ha6⟩ := hra.point' hsa
              obtain ⟨hbb0, hb6⟩ := hra.point' hsb
              have b1 : (0 : Int) ≤ (i : Int) := by omega
              have b2 : (i : Int) < (la.length : Int) := by omega
              have HN : Hid (nestQ (f3Q la lb) lb.length (sh2 la lb) (i + 1) = colQ (f3Q la lb i) (nestQ (f3Q la lb) lb.length (sh2 la lb) i) lb.length) := rfl
              have hO' : OwnRoly wr w.heap.size u5 (colQ (f3Q la lb i) (nestQ (f3Q la lb) lb.length (sh2 la lb) i) 0) := hO
              have hmul : i * lb.length ≤ 7 * 8 := Nat.mul_le_mul (by omega) hmb
              clear hO hi1
              go_wp2_with fail
              go_loopw [5, 9] (fun u x wr => ∃ k : Nat, k ≤ lb.length ∧ x = .int .i64 k ∧ Below w.heap.size w wr ∧ OwnRoly wr w.heap.size u (colQ (f3Q la lb i) (nestQ (f3Q la lb) lb.length (sh2 la lb) i) k)) (fun _ x _ => lb.length - (intOf x).toNat)
              case atStart => exact ⟨0, Nat.zero_le _, rfl, hB, hO'⟩
              case round =>
                clear hB hO'
                obtain ⟨k, hk, rfl, hB, hO⟩ := hrel
                rcases Nat.lt_or_ge k lb.length with hltk | hgek
                · obtain ⟨k1, hk1⟩ : ∃ j, j = (k + 1) % lb.length := ⟨_, rfl⟩
                  have hl2 : k1 < lb.length := by rw [hk1]; exact Nat.mod_lt _ (by omega)
                  have m2 : ((k : Int) + 1).tmod (lb.length : Int) = (k1 : Int) := by rw [hk1]; rfl
                  have n2 : ¬ lb.length = 0 := by omega
                  have ww2 : IntKind.i64.wrap ((k : Int) + 1) = (k : Int) + 1 := IntWalk.i64_in _ (by omega)
                  obtain ⟨sc, hsc, hpc⟩ := hSB k lb[k] (List.getElem?_eq_getElem hltk)
                  obtain ⟨sd, hsd, hpd⟩ := hSB k1 lb[k1] (List.getElem?_eq_getElem hl2)
                  have lpc := llb _ (List.getElem_mem hltk)
                  have lpd := llb _ (List.getElem_mem hl2)
                  rw [gt_get hltk] at hpc lpc
                  rw [gt_get hl2, ← nx_at hk1] at hpd lpd
                  obtain ⟨bd, rfl, hbd, _⟩ := hrb.point hsc
                  obtain ⟨hcb0, hc6⟩ := hrb.point' hsc
                  obtain ⟨hdb0, hd6⟩ := hrb.point' hsd
                  have b3 : (0 : Int) ≤ (k : Int) := by omega
                  have b4 : (k : Int) < (lb.length : Int) := by omega
                  have hbs := hB.size
                  obtain ⟨hq1, hq2⟩ := sh4_ok lla llb i hlt k hk
                  have HS : Hid (∀ p, f3Q la lb i k = some p → colQ (f3Q la lb i) (nestQ (f3Q la lb) lb.length (sh2 la lb) i) (k + 1) = addQ (colQ (f3Q la lb i) (nestQ (f3Q la lb) lb.length (sh2 la lb) i) k) p) := fun p h => colQ_some h
                  have HO0 : Hid (f3Q la lb i k = none → colQ (f3Q la lb i) (nestQ (f3Q la lb) lb.length (sh2 la lb) i) (k + 1) = colQ (f3Q la lb i) (nestQ (f3Q la lb) lb.length (sh2 la lb) i) k) := fun h => colQ_none h
                  have HF : Hid (∀ m, meetingQ (gt la i) (nx la i) (gt lb k) (nx lb k) = m → (detQ (gt la i) (nx la i) (gt lb k) (nx lb k) ≠ 0 → InQ la m → InQ lb m → f3Q la lb i k = some m) ∧ (¬ (detQ (gt la i) (nx la i) (gt lb k) (nx lb k) ≠ 0 ∧ InQ la m ∧ InQ lb m) → f3Q la lb i k = none)) := fun m hm => by
                    subst hm
                    exact ⟨fun h1 h2 h3 => by unfold f3Q; rw [if_pos ⟨h1, h2, h3⟩], fun h => by unfold f3Q; rw [if_neg h]⟩
                  have HSZ : Hid (detQ (gt la i) (nx la i) (gt lb k) (nx lb k) ≠ 0 → szp (meetingQ (gt la i) (nx la i) (gt lb k) (nx lb k)) ≤ 31) := fun h => sz_meeting lpa lpb lpc lpd h
                  have pa2 := (hpa.below hB).more hbs
                  have pb2 := (hpb.below hB).more hbs
                  have pc2 := (hpc.below hB).more hbs
                  have pd2 := (hpd.below hB).more hbs
                  have M1 := Lib.hid (fun X (h : Below wr.heap.size wr X) => meeting_any (gt la i) (nx la i) (gt lb k) (nx lb k) sa sb sc sd X (pa2.next h) (pb2.next h) (pc2.next h) (pd2.next h) (by omega) (by omega) (by omega) (by omega))
                  unfold Sx.val at M1
                  have KK : Hid (∀ X, Below wr.heap.size wr X → ((X.cell? (ad.add (i * 6)) = some (.bool sa.b1) ∧ X.cell? ⟨(ad.add (i * 6)).block, (ad.add (i * 6)).off + 1, none⟩ = some sa.n1 ∧ X.cell? ⟨(ad.add (i * 6)).block, (ad.add (i * 6)).off + 2, none⟩ = some sa.d1 ∧ X.cell? ⟨(ad.add (i * 6)).block, (ad.add (i * 6)).off + 3, none⟩ = some (.bool sa.b2) ∧ X.cell? ⟨(ad.add (i * 6)).block, (ad.add (i * 6)).off + 4, none⟩ = some sa.n2 ∧ X.cell? ⟨(ad.add (i * 6)).block, (ad.add (i * 6)).off + 5, none⟩ = some sa.d2) ∧ (X.cell? (ad.add (i1 * 6)) = some (.bool sb.b1) ∧ X.cell? ⟨(ad.add (i1 * 6)).block, (ad.add (i1 * 6)).off + 1, none⟩ = some sb.n1 ∧ X.cell? ⟨(ad.add (i1 * 6)).block, (ad.add (i1 * 6)).off + 2, none⟩ = some sb.d1 ∧ X.cell? ⟨(ad.add (i1 * 6)).block, (ad.add (i1 * 6)).off + 3, none⟩ = some (.bool sb.b2) ∧ X.cell? ⟨(ad.add (i1 * 6)).block, (ad.add (i1 * 6)).off + 4, none⟩ = some sb.n2 ∧ X.cell? ⟨(ad.add (i1 * 6)).block, (ad.add (i1 * 6)).off + 5, none⟩ = some sb.d2) ∧ (X.cell? (bd.add (k * 6)) = some (.bool sc.b1) ∧ X.cell? ⟨(bd.add (k * 6)).block, (bd.add (k * 6)).off + 1, none⟩ = some sc.n1 ∧ X.cell? ⟨(bd.add (k * 6)).block, (bd.add (k * 6)).off + 2, none⟩ = some sc.d1 ∧ X.cell? ⟨(bd.add (k * 6)).block, (bd.add (k * 6)).off + 3, none⟩ = some (.bool sc.b2) ∧ X.cell? ⟨(bd.add (k * 6)).block, (bd.add (k * 6)).off + 4, none⟩ = some sc.n2 ∧ X.cell? ⟨(bd.add (k * 6)).block, (bd.add (k * 6)).off + 5, none⟩ = some sc.d2) ∧ (X.cell? (bd.add (k1 * 6)) = some (.bool sd.b1) ∧ X.cell? ⟨(bd.add (k1 * 6)).block, (bd.add (k1 * 6)).off + 1, none⟩ = some sd.n1 ∧ X.cell? ⟨(bd.add (k1 * 6)).block, (bd.add (k1 * 6)).off + 2, none⟩ = some sd.d1 ∧ X.cell? ⟨(bd.add (k1 * 6)).block, (bd.add (k1 * 6)).off + 3, none⟩ = some (.bool sd.b2) ∧ X.cell? ⟨(bd.add (k1 * 6)).block, (bd.add (k1 * 6)).off + 4, none⟩ = some sd.n2 ∧ X.cell? ⟨(bd.add (k1 * 6)).block, (bd.add (k1 * 6)).off + 5, none⟩ = some sd.d2))) := fun X h => ⟨ha6.next (hB.trans (h.mono hbs)) hab0, hb6.next (hB.trans (h.mono hbs)) hbb0, hc6.next (hB.trans (h.mono hbs)) hcb0, hd6.next (hB.trans (h.mono hbs)) hdb0⟩
                  generalize meetingQ (gt la i) (nx la i) (gt lb k) (nx lb k) = mt at *
                  generalize detQ (gt la i) (nx la i) (gt lb k) (nx lb k) = dt at *
                  replace HF := Lib.hid (HF.out mt rfl)
                  generalize f3Q la lb i k = fo at HS HO0 HF
                  clear hsc hsd hpc hpd pa2 pb2 pc2 pd2 lpc lpd hk1
                  obtain ⟨⟨x0, x1, x2, x3, x4, x5⟩, ⟨y0, y1, y2, y3, y4, y5⟩, ⟨z0, z1, z2, z3, z4, z5⟩, v0, v1, v2, v3, v4, v5⟩ := KK.out wr (Below.refl _ _)
                  have bb0 := Below.refl wr.heap.size wr
                  have hbs0 := bb0.size
                  go_wp2_with fail
                  go_cut [10, 11] from 54 to 101 (fun x y wx => ∃ (b10 : Nat) (s : Sx), x = .pointer (some ⟨b10, 0, none⟩) ∧ y = .bool (!decide (dt = 0)) ∧ Bk wx b10 119 s.cells.toArray ∧ (dt ≠ 0 → IsRt wx wx.heap.size s mt) ∧ Below wr.heap.size wr wx)
                  case first =>
                    go_region_held3 (fun X => (X.cell? (ad.add (i * 6)) = some (.bool sa.b1) ∧ X.cell? ⟨(ad.add (i * 6)).block, (ad.add (i * 6)).off + 1, none⟩ = some sa.n1 ∧ X.cell? ⟨(ad.add (i * 6)).block, (ad.add (i * 6)).off + 2, none⟩ = some sa.d1 ∧ X.cell? ⟨(ad.add (i * 6)).block, (ad.add (i * 6)).off + 3, none⟩ = some (.bool sa.b2) ∧ X.cell? ⟨(ad.add (i * 6)).block, (ad.add (i * 6)).off + 4, none⟩ = some sa.n2 ∧ X.cell? ⟨(ad.add (i * 6)).block, (ad.add (i * 6)).off + 5, none⟩ = some sa.d2) ∧ (X.cell? (ad.add (i1 * 6)) = some (.bool sb.b1) ∧ X.cell? ⟨(ad.add (i1 * 6)).block, (ad.add (i1 * 6)).off + 1, none⟩ = some sb.n1 ∧ X.cell? ⟨(ad.add (i1 * 6)).block, (ad.add (i1 * 6)).off + 2, none⟩ = some sb.d1 ∧ X.cell? ⟨(ad.add (i1 * 6)).block, (ad.add (i1 * 6)).off + 3, none⟩ = some (.bool sb.b2) ∧ X.cell? ⟨(ad.add (i1 * 6)).block, (ad.add (i1 * 6)).off + 4, none⟩ = some sb.n2 ∧ X.cell? ⟨(ad.add (i1 * 6)).block, (ad.add (i1 * 6)).off + 5, none⟩ = some sb.d2) ∧ (X.cell? (bd.add (k * 6)) = some (.bool sc.b1) ∧ X.cell? ⟨(bd.add (k * 6)).block, (bd.add (k * 6)).off + 1, none⟩ = some sc.n1 ∧ X.cell? ⟨(bd.add (k * 6)).block, (bd.add (k * 6)).off + 2, none⟩ = some sc.d1 ∧ X.cell? ⟨(bd.add (k * 6)).block, (bd.add (k * 6)).off + 3, none⟩ = some (.bool sc.b2) ∧ X.cell? ⟨(bd.add (k * 6)).block, (bd.add (k * 6)).off + 4, none⟩ = some sc.n2 ∧ X.cell? ⟨(bd.add (k * 6)).block, (bd.add (k * 6)).off + 5, none⟩ = some sc.d2) ∧ (X.cell? (bd.add (k1 * 6)) = some (.bool sd.b1) ∧ X.cell? ⟨(bd.add (k1 * 6)).block, (bd.add (k1 * 6)).off + 1, none⟩ = some sd.n1 ∧ X.cell? ⟨(bd.add (k1 * 6)).block, (bd.add (k1 * 6)).off + 2, none⟩ = some sd.d1 ∧ X.cell? ⟨(bd.add (k1 * 6)).block, (bd.add (k1 * 6)).off + 3, none⟩ = some (.bool sd.b2) ∧ X.cell? ⟨(bd.add (k1 * 6)).block, (bd.add (k1 * 6)).off + 4, none⟩ = some sd.n2 ∧ X.cell? ⟨(bd.add (k1 * 6)).block, (bd.add (k1 * 6)).off + 5, none⟩ = some sd.d2))
                      (((with_reducible refine KK.out _ ?_); repeat' (first | (with_reducible exact bb1) | (with_reducible exact bb0) | ((with_reducible refine Below.setCell ?_ ?_ _); rotate_left; (focus first | omega | (simp; done) | (simp; omega) | (unfold World.setCell; simp; omega))) | ((with_reducible refine Below.alloc ?_ ?_ _); rotate_left; (focus first | omega | (simp; done) | (simp; omega) | (unfold World.setCell; simp; omega))) | (with_reducible refine Below.drew ?_))))
                      (first
                        | (go_at_call 95; (with_reducible refine (M1.out _ ?_).mono ?_); (focus repeat' (first | (with_reducible exact bb0) | ((with_reducible refine Below.setCell ?_ ?_ _); rotate_left; (focus first | omega | (simp; done) | (simp; omega) | (unfold World.setCell; simp; omega))) | ((with_reducible refine Below.alloc ?_ ?_ _); rotate_left; (focus first | omega | (simp; done) | (simp; omega) | (unfold World.setCell; simp; omega))) | (with_reducible refine Below.drew ?_))); rintro e w1 ⟨hb1, s, rfl, ⟨t1, A1, l1, c1, A1', l1', c1', t2, A2, l2, c2, A3, l3, c3, rfl⟩, hpm⟩; have bb1 : Below wr.heap.size wr w1 := below_step (by repeat' (first | (with_reducible exact bb0) | ((with_reducible refine Below.setCell ?_ ?_ _); rotate_left; (focus first | omega | (simp; done) | (simp; omega) | (unfold World.setCell; simp; omega))) | ((with_reducible refine Below.alloc ?_ ?_ _); rotate_left; (focus first | omega | (simp; done) | (simp; omega) | (unfold World.setCell; simp; omega))) | (with_reducible refine Below.drew ?_))) hb1; have hbs1 := bb1.size; (first | ((with_reducible have ka := (Bk.new wr 119 #[.bool false, .slice none 0 0, .slice none 0 0, .bool false, .slice none 0 0, .slice none 0 0]).drew.next' hb1); have la1 := ka.lt; obtain ⟨g0, g1, g2, g3, g4, g5⟩ := bk6c (s := szero) ka; have f0 := ka.frozen 0; have f1 := ka.frozen 1; have f2 := ka.frozen 2; have f3 := ka.frozen 3; have f4 := ka.frozen 4; have f5 := ka.frozen 5; simp only [szero] at g0 g1 g2 g3 g4 g5) | skip)))
                    all_goals (go_wp2_with fail)
                    all_goals go_meet
                    all_goals
                      refine ⟨_, ⟨t1, .slice A1 l1 c1, .slice A1' l1' c1', t2, .slice A2 l2 c2, .slice A3 l3 c3⟩, rfl, rfl, ?_, ?_, ?_⟩
                      · first | (with_reducible exact (rtN hpm).1) | (with_reducible exact (rtS ka hpm).1)
                      · first | (with_reducible exact (rtN hpm).2) | (with_reducible exact (rtS ka hpm).2)
                      · repeat' (first | (with_reducible exact bb1) | (with_reducible exact bb0) | ((with_reducible refine Below.setCell ?_ ?_ _); rotate_left; (focus first | omega | (simp; done) | (simp; omega) | (unfold World.setCell; simp; omega))) | ((with_reducible refine Below.alloc ?_ ?_ _); rotate_left; (focus first | omega | (simp; done) | (simp; omega) | (unfold World.setCell; simp; omega))) | (with_reducible refine Below.drew ?_))
                  case rest =>
                    obtain ⟨b10, s, rfl, rfl, k10, hpm, hbc⟩ := hcut
                    have hB1 := hB.trans (hbc.mono hbs)
                    have hO1 := hO.keep hbc
                    clear KK M1 hO hB hbc bb0 hbs0 hbs x0 x1 x2 x3 x4 x5 y0 y1 y2 y3 y4 y5 z0 z1 z2 z3 z4 z5 v0 v1 v2 v3 v4 v5
                    by_cases hdt : dt = 0
                    · have hE := Lib.hid (HO0.out (HF.out.2 (fun h => h.1 hdt)))
                      have hdd : (!decide (dt = 0)) = false := by simp [hdt]
                      rw [hdd]
                      clear HS HO0 HF HSZ hdd hdt hpm
                      go_wp2
                      go_roundw
                      case rel => exact ⟨k + 1, by omega, by go_num, hB1, by rw [hE.out]; exact hO1⟩
                      case measure => simp [intOf]; omega
                    have hdd : (!decide (dt = 0)) = true := by simp [hdt]
                    rw [hdd]
                    have hlm := HSZ.out hdt
                    have hpm1 := hpm hdt
                    have hF1 := Lib.hid (HF.out.1 hdt)
                    have hF2 := Lib.hid (HF.out.2)
                    obtain ⟨z1, hz1⟩ := bool_of (InQ la mt)
                    have hs1 := hB1.size
                    have I1 := inside_any la mt _ s wc ((hA.below hB1).more hs1) hpm1 (by omega) (by omega) (fun q hq => Nat.le_trans (lla q hq) (by omega)) z1 hz1
                    unfold Sx.val at I1
                    clear HF HSZ hdd hpm
                    obtain ⟨x0, x1, x2, x3, x4, x5⟩ := bk6c k10
                    go_wp2_with fail
                    refine I1.mono ?_
                    rintro e w2 ⟨hb2, rfl⟩
                    have hB2 := hB1.trans (hb2.mono hs1)
                    have hO2 := hO1.keep hb2
                    have hp2 := hpm1.next hb2
                    have k102 := k10.next' hb2
                    clear I1 hB1 hO1 hpm1 k10 x0 x1 x2 x3 x4 x5 hb2 hs1
                    cases z1 with
                    | false =>
                      have hE := Lib.hid (HO0.out (hF2.out (fun h => absurd (hz1.2 h.2.1) (by simp))))
                      clear HS HO0 hF1 hF2 hdt hz1
                      go_wp2
                      go_roundw
                      case rel => exact ⟨k + 1, by omega, by go_num, hB2, by rw [hE.out]; exact hO2⟩
                      case measure => simp [intOf]; omega
                    | true =>
                    have hy1 : InQ la mt := hz1.1 rfl
                    clear hz1
                    obtain ⟨z2, hz2⟩ := bool_of (InQ lb mt)
                    have hs2 := hB2.size
                    have I1 := inside_any lb mt _ s w2 ((hB'.below hB2).more hs2) hp2 (by omega) (by omega) (fun q hq => Nat.le_trans (llb q hq) (by omega)) z2 hz2
                    unfold Sx.val at I1
                    obtain ⟨x0, x1, x2, x3, x4, x5⟩ := bk6c k102
                    go_wp2_with fail
                    refine I1.mono ?_
                    rintro e w3 ⟨hb3, rfl⟩
                    have hB3 := hB2.trans (hb3.mono hs2)
                    have hO3 := hO2.keep hb3
                    have hp3 := hp2.next hb3
                    have k103 := k102.next' hb3
                    clear I1 hB2 hO2 hp2 k102 x0 x1 x2 x3 x4 x5 hb3 hs2
                    cases z2 with
                    | false =>
                      have hE := Lib.hid (HO0.out (hF2.out (fun h => absurd (hz2.2 h.2.2) (by simp))))
                      clear HS HO0 hF1 hF2 hdt hz2
                      go_wp2
                      go_roundw
                      case rel => exact ⟨k + 1, by omega, by go_num, hB3, by rw [hE.out]; exact hO3⟩
                      case measure => simp [intOf]; omega
                    | true =>
                    have hy2 : InQ lb mt := hz2.1 rfl
                    have hE := Lib.hid (HS.out mt (hF1.out hy1 hy2))
                    have I2 := added_any w.heap.size _ mt _ s w3 hB3.size hO3 hp3 (by omega) (by omega) (fun q hq => Nat.le_trans (hq2 q hq) (by omega))
                    unfold Sx.val at I2
                    obtain ⟨x0, x1, x2, x3, x4, x5⟩ := bk6c k103
                    clear HS HO0 hF1 hF2 hdt hz2 hy1 hy2
                    go_wp2_with fail
                    refine I2.mono ?_
                    rintro e w4 ⟨hb4, v4, rfl, hO4⟩
                    have hB4 := hB3.trans hb4
                    clear I2 x0 x1 x2 x3 x4 x5 hO3 hB3 hb4 hp3 k103
                    go_wp2
                    go_roundw
                    case rel => exact ⟨k + 1, by omega, by go_num, hB4, by rw [hE.out]; exact hO4⟩
                    case measure => simp [intOf]; omega
                · have hkl : k = lb.length := by omega
                  subst hkl
                  rw [← HN.out] at hO
                  go_wp2
                  go_roundw
                  case rel => exact ⟨i + 1, by omega, by go_num, hB, hO⟩
                  case measure => simp [intOf]; omega
            · have hkl : i = la.length := by omega
              subst hkl
              have HQ : Hid (IsRoly wr wr.heap.size u5 (sharedQ la lb)) := hO.is
              clear hO
              go_wp2
              go_ret
              exact ⟨hB, _, rfl, HQ.out⟩
end Go.Proofs.YtblopapobmbboaaGreatDoor
