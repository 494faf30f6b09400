/-
  Plain laws: what two cells have in common is the same both ways, does not depend on the first corner, is at most the lesser area, and is the area for a cell and itself; sizes.
  Walks: a grid of valid cells without a period; ValidGrid (all valid).
-/
import Derived.Test.YtaihplgfbepgpaaGreatDoorRegS
import Derived.Test.YtaihplgfbepgpaaGreatDoorRegY
namespace Go.Proofs.YtaihplgfbepgpaaGreatDoor
open Go.RowKit Ar

/-- The corners from number n on. -/
def rotl (l : List Pl) (n : Nat) : List Pl := l.drop n ++ l.take n
theorem rotl_len (l : List Pl) (n : Nat) : (rotl l n).length = l.length := by
  unfold rotl; rw [List.length_append, List.length_drop, List.length_take]; omega
theorem mod_two {x n : Nat} (hx : x < 2 * n) : x % n = if x < n then x else x - n := by
  split
  · exact Nat.mod_eq_of_lt (by assumption)
  · rw [Nat.mod_eq_sub_mod (by omega), Nat.mod_eq_of_lt (by omega)]
theorem cn_rotl {l : List Pl} {n i : Nat} (hn : n < l.length) (hi : i < l.length) : cn (rotl l n) i = cn l ((i + n) % l.length) := by
  unfold cn rotl
  rw [mod_two (by omega), List.getD_eq_getElem?_getD, List.getD_eq_getElem?_getD]
  congr 1
  rcases Nat.lt_or_ge i (l.length - n) with h | h
  · rw [List.getElem?_append_left (by rw [List.length_drop]; exact h), List.getElem?_drop, if_pos (by omega), Nat.add_comm]
  · rw [List.getElem?_append_right (by rw [List.length_drop]; exact h), List.length_drop, List.getElem?_take, if_pos (by omega), if_neg (by omega)]
    congr 1; omega
theorem tch_symm {a b c d : Pl} (h : tch a b c d) : tch c d a b := by
  unfold tch at *
  rcases h with h | h | h | h | h
  · exact .inl ⟨h.2, h.1⟩
  · exact .inr (.inr (.inr (.inl h)))
  · exact .inr (.inr (.inr (.inr h)))
  · exact .inr (.inl h)
  · exact .inr (.inr (.inl h))
/-- No two sides that are no neighbours have a place in common. -/
def sidesOk (l : List Pl) : Prop := ∀ i k, i < l.length → k < l.length → k ≠ i → k ≠ (i + 1) % l.length → i ≠ (k + 1) % l.length → ¬ tch (cn l i) (cn l ((i + 1) % l.length)) (cn l k) (cn l ((k + 1) % l.length))
theorem validC_iff (l : List Pl) : validC l ↔ 3 ≤ l.length ∧ l.length ≤ 8 ∧ (∀ p ∈ l, okP p) ∧ (∀ i, i < l.length → 0 < trn (cn l i) (cn l ((i + 1) % l.length)) (cn l ((i + 2) % l.length))) ∧ sidesOk l := by
  constructor
  · rintro ⟨h3, h8, hp, hv⟩
    refine ⟨h3, h8, hp, fun i hi => (hv i hi).1, ?_⟩
    have key : ∀ i k, i < l.length → k < l.length → i < k → k ≠ (i + 1) % l.length → i ≠ (k + 1) % l.length → ¬ tch (cn l i) (cn l ((i + 1) % l.length)) (cn l k) (cn l ((k + 1) % l.length)) := fun i k hi hk hik h1 h2 => by
      have e1 : (i + 1) % l.length = i + 1 := Nat.mod_eq_of_lt (by omega)
      rw [e1] at h1 ⊢
      exact (hv i hi).2 k (by omega) hk fun e => h2 e.symm
    intro i k hi hk hne h1 h2
    rcases Nat.lt_or_ge i k with h | h
    · exact key i k hi hk h h1 h2
    · exact fun ht => key k i hk hi (by omega) h2 h1 (tch_symm ht)
  · rintro ⟨h3, h8, hp, hv, hs⟩
    refine ⟨h3, h8, hp, fun i hi => ⟨hv i hi, fun k hk hkl hne => ?_⟩⟩
    have e1 : (i + 1) % l.length = i + 1 := Nat.mod_eq_of_lt (by omega)
    have := hs i k hi hkl (by omega) (by omega) (fun e => hne e.symm)
    rwa [e1] at this
theorem add_mod_inj {i k n m : Nat} (hi : i < m) (hk : k < m) (h : (i + n) % m = (k + n) % m) (hn : n < m) : i = k := by
  rw [mod_two (by omega), mod_two (by omega)] at h
  split at h <;> split at h <;> omega
theorem mod_next (i n m : Nat) : ((i + 1) % m + n) % m = ((i + n) % m + 1) % m := by
  rw [Nat.mod_add_mod, Nat.mod_add_mod]; congr 1; omega
theorem mod_next2 (i n m : Nat) : ((i + 2) % m + n) % m = ((i + n) % m + 2) % m := by
  rw [Nat.mod_add_mod, Nat.mod_add_mod]; congr 1; omega
theorem validC_rotl {l : List Pl} (h : validC l) {n : Nat} (hn : n < l.length) : validC (rotl l n) := by
  obtain ⟨h3, h8, hp, hv, hs⟩ := (validC_iff l).1 h
  have hm : ∀ x, x % l.length < l.length := fun x => Nat.mod_lt _ (by omega)
  refine (validC_iff _).2 ⟨by rw [rotl_len]; exact h3, by rw [rotl_len]; exact h8, ?_, ?_, ?_⟩
  · intro p hpm
    unfold rotl at hpm
    rcases List.mem_append.1 hpm with h1 | h1
    · exact hp p (List.mem_of_mem_drop h1)
    · exact hp p (List.mem_of_mem_take h1)
  · intro i hi
    rw [rotl_len] at hi ⊢
    rw [cn_rotl hn hi, cn_rotl hn (hm _), cn_rotl hn (hm _), mod_next, mod_next2]
    exact hv _ (hm _)
  · intro i k hi hk hne h1 h2
    rw [rotl_len] at hi hk h1 h2 ⊢
    rw [cn_rotl hn hi, cn_rotl hn (hm _), cn_rotl hn hk, cn_rotl hn (hm _), mod_next, mod_next]
    refine hs _ _ (hm _) (hm _) (fun e => hne (add_mod_inj hk hi e hn)) (fun e => h1 ?_) (fun e => h2 ?_)
    · rw [← mod_next] at e
      exact add_mod_inj hk (hm _) e hn
    · rw [← mod_next] at e
      exact add_mod_inj hi (hm _) e hn

/-- What a box is. -/
structure BoxOf (l : List Pl) (b : Bx) : Prop where
  a1 : ∀ p ∈ l, b.1 ≤ p.1
  a2 : ∀ p ∈ l, p.1 ≤ b.2.1
  a3 : ∀ p ∈ l, b.2.2.1 ≤ p.2
  a4 : ∀ p ∈ l, p.2 ≤ b.2.2.2
  c1 : ∃ p ∈ l, b.1 = p.1
  c2 : ∃ p ∈ l, b.2.1 = p.1
  c3 : ∃ p ∈ l, b.2.2.1 = p.2
  c4 : ∃ p ∈ l, b.2.2.2 = p.2
theorem BoxOf.step {l : List Pl} {b : Bx} (h : BoxOf l b) (p : Pl) : BoxOf (l ++ [p]) (bstep b p) := by
  have mm : ∀ q ∈ l ++ [p], q ∈ l ∨ q = p := fun q hq => by simpa using hq
  refine ⟨fun q hq => ?_, fun q hq => ?_, fun q hq => ?_, fun q hq => ?_, ?_, ?_, ?_, ?_⟩ <;> simp only [bstep]
  · rcases mm q hq with h1 | rfl
    · have := h.a1 q h1; omega
    · omega
  · rcases mm q hq with h1 | rfl
    · have := h.a2 q h1; omega
    · omega
  · rcases mm q hq with h1 | rfl
    · have := h.a3 q h1; omega
    · omega
  · rcases mm q hq with h1 | rfl
    · have := h.a4 q h1; omega
    · omega
  · obtain ⟨q, hq, e⟩ := h.c1
    rcases Int.le_total b.1 p.1 with h1 | h1
    · exact ⟨q, by simp [hq], by omega⟩
    · exact ⟨p, by simp, by omega⟩
  · obtain ⟨q, hq, e⟩ := h.c2
    rcases Int.le_total b.2.1 p.1 with h1 | h1
    · exact ⟨p, by simp, by omega⟩
    · exact ⟨q, by simp [hq], by omega⟩
  · obtain ⟨q, hq, e⟩ := h.c3
    rcases Int.le_total b.2.2.1 p.2 with h1 | h1
    · exact ⟨q, by simp [hq], by omega⟩
    · exact ⟨p, by simp, by omega⟩
  · obtain ⟨q, hq, e⟩ := h.c4
    rcases Int.le_total b.2.2.2 p.2 with h1 | h1
    · exact ⟨p, by simp, by omega⟩
    · exact ⟨q, by simp [hq], by omega⟩
theorem BoxOf.fold : ∀ (m l : List Pl) (b : Bx), BoxOf l b → BoxOf (l ++ m) (m.foldl bstep b)
  | [], l, b, h => by simpa using h
  | p :: m, l, b, h => by
    have := BoxOf.fold m (l ++ [p]) (bstep b p) (h.step p)
    simpa using this
theorem bbox_of {l : List Pl} (h : 0 < l.length) : BoxOf l (bbox l) := by
  cases l with
  | nil => simp at h
  | cons p l =>
    have h0 : BoxOf [p] (p.1, p.1, p.2, p.2) := ⟨by simp, by simp, by simp, by simp, ⟨p, by simp⟩, ⟨p, by simp⟩, ⟨p, by simp⟩, ⟨p, by simp⟩⟩
    have e : bbox (p :: l) = l.foldl bstep (p.1, p.1, p.2, p.2) := by
      show l.foldl bstep (bstep (p.1, p.1, p.2, p.2) p) = _
      congr 1
      simp [bstep]
    rw [e]
    exact BoxOf.fold l [p] _ h0
theorem BoxOf.uniq {l m : List Pl} {b c : Bx} (h : BoxOf l b) (h' : BoxOf m c) (hm : ∀ p, p ∈ l ↔ p ∈ m) : b = c := by
  obtain ⟨p1, m1, e1⟩ := h.c1
  obtain ⟨p2, m2, e2⟩ := h.c2
  obtain ⟨p3, m3, e3⟩ := h.c3
  obtain ⟨p4, m4, e4⟩ := h.c4
  obtain ⟨q1, n1, f1⟩ := h'.c1
  obtain ⟨q2, n2, f2⟩ := h'.c2
  obtain ⟨q3, n3, f3⟩ := h'.c3
  obtain ⟨q4, n4, f4⟩ := h'.c4
  have g1 := h.a1 _ ((hm _).2 n1)
  have g2 := h.a2 _ ((hm _).2 n2)
  have g3 := h.a3 _ ((hm _).2 n3)
  have g4 := h.a4 _ ((hm _).2 n4)
  have k1 := h'.a1 _ ((hm _).1 m1)
  have k2 := h'.a2 _ ((hm _).1 m2)
  have k3 := h'.a3 _ ((hm _).1 m3)
  have k4 := h'.a4 _ ((hm _).1 m4)
  obtain ⟨b1, b2, b3, b4⟩ := b
  obtain ⟨c1, c2, c3, c4⟩ := c
  simp only [Prod.mk.injEq] at *
  omega
theorem rotl_mem (l : List Pl) (n : Nat) (p : Pl) : p ∈ l ↔ p ∈ rotl l n := by
  unfold rotl
  rw [List.mem_append]
  constructor
  · intro h
    rw [← List.take_append_drop n l] at h
    rcases List.mem_append.1 h with h1 | h1
    · exact .inr h1
    · exact .inl h1
  · rintro (h | h)
    · exact List.mem_of_mem_drop h
    · exact List.mem_of_mem_take h
theorem bbox_rotl {l : List Pl} (h : 0 < l.length) (n : Nat) : bbox (rotl l n) = bbox l :=
  ((bbox_of h).uniq (bbox_of (by rw [rotl_len]; exact h)) (rotl_mem l n)).symm
theorem cn_mem {l : List Pl} {i : Nat} (hi : i < l.length) : cn l i ∈ l := List.mem_of_getElem? (cn_at hi)
/-- A valid cell's box has an area. -/
theorem box_area {l : List Pl} (h : validC l) : ¬ apartB (bbox l) (shiftB (bbox l) 0) := by
  have h3 := h.1
  have ht := (h.2.2.2 0 (by omega)).1
  have B := bbox_of (l := l) (by omega)
  have hm : ∀ x, x % l.length < l.length := fun x => Nat.mod_lt _ (by omega)
  have m0 := cn_mem (l := l) (i := 0) (by omega)
  have m1 := cn_mem (l := l) (i := (0 + 1) % l.length) (hm _)
  have m2 := cn_mem (l := l) (i := (0 + 2) % l.length) (hm _)
  generalize cn l 0 = p0 at *
  generalize cn l ((0 + 1) % l.length) = p1 at *
  generalize cn l ((0 + 2) % l.length) = p2 at *
  have x0 := B.a1 _ m0
  have x1 := B.a1 _ m1
  have x2 := B.a1 _ m2
  have y0 := B.a2 _ m0
  have y1 := B.a2 _ m1
  have y2 := B.a2 _ m2
  have u0 := B.a3 _ m0
  have u1 := B.a3 _ m1
  have u2 := B.a3 _ m2
  have v0 := B.a4 _ m0
  have v1 := B.a4 _ m1
  have v2 := B.a4 _ m2
  unfold apartB shiftB
  simp only [Int.add_zero]
  intro hap
  unfold trn at ht
  have hx : (p1.1 = p0.1 ∧ p2.1 = p0.1) ∨ (p1.2 = p0.2 ∧ p2.2 = p0.2) := by omega
  rcases hx with ⟨e1, e2⟩ | ⟨e1, e2⟩
  · rw [e1, e2, Int.sub_self] at ht
    simp at ht
  · rw [e1, e2, Int.sub_self] at ht
    simp at ht

/-- A cell as a polygon of the plane. -/
def pgon (l : List Pl) : List Geo.Pt := (poly l 0).map toP
theorem pgon_len (l : List Pl) : (pgon l).length = l.length := by unfold pgon poly; simp
theorem pgon_tc {l : List Pl} (h : validC l) : Geo.TC (pgon l) := poly_tc h 0
theorem pgon_rot (l : List Pl) (n : Nat) : Geo.Rot (pgon l) (pgon (rotl l n)) := by
  refine ⟨pgon (l.take n), pgon (l.drop n), ?_, ?_⟩
  · unfold pgon poly
    rw [← List.map_append, ← List.map_append, List.take_append_drop]
  · unfold pgon poly rotl
    rw [List.map_append, List.map_append]
theorem commonQ_ar (la lb : List Pl) : commonQ la lb 0 = if apartB (bbox la) (shiftB (bbox lb) 0) then 0 else Geo.ar (pgon la) (Geo.cyc (pgon lb)) / 2 := by
  rw [commonQ_geo, Geo.fanArea_eq]; rfl
theorem areaQ_sh (l : List Pl) : areaQ (poly l 0) = Geo.Sh (pgon l) / 2 := by
  rw [areaQ_eq, Geo.fanArea_eq]; rfl
section
variable {la lb : List Pl} (ha : validC la) (hb : validC lb)
include ha hb
theorem commonQ_symm : commonQ la lb 0 = commonQ lb la 0 := by
  rw [commonQ_ar, commonQ_ar, Geo.ar_comm (pgon_tc ha) (by rw [pgon_len]; exact ha.1) (pgon_tc hb) (by rw [pgon_len]; exact hb.1)]
  have e : apartB (bbox la) (shiftB (bbox lb) 0) ↔ apartB (bbox lb) (shiftB (bbox la) 0) := by
    unfold apartB shiftB; simp only [Int.add_zero]; omega
  simp only [e]
theorem commonQ_rotl (n : Nat) : commonQ la (rotl lb n) 0 = commonQ la lb 0 := by
  rw [commonQ_ar, commonQ_ar, bbox_rotl (by have := hb.1; omega), Geo.ar_rot (pgon_tc ha) (by rw [pgon_len]; exact ha.1) (pgon_tc hb) (by rw [pgon_len]; exact hb.1) (pgon_rot lb n)]
theorem commonQ_bounds : 0 ≤ commonQ la lb 0 ∧ commonQ la lb 0 ≤ areaQ (poly la 0) ∧ commonQ la lb 0 ≤ areaQ (poly lb 0) := by
  have p1 := (pgon_tc ha).area_pos (by rw [pgon_len]; exact ha.1)
  have p2 := (pgon_tc hb).area_pos (by rw [pgon_len]; exact hb.1)
  rw [commonQ_ar, areaQ_sh, areaQ_sh]
  split
  · refine ⟨Rat.le_refl, ?_, ?_⟩ <;> grind
  · have q1 := Geo.ar_nonneg (pgon_tc ha) (by rw [pgon_len]; exact ha.1) (Geo.proper_cyc (pgon_tc hb) (by rw [pgon_len]; exact hb.1))
    have q2 := Geo.ar_le_left (pgon_tc ha) (by rw [pgon_len]; exact ha.1) (pgon_tc hb) (by rw [pgon_len]; exact hb.1)
    have q3 := Geo.ar_le_right (pgon_tc ha) (by rw [pgon_len]; exact ha.1) (pgon_tc hb) (by rw [pgon_len]; exact hb.1)
    refine ⟨?_, ?_, ?_⟩ <;> grind
end
theorem commonQ_self {la : List Pl} (ha : validC la) : commonQ la la 0 = areaQ (poly la 0) := by
  rw [commonQ_ar, if_neg (box_area ha), areaQ_sh, Geo.ar_self (pgon_tc ha) (by rw [pgon_len]; exact ha.1) (Geo.Rot.refl _)]

/-- Sizes, closer than those that the walks ask. -/
theorem CutOk.areaT {l s : List Qp} {k : Nat} (h : CutOk l s k) (hk : k ≤ 8) : ∀ j, j = 0 ∨ j + 2 ≤ (cutAll l s k).length → sz (areaS (cutAll l s k) j) ≤ 27000000000 := by
  intro j hj
  have h8 := szS_mono hk
  have e8 : szS 8 ≤ 236756961 := by decide
  rcases h.few with ⟨_, _, h3⟩ | ⟨a, b, hab, hl⟩
  · rw [List.length_map] at h3
    have h1 := sz_areaS h.szs j (by omega)
    have h2 : j * (8 * szS k + 6) ≤ 14 * (8 * szS k + 6) := Nat.mul_le_mul_right _ (by omega)
    omega
  · have e : areaS (cutAll l s k) j = 0 := by
      rcases hj with rfl | hj
      · rfl
      · rw [areaS_fan _ _ hj]
        refine Geo.fan_flat hab _ ?_ _ fun x hx => hl x (List.drop_sublist _ _ |>.subset (List.take_subset _ _ hx))
        refine hl _ (List.mem_map.2 ⟨_, ?_, rfl⟩)
        rw [List.getD_eq_getElem?_getD, List.getElem?_eq_getElem (by omega)]
        exact List.getElem_mem _
    rw [e]
    have := sz_small 0 (by decide)
    have e0 : ((0 : Int) : Rat) = 0 := rfl
    rw [e0] at this
    omega
theorem sz_twoT {q : Rat} (h : sz q ≤ 27000000000) : sz (q / 2) ≤ 27000000001 := by
  have := sz_div q 2 (by decide)
  have := sz_small 2 (by decide)
  have e0 : ((2 : Int) : Rat) = 2 := rfl
  rw [e0] at this
  omega
theorem commonQ_szT {la lb : List Pl} (ka : validC la) (kb : validC lb) {dx : Int} (hdx : -100000000 ≤ dx ∧ dx ≤ 100000000) : sz (commonQ la lb dx) ≤ 27000000001 := by
  unfold commonQ
  split
  · have := sz_small 0 (by decide)
    have e0 : ((0 : Int) : Rat) = 0 := rfl
    rw [e0] at this
    omega
  · exact sz_twoT ((cutOk ka kb hdx _ (Nat.le_refl _)).areaT kb.2.1 _ (by omega))
theorem areaC_szT {l : List Pl} (h : validC l) : sz (areaQ (poly l 0)) ≤ 27000000001 := sz_twoT ((areaOk h (dx := 0) (by omega)).areaT (by omega) _ (by show _ ∨ _ ≤ (poly l 0).length; omega))
/-- The length of a number's text. -/
theorem ratText_len (q : Rat) : (ratText q).length ≤ 18 * sz q + 4 := by
  rw [ratText_parts]
  have h1 := text_len (nm q)
  have h2 := text_len (dn q)
  have h3 := sz_nm q
  have h4 := sz_dn q
  rw [List.length_append, List.length_append]
  have e1 : (if sg q = true then [45] else [] : List UInt8).length ≤ 1 := by split <;> simp
  have e2 : (if dn q = 1 then [] else 47 :: Lib.decDigits (dn q) : List UInt8).length ≤ (Lib.decDigits (dn q)).length + 1 := by split <;> simp
  omega
end Go.Proofs.YtaihplgfbepgpaaGreatDoor

namespace Go.Proofs.YtaihplgfbepgpaaGreatDoor
open Go.RowKit Ar

/-- The first n cells have no part in common. -/
def flatTo (L : List Ce) (n : Nat) : Prop := ∀ (i k : Nat) (x y : Ce), i < n → L[i]? = some x → L[k]? = some y → k < i → ¬ 0 < commonQ x.1 y.1 0
theorem flatTo_all {L : List Ce} : flatG L ↔ flatTo L L.length :=
  ⟨fun h i k x y _ hx hy hk => h i k x y hx hy hk, fun h i k x y hx hy hk => h i k x y (List.getElem?_eq_some_iff.1 hx).1 hx hy hk⟩
theorem sgQ_gt (q : Rat) : 0 < sgQ q ↔ 0 < q := by
  rcases tri3 q with h | h | h
  · rw [sgQ_pos h]; exact ⟨fun _ => h, fun _ => by omega⟩
  · rw [h, sgQ_zero]; exact ⟨fun h1 => by omega, fun h1 => by grind⟩
  · rw [sgQ_neg h]; exact ⟨fun h1 => by omega, fun h1 => by grind⟩
theorem IsCs.cap {w : World} {B : Nat} {A : Option Addr} {n c : Nat} {L : List Ce} (h : IsCs w B (.slice A n c) L) : L.length ≤ c := by
  obtain ⟨A', c', S, e, h1, _⟩ := h
  injection e with _ _ e
  rw [e]; exact h1

set_option maxRecDepth 100000 in
set_option maxHeartbeats 3200000 in
theorem grid_any (L : List Ce) (v : Value) (w : World) (h : IsCs w w.heap.size v L) (hval : ∀ x ∈ L, validC x.1) (hL : L.length ≤ 1000000) (z : Bool) (hz : z = true ↔ L.length ≤ 64 ∧ flatG L) :
    Calls Tryz.prog 23 #[v, .int .i64 0] w fun e w' => Below w.heap.size w w' ∧ e = .returned (.bool z) := by
  obtain ⟨A, c, rfl⟩ := h.form
  have hcap := h.cap
  have HZ := Lib.hid hz
  have HV := Lib.hid hval
  clear hz hval
  by_cases h64 : 64 < L.length
  · have hzf : z = false := by
      cases hzz : z
      · rfl
      · have := (HZ.out.1 hzz).1; omega
    subst hzf
    have h64' : (64 : Int) < L.length := by omega
    go_enter Tryz.func23, Tryz.ntmps23
    go_wp2
    go_ret
    exact ⟨Below.refl _ _, rfl⟩
  have h64' : ¬ (64 : Int) < L.length := by omega
  go_enter Tryz.func23, Tryz.ntmps23
  go_wp2_with fail
  go_loopw [14] (fun i wr => ∃ k : Nat, k ≤ L.length ∧ i = .int .i64 k ∧ Hid (flatTo L k) ∧ Below w.heap.size w wr) (fun i _ => L.length - (intOf i).toNat)
  case atStart => exact ⟨0, Nat.zero_le _, rfl, (fun i k x y hi => absurd hi (Nat.not_lt_zero _)), Below.refl _ _⟩
  case round =>
    obtain ⟨k, hk, rfl, HF, hB⟩ := hrel
    rcases Nat.lt_or_ge k L.length with hlt | hge
    · obtain ⟨ad, A1, c1, rfl, hab, d1, d2, hC⟩ := (h.below hB).at (i := k) (List.getElem?_eq_getElem hlt)
      have hxv := HV.out _ (List.getElem_mem hlt)
      have HLK : Hid (L[k]? = some L[k]) := List.getElem?_eq_getElem hlt
      generalize L[k] = x at *
      obtain ⟨xl, xm⟩ := x
      simp only at d1 d2 hC hxv
      have HXV : Hid (validC xl) := hxv
      have b0 : Below w.heap.size w (wr.alloc (.cells #[.slice A1 xl.length c1, .bool xm] 33)) := hB.alloc hB.size _
      have k0 := Bk.new wr 33 #[.slice A1 xl.length c1, .bool xm]
      have hC0 : IsC (wr.alloc (.cells #[.slice A1 xl.length c1, .bool xm] 33)) (wr.alloc (.cells #[.slice A1 xl.length c1, .bool xm] 33)).heap.size (.agg #[.slice A1 xl.length c1, .bool xm]) xl xm := (hC.more hB.size).next (below_alloc wr _)
      have b1 : (k : Int) ≤ c := by omega
      have b2 : (0 : Int) ≤ k := by omega
      clear hC hxv
      go_wp2_with fail
      generalize hw1 : wr.alloc (.cells #[.slice A1 xl.length c1, .bool xm] 33) = w1 at *
      have hz1 : wr.heap.size < w1.heap.size := by rw [← hw1]; simp
      clear hw1
      obtain ⟨wo, hwo⟩ : ∃ wo : World, wo = wr := ⟨_, rfl⟩
      subst hwo
      go_loopw [23] (fun i wi => ∃ j : Nat, j ≤ k ∧ i = .int .i64 j ∧ Hid (∀ (m : Nat) (y : Ce), m < j → L[m]? = some y → ¬ 0 < commonQ xl y.1 0) ∧ Below w1.heap.size w1 wi) (fun i _ => k - (intOf i).toNat)
      case atStart => exact ⟨0, Nat.zero_le _, rfl, (fun m y hm => absurd hm (Nat.not_lt_zero _)), Below.refl _ _⟩
      case round =>
        obtain ⟨j, hj, rfl, HG, hB1⟩ := hrel
        rcases Nat.lt_or_ge j k with hltj | hgej
        · obtain ⟨ad', A2, c2, he2, hab2, d3, d4, hD⟩ := ((h.below (b0.trans (hB1.mono b0.size)))).at (i := j) (List.getElem?_eq_getElem (show j < L.length by omega))
          obtain rfl : ad = ad' := Option.some.inj he2
          have hyv := HV.out _ (List.getElem_mem (show j < L.length by omega))
          have HLJ : Hid (L[j]? = some (L[j]'(by omega))) := List.getElem?_eq_getElem (by omega)
          generalize (L[j]'(by omega)) = y at *
          obtain ⟨yl, ym⟩ := y
          simp only at d3 d4 hD hyv
          have hs1 := hB1.size
          have k1 := k0.below hB1 k0.lt
          have hwo : Below wr.heap.size wr (wr.alloc (.cells #[.slice A2 yl.length c2, .bool ym] 33)) := below_alloc wr _
          have kb := Bk.new wr 33 #[.slice A2 yl.length c2, .bool ym]
          have ka := k1.alloc (.cells #[.slice A2 yl.length c2, .bool ym] 33)
          have hCa := (hC0.next hB1).next hwo
          have hCb := (hD.more (Nat.le_trans b0.size hs1)).next hwo
          have hB4 := hB1.trans (hwo.mono hs1)
          obtain ⟨x0, x1⟩ := bk2 ka
          obtain ⟨y0, y1⟩ := bk2 kb
          have HYV : Hid (validC yl) := hyv
          clear hD hwo ka kb k1 hyv
          go_wp2_with fail
          refine (common_any xl yl xm ym _ _ 0 _ hCa hCb HXV.out HYV.out (by omega)).mono ?_
          rintro e w2 ⟨hb2, v2, rfl, hF⟩
          have hB5 := hB4.trans (hb2.mono hB4.size)
          clear hCa hCb hb2 x0 x1 y0 y1 hB4
          by_cases hpos : 0 < commonQ xl yl 0
          · have h1 : 0 < sgQ (commonQ xl yl 0) := (sgQ_gt _).2 hpos
            have hzf : z = false := by
              cases hzz : z
              · rfl
              · have h9 := (HZ.out.1 hzz).2 k j (xl, xm) (yl, ym) HLK.out HLJ.out hltj
                simp only at h9
                exact absurd hpos h9
            subst hzf
            clear hpos
            generalize commonQ xl yl 0 = qq at *
            go_wp2_with fail
            refine (fsign_any qq _ w2 hF).mono ?_
            rintro e w3 ⟨hb3, rfl⟩
            have hB6 := hB5.trans (hb3.mono hB5.size)
            generalize sgQ qq = sq at *
            clear hF hb3
            go_wp2
            go_ret
            exact ⟨b0.trans (hB6.mono b0.size), rfl⟩
          · have h1 : ¬ 0 < sgQ (commonQ xl yl 0) := fun h => hpos ((sgQ_gt _).1 h)
            have HN : Hid (∀ (m : Nat) (y : Ce), m < j + 1 → L[m]? = some y → ¬ 0 < commonQ xl y.1 0) := fun m y hm hy => by
              rcases Nat.lt_or_ge m j with h5 | h5
              · exact HG.out m y h5 hy
              · have : m = j := by omega
                subst this
                have := HLJ.out
                rw [hy] at this
                injection this with this
                subst this
                exact hpos
            clear hpos
            generalize commonQ xl yl 0 = qq at *
            go_wp2_with fail
            refine (fsign_any qq _ w2 hF).mono ?_
            rintro e w3 ⟨hb3, rfl⟩
            have hB6 := hB5.trans (hb3.mono hB5.size)
            generalize sgQ qq = sq at *
            clear hF hb3
            go_wp2
            go_roundw
            case rel => exact ⟨j + 1, by omega, by go_num, HN, hB6⟩
            case measure => simp [intOf]; omega
        · have hjk : j = k := by omega
          subst hjk
          have HN : Hid (flatTo L (j + 1)) := fun i m x y hi hx hy hm => by
            rcases Nat.lt_or_ge i j with h5 | h5
            · exact HF.out i m x y h5 hx hy hm
            · have : i = j := by omega
              subst this
              have := HLK.out
              rw [hx] at this
              injection this with this
              subst this
              exact HG.out m y hm hy
          go_wp2
          go_roundw
          case rel => exact ⟨j + 1, by omega, by go_num, HN, b0.trans (hB1.mono b0.size)⟩
          case measure => simp [intOf]; omega
    · have hkl : k = L.length := by omega
      subst hkl
      have hzt : z = true := HZ.out.2 ⟨by omega, flatTo_all.2 HF.out⟩
      subst hzt
      go_wp2
      go_ret
      exact ⟨hB, rfl⟩

set_option maxRecDepth 100000 in
theorem ValidGrid_true (L : List Ce) (v : Value) (w : World) (h : IsCs w w.heap.size v L) (hL : L.length ≤ 64) (hval : ∀ x ∈ L, validC x.1) (hfl : flatG L) :
    Calls Tryz.prog 11 #[v] w fun e w' => Below w.heap.size w w' ∧ e = .returned (.bool true) := by
  have C1 := cells_any v L w (by omega) h false (by
    constructor
    · intro h; cases h
    · rintro ⟨x, hx, h⟩; exact absurd (hval x hx) h)
  have C2 := Lib.hid (fun W (hb : Below w.heap.size w W) => grid_any L v W (h.next hb) hval (by omega) true ⟨fun _ => ⟨hL, hfl⟩, fun _ => rfl⟩)
  clear hval hfl h
  simp only [Bool.false_eq_true, if_false] at C1
  go_enter Tryz.func11, Tryz.ntmps11
  go_wp2_with fail
  refine C1.mono ?_
  rintro e w1 ⟨hb1, rfl⟩
  clear C1
  go_wp2_with fail
  refine (C2.out w1 hb1).mono ?_
  rintro e w2 ⟨hb2, rfl⟩
  clear C2
  go_wp2
  go_ret
  exact ⟨hb1.trans (hb2.mono hb1.size), rfl⟩
end Go.Proofs.YtaihplgfbepgpaaGreatDoor
