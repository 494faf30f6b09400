/-
  Plain laws: package regrid's cuts are those of the plane geometry; sizes and numbers of corners.
  Plain facts of package regrid's common: valid cells as convex polygons, boxes.
-/
import Derived.Test.YtbddmkklkbkliaaGreatDoorRegK
import Derived.Test.YtbddmkklkbkliaaGreatDoorGeoV
namespace Go.Proofs.YtbddmkklkbkliaaGreatDoor
open Go.RowKit Ar

def toP (p : Qp) : Geo.Pt := ⟨p.1, p.2⟩
theorem crossQ_eq (a b c : Qp) : crossQ a b c = Geo.cross (toP a) (toP b) (toP c) := rfl
theorem sgQ_pos {q : Rat} (h : 0 < q) : sgQ q = 1 := by
  unfold sgQ
  rw [if_neg (show ¬ q = 0 by grind), if_neg (show ¬ q < 0 by grind)]
theorem sgQ_neg {q : Rat} (h : q < 0) : sgQ q = -1 := by
  unfold sgQ
  rw [if_neg (show ¬ q = 0 by grind), if_pos h]
theorem sgQ_zero : sgQ 0 = 0 := rfl
theorem tri3 (q : Rat) : 0 < q ∨ q = 0 ∨ q < 0 := by
  by_cases h : 0 < q
  · exact .inl h
  · by_cases h' : q < 0
    · exact .inr (.inr h')
    · exact .inr (.inl (by grind))
theorem sgQ_ge (q : Rat) : 0 ≤ sgQ q ↔ 0 ≤ q := by
  rcases tri3 q with h | h | h
  · rw [sgQ_pos h]; exact ⟨fun _ => Rat.le_of_lt h, fun _ => by omega⟩
  · rw [h, sgQ_zero]; exact ⟨fun _ => Rat.le_refl, fun _ => Int.le_refl _⟩
  · rw [sgQ_neg h]; exact ⟨fun h1 => by omega, fun h1 => absurd h (Rat.not_lt.2 h1)⟩
theorem sgQ_mul (p q : Rat) : sgQ p * sgQ q < 0 ↔ p * q < 0 := by
  have pp : ∀ {a b : Rat}, 0 < a → 0 < b → ¬ a * b < 0 := fun h h' h2 => by have := Rat.mul_pos h h'; grind
  have pn : ∀ {a b : Rat}, 0 < a → b < 0 → a * b < 0 := fun {a b} h h' => by have := Rat.mul_pos h (show 0 < -b by grind); grind
  rcases tri3 p with h | h | h <;> rcases tri3 q with h' | h' | h'
  · rw [sgQ_pos h, sgQ_pos h']; exact ⟨fun h1 => by omega, fun h1 => absurd h1 (pp h h')⟩
  · rw [h', sgQ_zero]; simp
  · rw [sgQ_pos h, sgQ_neg h']; exact ⟨fun _ => pn h h', fun _ => by omega⟩
  · rw [h, sgQ_zero]; simp
  · rw [h, sgQ_zero]; simp
  · rw [h, sgQ_zero]; simp
  · rw [sgQ_neg h, sgQ_pos h']; exact ⟨fun _ => by rw [Rat.mul_comm]; exact pn h' h, fun _ => by omega⟩
  · rw [h', sgQ_zero]; simp
  · rw [sgQ_neg h, sgQ_neg h']; refine ⟨fun h1 => by omega, fun h1 => ?_⟩
    have := Rat.mul_pos (show 0 < -p by grind) (show 0 < -q by grind)
    grind
theorem cutStep_eq (a b c d : Qp) : (cutStep a b c d).map toP = Geo.step (Geo.cross (toP a) (toP b)) (toP c) (toP d) := by
  unfold cutStep Geo.step
  rw [List.map_append]
  simp only [sgQ_ge, sgQ_mul, crossQ_eq]
  congr 1
  · split <;> rfl
  · split <;> rfl
theorem seg_range (f : Geo.Pt → Rat) (nxt d : Geo.Pt) : ∀ l : List Geo.Pt, Geo.seg f nxt l = (List.range l.length).flatMap fun i => Geo.step f (l.getD i d) ((l ++ [nxt]).getD (i + 1) d)
  | [] => rfl
  | [c] => by simp [Geo.seg, List.range_succ]
  | c :: e :: r => by
    have ih := seg_range f nxt d (e :: r)
    simp only [Geo.seg]
    have e2 : List.range (c :: e :: r).length = 0 :: (List.range (e :: r).length).map Nat.succ := List.range_succ_eq_map
    rw [e2, List.flatMap_cons, List.flatMap_map, ih]
    rfl
theorem getD_last {α : Type} (l : List α) (x d : α) (i : Nat) (hi : i < l.length) (hx : l.getD 0 d = x) : (l ++ [x]).getD (i + 1) d = l.getD ((i + 1) % l.length) d := by
  by_cases h : i + 1 < l.length
  · rw [Nat.mod_eq_of_lt h, List.getD_eq_getElem?_getD, List.getD_eq_getElem?_getD, List.getElem?_append_left h]
  · have : i + 1 = l.length := by omega
    rw [this, Nat.mod_self, hx, List.getD_eq_getElem?_getD, List.getElem?_append_right (Nat.le_refl _)]
    simp
theorem getD_map {l : List Qp} {i : Nat} (hi : i < l.length) : (l.map toP).getD i ⟨0, 0⟩ = toP (l.getD i (0, 0)) := by
  rw [List.getD_eq_getElem?_getD, List.getD_eq_getElem?_getD, List.getElem?_map, List.getElem?_eq_getElem hi]
  rfl
theorem flatMap_congr' {α β : Type} {l : List α} {f g : α → List β} (h : ∀ x ∈ l, f x = g x) : l.flatMap f = l.flatMap g := by
  induction l with
  | nil => rfl
  | cons a l ih => rw [List.flatMap_cons, List.flatMap_cons, h a (by simp), ih fun x hx => h x (by simp [hx])]
/-- The cut of a list of points is that of the plane geometry. -/
theorem cutQ_eq (l : List Qp) (a b : Qp) : (cutQ l a b l.length).map toP = Geo.clip (Geo.cross (toP a) (toP b)) (l.map toP) := by
  cases hl : l with
  | nil => rfl
  | cons c r =>
    rw [← hl]
    have e : Geo.clip (Geo.cross (toP a) (toP b)) (l.map toP) = Geo.seg (Geo.cross (toP a) (toP b)) (toP c) (l.map toP) := by rw [hl]; rfl
    rw [e, seg_range _ _ ⟨0, 0⟩]
    unfold cutQ
    rw [List.map_flatMap, List.length_map]
    refine flatMap_congr' fun i hi => ?_
    have hi := List.mem_range.1 hi
    rw [cutStep_eq, getD_map hi]
    congr 1
    unfold nx
    rw [← getD_map (Nat.mod_lt _ (by omega))]
    have := getD_last (l.map toP) (toP c) ⟨0, 0⟩ i (by rw [List.length_map]; exact hi) (by rw [hl]; rfl)
    rw [this, List.length_map]
/-- The cuts by the first sides of a polygon. -/
def cutAll (l s : List Qp) : Nat → List Qp
  | 0 => l
  | k + 1 => cutQ (cutAll l s k) (s.getD k (0, 0)) (nx s k) (cutAll l s k).length
theorem sides_range (nxt d : Geo.Pt) : ∀ l : List Geo.Pt, Geo.sides nxt l = (List.range l.length).map fun i => (l.getD i d, (l ++ [nxt]).getD (i + 1) d)
  | [] => rfl
  | [c] => by simp [Geo.sides, List.range_succ]
  | c :: e :: r => by
    have ih := sides_range nxt d (e :: r)
    simp only [Geo.sides]
    have e2 : List.range (c :: e :: r).length = 0 :: (List.range (e :: r).length).map Nat.succ := List.range_succ_eq_map
    rw [e2, List.map_cons, List.map_map, ih]
    rfl
theorem cyc_range (s : List Qp) : Geo.cyc (s.map toP) = (List.range s.length).map fun i => (toP (s.getD i (0, 0)), toP (nx s i)) := by
  cases hs : s with
  | nil => rfl
  | cons c r =>
    rw [← hs]
    have e : Geo.cyc (s.map toP) = Geo.sides (toP c) (s.map toP) := by rw [hs]; rfl
    rw [e, sides_range _ ⟨0, 0⟩, List.length_map]
    refine List.map_congr_left fun i hi => ?_
    have hi := List.mem_range.1 hi
    rw [getD_map hi]
    congr 1
    unfold nx
    rw [← getD_map (Nat.mod_lt _ (by omega))]
    have := getD_last (s.map toP) (toP c) ⟨0, 0⟩ i (by rw [List.length_map]; exact hi) (by rw [hs]; rfl)
    rw [this, List.length_map]
theorem cutAll_take (l s : List Qp) : ∀ k, k ≤ s.length → (cutAll l s k).map toP = Geo.clipAll (l.map toP) ((Geo.cyc (s.map toP)).take k)
  | 0, _ => by simp [cutAll, Geo.clipAll]
  | k + 1, hk => by
    have ih := cutAll_take l s k (by omega)
    have e : (Geo.cyc (s.map toP)).take (k + 1) = (Geo.cyc (s.map toP)).take k ++ [(toP (s.getD k (0, 0)), toP (nx s k))] := by
      rw [cyc_range, List.take_add_one, List.getElem?_map, List.getElem?_range (by omega)]
      rfl
    rw [e, Geo.clipAll_append, ← ih]
    simp only [cutAll, Geo.clipAll]
    exact cutQ_eq _ _ _
theorem cutAll_eq (l s : List Qp) : (cutAll l s s.length).map toP = Geo.clipAll (l.map toP) (Geo.cyc (s.map toP)) := by
  rw [cutAll_take l s _ (Nat.le_refl _), List.take_of_length_le]
  rw [cyc_range]; simp
/-- At most n corners of a convex polygon, or places on one line. -/
def Few (n : Nat) (l : List Geo.Pt) : Prop := (Geo.TC l ∧ 3 ≤ l.length ∧ l.length ≤ n) ∨ ∃ a b : Geo.Pt, a ≠ b ∧ ∀ x ∈ l, Geo.cross a b x = 0
theorem Few.more {n m : Nat} {l : List Geo.Pt} (h : Few n l) (hm : n ≤ m) : Few m l := by
  rcases h with ⟨h1, h2, h3⟩ | h
  · exact .inl ⟨h1, h2, by omega⟩
  · exact .inr h
theorem Few.clip {n : Nat} {l : List Geo.Pt} {a b : Geo.Pt} (hab : a ≠ b) (h : Few n l) : Few (n + 1) (Geo.clip (Geo.cross a b) l) := by
  have hf := Geo.aff_cross a b
  rcases h with ⟨hl, h3, hn'⟩ | ⟨c, d, hcd, hl⟩
  · by_cases hp : ∃ x ∈ l, 0 < Geo.cross a b x
    · by_cases hn : ∃ x ∈ l, Geo.cross a b x < 0
      · left
        obtain ⟨C⟩ := Geo.exists_cut hf hl hp hn
        have hr := Geo.clip_rot (Geo.cross a b) C.rot
        rw [C.out] at hr
        have h1 := hr.length
        have h2 := C.rot.length
        simp at h1 h2
        exact ⟨(C.tc hf hl h3).rot hr.symm, by omega, by omega⟩
      · left
        have hge : ∀ x ∈ l, 0 ≤ Geo.cross a b x := fun x hx => Rat.not_lt.1 fun h => hn ⟨x, hx, h⟩
        rw [Geo.clip_nonneg hge]
        exact ⟨hl, h3, by omega⟩
    · right
      have hle : ∀ x ∈ l, Geo.cross a b x ≤ 0 := fun x hx => Rat.not_lt.1 fun h => hp ⟨x, hx, h⟩
      refine ⟨a, b, hab, fun x hx => ?_⟩
      have h0 := (Geo.clip_mem hf hx).1
      have := Geo.clip_ge hf hf.neg (fun y hy => by have := hle y hy; show 0 ≤ - Geo.cross a b y; grind) x hx
      grind
  · right
    refine ⟨c, d, hcd, fun x hx => ?_⟩
    have h1 := Geo.clip_ge hf (Geo.aff_cross c d) (fun y hy => by rw [hl y hy]; exact Rat.le_refl) x hx
    have h2 := Geo.clip_ge hf (Geo.aff_cross c d).neg (fun y hy => by show 0 ≤ - Geo.cross c d y; rw [hl y hy]; exact Rat.le_refl) x hx
    grind
/-- A fan's area is that of the plane geometry. -/
theorem areaS_fan (l : List Qp) : ∀ k, k + 2 ≤ l.length → areaS l k = Geo.fan (toP (l.getD 0 (0, 0))) (((l.map toP).drop 1).take (k + 1))
  | 0, h => by
    obtain ⟨a, b, r, rfl⟩ : ∃ a b r, l = a :: b :: r := by
      match l, h with
      | a :: b :: r, _ => exact ⟨a, b, r, rfl⟩
    rfl
  | k + 1, h => by
    have ih := areaS_fan l k (by omega)
    simp only [areaS]
    rw [ih]
    have key : ∀ (c : Geo.Pt) (d : Geo.Pt) (m : List Geo.Pt) (k : Nat), k + 1 < m.length → Geo.fan c (m.take (k + 1)) + Geo.cross c (m.getD k d) (m.getD (k + 1) d) = Geo.fan c (m.take (k + 2)) := by
      intro c d m k hk
      induction m generalizing k with
      | nil => simp at hk
      | cons x m ih =>
        cases m with
        | nil => simp at hk
        | cons y m =>
          cases k with
          | zero => show (0 : Rat) + Geo.cross c x y = Geo.cross c x y + Geo.fan c (y :: m.take 0); simp [Geo.fan]; grind
          | succ k =>
            have := ih k (by simp at hk ⊢; omega)
            show Geo.cross c x y + Geo.fan c ((y :: m).take (k + 1)) + Geo.cross c ((y :: m).getD k d) ((y :: m).getD (k + 1) d) = Geo.cross c x y + Geo.fan c ((y :: m).take (k + 2))
            rw [← this]; grind
    have hl : ((l.map toP).drop 1).length = l.length - 1 := by simp
    rw [← key (toP (l.getD 0 (0, 0))) ⟨0, 0⟩ ((l.map toP).drop 1) k (by omega), crossQ_eq]
    have gd : ∀ j, j + 1 < l.length → ((l.map toP).drop 1).getD j ⟨0, 0⟩ = toP (l.getD (j + 1) (0, 0)) := fun j hj => by
      rw [← getD_map hj, List.getD_eq_getElem?_getD, List.getElem?_drop, ← List.getD_eq_getElem?_getD, Nat.add_comm 1 j]
    rw [gd k (by omega), gd (k + 1) (by omega)]
theorem areaQ_eq (l : List Qp) : areaQ l = Geo.fanArea (l.map toP) / 2 := by
  unfold areaQ
  rcases Nat.lt_or_ge l.length 2 with h | h
  · match l, h with
    | [], _ => rfl
    | [a], _ => rfl
  · rw [areaS_fan l _ (by omega)]
    obtain ⟨a, b, r, rfl⟩ : ∃ a b r, l = a :: b :: r := by
      match l, h with
      | a :: b :: r, _ => exact ⟨a, b, r, rfl⟩
    simp [Geo.fanArea, List.take_of_length_le]
/-- Sizes. -/
theorem sz_meet {a b c d : Qp} {K : Nat} (ha : szp a ≤ 1) (hb : szp b ≤ 1) (hc : szp c ≤ K) (hd : szp d ≤ K) (h : crossQ a b c - crossQ a b d ≠ 0) : szp (meetQ c d (crossQ a b c) (crossQ a b d)) ≤ 9 * K + 36 := by
  have cr : ∀ c : Qp, szp c ≤ K → sz (crossQ a b c) ≤ 2 * K + 11 := by
    intro c hc
    unfold szp at ha hb hc
    unfold crossQ
    have s1 := sz_sub b.1 a.1
    have s2 := sz_sub c.2 a.2
    have s3 := sz_mul (b.1 - a.1) (c.2 - a.2)
    have s4 := sz_sub b.2 a.2
    have s5 := sz_sub c.1 a.1
    have s6 := sz_mul (b.2 - a.2) (c.1 - a.1)
    have s7 := sz_sub ((b.1 - a.1) * (c.2 - a.2)) ((b.2 - a.2) * (c.1 - a.1))
    omega
  have h1 := cr c hc
  have h2 := cr d hd
  generalize crossQ a b c = p at *
  generalize crossQ a b d = q at *
  unfold szp at hc hd
  have s1 := sz_sub p q
  have s2 := sz_div p (p - q) h
  have s3 := sz_sub d.1 c.1
  have s4 := sz_mul (d.1 - c.1) (p / (p - q))
  have s5 := sz_add c.1 ((d.1 - c.1) * (p / (p - q)))
  have s6 := sz_sub d.2 c.2
  have s7 := sz_mul (d.2 - c.2) (p / (p - q))
  have s8 := sz_add c.2 ((d.2 - c.2) * (p / (p - q)))
  unfold szp meetQ
  simp only []
  omega
theorem cutStep_mem {a b c d x : Qp} (h : x ∈ cutStep a b c d) : x = c ∨ (sgQ (crossQ a b c) * sgQ (crossQ a b d) < 0 ∧ x = meetQ c d (crossQ a b c) (crossQ a b d)) := by
  unfold cutStep at h
  rcases List.mem_append.1 h with h | h
  · split at h
    · exact .inl (by simpa using h)
    · cases h
  · split at h
    · rename_i h1; exact .inr ⟨h1, by simpa using h⟩
    · cases h
theorem cutQ_sz {l : List Qp} {a b : Qp} {K : Nat} (ha : szp a ≤ 1) (hb : szp b ≤ 1) (hl : ∀ p ∈ l, szp p ≤ K) : ∀ p ∈ cutQ l a b l.length, szp p ≤ 9 * K + 36 := by
  intro x hx
  unfold cutQ at hx
  obtain ⟨i, hi, hx⟩ := List.mem_flatMap.1 hx
  have hi := List.mem_range.1 hi
  have h1 := getD_sz hl hi
  have h2 := getD_sz hl (i := (i + 1) % l.length) (Nat.mod_lt _ (by omega))
  rcases cutStep_mem hx with rfl | ⟨hs, rfl⟩
  · omega
  · exact sz_meet ha hb h1 h2 (sg_ne hs)
theorem cutStep_len (a b c d : Qp) : (cutStep a b c d).length ≤ 2 := by
  unfold cutStep
  split <;> split <;> simp
theorem cutQ_len (l : List Qp) (a b : Qp) : ∀ k, (cutQ l a b k).length ≤ 2 * k
  | 0 => by simp [cutQ]
  | k + 1 => by
    have ih := cutQ_len l a b k
    have h := cutStep_len a b (l.getD k (0, 0)) (nx l k)
    unfold cutQ at *
    rw [List.range_succ, List.flatMap_append, List.length_append, List.flatMap_singleton]
    omega
def szS : Nat → Nat
  | 0 => 1
  | k + 1 => 9 * szS k + 36
theorem szS_mono : ∀ {k m : Nat}, k ≤ m → szS k ≤ szS m
  | k, 0, h => by rw [Nat.le_zero.1 h]; exact Nat.le_refl _
  | k, m + 1, h => by
    rcases Nat.lt_or_ge k (m + 1) with h1 | h1
    · have := szS_mono (k := k) (m := m) (by omega)
      simp only [szS]; omega
    · rw [show k = m + 1 by omega]; exact Nat.le_refl _
/-- All that is known of a polygon that is cut. -/
structure CutOk (l s : List Qp) (k : Nat) : Prop where
  szs : ∀ p ∈ cutAll l s k, szp p ≤ szS k
  len : (cutAll l s k).length ≤ 8 * 2 ^ k
  few : Few (8 + k) ((cutAll l s k).map toP)
theorem CutOk.start {l s : List Qp} (h : ∀ p ∈ l, szp p ≤ 1) (h8 : l.length ≤ 8) (h3 : 3 ≤ l.length) (tc : Geo.TC (l.map toP)) : CutOk l s 0 :=
  ⟨h, by simpa [cutAll] using h8, .inl ⟨tc, by simpa [cutAll] using h3, by simpa [cutAll] using h8⟩⟩
theorem CutOk.next {l s : List Qp} {k : Nat} (h : CutOk l s k) (hs : ∀ p ∈ s, szp p ≤ 1) (hk : k < s.length) (hne : toP (s.getD k (0, 0)) ≠ toP (nx s k)) : CutOk l s (k + 1) := by
  refine ⟨?_, ?_, ?_⟩
  · simp only [cutAll, szS]
    exact cutQ_sz (getD_sz hs hk) (getD_sz hs (Nat.mod_lt _ (by omega))) h.szs
  · simp only [cutAll]
    have := cutQ_len (cutAll l s k) (s.getD k (0, 0)) (nx s k) (cutAll l s k).length
    have := h.len
    rw [Nat.pow_succ]; omega
  · simp only [cutAll]
    rw [cutQ_eq]
    exact h.few.clip hne
theorem CutOk.area {l s : List Qp} {k : Nat} (h : CutOk l s k) (hk : k ≤ 8) : ∀ j, j = 0 ∨ j + 2 ≤ (cutAll l s k).length → sz (areaS (cutAll l s k) j) ≤ 200000000000 := by
  intro j hj
  have h8 := szS_mono hk
  have e8 : szS 8 ≤ 300000000 := by decide
  rcases h.few with ⟨_, _, h3⟩ | ⟨a, b, hab, hl⟩
  · rw [List.length_map] at h3
    have h1 := sz_areaS h.szs j (by omega)
    have h2 : j * (8 * szS k + 6) ≤ 16 * (8 * szS k + 6) := Nat.mul_le_mul_right _ (by omega)
    omega
  · have e : areaS (cutAll l s k) j = 0 := by
      rcases hj with rfl | hj
      · rfl
      · rw [areaS_fan _ _ hj]
        refine Geo.fan_flat hab _ ?_ _ fun x hx => hl x (List.drop_sublist _ _ |>.subset (List.take_subset _ _ hx))
        refine hl _ (List.mem_map.2 ⟨_, ?_, rfl⟩)
        rw [List.getD_eq_getElem?_getD, List.getElem?_eq_getElem (by omega)]
        exact List.getElem_mem _
    rw [e]
    have := sz_small 0 (by decide)
    have e0 : ((0 : Int) : Rat) = 0 := rfl
    rw [e0] at this
    omega
end Go.Proofs.YtbddmkklkbkliaaGreatDoor

namespace Go.Proofs.YtbddmkklkbkliaaGreatDoor
open Go.RowKit Ar

theorem cn_at2 {l : List Pl} {i : Nat} (hi : i < l.length) : Geo.ring (Geo.toPts l) i = Geo.toPt (cn l i) := by
  rw [Geo.ring_at l (by omega)]
  unfold Geo.atI cn
  rw [Nat.mod_eq_of_lt hi]
theorem cn_mod {l : List Pl} (h : 0 < l.length) (i : Nat) : Geo.ring (Geo.toPts l) i = Geo.toPt (cn l (i % l.length)) := by
  rw [Geo.ring_at l h]
  rfl
theorem trn_cast (a b c : Pl) : Geo.cross (Geo.toPt a) (Geo.toPt b) (Geo.toPt c) = ((trn a b c : Int) : Rat) := Geo.cast_cross a b c
theorem sgn_zero {n : Int} : sgn n = 0 ↔ n = 0 := by unfold sgn; split <;> (try split) <;> omega
theorem tch_of (a b c d : Pl) (h : Geo.touchI a b c d = true) : tch a b c d := by
  unfold Geo.touchI at h
  unfold tch onP
  simp only [Bool.or_eq_true, Bool.and_eq_true, decide_eq_true_eq, Geo.onI, sgn_zero] at h ⊢
  have e : ∀ n, Geo.sgnI n = sgn n := fun _ => rfl
  have e2 : ∀ a b c, Geo.turnI a b c = trn a b c := fun _ _ _ => rfl
  simp only [e, e2] at h
  rcases h with h | ((h | h) | h) | h
  · exact .inl h
  · exact .inr (.inl ⟨h.1, h.2.1.1.1, h.2.1.1.2, h.2.1.2, h.2.2⟩)
  · exact .inr (.inr (.inl ⟨h.1, h.2.1.1.1, h.2.1.1.2, h.2.1.2, h.2.2⟩))
  · exact .inr (.inr (.inr (.inl ⟨h.1, h.2.1.1.1, h.2.1.1.2, h.2.1.2, h.2.2⟩)))
  · exact .inr (.inr (.inr (.inr ⟨h.1, h.2.1.1.1, h.2.1.1.2, h.2.1.2, h.2.2⟩)))
/-- A valid cell is convex. -/
theorem validC.tc {l : List Pl} (h : validC l) : Geo.TC (Geo.toPts l) := by
  obtain ⟨h3, h8, hp, hv⟩ := h
  have e : (Geo.toPts l).length = l.length := by unfold Geo.toPts; rw [List.length_map]
  refine Geo.tc_of (by rw [e]; exact h3) ?_ ?_
  · intro i hi
    rw [e] at hi
    rw [cn_at2 hi, cn_mod (by omega), cn_mod (by omega), trn_cast, Geo.cast_pos]
    exact (hv i hi).1
  · intro i j hij hj hne
    rw [e] at hj hne
    rw [cn_at2 (show i < l.length by omega), cn_at2 (show i + 1 < l.length by omega), cn_at2 hj, cn_mod (by omega), Geo.touch_iff]
    intro ht
    refine (hv i (by omega)).2 j hij hj ?_ (tch_of _ _ _ _ ht)
    by_cases hl : j + 1 < l.length
    · rw [Nat.mod_eq_of_lt hl]; omega
    · rw [show j + 1 = l.length by omega, Nat.mod_self]; omega
/-- A cell's corners, moved. -/
def poly (l : List Pl) (dx : Int) : List Qp := l.map fun p => qp p dx
theorem poly_len (l : List Pl) (dx : Int) : (poly l dx).length = l.length := by unfold poly; rw [List.length_map]
theorem poly_pts (l : List Pl) (dx : Int) : (poly l dx).map toP = (Geo.toPts l).map (Geo.mv ⟨(dx : Rat), 0⟩) := by
  unfold poly Geo.toPts
  rw [List.map_map, List.map_map]
  refine List.map_congr_left fun p _ => ?_
  show toP (qp p dx) = Geo.mv ⟨(dx : Rat), 0⟩ (Geo.toPt p)
  unfold toP qp Geo.mv Geo.toPt
  simp only [Rat.intCast_add, Rat.add_zero]
theorem poly_tc {l : List Pl} (h : validC l) (dx : Int) : Geo.TC ((poly l dx).map toP) := by
  rw [poly_pts]
  exact Geo.TC.mv _ h.tc
theorem poly_sz {l : List Pl} (h : ∀ p ∈ l, okP p) {dx : Int} (hdx : -100000000 ≤ dx ∧ dx ≤ 100000000) : ∀ p ∈ poly l dx, szp p ≤ 1 := by
  intro p hp
  obtain ⟨q, hq, rfl⟩ := List.mem_map.1 hp
  obtain ⟨h1, h2, h3, h4⟩ := h q hq
  unfold szp qp
  have e1 := sz_small (q.1 + dx) (by omega)
  have e2 := sz_small q.2 (by omega)
  simp only []
  omega
theorem cyc_ne {s : List Qp} (htc : Geo.TC (s.map toP)) (h3 : 3 ≤ s.length) {k : Nat} (hk : k < s.length) : toP (s.getD k (0, 0)) ≠ toP (nx s k) := by
  have hm : (toP (s.getD k (0, 0)), toP (nx s k)) ∈ Geo.cyc (s.map toP) := by
    rw [cyc_range]
    exact List.mem_map.2 ⟨k, List.mem_range.2 hk, rfl⟩
  exact Geo.TC.ne_side htc (by rw [List.length_map]; exact h3) hm
theorem cutOk {la lb : List Pl} (ha : validC la) (hb : validC lb) {dx : Int} (hdx : -100000000 ≤ dx ∧ dx ≤ 100000000) : ∀ k, k ≤ lb.length → CutOk (poly la 0) (poly lb dx) k
  | 0, _ => CutOk.start (poly_sz ha.2.2.1 (by omega)) (by rw [poly_len]; exact ha.2.1) (by rw [poly_len]; exact ha.1) (poly_tc ha 0)
  | k + 1, hk => (cutOk ha hb hdx k (by omega)).next (poly_sz hb.2.2.1 hdx) (by rw [poly_len]; omega) (cyc_ne (poly_tc hb dx) (by rw [poly_len]; exact hb.1) (by rw [poly_len]; omega))
theorem areaOk {l : List Pl} (h : validC l) {dx : Int} (hdx : -100000000 ≤ dx ∧ dx ≤ 100000000) : CutOk (poly l dx) [] 0 :=
  CutOk.start (poly_sz h.2.2.1 hdx) (by rw [poly_len]; exact h.2.1) (by rw [poly_len]; exact h.1) (poly_tc h dx)
def shiftB (b : Bx) (dx : Int) : Bx := (b.1 + dx, b.2.1 + dx, b.2.2.1, b.2.2.2)
def inB (b : Bx) : Prop := (-1048576 ≤ b.1 ∧ b.1 ≤ 1048576) ∧ (-1048576 ≤ b.2.1 ∧ b.2.1 ≤ 1048576) ∧ (-1048576 ≤ b.2.2.1 ∧ b.2.2.1 ≤ 1048576) ∧ (-1048576 ≤ b.2.2.2 ∧ b.2.2.2 ≤ 1048576)
theorem bstep_in {b : Bx} {p : Pl} (h : inB b) (hp : okP p) : inB (bstep b p) := by
  unfold inB bstep okP at *
  simp only []
  omega
theorem fold_in : ∀ {l : List Pl} {b : Bx}, inB b → (∀ p ∈ l, okP p) → inB (l.foldl bstep b)
  | [], _, h, _ => h
  | p :: l, _, h, hp => fold_in (l := l) (bstep_in h (hp p (by simp))) fun q hq => hp q (by simp [hq])
theorem bbox_in {l : List Pl} (h0 : 0 < l.length) (hp : ∀ p ∈ l, okP p) : inB (bbox l) := by
  unfold bbox
  refine fold_in ?_ hp
  have : okP (cn l 0) := by
    unfold cn
    rw [List.getD_eq_getElem?_getD, List.getElem?_eq_getElem h0]
    exact hp _ (List.getElem_mem _)
  unfold inB okP at *
  simp only []
  omega
/-- What common computes. -/
def commonQ (la lb : List Pl) (dx : Int) : Rat := if apartB (bbox la) (shiftB (bbox lb) dx) then 0 else areaQ (cutAll (poly la 0) (poly lb dx) lb.length)
end Go.Proofs.YtbddmkklkbkliaaGreatDoor
