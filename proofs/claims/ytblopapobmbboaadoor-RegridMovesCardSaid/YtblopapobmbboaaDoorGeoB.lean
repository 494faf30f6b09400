/-
  Plane geometry over the rationals (B): plain Lean, of no program.
-/
import Derived.Test.YtblopapobmbboaaDoorGeoA
namespace Go.Proofs.YtblopapobmbboaaDoor.Geo

theorem rot_head {l : List Pt} {x : Pt} (h : x ∈ l) : ∃ r, Rot l (x :: r) := by
  obtain ⟨u, v, rfl⟩ := List.append_of_mem h
  exact ⟨v ++ u, u, x :: v, rfl, rfl⟩
theorem Rot.trans {l m n : List Pt} (h : Rot l m) (h' : Rot m n) : Rot l n := by
  obtain ⟨u, v, rfl, rfl⟩ := h
  obtain ⟨s, t, e, rfl⟩ := h'
  rcases List.append_eq_append_iff.1 e with ⟨a, h1, h2⟩ | ⟨a, h1, h2⟩
  · -- s = v ++ a, u = a ++ t
    subst h1 h2
    exact ⟨a, t ++ v, by simp, by simp⟩
  · subst h1 h2
    exact ⟨u ++ s, a, by simp, by simp⟩

/-- The longest end of a list on which a test holds. -/
theorem split_end (q : Pt → Bool) (l : List Pt) : ∃ m e, l = m ++ e ∧ (∀ x ∈ e, q x = true) ∧ (m = [] ∨ ∃ m' y, m = m' ++ [y] ∧ q y = false) := by
  induction l with
  | nil => exact ⟨[], [], rfl, by simp, .inl rfl⟩
  | cons c l ih =>
    obtain ⟨m, e, rfl, he, hm⟩ := ih
    rcases hm with rfl | ⟨m', y, rfl, hy⟩
    · by_cases hc : q c = true
      · exact ⟨[], c :: e, rfl, by simpa using ⟨hc, he⟩, .inl rfl⟩
      · exact ⟨[c], e, rfl, he, .inr ⟨[], c, rfl, by simpa using hc⟩⟩
    · exact ⟨c :: (m' ++ [y]), e, rfl, he, .inr ⟨c :: m', y, rfl, hy⟩⟩
theorem split_begin (q : Pt → Bool) (l : List Pt) : ∃ e m, l = e ++ m ∧ (∀ x ∈ e, q x = true) ∧ (m = [] ∨ ∃ y m', m = y :: m' ∧ q y = false) := by
  induction l with
  | nil => exact ⟨[], [], rfl, by simp, .inl rfl⟩
  | cons c l ih =>
    by_cases hc : q c = true
    · obtain ⟨e, m, rfl, he, hm⟩ := ih
      exact ⟨c :: e, m, rfl, by simpa using ⟨hc, he⟩, hm⟩
    · exact ⟨[], c :: l, rfl, by simp, .inr ⟨c, l, rfl, by simpa using hc⟩⟩

theorem sub4 {a b c d : Pt} {x y z w : List Pt} : [a, b, c, d].Sublist (x ++ a :: y ++ b :: z ++ c :: w ++ [d]) := by
  have h1 : [a].Sublist (x ++ a :: y) := by simp
  have h2 : [b].Sublist (b :: z) := by simp
  have h3 : [c].Sublist (c :: w) := by simp
  have := ((h1.append h2).append h3).append (List.Sublist.refl [d])
  simpa using this

/-- The cyclic order in which a line meets a polygon: first what lies to its left, then the rest. -/
theorem norm {f : Pt → Rat} (hf : Aff f) {l : List Pt} (hl : TC l) (hp : ∃ x ∈ l, 0 < f x) (hn : ∃ x ∈ l, f x < 0) :
    ∃ P R, Rot l (P ++ R) ∧ P ≠ [] ∧ (∀ x ∈ P, 0 < f x) ∧ R ≠ [] ∧ (∀ x ∈ R, f x ≤ 0) ∧ (∃ y ∈ R, f y < 0) := by
  obtain ⟨x, hx, hfx⟩ := hp
  obtain ⟨r, hr⟩ := rot_head hx
  obtain ⟨m, e, hme, he, hm⟩ := split_end (fun y => decide (0 < f y)) r
  have h2 : Rot l (e ++ x :: m) := hr.trans (by rw [hme]; exact ⟨x :: m, e, rfl, rfl⟩)
  -- begins with a place to the left, ends with one that is not
  obtain ⟨y, hy, hfy⟩ := hn
  have hy2 : y ∈ e ++ x :: m := (h2.mem y).2 hy
  have hend : ∃ m' z, m = m' ++ [z] ∧ f z ≤ 0 := by
    rcases hm with rfl | ⟨m', z, rfl, hz⟩
    · exfalso
      rcases List.mem_append.1 hy2 with h | h
      · have := he y h; simp at this; grind
      · simp at h; subst h; grind
    · exact ⟨m', z, rfl, Rat.not_lt.1 (by simpa using hz)⟩
  obtain ⟨m', z, rfl, hz⟩ := hend
  obtain ⟨P, R, hPR, hP, hR⟩ := split_begin (fun y => decide (0 < f y)) (e ++ x :: (m' ++ [z]))
  have hTC := hl.rot h2
  rw [hPR] at h2 hTC
  have hPne : P ≠ [] := by
    rintro rfl
    cases e with
    | nil =>
      rcases hR with rfl | ⟨q, R', rfl, hq⟩
      · simp at hPR
      · simp at hPR
        rw [← hPR.1] at hq; simp at hq; grind
    | cons c e =>
      rcases hR with rfl | ⟨q, R', rfl, hq⟩
      · simp at hPR
      · simp at hPR
        have := he c (by simp)
        rw [← hPR.1] at hq; simp at hq this; grind
  have hP' : ∀ x ∈ P, 0 < f x := fun x hx => by simpa using hP x hx
  rcases hR with rfl | ⟨q, R', rfl, hq⟩
  · exfalso
    have : z ∈ P := by
      have : z ∈ P ++ [] := by rw [← hPR]; simp
      simpa using this
    have := hP' z this
    grind
  have hq' : f q ≤ 0 := Rat.not_lt.1 (by simpa using hq)
  have hlast : ∃ R'', q :: R' = R'' ++ [z] := by
    have h1 : (P ++ q :: R').getLast? = some z := by rw [← hPR, show e ++ x :: (m' ++ [z]) = (e ++ x :: m') ++ [z] by simp, List.getLast?_append]; simp
    rw [List.getLast?_append] at h1
    have hne : (q :: R').getLast? = some ((q :: R').getLast (by simp)) := List.getLast?_eq_some_getLast _
    rw [hne] at h1
    simp only [Option.some_or, Option.some.injEq] at h1
    exact ⟨(q :: R').dropLast, by rw [← h1]; exact (List.dropLast_concat_getLast (by simp)).symm⟩
  obtain ⟨R'', hR''⟩ := hlast
  refine ⟨P, q :: R', h2, hPne, hP', by simp, ?_, ?_⟩
  · intro w hw
    apply Rat.not_lt.1
    intro hfw
    -- P's head, q, w, z
    obtain ⟨p0, P0, rfl⟩ : ∃ p0 P0, P = p0 :: P0 := by cases P with
      | nil => exact absurd rfl hPne
      | cons a b => exact ⟨a, b, rfl⟩
    have hp0 := hP' p0 (by simp)
    have hwR : w ∈ R' := by
      rcases List.mem_cons.1 hw with rfl | h
      · grind
      · exact h
    obtain ⟨s, t, rfl⟩ := List.append_of_mem hwR
    have hzt : ∃ t', t = t' ++ [z] := by
      cases t with
      | nil =>
        have : (q :: (s ++ [w])).getLast? = some z := by rw [hR'']; simp
        have e : w = z := by
          rw [show q :: (s ++ [w]) = (q :: s) ++ [w] from rfl, List.getLast?_append] at this
          simpa using this
        rw [e] at hfw; grind
      | cons a t =>
        have h9 : (q :: (s ++ w :: a :: t)).getLast? = some z := by rw [hR'']; simp
        have h10 : (q :: (s ++ w :: a :: t)) = (q :: s ++ [w]) ++ (a :: t) := by simp
        rw [h10, List.getLast?_append] at h9
        rw [List.getLast?_eq_some_getLast (by simp : (a :: t) ≠ [])] at h9
        simp only [Option.some_or, Option.some.injEq] at h9
        exact ⟨(a :: t).dropLast, by rw [← h9]; exact (List.dropLast_concat_getLast (by simp)).symm⟩
    obtain ⟨t', rfl⟩ := hzt
    have hsub : [p0, q, w, z].Sublist (p0 :: P0 ++ q :: (s ++ w :: (t' ++ [z]))) := by
      simp
    have h4 := hTC.sub hsub
    simp [TC] at h4
    obtain ⟨⟨⟨h5, h6⟩, h7⟩, h8⟩ := h4
    have id4 := hf.four p0 q w z
    have a1 := Rat.mul_pos h8 hp0
    have a2 := Rat.mul_pos h6 hfw
    have a3 := pn (Rat.le_of_lt h7) hq'
    have a4 := pn (Rat.le_of_lt h5) hz
    grind
  · refine ⟨y, ?_, hfy⟩
    have : y ∈ P ++ q :: R' := by rw [← hPR]; exact hy2
    rcases List.mem_append.1 this with h | h
    · have := hP' y h; grind
    · exact h
end Go.Proofs.YtblopapobmbboaaDoor.Geo
namespace Go.Proofs.YtblopapobmbboaaDoor.Geo

theorem meet_part {f : Pt → Rat} {c d : Pt} (hc : 0 < f c) (hd : f d ≤ 0) : ∃ t, 0 < t ∧ t ≤ 1 ∧ (t = 1 → f d = 0) ∧ (f d = 0 → t = 1) ∧ meet f c d = lerp c d t := by
  have hp : 0 < f c - f d := by grind
  refine ⟨f c / (f c - f d), ?_, ?_, ?_, ?_, rfl⟩
  all_goals have e : f c / (f c - f d) * (f c - f d) = f c := Rat.div_mul_cancel (by grind)
  all_goals generalize f c / (f c - f d) = t at *
  · apply Rat.not_le.1; intro h
    have := np h (Rat.le_of_lt hp); grind
  · have := pos_of_mul' (q := 1 - t) hp (by grind)
    grind
  · rintro rfl; grind
  · intro h; rw [h] at e
    have : f c * (t - 1) = 0 := by grind
    rcases Rat.mul_eq_zero.1 this with h | h <;> grind
theorem meet_end {f : Pt → Rat} {c d : Pt} (hc : 0 < f c) (hd : f d = 0) : meet f c d = d := by
  obtain ⟨t, _, _, _, h, e⟩ := meet_part hc (show f d ≤ 0 by grind)
  rw [e, h hd]; unfold lerp; apply Pt.ext' <;> simp <;> grind
theorem meet_comm {f : Pt → Rat} {c d : Pt} (hc : f c - f d ≠ 0) : meet f d c = meet f c d := by
  unfold meet
  have e : f c / (f c - f d) * (f c - f d) = f c := Rat.div_mul_cancel hc
  have e' : f d / (f d - f c) * (f d - f c) = f d := Rat.div_mul_cancel (by grind)
  generalize f c / (f c - f d) = t at *
  generalize f d / (f d - f c) = s at *
  have : (f c - f d) * (1 - s - t) = 0 := by grind
  have : s = 1 - t := by rcases Rat.mul_eq_zero.1 this with h | h <;> grind
  subst this
  unfold lerp; apply Pt.ext' <;> simp only [] <;> grind

theorem seg_last (f : Pt → Rat) (nxt c : Pt) (u : List Pt) : seg f nxt (u ++ [c]) = seg f c u ++ step f c nxt := by
  rw [seg_append]; rfl

/-- How a line cuts a polygon: P lies to its left, R does not. -/
structure Cut (f : Pt → Rat) (l : List Pt) where
  p0 : Pt
  P0 : List Pt
  P1 : List Pt
  pl : Pt
  r : Pt
  R0 : List Pt
  R1 : List Pt
  z : Pt
  hP : p0 :: P0 = P1 ++ [pl]
  hR : r :: R0 = R1 ++ [z]
  rot : Rot l ((p0 :: P0) ++ (r :: R0))
  pos : ∀ x ∈ p0 :: P0, 0 < f x
  neg : ∀ x ∈ r :: R0, f x ≤ 0
  some_neg : ∃ x ∈ r :: R0, f x < 0
  out : clip f ((p0 :: P0) ++ (r :: R0)) = (p0 :: P0) ++ [meet f pl r, meet f p0 z]

theorem exists_cut {f : Pt → Rat} (hf : Aff f) {l : List Pt} (hl : TC l) (hp : ∃ x ∈ l, 0 < f x) (hn : ∃ x ∈ l, f x < 0) : Nonempty (Cut f l) := by
  obtain ⟨P, R, hrot, hPne, hP, hRne, hR, hneg⟩ := norm hf hl hp hn
  obtain ⟨p0, P0, rfl⟩ : ∃ p0 P0, P = p0 :: P0 := by cases P with
    | nil => exact absurd rfl hPne
    | cons a b => exact ⟨a, b, rfl⟩
  obtain ⟨r, R0, rfl⟩ : ∃ p0 P0, R = p0 :: P0 := by cases R with
    | nil => exact absurd rfl hRne
    | cons a b => exact ⟨a, b, rfl⟩
  obtain ⟨P1, pl, hP1⟩ : ∃ P1 pl, p0 :: P0 = P1 ++ [pl] := ⟨_, _, (List.dropLast_concat_getLast (by simp)).symm⟩
  obtain ⟨R1, z, hR1⟩ : ∃ P1 pl, r :: R0 = P1 ++ [pl] := ⟨_, _, (List.dropLast_concat_getLast (by simp)).symm⟩
  have hTC := hl.rot hrot
  have hp0 : 0 < f p0 := hP p0 (by simp)
  have hpl : 0 < f pl := hP pl (by rw [hP1]; simp)
  have hz : f z ≤ 0 := hR z (by rw [hR1]; simp)
  have hr : f r ≤ 0 := hR r (by simp)
  refine ⟨⟨p0, P0, P1, pl, r, R0, R1, z, hP1, hR1, hrot, hP, hR, hneg, ?_⟩⟩
  -- the middle of R lies to the right
  have mid : ∀ a w b, r :: R0 = r :: (a ++ w :: (b ++ [z])) → f w < 0 := by
    intro a w b hab
    have hw : f w ≤ 0 := hR w (by rw [hab]; simp)
    rcases lt_or_eq hw with h | h
    · exact h
    · exfalso
      have hsub : [p0, r, w, z].Sublist (p0 :: P0 ++ r :: R0) := by rw [hab]; simp
      have h4 := hTC.sub hsub
      simp [TC] at h4
      obtain ⟨⟨⟨h5, h6⟩, h7⟩, h8⟩ := h4
      have id4 := hf.four p0 r w z
      have a1 := Rat.mul_pos h8 hp0
      have a3 := pn (Rat.le_of_lt h7) hr
      have a4 := pn (Rat.le_of_lt h5) hz
      rw [h] at id4
      grind
  have hclip : clip f (p0 :: P0 ++ r :: R0) = seg f r (p0 :: P0) ++ seg f p0 (r :: R0) := by
    show seg f p0 (p0 :: P0 ++ r :: R0) = _
    rw [seg_append]
  have hsegP : seg f r (p0 :: P0) = P1 ++ step f pl r := by
    rw [hP1, seg_last, seg_nonneg (fun x hx => Rat.le_of_lt (hP x (by rw [hP1]; simp [hx]))) (Rat.le_of_lt hpl)]
  -- the end of R
  have tail : ∀ M, (∀ x ∈ M, f x < 0) → seg f p0 (M ++ [z]) = [meet f p0 z] := by
    intro M hM
    rw [seg_last, seg_neg hM hz]
    rcases lt_or_eq hz with h | h
    · rw [step_back h hp0, meet_comm (by grind)]; rfl
    · rw [step_zero h, meet_end hp0 h]; rfl
  have headR : step f pl r ++ seg f p0 (r :: R0) = [pl, meet f pl r, meet f p0 z] := by
    rcases lt_or_eq hr with h | h
    · rw [step_cross hpl h, hR1, tail]
      · rfl
      · intro x hx
        cases R1 with
        | nil => simp at hx
        | cons a R1 =>
          have : r = a := by simp at hR1; exact hR1.1
          subst this
          rcases List.mem_cons.1 hx with rfl | hx
          · exact h
          · obtain ⟨s, t, rfl⟩ := List.append_of_mem hx
            exact mid s x t (by rw [hR1]; simp)
    · cases R0 with
      | nil =>
        exfalso
        obtain ⟨x, hx, hlt⟩ := hneg
        simp at hx; subst hx; grind
      | cons b R0 =>
        have hR1' : ∃ M, b :: R0 = M ++ [z] := by
          cases R1 with
          | nil => simp at hR1
          | cons a R1 => simp at hR1; exact ⟨R1, hR1.2⟩
        obtain ⟨M, hM⟩ := hR1'
        have e : seg f p0 (r :: b :: R0) = step f r b ++ seg f p0 (b :: R0) := rfl
        rw [e, step_zero h, step_pos hpl (by grind), hM, tail, meet_end hpl h]
        · rfl
        · intro x hx
          obtain ⟨s, t, rfl⟩ := List.append_of_mem hx
          exact mid s x t (by rw [hM]; simp)
  rw [hclip, hsegP, List.append_assoc, headR, hP1]
  simp

section
variable {f : Pt → Rat} {l : List Pt} (hf : Aff f) (hl : TC l) (h3 : 3 ≤ l.length) (C : Cut f l)
include hl h3 hf
omit hf in
/-- The new side turns to the left of what is left. -/
theorem Cut.turn : 0 < cross C.p0 (meet f C.pl C.r) (meet f C.p0 C.z) := by
  have hTC := hl.rot C.rot
  have hp0 := C.pos C.p0 (by simp)
  have hpl := C.pos C.pl (by rw [C.hP]; simp)
  have hz := C.neg C.z (by rw [C.hR]; simp)
  have hr := C.neg C.r (by simp)
  obtain ⟨t, t0, t1, tz, _, e1⟩ := meet_part hpl hr
  obtain ⟨s, s0, s1, sz, _, e2⟩ := meet_part hp0 hz
  rw [e1, e2, cross_lerp, cross_lerp2, cross_lerp2]
  have c0 : cross C.p0 C.pl C.p0 = 0 := by unfold cross; grind
  have c1 : cross C.p0 C.r C.p0 = 0 := by unfold cross; grind
  rw [c0, c1]
  have hP := C.hP
  have hR := C.hR
  -- cross p0 r z
  have crz : 0 ≤ cross C.p0 C.r C.z ∧ (C.r ≠ C.z → 0 < cross C.p0 C.r C.z) := by
    cases hR1 : C.R1 with
    | nil =>
      rw [hR1] at hR
      have : C.r = C.z := by simp at hR; exact hR.1
      rw [this]
      have : cross C.p0 C.z C.z = 0 := by unfold cross; grind
      exact ⟨by rw [this]; exact Rat.le_refl, fun h => absurd rfl h⟩
    | cons a R1 =>
      rw [hR1] at hR
      have ha : C.r = a := by simp at hR; exact hR.1
      have hsub : [C.p0, C.r, C.z].Sublist (C.p0 :: C.P0 ++ C.r :: C.R0) := by rw [hR, ha]; simp
      have := hTC.three hsub
      exact ⟨Rat.le_of_lt this, fun _ => this⟩
  have cpz : 0 ≤ cross C.p0 C.pl C.z ∧ (C.P1 ≠ [] → 0 < cross C.p0 C.pl C.z) := by
    cases hP1 : C.P1 with
    | nil =>
      rw [hP1] at hP
      have : C.p0 = C.pl := by simp at hP; exact hP.1
      rw [← this]
      have : cross C.p0 C.p0 C.z = 0 := by unfold cross; grind
      exact ⟨by rw [this]; exact Rat.le_refl, fun h => absurd rfl h⟩
    | cons a P1 =>
      rw [hP1] at hP
      have ha : C.p0 = a := by simp at hP; exact hP.1
      have hsub : [C.p0, C.pl, C.z].Sublist (C.p0 :: C.P0 ++ C.r :: C.R0) := by rw [hP, hR, ha]; simp
      have := hTC.three hsub
      exact ⟨Rat.le_of_lt this, fun _ => this⟩
  by_cases hrz : C.r = C.z
  · -- one place to the right: it lies strictly there
    have hne : C.R1 = [] := by
      cases hR1 : C.R1 with
      | nil => rfl
      | cons a R1 =>
        exfalso
        rw [hR1] at hR
        have ha : C.r = a := by simp at hR; exact hR.1
        have hsub : [C.p0, C.r, C.z].Sublist (C.p0 :: C.P0 ++ C.r :: C.R0) := by rw [hR, ha]; simp
        have := hTC.three hsub
        rw [hrz] at this
        have : cross C.p0 C.z C.z = 0 := by unfold cross; grind
        grind
    have hlt : f C.r < 0 := by
      obtain ⟨x, hx, hlt⟩ := C.some_neg
      rw [hR, hne] at hx
      simp at hx
      rw [hrz, ← hx]; exact hlt
    have t1' : t < 1 := Rat.lt_of_le_of_ne t1 (fun e => by have := tz e; grind)
    have hP1 : C.P1 ≠ [] := by
      intro h
      have := C.rot.length
      rw [hP, hR, h, hne] at this
      simp at this; omega
    have a1 := Rat.mul_pos (show 0 < 1 - t by grind) (cpz.2 hP1)
    have a2 := Rat.mul_nonneg (Rat.le_of_lt t0) crz.1
    have a3 := Rat.mul_pos s0 (show 0 < (1 - t) * cross C.p0 C.pl C.z + t * cross C.p0 C.r C.z by grind)
    grind
  · have a1 := Rat.mul_nonneg (show 0 ≤ 1 - t by grind) cpz.1
    have a2 := Rat.mul_pos t0 (crz.2 hrz)
    have a3 := Rat.mul_pos s0 (show 0 < (1 - t) * cross C.p0 C.pl C.z + t * cross C.p0 C.r C.z by grind)
    grind

/-- To the left of the new side is to the left of the line. -/
theorem Cut.side : ∃ k, 0 < k ∧ ∀ x, cross (meet f C.pl C.r) (meet f C.p0 C.z) x = k * f x := by
  have ht := C.turn hl h3
  have hp0 := C.pos C.p0 (by simp)
  have hpl := C.pos C.pl (by rw [C.hP]; simp)
  have hz := C.neg C.z (by rw [C.hR]; simp)
  have hr := C.neg C.r (by simp)
  have z1 : f (meet f C.pl C.r) = 0 := hf.meet_zero (by grind)
  have z2 : f (meet f C.p0 C.z) = 0 := hf.meet_zero (by grind)
  generalize meet f C.pl C.r = W1 at *
  generalize meet f C.p0 C.z = W2 at *
  refine ⟨cross C.p0 W1 W2 / f C.p0, ?_, fun x => ?_⟩
  · have e : cross C.p0 W1 W2 / f C.p0 * f C.p0 = cross C.p0 W1 W2 := Rat.div_mul_cancel (by grind)
    generalize cross C.p0 W1 W2 / f C.p0 = q at *
    apply Rat.not_le.1
    intro h
    have := np h (Rat.le_of_lt hp0)
    grind
  · have e : cross C.p0 W1 W2 / f C.p0 * f C.p0 = cross C.p0 W1 W2 := Rat.div_mul_cancel (by grind)
    generalize cross C.p0 W1 W2 / f C.p0 = q at *
    have id4 := hf.four C.p0 W1 W2 x
    rw [z1, z2] at id4
    have : f C.p0 * (cross W1 W2 x - q * f x) = 0 := by grind
    rcases Rat.mul_eq_zero.1 this with h | h <;> grind

theorem Cut.tc : TC (C.p0 :: C.P0 ++ [meet f C.pl C.r, meet f C.p0 C.z]) := by
  have hTC := hl.rot C.rot
  have hp0 := C.pos C.p0 (by simp)
  have hpl := C.pos C.pl (by rw [C.hP]; simp)
  have hz := C.neg C.z (by rw [C.hR]; simp)
  have hr := C.neg C.r (by simp)
  obtain ⟨kk, hk, hside⟩ := C.side hf hl h3
  obtain ⟨t, t0, t1, tz, _, e1⟩ := meet_part hpl hr
  obtain ⟨s, s0, s1, sz, _, e2⟩ := meet_part hp0 hz
  have hPT : TC (C.p0 :: C.P0) := hTC.sub (List.sublist_append_left _ _)
  have hPr : TC (C.p0 :: C.P0 ++ [C.r]) := hTC.sub (by simp)
  have hPz : TC (C.p0 :: C.P0 ++ [C.z]) := hTC.sub (List.Sublist.append (List.Sublist.refl _) (by rw [C.hR]; simp))
  rw [TC.snoc] at hPr hPz
  have hA : (C.p0 :: C.P0).Pairwise (fun c d => 0 < cross c d (meet f C.pl C.r)) := by
    rw [e1]
    -- every pair ends at pl or goes before it
    have hpp : (C.p0 :: C.P0).Pairwise (fun c d => 0 ≤ cross c d C.pl) := by
      rw [C.hP, List.pairwise_append]
      rw [C.hP, TC.snoc] at hPT
      refine ⟨hPT.2.imp fun h => Rat.le_of_lt h, by simp, fun c _ d hd => ?_⟩
      simp at hd; subst hd
      have : cross c C.pl C.pl = 0 := by unfold cross; grind
      rw [this]; exact Rat.le_refl
    refine List.Pairwise.imp₂ ?_ hpp hPr.2
    intro c d h1 h2
    rw [cross_lerp]
    have a1 := Rat.mul_nonneg (show 0 ≤ 1 - t by grind) h1
    have a2 := Rat.mul_pos t0 h2
    grind
  have hB : (C.p0 :: C.P0).Pairwise (fun c d => 0 < cross c d (meet f C.p0 C.z)) := by
    rw [e2]
    have hpp : (C.p0 :: C.P0).Pairwise (fun c d => 0 ≤ cross c d C.p0) := by
      rw [List.pairwise_cons]
      refine ⟨fun d _ => ?_, ?_⟩
      · have : cross C.p0 d C.p0 = 0 := by unfold cross; grind
        rw [this]; exact Rat.le_refl
      · refine hPT.1.imp fun {c d} h => ?_
        rw [show cross c d C.p0 = cross C.p0 c d from cross_rot _ _ _]; exact Rat.le_of_lt h
    refine List.Pairwise.imp₂ ?_ hpp hPz.2
    intro c d h1 h2
    rw [cross_lerp]
    have a1 := Rat.mul_nonneg (show 0 ≤ 1 - s by grind) h1
    have a2 := Rat.mul_pos s0 h2
    grind
  have e : C.p0 :: C.P0 ++ [meet f C.pl C.r, meet f C.p0 C.z] = (C.p0 :: C.P0 ++ [meet f C.pl C.r]) ++ [meet f C.p0 C.z] := by simp
  rw [e, TC.snoc, TC.snoc]
  refine ⟨⟨hPT, hA⟩, ?_⟩
  rw [List.pairwise_append]
  refine ⟨hB, by simp, fun c hc d hd => ?_⟩
  simp at hd; subst hd
  have : cross c (meet f C.pl C.r) (meet f C.p0 C.z) = cross (meet f C.pl C.r) (meet f C.p0 C.z) c := (cross_rot _ _ _).symm
  rw [this, hside]
  exact Rat.mul_pos hk (C.pos c hc)
end
end Go.Proofs.YtblopapobmbboaaDoor.Geo
namespace Go.Proofs.YtblopapobmbboaaDoor.Geo

/-- The sides of an open chain that goes on at nxt. -/
def sides (nxt : Pt) : List Pt → List (Pt × Pt)
  | [] => []
  | [c] => [(c, nxt)]
  | c :: d :: r => (c, d) :: sides nxt (d :: r)
/-- The sides of a polygon. -/
def cyc : List Pt → List (Pt × Pt)
  | [] => []
  | c :: r => sides c (c :: r)

theorem sides_append (nxt : Pt) (u : List Pt) (h : Pt) (t : List Pt) : sides nxt (u ++ h :: t) = sides h u ++ sides nxt (h :: t) := by
  induction u with
  | nil => rfl
  | cons c u ih =>
    cases u with
    | nil => rfl
    | cons d u =>
      have e : c :: d :: u ++ h :: t = c :: d :: (u ++ h :: t) := rfl
      have e2 : d :: (u ++ h :: t) = d :: u ++ h :: t := rfl
      rw [e]
      simp only [sides]
      rw [e2, ih]
      rfl
theorem sides_last (nxt c : Pt) (u : List Pt) : sides nxt (u ++ [c]) = sides c u ++ [(c, nxt)] := by rw [sides_append]; rfl
theorem cyc_append (c d : Pt) (u v : List Pt) : cyc ((c :: u) ++ (d :: v)) = sides d (c :: u) ++ sides c (d :: v) := by
  show sides c (c :: u ++ d :: v) = _
  rw [sides_append]
theorem cyc_rot {l m : List Pt} (h : Rot l m) (e : Pt × Pt) : e ∈ cyc m ↔ e ∈ cyc l := by
  obtain ⟨u, v, rfl, rfl⟩ := h
  cases u with
  | nil => simp
  | cons c u =>
    cases v with
    | nil => simp
    | cons d v => rw [cyc_append, cyc_append]; simp [or_comm]

theorem sides_split {nxt : Pt} {l : List Pt} {c d : Pt} (h : (c, d) ∈ sides nxt l) : (∃ u v, l = u ++ c :: d :: v) ∨ (∃ u, l = u ++ [c] ∧ d = nxt) := by
  induction l with
  | nil => simp [sides] at h
  | cons a l ih =>
    cases l with
    | nil => simp [sides] at h; obtain ⟨rfl, rfl⟩ := h; exact .inr ⟨[], rfl, rfl⟩
    | cons b l =>
      simp only [sides, List.mem_cons, Prod.mk.injEq] at h
      rcases h with ⟨rfl, rfl⟩ | h
      · exact .inl ⟨[], l, rfl⟩
      · rcases ih (by simpa using h) with ⟨u, v, e⟩ | ⟨u, e, e2⟩
        · exact .inl ⟨a :: u, v, by rw [e]; rfl⟩
        · exact .inr ⟨a :: u, by rw [e]; rfl, e2⟩
theorem cyc_split {l : List Pt} {c d : Pt} (h2 : 2 ≤ l.length) (h : (c, d) ∈ cyc l) : ∃ r, Rot l (c :: d :: r) := by
  cases l with
  | nil => simp at h2
  | cons a l =>
    rcases sides_split h with ⟨u, v, e⟩ | ⟨u, e, rfl⟩
    · exact ⟨v ++ u, by rw [e]; exact ⟨u, c :: d :: v, rfl, rfl⟩⟩
    · cases u with
      | nil => simp at e; rw [e.2] at h2; simp at h2
      | cons b u =>
        simp at e
        obtain ⟨rfl, rfl⟩ := e
        exact ⟨u, d :: u, [c], rfl, rfl⟩
theorem cyc_of_rot {l r : List Pt} {c d : Pt} (h : Rot l (c :: d :: r)) : (c, d) ∈ cyc l := by
  rw [← cyc_rot h]; simp [cyc, sides]

theorem mem_of_cyc {l : List Pt} {c d : Pt} (h : (c, d) ∈ cyc l) : c ∈ l ∧ d ∈ l := by
  cases l with
  | nil => simp [cyc] at h
  | cons a l =>
    rcases sides_split h with ⟨u, v, e⟩ | ⟨u, e, rfl⟩
    · rw [e]; simp
    · constructor
      · rw [e]; simp
      · simp

/-- Every place of a polygon ends a side and begins one. -/
theorem around {l : List Pt} (h2 : 2 ≤ l.length) {v : Pt} (hv : v ∈ l) : ∃ u w, (u, v) ∈ cyc l ∧ (v, w) ∈ cyc l ∧ (3 ≤ l.length → ∃ r, Rot l (u :: v :: w :: r)) := by
  obtain ⟨r, hr⟩ := rot_head hv
  have hlen := hr.length
  simp at hlen
  obtain ⟨m, u, rfl⟩ : ∃ m u, r = m ++ [u] := by
    cases r with
    | nil => simp at hlen; omega
    | cons a b => exact ⟨_, _, (List.dropLast_concat_getLast (by simp)).symm⟩
  have h1 : Rot l (u :: v :: m) := hr.trans ⟨v :: m, [u], by simp, by simp⟩
  refine ⟨u, m.headD u, cyc_of_rot h1, ?_, ?_⟩
  · cases m with
    | nil =>
      have : Rot l (v :: u :: []) := hr
      exact cyc_of_rot this
    | cons w m => exact cyc_of_rot (r := m ++ [u]) (by simpa using hr)
  · intro h3
    cases m with
    | nil => simp at hlen; omega
    | cons w m => exact ⟨m, by simpa using h1⟩

/-- A place lies to the left of all sides. -/
def In (l : List Pt) (x : Pt) : Prop := ∀ c d, (c, d) ∈ cyc l → 0 ≤ cross c d x

theorem TC.left {l : List Pt} (h : TC l) (h2 : 2 ≤ l.length) {c d : Pt} (hs : (c, d) ∈ cyc l) : ∃ r, Rot l (c :: d :: r) ∧ ∀ x ∈ r, 0 < cross c d x := by
  obtain ⟨r, hr⟩ := cyc_split h2 hs
  have := h.rot hr
  exact ⟨r, hr, fun x hx => by
    have h1 := this.1
    rw [List.pairwise_cons] at h1
    exact h1.1 x hx⟩
theorem TC.inside {l : List Pt} (h : TC l) (h2 : 2 ≤ l.length) {x : Pt} (hx : x ∈ l) : In l x := by
  intro c d hs
  obtain ⟨r, hr, hl⟩ := h.left h2 hs
  have := (hr.mem x).2 hx
  simp at this
  rcases this with rfl | rfl | this
  · have : cross x d x = 0 := by unfold cross; grind
    rw [this]; exact Rat.le_refl
  · have : cross c x x = 0 := by unfold cross; grind
    rw [this]; exact Rat.le_refl
  · exact Rat.le_of_lt (hl x this)

theorem exists_min (f : Pt → Rat) (l : List Pt) (h : l ≠ []) : ∃ v ∈ l, ∀ x ∈ l, f v ≤ f x := by
  induction l with
  | nil => exact absurd rfl h
  | cons a l ih =>
    by_cases hl : l = []
    · subst hl; exact ⟨a, by simp, fun x hx => by simp at hx; subst hx; exact Rat.le_refl⟩
    · obtain ⟨v, hv, hm⟩ := ih hl
      rcases tot (f a) (f v) with h1 | h1
      · exact ⟨a, by simp, fun x hx => by
          rcases List.mem_cons.1 hx with rfl | hx
          · exact Rat.le_refl
          · exact Rat.le_trans h1 (hm x hx)⟩
      · exact ⟨v, by simp [hv], fun x hx => by
          rcases List.mem_cons.1 hx with rfl | hx
          · exact h1
          · exact hm x hx⟩

theorem Aff.cone {f : Pt → Rat} (h : Aff f) (u v w x : Pt) : cross u v w * (f x - f v) = cross v w x * (f u - f v) + cross u v x * (f w - f v) := by
  obtain ⟨a, b, e, hf⟩ := h
  rw [hf, hf, hf, hf]; unfold cross; grind

/-- A linear function is least, on a polygon, at a corner. -/
theorem TC.min {f : Pt → Rat} (hf : Aff f) {l : List Pt} (h : TC l) (h3 : 3 ≤ l.length) {x : Pt} (hx : In l x) : ∃ v ∈ l, f v ≤ f x ∧ ∀ y ∈ l, f v ≤ f y := by
  obtain ⟨v, hv, hm⟩ := exists_min f l (by intro e; rw [e] at h3; simp at h3)
  refine ⟨v, hv, ?_, hm⟩
  obtain ⟨u, w, h1, h2, h4⟩ := around (by omega) hv
  obtain ⟨r, hr⟩ := h4 h3
  have ht := h.rot hr
  have hc : 0 < cross u v w := by
    have := ht.1
    simp at this
    exact this.1.1
  have e := hf.cone u v w x
  have a1 := Rat.mul_nonneg (hx v w h2) (show 0 ≤ f u - f v by have := hm u (mem_of_cyc h1).1; grind)
  have a2 := Rat.mul_nonneg (hx u v h1) (show 0 ≤ f w - f v by have := hm w (mem_of_cyc h2).2; grind)
  have := pos_of_mul' (q := f x - f v) hc (by grind)
  grind

/-- Lines: each side of a polygon lies on one of them. -/
def On (L : List (Pt × Pt)) (l : List Pt) : Prop := ∀ c d, (c, d) ∈ cyc l → ∃ a b, (a, b) ∈ L ∧ ∃ k, 0 < k ∧ ∀ x, cross c d x = k * cross a b x

theorem On.self (l : List Pt) : On (cyc l) l := fun c d h => ⟨c, d, h, 1, by decide, fun x => by grind⟩
theorem On.mono {L M : List (Pt × Pt)} {l : List Pt} (h : On L l) (hs : ∀ e ∈ L, e ∈ M) : On M l := fun c d hc => by
  obtain ⟨a, b, hab, r⟩ := h c d hc
  exact ⟨a, b, hs _ hab, r⟩
theorem On.inside {L : List (Pt × Pt)} {l : List Pt} (h : On L l) {x : Pt} (hx : ∀ a b, (a, b) ∈ L → 0 ≤ cross a b x) : In l x := fun c d hc => by
  obtain ⟨a, b, hab, k, hk, e⟩ := h c d hc
  rw [e]; exact Rat.mul_nonneg (Rat.le_of_lt hk) (hx a b hab)

/-- The sides of a clipped polygon lie on those of the polygon, and on the line. -/
theorem Cut.on {a b : Pt} {l : List Pt} (hl : TC l) (h3 : 3 ≤ l.length) (C : Cut (cross a b) l) {L : List (Pt × Pt)} (h : On L l) : On ((a, b) :: L) (clip (cross a b) l) := by
  have hf := aff_cross a b
  have hp0 := C.pos C.p0 (by simp)
  have hpl := C.pos C.pl (by rw [C.hP]; simp)
  have hz := C.neg C.z (by rw [C.hR]; simp)
  have hr := C.neg C.r (by simp)
  have hside := C.side hf hl h3
  obtain ⟨t, t0, t1, tz, _, e1⟩ := meet_part hpl hr
  obtain ⟨s, s0, s1, sz, _, e2⟩ := meet_part hp0 hz
  intro c d hcd
  rw [← cyc_rot (clip_rot _ C.rot), C.out] at hcd
  have hcyc : ∀ e, e ∈ cyc ((C.p0 :: C.P0) ++ (C.r :: C.R0)) ↔ e ∈ sides C.pl C.P1 ∨ e = (C.pl, C.r) ∨ e ∈ sides C.z C.R1 ∨ e = (C.z, C.p0) := by
    intro e
    rw [cyc_append, C.hP, C.hR, sides_last, sides_last]
    simp
  have hold : ∀ e, e ∈ cyc ((C.p0 :: C.P0) ++ (C.r :: C.R0)) → e ∈ cyc l := fun e he => (cyc_rot C.rot e).1 he
  rw [cyc_append, C.hP, sides_last] at hcd
  simp only [List.append_assoc, List.mem_append, sides, List.mem_cons, List.not_mem_nil, or_false] at hcd
  rcases hcd with hcd | hcd | hcd | hcd
  · obtain ⟨x, y, hxy, r⟩ := h c d (hold _ ((hcyc _).2 (.inl hcd)))
    exact ⟨x, y, by simp [hxy], r⟩
  · obtain ⟨rfl, rfl⟩ := Prod.mk.inj hcd
    obtain ⟨x, y, hxy, k, hk, e⟩ := h C.pl C.r (hold _ ((hcyc _).2 (.inr (.inl rfl))))
    refine ⟨x, y, by simp [hxy], t * k, Rat.mul_pos t0 hk, fun q => ?_⟩
    rw [e1, cross_lerp2, e q]
    have : cross C.pl C.pl q = 0 := by unfold cross; grind
    rw [this]; grind
  · obtain ⟨rfl, rfl⟩ := Prod.mk.inj hcd
    obtain ⟨k, hk, e⟩ := hside
    exact ⟨a, b, by simp, k, hk, e⟩
  · obtain ⟨rfl, rfl⟩ := Prod.mk.inj hcd
    obtain ⟨x, y, hxy, k, hk, e⟩ := h C.z C.p0 (hold _ ((hcyc _).2 (.inr (.inr (.inr rfl)))))
    refine ⟨x, y, by simp [hxy], s * k, Rat.mul_pos s0 hk, fun q => ?_⟩
    rw [e2, cross_lerp1, e q]
    have : cross C.p0 C.p0 q = 0 := by unfold cross; grind
    rw [this]; grind
end Go.Proofs.YtblopapobmbboaaDoor.Geo
namespace Go.Proofs.YtblopapobmbboaaDoor.Geo

/-- Sums over lists. -/
def sm {α : Type} (l : List α) (f : α → Rat) : Rat := (l.map f).foldr (· + ·) 0
theorem sm_nil {α : Type} (f : α → Rat) : sm [] f = 0 := rfl
theorem sm_cons {α : Type} (a : α) (l : List α) (f : α → Rat) : sm (a :: l) f = f a + sm l f := rfl
theorem sm_append {α : Type} (l m : List α) (f : α → Rat) : sm (l ++ m) f = sm l f + sm m f := by
  induction l with
  | nil => rw [sm_nil]; simp; grind
  | cons a l ih => rw [List.cons_append, sm_cons, sm_cons, ih]; grind
theorem sm_congr {α : Type} {l : List α} {f g : α → Rat} (h : ∀ x ∈ l, f x = g x) : sm l f = sm l g := by
  induction l with
  | nil => rfl
  | cons a l ih => rw [sm_cons, sm_cons, h a (by simp), ih (fun x hx => h x (by simp [hx]))]
theorem sm_add {α : Type} (l : List α) (f g : α → Rat) : sm l (fun x => f x + g x) = sm l f + sm l g := by
  induction l with
  | nil => rw [sm_nil, sm_nil, sm_nil]; grind
  | cons a l ih => rw [sm_cons, sm_cons, sm_cons, ih]; grind
theorem sm_mul {α : Type} (l : List α) (k : Rat) (f : α → Rat) : sm l (fun x => k * f x) = k * sm l f := by
  induction l with
  | nil => rw [sm_nil, sm_nil]; grind
  | cons a l ih => rw [sm_cons, sm_cons, ih]; grind
theorem sm_zero {α : Type} {l : List α} {f : α → Rat} (h : ∀ x ∈ l, f x = 0) : sm l f = 0 := by
  induction l with
  | nil => rfl
  | cons a l ih => rw [sm_cons, h a (by simp), ih (fun x hx => h x (by simp [hx]))]; grind
theorem sm_swap {α β : Type} (l : List α) (m : List β) (f : α → β → Rat) : sm l (fun x => sm m (f x)) = sm m (fun y => sm l (fun x => f x y)) := by
  induction l with
  | nil => rw [sm_nil]; exact (sm_zero fun y _ => rfl).symm
  | cons a l ih => rw [sm_cons, ih, ← sm_add]; exact sm_congr fun y _ => rfl
theorem sm_perm {α : Type} {l m : List α} (h : l.Perm m) (f : α → Rat) : sm l f = sm m f := by
  induction h with
  | nil => rfl
  | cons a _ ih => rw [sm_cons, sm_cons, ih]
  | swap a b l => rw [sm_cons, sm_cons, sm_cons, sm_cons]; grind
  | trans _ _ h1 h2 => rw [h1, h2]
theorem sm_filter {α : Type} (l : List α) (q : α → Bool) (f : α → Rat) : sm l (fun x => if q x = true then f x else 0) = sm (l.filter q) f := by
  induction l with
  | nil => rfl
  | cons a l ih =>
    rw [sm_cons, ih, List.filter_cons]
    split
    · rw [sm_cons]
    · grind
theorem sm_map {α β : Type} (l : List α) (g : α → β) (f : β → Rat) : sm (l.map g) f = sm l (fun x => f (g x)) := by
  induction l with
  | nil => rfl
  | cons a l ih => rw [List.map_cons, sm_cons, sm_cons, ih]
/-- One member of a list counts. -/
theorem sm_one {α : Type} {l : List α} (hn : l.Nodup) {a : α} (ha : a ∈ l) {f : α → Rat} (h : ∀ x ∈ l, x ≠ a → f x = 0) : sm l f = f a := by
  induction l with
  | nil => cases ha
  | cons b l ih =>
    rw [sm_cons]
    rw [List.nodup_cons] at hn
    rcases List.mem_cons.1 ha with rfl | ha
    · rw [sm_zero (fun x hx => h x (by simp [hx]) (fun e => hn.1 (e ▸ hx)))]; grind
    · rw [h b (by simp) (fun e => hn.1 (e ▸ ha)), ih hn.2 ha (fun x hx => h x (by simp [hx]))]; grind

/-- The steps from each number of a list to the next greater one. -/
def Next (L : List Rat) (a b : Rat) : Prop := a < b ∧ ∀ j ∈ L, ¬ (a < j ∧ j < b)
instance (L : List Rat) (a b : Rat) : Decidable (Next L a b) := by unfold Next; exact inferInstance
def steps (L : List Rat) : Rat := sm L fun a => sm L fun b => if Next L a b then b - a else 0

theorem steps_sorted : ∀ (L : List Rat) (x : Rat), (x :: L).Pairwise (· < ·) → ∃ y, y ∈ x :: L ∧ (∀ j ∈ x :: L, j ≤ y) ∧ steps (x :: L) = y - x
  | [], x, _ => ⟨x, by simp, fun j hj => by simp at hj; subst hj; exact Rat.le_refl, by
      unfold steps
      rw [sm_cons, sm_nil, sm_cons, sm_nil]
      rw [if_neg (by unfold Next; grind)]
      grind⟩
  | z :: L, x, h => by
    rw [List.pairwise_cons] at h
    obtain ⟨hx, h⟩ := h
    obtain ⟨y, hy, hm, hs⟩ := steps_sorted L z h
    have hz := h
    rw [List.pairwise_cons] at hz
    refine ⟨y, by simp at hy ⊢; grind, fun j hj => ?_, ?_⟩
    · rcases List.mem_cons.1 hj with rfl | hj
      · exact Rat.le_of_lt (hx y hy)
      · exact hm j hj
    · have hxz := hx z (by simp)
      have inner : ∀ a ∈ z :: L, sm (x :: z :: L) (fun b => if Next (x :: z :: L) a b then b - a else 0) = sm (z :: L) (fun b => if Next (z :: L) a b then b - a else 0) := by
        intro a ha
        have hxa := hx a ha
        rw [sm_cons, if_neg (by unfold Next; grind)]
        rw [sm_congr (g := fun b => if Next (z :: L) a b then b - a else 0)]
        · grind
        · intro b hb
          have : Next (x :: z :: L) a b ↔ Next (z :: L) a b := by
            unfold Next
            constructor
            · rintro ⟨h1, h2⟩; exact ⟨h1, fun j hj => h2 j (by simp at hj ⊢; grind)⟩
            · rintro ⟨h1, h2⟩
              refine ⟨h1, fun j hj => ?_⟩
              rcases List.mem_cons.1 hj with rfl | hj
              · grind
              · exact h2 j hj
          by_cases hn : Next (z :: L) a b
          · rw [if_pos hn, if_pos (this.2 hn)]
          · rw [if_neg hn, if_neg (fun h => hn (this.1 h))]
      have first : sm (x :: z :: L) (fun b => if Next (x :: z :: L) x b then b - x else 0) = z - x := by
        rw [sm_cons, sm_cons, if_neg (by unfold Next; grind), if_pos ?_, sm_zero ?_]
        · grind
        · intro b hb
          rw [if_neg]
          rintro ⟨_, h2⟩
          exact h2 z (by simp) ⟨hxz, hz.1 b hb⟩
        · refine ⟨hxz, fun j hj => ?_⟩
          rintro ⟨h1, h2⟩
          simp only [List.mem_cons] at hj
          rcases hj with rfl | rfl | hj
          · grind
          · grind
          · have := hz.1 j hj; grind
      unfold steps at hs ⊢
      rw [sm_cons, first, sm_congr inner, hs]
      grind

theorem steps_perm {L M : List Rat} (h : L.Perm M) : steps L = steps M := by
  unfold steps
  rw [sm_perm h]
  apply sm_congr
  intro a _
  rw [sm_perm h]
  apply sm_congr
  intro b _
  have : Next L a b ↔ Next M a b := by
    unfold Next
    constructor
    · rintro ⟨h1, h2⟩; exact ⟨h1, fun j hj => h2 j (h.mem_iff.2 hj)⟩
    · rintro ⟨h1, h2⟩; exact ⟨h1, fun j hj => h2 j (h.mem_iff.1 hj)⟩
  by_cases hn : Next M a b
  · rw [if_pos hn, if_pos (this.2 hn)]
  · rw [if_neg hn, if_neg (fun h => hn (this.1 h))]

theorem exists_sorted (L : List Rat) (hn : L.Nodup) : ∃ M, L.Perm M ∧ M.Pairwise (· < ·) := by
  induction L with
  | nil => exact ⟨[], .nil, .nil⟩
  | cons a L ih =>
    rw [List.nodup_cons] at hn
    obtain ⟨M, hp, hs⟩ := ih hn.2
    have ha : a ∉ M := fun h => hn.1 (hp.mem_iff.2 h)
    refine ⟨M.filter (fun x => decide (x < a)) ++ a :: M.filter (fun x => !decide (x < a)), ?_, ?_⟩
    · refine (hp.cons a).trans ?_
      refine List.Perm.trans ?_ List.perm_middle.symm
      exact (List.filter_append_perm _ M).symm.cons a
    · rw [List.pairwise_append]
      refine ⟨hs.filter _, ?_, ?_⟩
      · rw [List.pairwise_cons]
        refine ⟨fun x hx => ?_, hs.filter _⟩
        simp at hx
        exact Rat.lt_of_le_of_ne (Rat.not_lt.1 hx.2) (fun e => ha (e ▸ hx.1))
      · intro x hx y hy
        simp at hx
        rcases List.mem_cons.1 hy with rfl | hy
        · exact hx.2
        · simp at hy
          have := Rat.not_lt.1 hy.2
          grind

/-- The steps of a list of different numbers from its least one to its greatest one. -/
theorem steps_eq {L : List Rat} (hn : L.Nodup) {lo hi : Rat} (h1 : lo ∈ L) (h2 : hi ∈ L) (hlo : ∀ x ∈ L, lo ≤ x) (hhi : ∀ x ∈ L, x ≤ hi) : steps L = hi - lo := by
  obtain ⟨M, hp, hs⟩ := exists_sorted L hn
  rw [steps_perm hp]
  cases M with
  | nil => exact absurd (hp.mem_iff.1 h1) (by simp)
  | cons x M =>
    obtain ⟨y, hy, hm, e⟩ := steps_sorted M x hs
    rw [e]
    rw [List.pairwise_cons] at hs
    have e1 : y = hi := by
      have a := hm hi (hp.mem_iff.1 h2)
      have b := hhi y (hp.mem_iff.2 hy)
      grind
    have e2 : x = lo := by
      have a := hlo x (hp.mem_iff.2 (by simp))
      have b : x ≤ lo := by
        rcases List.mem_cons.1 (hp.mem_iff.1 h1) with h | h
        · rw [h]; exact Rat.le_refl
        · exact Rat.le_of_lt (hs.1 lo h)
      grind
    rw [e1, e2]
end Go.Proofs.YtblopapobmbboaaDoor.Geo
