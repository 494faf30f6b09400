/-
  Plane geometry over the rationals (D): plain Lean, of no program.
-/
import Derived.Test.YtblopapobmbboaaDoorGeoC
namespace Go.Proofs.YtblopapobmbboaaDoor.Geo

/-! ### A line cuts a polygon, of whatever form, into two whose areas add up to its own. -/

theorem sh_origin (o : Pt) (l : List Pt) : Sh l = sm (cyc l) fun e => cross o e.1 e.2 := by
  have key : ∀ (n : Pt) (c : Pt) (l : List Pt), sm (sides n (c :: l)) (fun e => cross o e.1 e.2) = sm (sides n (c :: l)) (fun e => w0 e.1 e.2) + (w0 o c - w0 o n) := by
    intro n c l
    induction l generalizing c with
    | nil => show sm [(c, n)] _ = sm [(c, n)] _ + _; rw [sm_cons, sm_nil, sm_cons, sm_nil]; unfold cross w0; grind
    | cons d l ih =>
      show sm ((c, d) :: sides n (d :: l)) _ = sm ((c, d) :: sides n (d :: l)) _ + _
      rw [sm_cons, sm_cons, ih]
      unfold cross w0; grind
  cases l with
  | nil => rfl
  | cons c l =>
    show sm (sides c (c :: l)) _ = sm (sides c (c :: l)) _
    rw [key]; grind

/-- The part of a side to the left of a line, seen from a place o on it. -/
def part (o : Pt) (f : Pt → Rat) (c d : Pt) : Rat :=
  if 0 ≤ f c then (if 0 ≤ f d then cross o c d else cross o c (meet f c d)) else (if 0 < f d then cross o (meet f c d) d else 0)

section
variable {a b o : Pt}
theorem on_zero (hab : a ≠ b) (ho : cross a b o = 0) {p q : Pt} (hp : cross a b p = 0) (hq : cross a b q = 0) : cross o p q = 0 := collinear hab ho hp hq

theorem seg_part (hab : a ≠ b) (ho : cross a b o = 0) : ∀ (l : List Pt) (nxt y : Pt), (0 ≤ cross a b nxt → y = nxt) → (cross a b nxt < 0 → cross a b y = 0) →
    sm (sides y (seg (cross a b) nxt l)) (fun e => cross o e.1 e.2) = sm (sides nxt l) (fun e => part o (cross a b) e.1 e.2) ∧
    (∀ h t, l = h :: t → (0 ≤ cross a b h → (seg (cross a b) nxt l ++ [y]).head? = some h) ∧ (cross a b h < 0 → ∃ z, (seg (cross a b) nxt l ++ [y]).head? = some z ∧ cross a b z = 0)) := by
  have hf := aff_cross a b
  -- one side, and what follows
  have one : ∀ (c d y : Pt) (m : List Pt), (∃ z, (m ++ [y]).head? = some z ∧ (0 ≤ cross a b d → z = d) ∧ (cross a b d < 0 → cross a b z = 0)) →
      sm (sides y (step (cross a b) c d ++ m)) (fun e => cross o e.1 e.2) = part o (cross a b) c d + sm (sides y m) (fun e => cross o e.1 e.2) ∧
      (0 ≤ cross a b c → (step (cross a b) c d ++ m ++ [y]).head? = some c) ∧ (cross a b c < 0 → ∃ z, (step (cross a b) c d ++ m ++ [y]).head? = some z ∧ cross a b z = 0) := by
    intro c d y m ⟨z, hz, hz1, hz2⟩
    have app : ∀ u, sm (sides y (u :: m)) (fun e => cross o e.1 e.2) = cross o u z + sm (sides y m) (fun e => cross o e.1 e.2) := by
      intro u
      cases m with
      | nil => simp at hz; subst hz; rfl
      | cons h t => simp at hz; subst hz; rfl
    rcases tot 0 (cross a b c) with hc | hc
    · rcases tot 0 (cross a b d) with hd | hd
      · rw [step_nonneg hc hd]
        refine ⟨?_, fun _ => rfl, fun h => by grind⟩
        show sm (sides y (c :: m)) _ = _
        rw [app, hz1 hd]; unfold part; rw [if_pos hc, if_pos hd]
      · rcases lt_or_eq hd with hd | hd
        · rcases lt_or_eq hc with hc' | hc'
          · rw [step_cross hc' hd]
            refine ⟨?_, fun _ => rfl, fun h => by grind⟩
            show cross o c (meet (cross a b) c d) + sm (sides y (meet (cross a b) c d :: m)) _ = _
            rw [app, on_zero hab ho (hf.meet_zero (by grind)) (hz2 hd)]
            unfold part; rw [if_pos hc, if_neg (by grind)]; grind
          · rw [step_zero hc'.symm]
            refine ⟨?_, fun _ => rfl, fun h => by grind⟩
            show sm (sides y (c :: m)) _ = _
            rw [app, on_zero hab ho hc'.symm (hz2 hd)]
            unfold part; rw [if_pos hc, if_neg (by grind)]
            rw [on_zero hab ho hc'.symm (hf.meet_zero (by grind))]
        · rw [step_nonneg hc (by grind)]
          refine ⟨?_, fun _ => rfl, fun h => by grind⟩
          show sm (sides y (c :: m)) _ = _
          rw [app, hz1 (by grind)]; unfold part; rw [if_pos hc, if_pos (by grind)]
    · rcases lt_or_eq hc with hc | hc
      · rcases tot (cross a b d) 0 with hd | hd
        · rw [step_neg hc hd]
          refine ⟨?_, fun h => by grind, fun _ => ⟨z, hz, ?_⟩⟩
          · show sm (sides y m) _ = _
            unfold part; rw [if_neg (by grind), if_neg (by grind)]; grind
          · rcases lt_or_eq hd with hd | hd
            · exact hz2 hd
            · rw [hz1 (by grind)]; exact hd
        · rcases lt_or_eq hd with hd | hd
          · rw [step_back hc hd]
            refine ⟨?_, fun h => by grind, fun _ => ⟨_, rfl, hf.meet_zero (by grind)⟩⟩
            show sm (sides y (meet (cross a b) c d :: m)) _ = _
            rw [app, hz1 (by grind)]
            unfold part; rw [if_neg (by grind), if_pos hd]
          · rw [step_neg hc (by grind)]
            refine ⟨?_, fun h => by grind, fun _ => ⟨z, hz, by rw [hz1 (by grind)]; exact hd.symm⟩⟩
            show sm (sides y m) _ = _
            unfold part; rw [if_neg (by grind), if_neg (by grind)]; grind
      · rcases tot 0 (cross a b d) with hd | hd
        · rw [step_nonneg (by grind) hd]
          refine ⟨?_, fun _ => rfl, fun h => by grind⟩
          show sm (sides y (c :: m)) _ = _
          rw [app, hz1 hd]; unfold part; rw [if_pos (by grind), if_pos hd]
        · rw [step_zero hc]
          refine ⟨?_, fun _ => rfl, fun h => by grind⟩
          show sm (sides y (c :: m)) _ = _
          rw [app]
          rcases lt_or_eq hd with hd | hd
          · rw [on_zero hab ho hc (hz2 hd)]
            unfold part; rw [if_pos (by grind), if_neg (by grind), on_zero hab ho hc (hf.meet_zero (by grind))]
          · rw [hz1 (by grind)]; unfold part; rw [if_pos (by grind), if_pos (by grind)]
  intro l
  induction l with
  | nil =>
    intro nxt y h1 h2
    exact ⟨rfl, fun h t e => by cases e⟩
  | cons c l ih =>
    intro nxt y h1 h2
    cases l with
    | nil =>
      obtain ⟨o1, o2, o3⟩ := one c nxt y [] ⟨y, rfl, h1, h2⟩
      simp only [List.append_nil] at o1 o2 o3
      refine ⟨?_, fun h t e => ?_⟩
      · show sm (sides y (step (cross a b) c nxt)) _ = sm [(c, nxt)] _
        rw [o1, sm_cons, sm_nil]; rfl
      · injection e with e1 e2
        subst e1
        exact ⟨o2, o3⟩
    | cons d l =>
      obtain ⟨i1, i2⟩ := ih nxt y h1 h2
      obtain ⟨i3, i4⟩ := i2 d l rfl
      have hz : ∃ z, (seg (cross a b) nxt (d :: l) ++ [y]).head? = some z ∧ (0 ≤ cross a b d → z = d) ∧ (cross a b d < 0 → cross a b z = 0) := by
        by_cases hd : 0 ≤ cross a b d
        · exact ⟨d, i3 hd, fun _ => rfl, fun h => by grind⟩
        · obtain ⟨z, e1, e2⟩ := i4 (by grind)
          exact ⟨z, e1, fun h => absurd h hd, fun _ => e2⟩
      obtain ⟨o1, o2, o3⟩ := one c d y _ hz
      refine ⟨?_, fun h t e => ?_⟩
      · show sm (sides y (step (cross a b) c d ++ seg (cross a b) nxt (d :: l))) _ = sm ((c, d) :: sides nxt (d :: l)) _
        rw [o1, i1, sm_cons]
      · injection e with e1 e2
        subst e1
        exact ⟨o2, o3⟩

theorem clip_part (hab : a ≠ b) (ho : cross a b o = 0) (l : List Pt) : Sh (clip (cross a b) l) = sm (cyc l) fun e => part o (cross a b) e.1 e.2 := by
  cases l with
  | nil => rfl
  | cons c l =>
    rw [sh_origin o]
    show sm (cyc (seg (cross a b) c (c :: l))) _ = sm (sides c (c :: l)) _
    by_cases hne : seg (cross a b) c (c :: l) = []
    · rw [hne]
      show sm [] _ = _
      by_cases hc : 0 ≤ cross a b c
      · have := (seg_part hab ho (c :: l) c c (fun _ => rfl) (fun h => by grind)).1
        rw [hne] at this
        exact this
      · have := (seg_part hab ho (c :: l) c o (fun h => absurd h hc) (fun _ => ho)).1
        rw [hne] at this
        exact this
    · obtain ⟨h, t, e⟩ : ∃ h t, seg (cross a b) c (c :: l) = h :: t := by
        cases hh : seg (cross a b) c (c :: l) with
        | nil => exact absurd hh hne
        | cons h t => exact ⟨h, t, rfl⟩
      have hy : (0 ≤ cross a b c → h = c) ∧ (cross a b c < 0 → cross a b h = 0) := by
        by_cases hc : 0 ≤ cross a b c
        · have := ((seg_part hab ho (c :: l) c c (fun _ => rfl) (fun h => by grind)).2 c l rfl).1 hc
          rw [e] at this
          simp at this
          exact ⟨fun _ => this, fun h => by grind⟩
        · obtain ⟨z, h1, h2⟩ := ((seg_part hab ho (c :: l) c o (fun h => absurd h hc) (fun _ => ho)).2 c l rfl).2 (by grind)
          rw [e] at h1
          simp at h1
          exact ⟨fun h => absurd h hc, fun _ => by rw [h1]; exact h2⟩
      have := (seg_part hab ho (c :: l) c h hy.1 hy.2).1
      rw [e] at this ⊢
      exact this

theorem part_add (hab : a ≠ b) (ho : cross a b o = 0) (c d : Pt) : part o (cross a b) c d + part o (cross b a) c d = cross o c d := by
  have e : ∀ x, cross b a x = - cross a b x := fun x => cross_swap a b x
  have hf := aff_cross a b
  have mz : cross a b c - cross a b d ≠ 0 → meet (cross b a) c d = meet (cross a b) c d := by
    intro hne
    unfold meet
    congr 1
    rw [e, e]
    have h1 : cross a b c / (cross a b c - cross a b d) * (cross a b c - cross a b d) = cross a b c := Rat.div_mul_cancel hne
    have h2 : -cross a b c / (-cross a b c - -cross a b d) * (-cross a b c - -cross a b d) = -cross a b c := Rat.div_mul_cancel (by grind)
    generalize cross a b c / (cross a b c - cross a b d) = t at *
    generalize -cross a b c / (-cross a b c - -cross a b d) = s at *
    have : (cross a b c - cross a b d) * (s - t) = 0 := by grind
    rcases Rat.mul_eq_zero.1 this with h | h <;> grind
  have split : cross o c (meet (cross a b) c d) + cross o (meet (cross a b) c d) d = cross o c d := by
    unfold meet
    generalize cross a b c / (cross a b c - cross a b d) = t
    unfold lerp cross
    grind
  unfold part
  rw [e, e]
  by_cases h1 : 0 ≤ cross a b c <;> by_cases h2 : 0 ≤ cross a b d
  · rw [if_pos h1, if_pos h2]
    by_cases z1 : cross a b c = 0
    · by_cases z2 : cross a b d = 0
      · rw [if_pos (by grind), if_pos (by grind), on_zero hab ho z1 z2]; grind
      · rw [if_pos (by grind), if_neg (by grind), mz (by grind)]
        have hm : meet (cross a b) c d = c := by rw [← meet_comm (by grind)]; exact meet_end (by grind) z1
        rw [hm]
        have : cross o c c = 0 := by unfold cross; grind
        rw [this]; grind
    · rw [if_neg (by grind), if_neg (by grind)]; grind
  · rw [if_pos h1, if_neg h2]
    by_cases z1 : cross a b c = 0
    · rw [if_pos (by grind), if_pos (by grind), on_zero hab ho z1 (hf.meet_zero (by grind))]; grind
    · rw [if_neg (by grind), if_pos (by grind), mz (by grind)]; exact split
  · rw [if_neg h1]
    by_cases z2 : cross a b d = 0
    · rw [if_neg (by grind), if_pos (by grind), if_pos (by grind)]; grind
    · rw [if_pos (by grind), if_pos (by grind), if_neg (by grind), mz (by grind)]
      have := split
      grind
  · rw [if_neg h1, if_neg (by grind), if_pos (by grind), if_pos (by grind)]; grind

/-- A LINE CUTS A POLYGON into two parts whose areas add up to its own. -/
theorem clip_add (hab : a ≠ b) (l : List Pt) : Sh (clip (cross a b) l) + Sh (clip (cross b a) l) = Sh l := by
  rw [clip_part hab (o := a) cross_c, clip_part (fun e => hab e.symm) (o := a) cross_d, sh_origin a, ← sm_add]
  exact sm_congr fun e _ => part_add hab cross_c e.1 e.2
end
end Go.Proofs.YtblopapobmbboaaDoor.Geo
namespace Go.Proofs.YtblopapobmbboaaDoor.Geo
open Classical

theorem exists_nodup (l : List Pt) : ∃ S : List Pt, S.Nodup ∧ ∀ x, x ∈ S ↔ x ∈ l := by
  induction l with
  | nil => exact ⟨[], List.nodup_nil, fun _ => Iff.rfl⟩
  | cons a l ih =>
    obtain ⟨S, h1, h2⟩ := ih
    by_cases ha : a ∈ S
    · exact ⟨S, h1, fun x => by rw [h2]; constructor
                                · intro h; simp [h]
                                · intro h; rcases List.mem_cons.1 h with rfl | h
                                  · exact (h2 x).1 ha
                                  · exact h⟩
    · exact ⟨a :: S, List.nodup_cons.2 ⟨ha, h1⟩, fun x => by simp [h2]⟩

/-- A place lies in a polygon and to the left of some lines. -/
def Reg (A : List Pt) (es : List (Pt × Pt)) (x : Pt) : Prop := In A x ∧ ∀ e ∈ es, 0 ≤ cross e.1 e.2 x
def Proper (es : List (Pt × Pt)) : Prop := ∀ e ∈ es, e.1 ≠ e.2
/-- Twice the area of what lies in a polygon and to the left of some lines. -/
def ar (A : List Pt) (es : List (Pt × Pt)) : Rat := Sh (clipAll A es)

theorem clipAll_append (l : List Pt) (es es' : List (Pt × Pt)) : clipAll l (es ++ es') = clipAll (clipAll l es) es' := by
  induction es generalizing l with
  | nil => rfl
  | cons e es ih => exact ih _

theorem clipAll_ge {g : Pt → Rat} (hg : Aff g) : ∀ (es : List (Pt × Pt)) (l : List Pt), (∀ x ∈ l, 0 ≤ g x) → ∀ x ∈ clipAll l es, 0 ≤ g x
  | [], _, h => h
  | e :: es, _, h => clipAll_ge hg es _ (clip_ge (aff_cross e.1 e.2) hg h)
theorem clipAll_left : ∀ (es : List (Pt × Pt)) (l : List Pt), ∀ x ∈ clipAll l es, ∀ e ∈ es, 0 ≤ cross e.1 e.2 x
  | [], _, _, _, _, he => by cases he
  | e :: es, l, x, hx, e', he => by
    rcases List.mem_cons.1 he with rfl | he
    · exact clipAll_ge (aff_cross e'.1 e'.2) es _ (fun y hy => (clip_mem (aff_cross e'.1 e'.2) hy).1) x hx
    · exact clipAll_left es _ x hx e' he

theorem fan_pos (c : Pt) : ∀ (d e : Pt) (r : List Pt), (d :: e :: r).Pairwise (fun d e => 0 < cross c d e) → 0 < fan c (d :: e :: r)
  | d, e, [], h => by
    simp at h
    show 0 < cross c d e + 0
    grind
  | d, e, x :: r, h => by
    rw [List.pairwise_cons] at h
    have := fan_pos c e x r h.2
    have := h.1 e (by simp)
    show 0 < cross c d e + fan c (e :: x :: r)
    grind
theorem TC.area_pos {l : List Pt} (h : TC l) (h3 : 3 ≤ l.length) : 0 < Sh l := by
  rw [← fanArea_eq]
  match l, h3 with
  | c :: d :: e :: r, _ => exact fan_pos c d e r h.1

section
variable {A A' : List Pt} (hA : TC A) (hA3 : 3 ≤ A.length)
include hA hA3

theorem reg_mem (es : List (Pt × Pt)) : ∀ x ∈ clipAll A es, Reg A es x := fun x hx =>
  ⟨fun c d hcd => clipAll_ge (aff_cross c d) es A (fun y hy => hA.inside (by omega) hy c d hcd) x hx, clipAll_left es A x hx⟩

theorem inv_of {es : List (Pt × Pt)} (hp : Proper es) {S : List Pt} (hS : ∀ x ∈ S, Reg A es x) : Inv A es.reverse S (clipAll A es) := by
  have := Inv.all es (Inv.start (S := S) hA hA3) hp (fun x hx => ⟨(hS x hx).1, (fun e he => absurd he (by simp)), (hS x hx).2⟩)
  simpa using this

theorem ar_nonneg {es : List (Pt × Pt)} (hp : Proper es) : 0 ≤ ar A es := by
  rcases inv_of hA hA3 hp (S := []) (fun x hx => by cases hx) with ⟨hl, h3, _⟩ | ⟨a, b, hab, hl, _⟩
  · exact Rat.le_of_lt (hl.area_pos h3)
  · unfold ar; rw [← fanArea_eq, area_flat hab hl]; exact Rat.le_refl

/-- THE AREA DEPENDS ON THE PLACES ALONE: not on the order of the lines, nor on which of them belong to the polygon. -/
theorem ar_region (hA' : TC A') (hA3' : 3 ≤ A'.length) {es es' : List (Pt × Pt)} (hp : Proper es) (hp' : Proper es') (h : ∀ x, Reg A es x ↔ Reg A' es' x) : ar A es = ar A' es' := by
  obtain ⟨S, hnd, hS⟩ := exists_nodup (clipAll A es ++ clipAll A' es')
  have r1 : ∀ x ∈ S, Reg A es x := fun x hx => by
    rcases List.mem_append.1 ((hS x).1 hx) with h1 | h1
    · exact reg_mem hA hA3 es x h1
    · exact (h x).2 (reg_mem hA' hA3' es' x h1)
  have r2 : ∀ x ∈ S, Reg A' es' x := fun x hx => (h x).1 (r1 x hx)
  have i1 := inv_of hA hA3 hp r1
  have i2 := inv_of hA' hA3' hp' r2
  have flat : ∀ a b, a ≠ b → (∀ x ∈ S, cross a b x = 0) → ar A es = ar A' es' := by
    intro a b hab hf
    unfold ar
    rw [← fanArea_eq, ← fanArea_eq, area_flat hab (fun x hx => hf x ((hS x).2 (by simp [hx]))), area_flat hab (fun x hx => hf x ((hS x).2 (by simp [hx])))]
  have inn : ∀ {A : List Pt} {es : List (Pt × Pt)} {l : List Pt}, On (es.reverse ++ cyc A) l → (∀ x ∈ S, Reg A es x) → ∀ x ∈ S, In l x := by
    intro A es l hon hr x hx
    refine hon.inside fun p q hpq => ?_
    rcases List.mem_append.1 hpq with h | h
    · exact (hr x hx).2 (p, q) (by simpa using h)
    · exact (hr x hx).1 p q h
  rcases i1 with ⟨t1, l1, on1, _⟩ | ⟨a, b, hab, _, hf⟩
  · rcases i2 with ⟨t2, l2, on2, _⟩ | ⟨a, b, hab, _, hf⟩
    · have e1 := t1.hull_eq l1 (S := S) (inn on1 r1) (fun x hx => (hS x).2 (by simp [hx])) hnd
      have e2 := t2.hull_eq l2 (S := S) (inn on2 r2) (fun x hx => (hS x).2 (by simp [hx])) hnd
      unfold ar
      rw [← e1, ← e2]
    · exact flat a b hab hf
  · exact flat a b hab hf

omit hA hA3 in
theorem ar_add (A : List Pt) (es : List (Pt × Pt)) {a b : Pt} (hab : a ≠ b) : ar A (es ++ [(a, b)]) + ar A (es ++ [(b, a)]) = ar A es := by
  unfold ar
  rw [clipAll_append, clipAll_append]
  exact clip_add hab _

theorem ar_le1 {es : List (Pt × Pt)} (hp : Proper es) {a b : Pt} (hab : a ≠ b) : ar A (es ++ [(a, b)]) ≤ ar A es := by
  have h1 := ar_add A es hab
  have h2 := ar_nonneg hA hA3 (es := es ++ [(b, a)]) (fun e he => by
    rcases List.mem_append.1 he with he | he
    · exact hp e he
    · simp at he; subst he; exact fun e => hab e.symm)
  grind
omit hA hA3 in
theorem Proper.append {es es' : List (Pt × Pt)} (h : Proper es) (h' : Proper es') : Proper (es ++ es') := fun e he => by
  rcases List.mem_append.1 he with he | he
  · exact h e he
  · exact h' e he
theorem ar_le {es es' : List (Pt × Pt)} (hp : Proper es) (hp' : Proper es') : ar A (es ++ es') ≤ ar A es := by
  induction es' generalizing es with
  | nil => simp
  | cons e es' ih =>
    have h1 := ih (es := es ++ [e]) (hp.append (fun x hx => hp' x (by simp at hx; simp [hx]))) (fun x hx => hp' x (by simp [hx]))
    have h2 := ar_le1 hA hA3 hp (a := e.1) (b := e.2) (hp' e (by simp))
    rw [List.append_assoc] at h1
    exact Rat.le_trans h1 h2

omit hA hA3 in
/-- What lies to the left of all lines is not cut. -/
theorem clipAll_id {es : List (Pt × Pt)} (h : ∀ x ∈ A, ∀ e ∈ es, 0 ≤ cross e.1 e.2 x) : clipAll A es = A := by
  induction es with
  | nil => rfl
  | cons e es ih =>
    show clipAll (clip (cross e.1 e.2) A) es = A
    rw [clip_nonneg (fun x hx => h x hx e (by simp)), ih (fun x hx e he => h x hx e (by simp [he]))]

theorem ar_pos1 {a b v : Pt} (hv : v ∈ A) (h : 0 < cross a b v) : 0 < ar A [(a, b)] := by
  show 0 < Sh (clip (cross a b) A)
  by_cases hn : ∃ x ∈ A, cross a b x < 0
  · obtain ⟨C⟩ := exists_cut (aff_cross a b) hA ⟨v, hv, h⟩ hn
    have hr := clip_rot (cross a b) C.rot
    rw [C.out] at hr
    refine ((C.tc (aff_cross a b) hA hA3).rot hr.symm).area_pos ?_
    have := hr.length
    simp at this; omega
  · rw [clip_nonneg (fun x hx => Rat.not_lt.1 fun h => hn ⟨x, hx, h⟩)]
    exact hA.area_pos hA3
end

/-! ### What two polygons have in common -/
section
variable {A B : List Pt} (hA : TC A) (hA3 : 3 ≤ A.length) (hB : TC B) (hB3 : 3 ≤ B.length)
include hB hB3 in
theorem proper_cyc : Proper (cyc B) := fun e he => hB.ne_side hB3 (c := e.1) (d := e.2) he
theorem reg_cyc (A B : List Pt) (x : Pt) : Reg A (cyc B) x ↔ In A x ∧ In B x := ⟨fun h => ⟨h.1, fun c d hcd => h.2 (c, d) hcd⟩, fun h => ⟨h.1, fun e he => h.2 e.1 e.2 he⟩⟩
include hA hA3 hB hB3
theorem ar_comm : ar A (cyc B) = ar B (cyc A) :=
  ar_region hA hA3 hB hB3 (proper_cyc hB hB3) (proper_cyc hA hA3) fun x => by rw [reg_cyc, reg_cyc]; exact And.comm
omit hB hB3 in
theorem ar_self {A' : List Pt} (h : Rot A A') : ar A (cyc A') = Sh A := by
  unfold ar
  rw [clipAll_id]
  intro x hx e he
  exact hA.inside (by omega) hx e.1 e.2 ((cyc_rot h e).1 he)
theorem ar_rot {B' : List Pt} (h : Rot B B') : ar A (cyc B') = ar A (cyc B) :=
  ar_region hA hA3 hA hA3 (proper_cyc (hB.rot h) (by rw [h.length]; exact hB3)) (proper_cyc hB hB3) fun x => by
    unfold Reg
    constructor
    · rintro ⟨h1, h2⟩; exact ⟨h1, fun e he => h2 e ((cyc_rot h e).2 he)⟩
    · rintro ⟨h1, h2⟩; exact ⟨h1, fun e he => h2 e ((cyc_rot h e).1 he)⟩
theorem ar_le_left : ar A (cyc B) ≤ Sh A := ar_le (es := []) hA hA3 (fun e he => by cases he) (proper_cyc hB hB3)
theorem ar_le_right : ar A (cyc B) ≤ Sh B := by rw [ar_comm hA hA3 hB hB3]; exact ar_le_left hB hB3 hA hA3
end

/-! ### Parts that do not overlap -/
section
variable {C : List Pt} (hC : TC C) (hC3 : 3 ≤ C.length)
include hC hC3

omit hC hC3 in
/-- A polygon less what it has in common with another one: a sum over pieces. -/
theorem pieces (f : List (Pt × Pt) → Rat) (g : List (Pt × Pt) → Rat) (hf : ∀ es, Proper es → f es ≤ g es) (addf : ∀ es a b, Proper es → a ≠ b → f (es ++ [(a, b)]) + f (es ++ [(b, a)]) = f es)
    (addg : ∀ es a b, Proper es → a ≠ b → g (es ++ [(a, b)]) + g (es ++ [(b, a)]) = g es) :
    ∀ (qs es : List (Pt × Pt)), Proper es → Proper qs → f es - f (es ++ qs) ≤ g es - g (es ++ qs) := by
  intro qs
  induction qs with
  | nil => intro es _ _; simp; grind
  | cons q qs ih =>
    intro es hes hqs
    have hq : q.1 ≠ q.2 := hqs q (by simp)
    have hp1 : Proper (es ++ [q]) := Proper.append hes (fun e he => by simp at he; subst he; exact hq)
    have hp2 : Proper (es ++ [(q.2, q.1)]) := Proper.append hes (fun e he => by simp at he; subst he; exact fun e => hq e.symm)
    have i1 := ih (es ++ [q]) hp1 (fun e he => hqs e (by simp [he]))
    have a1 := addf es q.1 q.2 hes hq
    have a2 := addg es q.1 q.2 hes hq
    have i2 := hf _ hp2
    rw [List.append_assoc] at i1
    simp only [List.singleton_append] at i1
    have e : [(q.1, q.2)] = [q] := rfl
    rw [e] at a1 a2
    grind

/-- THE PARTS that a polygon has in common with others, no two of which have an area in common, add up to at most its area. -/
theorem shares : ∀ (Qs : List (List Pt)), (∀ Q ∈ Qs, TC Q ∧ 3 ≤ Q.length) → Qs.Pairwise (fun Q R => ar Q (cyc R) = 0) →
    ∀ es, Proper es → sm Qs (fun Q => ar C (es ++ cyc Q)) ≤ ar C es := by
  intro Qs
  induction Qs with
  | nil => intro _ _ es hes; rw [sm_nil]; exact ar_nonneg hC hC3 hes
  | cons Q Qs ih =>
    intro hQ hd es hes
    rw [List.pairwise_cons] at hd
    have hQ1 := hQ Q (by simp)
    have hQs : ∀ R ∈ Qs, TC R ∧ 3 ≤ R.length := fun R hR => hQ R (by simp [hR])
    have pQ := proper_cyc hQ1.1 hQ1.2
    have comm : ∀ es R S, Proper es → Proper R → Proper S → ar C (es ++ R ++ S) = ar C (es ++ S ++ R) := by
      intro es R S h1 h2 h3
      refine ar_region hC hC3 hC hC3 ((h1.append h2).append h3) ((h1.append h3).append h2) fun x => ?_
      unfold Reg
      constructor
      · rintro ⟨a, b⟩; exact ⟨a, fun e he => b e (by simp at he ⊢; grind)⟩
      · rintro ⟨a, b⟩; exact ⟨a, fun e he => b e (by simp at he ⊢; grind)⟩
    have key := pieces (fun es => sm Qs (fun R => ar C (es ++ cyc R))) (fun es => ar C es) (ih hQs hd.2)
      (by
        intro es a b h1 hab
        rw [← sm_add]
        apply sm_congr
        intro R hR
        have pR := proper_cyc (hQs R hR).1 (hQs R hR).2
        have ps : Proper [(a, b)] := fun e he => by simp at he; subst he; exact hab
        have ps' : Proper [(b, a)] := fun e he => by simp at he; subst he; exact fun e => hab e.symm
        rw [comm es _ _ h1 ps pR, comm es _ _ h1 ps' pR]
        exact ar_add C _ hab)
      (fun es a b _ hab => ar_add C es hab) (cyc Q) es hes pQ
    have z : sm Qs (fun R => ar C (es ++ cyc Q ++ cyc R)) = 0 := by
      apply sm_zero
      intro R hR
      have pR := proper_cyc (hQs R hR).1 (hQs R hR).2
      have e1 : ar C (es ++ cyc Q ++ cyc R) = ar Q (cyc R ++ (es ++ cyc C)) := by
        refine ar_region hC hC3 hQ1.1 hQ1.2 ((hes.append pQ).append pR) (pR.append (hes.append (proper_cyc hC hC3))) fun x => ?_
        unfold Reg
        constructor
        · rintro ⟨a, b⟩
          exact ⟨fun c d h => b (c, d) (by simp [h]), fun e he => by
            simp at he
            rcases he with h | h | h
            · exact b e (by simp [h])
            · exact b e (by simp [h])
            · exact a e.1 e.2 h⟩
        · rintro ⟨a, b⟩
          exact ⟨fun c d h => b (c, d) (by simp [h]), fun e he => by
            simp at he
            rcases he with h | h | h
            · exact b e (by simp [h])
            · exact a e.1 e.2 h
            · exact b e (by simp [h])⟩
      have e2 := ar_le hQ1.1 hQ1.2 (es := cyc R) (es' := es ++ cyc C) pR (hes.append (proper_cyc hC hC3))
      have e3 := ar_nonneg hC hC3 ((hes.append pQ).append pR)
      rw [hd.1 R hR] at e2
      grind
    rw [sm_cons]
    have key' : sm Qs (fun R => ar C (es ++ cyc R)) - sm Qs (fun R => ar C (es ++ cyc Q ++ cyc R)) ≤ ar C es - ar C (es ++ cyc Q) := key
    rw [z] at key'
    grind
end

/-! ### A grid of rectangles -/
/-- The places to the left of x, to its right, below y and above it. -/
def lineL (x : Rat) : Pt × Pt := (⟨x, 0⟩, ⟨x, 1⟩)
def lineR (x : Rat) : Pt × Pt := (⟨x, 1⟩, ⟨x, 0⟩)
def lineD (y : Rat) : Pt × Pt := (⟨1, y⟩, ⟨0, y⟩)
def lineU (y : Rat) : Pt × Pt := (⟨0, y⟩, ⟨1, y⟩)
theorem lineL_iff (x : Rat) (p : Pt) : 0 ≤ cross (lineL x).1 (lineL x).2 p ↔ p.x ≤ x := by unfold lineL cross; grind
theorem lineR_iff (x : Rat) (p : Pt) : 0 ≤ cross (lineR x).1 (lineR x).2 p ↔ x ≤ p.x := by unfold lineR cross; grind
theorem lineD_iff (x : Rat) (p : Pt) : 0 ≤ cross (lineD x).1 (lineD x).2 p ↔ p.y ≤ x := by unfold lineD cross; grind
theorem lineU_iff (x : Rat) (p : Pt) : 0 ≤ cross (lineU x).1 (lineU x).2 p ↔ x ≤ p.y := by unfold lineU cross; grind
theorem lineL_ne (x : Rat) : (lineL x).1 ≠ (lineL x).2 := by unfold lineL; intro h; have := congrArg Pt.y h; simp at this
theorem lineR_ne (x : Rat) : (lineR x).1 ≠ (lineR x).2 := by unfold lineR; intro h; have := congrArg Pt.y h; simp at this
theorem lineD_ne (x : Rat) : (lineD x).1 ≠ (lineD x).2 := by unfold lineD; intro h; have := congrArg Pt.x h; simp at this
theorem lineU_ne (x : Rat) : (lineU x).1 ≠ (lineU x).2 := by unfold lineU; intro h; have := congrArg Pt.x h; simp at this

theorem proper2 {e f : Pt × Pt} (h1 : e.1 ≠ e.2) (h2 : f.1 ≠ f.2) : Proper [e, f] := fun x hx => by
  simp at hx
  rcases hx with rfl | rfl
  · exact h1
  · exact h2

section
variable {C : List Pt} (hC : TC C) (hC3 : 3 ≤ C.length)
include hC hC3
theorem split_x {es : List (Pt × Pt)} (hes : Proper es) {x y z : Rat} (h1 : x ≤ y) (h2 : y ≤ z) : ar C (es ++ [lineR x, lineL z]) = ar C (es ++ [lineR x, lineL y]) + ar C (es ++ [lineR y, lineL z]) := by
  have pxz := hes.append (proper2 (lineR_ne x) (lineL_ne z))
  have a := ar_add C (es ++ [lineR x, lineL z]) (lineL_ne y)
  have e1 : ar C (es ++ [lineR x, lineL z] ++ [((lineL y).1, (lineL y).2)]) = ar C (es ++ [lineR x, lineL y]) := by
    refine ar_region hC hC3 hC hC3 (pxz.append fun e he => by simp at he; subst he; exact lineL_ne y) (hes.append (proper2 (lineR_ne x) (lineL_ne y))) fun p => ?_
    unfold Reg
    constructor
    · rintro ⟨h, k⟩; exact ⟨h, fun e he => k e (by simp at he ⊢; grind)⟩
    · rintro ⟨h, k⟩
      refine ⟨h, fun e he => ?_⟩
      have ky := (lineL_iff y p).1 (k (lineL y) (by simp))
      simp at he
      rcases he with h | rfl | rfl | rfl
      · exact k e (by simp [h])
      · exact k _ (by simp)
      · exact (lineL_iff z p).2 (Rat.le_trans ky h2)
      · exact k (lineL y) (by simp)
  have e2 : ar C (es ++ [lineR x, lineL z] ++ [((lineL y).2, (lineL y).1)]) = ar C (es ++ [lineR y, lineL z]) := by
    refine ar_region hC hC3 hC hC3 (pxz.append fun e he => by simp at he; subst he; exact lineR_ne y) (hes.append (proper2 (lineR_ne y) (lineL_ne z))) fun p => ?_
    unfold Reg
    constructor
    · rintro ⟨h, k⟩
      refine ⟨h, fun e he => k e ?_⟩
      simp at he ⊢
      rcases he with h | rfl | rfl
      · exact .inl h
      · exact .inr (.inr (.inr rfl))
      · exact .inr (.inr (.inl rfl))
    · rintro ⟨h, k⟩
      refine ⟨h, fun e he => ?_⟩
      have ky := (lineR_iff y p).1 (k (lineR y) (by simp))
      simp at he
      rcases he with h | rfl | rfl | rfl
      · exact k e (by simp [h])
      · exact (lineR_iff x p).2 (Rat.le_trans h1 ky)
      · exact k _ (by simp)
      · exact k (lineR y) (by simp)
  rw [e1, e2] at a
  exact a.symm
theorem split_y {es : List (Pt × Pt)} (hes : Proper es) {x y z : Rat} (h1 : x ≤ y) (h2 : y ≤ z) : ar C (es ++ [lineU x, lineD z]) = ar C (es ++ [lineU x, lineD y]) + ar C (es ++ [lineU y, lineD z]) := by
  have pxz := hes.append (proper2 (lineU_ne x) (lineD_ne z))
  have a := ar_add C (es ++ [lineU x, lineD z]) (lineD_ne y)
  have e1 : ar C (es ++ [lineU x, lineD z] ++ [((lineD y).1, (lineD y).2)]) = ar C (es ++ [lineU x, lineD y]) := by
    refine ar_region hC hC3 hC hC3 (pxz.append fun e he => by simp at he; subst he; exact lineD_ne y) (hes.append (proper2 (lineU_ne x) (lineD_ne y))) fun p => ?_
    unfold Reg
    constructor
    · rintro ⟨h, k⟩; exact ⟨h, fun e he => k e (by simp at he ⊢; grind)⟩
    · rintro ⟨h, k⟩
      refine ⟨h, fun e he => ?_⟩
      have ky := (lineD_iff y p).1 (k (lineD y) (by simp))
      simp at he
      rcases he with h | rfl | rfl | rfl
      · exact k e (by simp [h])
      · exact k _ (by simp)
      · exact (lineD_iff z p).2 (Rat.le_trans ky h2)
      · exact k (lineD y) (by simp)
  have e2 : ar C (es ++ [lineU x, lineD z] ++ [((lineD y).2, (lineD y).1)]) = ar C (es ++ [lineU y, lineD z]) := by
    refine ar_region hC hC3 hC hC3 (pxz.append fun e he => by simp at he; subst he; exact lineU_ne y) (hes.append (proper2 (lineU_ne y) (lineD_ne z))) fun p => ?_
    unfold Reg
    constructor
    · rintro ⟨h, k⟩
      refine ⟨h, fun e he => k e ?_⟩
      simp at he ⊢
      rcases he with h | rfl | rfl
      · exact .inl h
      · exact .inr (.inr (.inr rfl))
      · exact .inr (.inr (.inl rfl))
    · rintro ⟨h, k⟩
      refine ⟨h, fun e he => ?_⟩
      have ky := (lineU_iff y p).1 (k (lineU y) (by simp))
      simp at he
      rcases he with h | rfl | rfl | rfl
      · exact k e (by simp [h])
      · exact (lineU_iff x p).2 (Rat.le_trans h1 ky)
      · exact k _ (by simp)
      · exact k (lineU y) (by simp)
  rw [e1, e2] at a
  exact a.symm
end
end Go.Proofs.YtblopapobmbboaaDoor.Geo
namespace Go.Proofs.YtblopapobmbboaaDoor.Geo
open Classical

/-! ### The places that the reference collects -/
noncomputable def addPt (l : List Pt) (p : Pt) : List Pt := if p ∈ l then l else l ++ [p]
theorem addPt_mem (l : List Pt) (p x : Pt) : x ∈ addPt l p ↔ x ∈ l ∨ x = p := by
  unfold addPt
  split
  · rename_i h
    constructor
    · exact .inl
    · rintro (h1 | rfl)
      · exact h1
      · exact h
  · simp
theorem addPt_nodup {l : List Pt} (h : l.Nodup) (p : Pt) : (addPt l p).Nodup := by
  unfold addPt
  split
  · exact h
  · rename_i hp
    rw [List.nodup_append]
    refine ⟨h, by simp, fun a ha b hb => ?_⟩
    simp at hb; subst hb
    exact fun e => hp (e ▸ ha)
theorem foldl_addPt : ∀ (c l : List Pt), l.Nodup → (c.foldl addPt l).Nodup ∧ ∀ x, x ∈ c.foldl addPt l ↔ x ∈ l ∨ x ∈ c
  | [], l, h => ⟨h, fun x => by simp⟩
  | p :: c, l, h => by
    obtain ⟨h1, h2⟩ := foldl_addPt c (addPt l p) (addPt_nodup h p)
    refine ⟨h1, fun x => ?_⟩
    show x ∈ c.foldl addPt (addPt l p) ↔ _
    rw [h2, addPt_mem]
    simp [or_assoc]

/-- Where the lines of two sides meet. -/
def cutAt (e g : Pt × Pt) : Pt :=
  lerp e.1 e.2 (((g.1.x - e.1.x) * (g.2.y - g.1.y) - (g.1.y - e.1.y) * (g.2.x - g.1.x)) / wedge (sub e.2 e.1) (sub g.2 g.1))
noncomputable def meets (A B : List Pt) (e g : Pt × Pt) : List Pt :=
  if wedge (sub e.2 e.1) (sub g.2 g.1) ≠ 0 ∧ In A (cutAt e g) ∧ In B (cutAt e g) then [cutAt e g] else []
noncomputable def cand (A B : List Pt) : List Pt :=
  A.filter (fun p => decide (In B p)) ++ B.filter (fun p => decide (In A p)) ++ (cyc A).flatMap fun e => (cyc B).flatMap fun g => meets A B e g
/-- The places of which the hull is what two polygons have in common. -/
noncomputable def shared (A B : List Pt) : List Pt := (cand A B).foldl addPt []

theorem cutAt_on {e g : Pt × Pt} (h : wedge (sub e.2 e.1) (sub g.2 g.1) ≠ 0) {x : Pt} (h1 : cross e.1 e.2 x = 0) (h2 : cross g.1 g.2 x = 0) : x = cutAt e g := by
  unfold cutAt
  have ht : ((g.1.x - e.1.x) * (g.2.y - g.1.y) - (g.1.y - e.1.y) * (g.2.x - g.1.x)) / wedge (sub e.2 e.1) (sub g.2 g.1) * wedge (sub e.2 e.1) (sub g.2 g.1) = (g.1.x - e.1.x) * (g.2.y - g.1.y) - (g.1.y - e.1.y) * (g.2.x - g.1.x) := Rat.div_mul_cancel h
  generalize ((g.1.x - e.1.x) * (g.2.y - g.1.y) - (g.1.y - e.1.y) * (g.2.x - g.1.x)) / wedge (sub e.2 e.1) (sub g.2 g.1) = t at *
  unfold wedge sub at ht h
  unfold cross at h1 h2
  unfold lerp
  have k1 : ((e.2.x - e.1.x) * (g.2.y - g.1.y) - (e.2.y - e.1.y) * (g.2.x - g.1.x)) * (x.x - (e.1.x + (e.2.x - e.1.x) * t)) = 0 := by grind
  have k2 : ((e.2.x - e.1.x) * (g.2.y - g.1.y) - (e.2.y - e.1.y) * (g.2.x - g.1.x)) * (x.y - (e.1.y + (e.2.y - e.1.y) * t)) = 0 := by grind
  apply Pt.ext'
  · rcases Rat.mul_eq_zero.1 k1 with k | k
    · exact absurd k h
    · show x.x = e.1.x + (e.2.x - e.1.x) * t; grind
  · rcases Rat.mul_eq_zero.1 k2 with k | k
    · exact absurd k h
    · show x.y = e.1.y + (e.2.y - e.1.y) * t; grind

/-- THE TWO WAYS to find what two convex polygons have in common come to the same. -/
theorem common_shared {A B : List Pt} (hA : TC A) (hA3 : 3 ≤ A.length) (hB : TC B) (hB3 : 3 ≤ B.length) : fanArea (clipAll A (cyc B)) = hullS (shared A B) := by
  obtain ⟨h1, h2⟩ := foldl_addPt (cand A B) [] List.nodup_nil
  have hm : ∀ x, x ∈ shared A B ↔ x ∈ cand A B := fun x => by unfold shared; rw [h2]; simp
  refine common_eq hA hA3 hB hB3 (S := shared A B) h1 ?_ ?_ ?_ ?_
  · intro x hx
    rw [hm] at hx
    unfold cand at hx
    rw [List.mem_append, List.mem_append] at hx
    rcases hx with (hx | hx) | hx
    · simp at hx; exact ⟨hA.inside (by omega) hx.1, hx.2⟩
    · simp at hx; exact ⟨hx.2, hB.inside (by omega) hx.1⟩
    · simp only [List.mem_flatMap] at hx
      obtain ⟨e, _, g, _, hx⟩ := hx
      unfold meets at hx
      split at hx
      · rename_i h; simp at hx; subst hx; exact h.2
      · cases hx
  · intro x hx hB'
    rw [hm]; unfold cand; simp [hx, hB']
  · intro x hx hA'
    rw [hm]; unfold cand; simp [hx, hA']
  · intro a b c d x hab hcd hdet z1 z2 i1 i2
    rw [hm]; unfold cand
    rw [List.mem_append]
    right
    simp only [List.mem_flatMap]
    refine ⟨(a, b), hab, (c, d), hcd, ?_⟩
    have e : x = cutAt (a, b) (c, d) := cutAt_on hdet z1 z2
    unfold meets
    rw [if_pos ⟨hdet, by rw [← e]; exact i1, by rw [← e]; exact i2⟩, ← e]
    simp
theorem area_hull {A : List Pt} (hA : TC A) (hA3 : 3 ≤ A.length) : fanArea A = hullS A := by
  rw [fanArea_eq]
  exact (hA.hull_eq hA3 (S := A) (fun x hx => hA.inside (by omega) hx) (fun _ h => h) (hA.nodup hA3)).symm

/-! ### Moving -/
def mv (v p : Pt) : Pt := ⟨p.x + v.x, p.y + v.y⟩
theorem cross_mv (v a b c : Pt) : cross (mv v a) (mv v b) (mv v c) = cross a b c := by unfold cross mv; grind
theorem seg_mv (v : Pt) {f f' : Pt → Rat} (hf : ∀ p, f' (mv v p) = f p) (n : Pt) (l : List Pt) : seg f' (mv v n) (l.map (mv v)) = (seg f n l).map (mv v) := by
  have st : ∀ c d, step f' (mv v c) (mv v d) = (step f c d).map (mv v) := by
    intro c d
    unfold step
    rw [hf, hf, List.map_append]
    congr 1
    · split <;> rfl
    · split
      · simp only [List.map_cons, List.map_nil, List.cons.injEq, and_true]
        unfold meet
        rw [hf, hf]
        unfold lerp mv
        apply Pt.ext' <;> simp only [] <;> grind
      · rfl
  induction l with
  | nil => rfl
  | cons c l ih =>
    cases l with
    | nil => exact st c n
    | cons d l =>
      simp only [List.map_cons, seg, List.map_append] at ih ⊢
      rw [st, ih]
theorem clip_mv (v : Pt) {f f' : Pt → Rat} (hf : ∀ p, f' (mv v p) = f p) (l : List Pt) : clip f' (l.map (mv v)) = (clip f l).map (mv v) := by
  cases l with
  | nil => rfl
  | cons c l => exact seg_mv v hf c (c :: l)
theorem sides_mv (v n : Pt) (l : List Pt) : sides (mv v n) (l.map (mv v)) = (sides n l).map fun e => (mv v e.1, mv v e.2) := by
  induction l with
  | nil => rfl
  | cons c l ih =>
    cases l with
    | nil => rfl
    | cons d l =>
      simp only [List.map_cons, sides, List.map_cons] at ih ⊢
      rw [ih]
theorem cyc_mv (v : Pt) (l : List Pt) : cyc (l.map (mv v)) = (cyc l).map fun e => (mv v e.1, mv v e.2) := by
  cases l with
  | nil => rfl
  | cons c l => exact sides_mv v c (c :: l)
theorem clipAll_mv (v : Pt) (es : List (Pt × Pt)) (l : List Pt) : clipAll (l.map (mv v)) (es.map fun e => (mv v e.1, mv v e.2)) = (clipAll l es).map (mv v) := by
  induction es generalizing l with
  | nil => rfl
  | cons e es ih =>
    show clipAll (clip (cross (mv v e.1) (mv v e.2)) (l.map (mv v))) _ = _
    rw [clip_mv v (f := cross e.1 e.2) (fun p => cross_mv v _ _ p), ih]; rfl
theorem fan_mv (v c : Pt) : ∀ l : List Pt, fan (mv v c) (l.map (mv v)) = fan c l
  | [] => rfl
  | [_] => rfl
  | d :: e :: r => by
    show cross (mv v c) (mv v d) (mv v e) + fan (mv v c) ((e :: r).map (mv v)) = cross c d e + fan c (e :: r)
    rw [cross_mv, fan_mv v c (e :: r)]
theorem fanArea_mv (v : Pt) (l : List Pt) : fanArea (l.map (mv v)) = fanArea l := by
  cases l with
  | nil => rfl
  | cons c r => exact fan_mv v c r
/-- Two polygons that are moved together keep what they have in common. -/
theorem common_mv (v : Pt) (A B : List Pt) : fanArea (clipAll (A.map (mv v)) (cyc (B.map (mv v)))) = fanArea (clipAll A (cyc B)) := by
  rw [cyc_mv, clipAll_mv, fanArea_mv]
theorem TC.mv (v : Pt) {l : List Pt} (h : TC l) : TC (l.map (mv v)) := by
  induction l with
  | nil => trivial
  | cons c l ih =>
    refine ⟨?_, ih h.2⟩
    rw [List.pairwise_map]
    exact h.1.imp fun {a b} hab => by rw [cross_mv]; exact hab
end Go.Proofs.YtblopapobmbboaaDoor.Geo
namespace Go.Proofs.YtblopapobmbboaaDoor.Geo

/-! ### Cells: corners with integer coordinates -/
abbrev Pl := Int × Int
def toPt (p : Pl) : Pt := ⟨(p.1 : Rat), (p.2 : Rat)⟩
def toPts (l : List Pl) : List Pt := l.map toPt
def turnI (a b c : Pl) : Int := (b.1 - a.1) * (c.2 - a.2) - (b.2 - a.2) * (c.1 - a.1)
theorem turnI' (a b c : Pl) : (b.1 - a.1) * (c.2 - b.2) - (b.2 - a.2) * (c.1 - b.1) = turnI a b c := by unfold turnI; grind
def sgnI (n : Int) : Int := if n < 0 then -1 else if n = 0 then 0 else 1
def onI (a b c : Pl) : Bool := decide (min a.1 b.1 ≤ c.1) && decide (c.1 ≤ max a.1 b.1) && decide (min a.2 b.2 ≤ c.2) && decide (c.2 ≤ max a.2 b.2)
def touchI (a b c d : Pl) : Bool :=
  (decide (sgnI (turnI a b c) * sgnI (turnI a b d) < 0) && decide (sgnI (turnI c d a) * sgnI (turnI c d b) < 0)) ||
  ((decide (turnI a b c = 0) && onI a b c) || (decide (turnI a b d = 0) && onI a b d) || (decide (turnI c d a = 0) && onI c d a) || (decide (turnI c d b = 0) && onI c d b))
def placeI (p : Pl) : Bool := decide (-1048576 ≤ p.1) && decide (p.1 ≤ 1048576) && decide (-1048576 ≤ p.2) && decide (p.2 ≤ 1048576)
def atI (l : List Pl) (i : Nat) : Pl := l.getD (i % l.length) (0, 0)
/-- A valid cell. -/
def validI (l : List Pl) : Bool :=
  decide (3 ≤ l.length) && decide (l.length ≤ 8) && l.all placeI &&
  (List.range l.length).all (fun i => decide (0 < turnI (atI l i) (atI l (i + 1)) (atI l (i + 2)))) &&
  (List.range l.length).all (fun i => (List.range l.length).all fun k => !(decide (i + 2 ≤ k) && decide ((k + 1) % l.length ≠ i)) || !touchI (atI l i) (atI l (i + 1)) (atI l k) (atI l (k + 1)))

theorem cast_cross (a b c : Pl) : cross (toPt a) (toPt b) (toPt c) = ((turnI a b c : Int) : Rat) := by
  unfold cross toPt turnI
  simp only [Rat.intCast_sub, Rat.intCast_mul]
theorem cast_pos {n : Int} : (0 : Rat) < (n : Rat) ↔ 0 < n := by
  rw [show (0 : Rat) = ((0 : Int) : Rat) from rfl, Rat.intCast_lt_intCast]
theorem cast_neg {n : Int} : (n : Rat) < 0 ↔ n < 0 := by
  rw [show (0 : Rat) = ((0 : Int) : Rat) from rfl, Rat.intCast_lt_intCast]
theorem cast_zero {n : Int} : (n : Rat) = 0 ↔ n = 0 := by
  rw [show (0 : Rat) = ((0 : Int) : Rat) from rfl, Rat.intCast_inj]
theorem cast_min (a b : Int) : min (a : Rat) (b : Rat) = ((min a b : Int) : Rat) := by
  rcases Int.le_total a b with h | h
  · have h' : (a : Rat) ≤ (b : Rat) := Rat.intCast_le_intCast.2 h
    rw [Int.min_eq_left h]; grind
  · have h' : (b : Rat) ≤ (a : Rat) := Rat.intCast_le_intCast.2 h
    rw [Int.min_eq_right h]; grind
theorem cast_max (a b : Int) : max (a : Rat) (b : Rat) = ((max a b : Int) : Rat) := by
  rcases Int.le_total a b with h | h
  · have h' : (a : Rat) ≤ (b : Rat) := Rat.intCast_le_intCast.2 h
    rw [Int.max_eq_right h]; grind
  · have h' : (b : Rat) ≤ (a : Rat) := Rat.intCast_le_intCast.2 h
    rw [Int.max_eq_left h]; grind
theorem onB_iff (a b c : Pl) : onB (toPt a) (toPt b) (toPt c) ↔ onI a b c = true := by
  unfold onB toPt onI
  simp only [cast_min, cast_max, Rat.intCast_le_intCast, Bool.and_eq_true, decide_eq_true_eq]
  grind
theorem sgn_mul (a b : Int) : sgnI a * sgnI b < 0 ↔ (0 < a ∧ b < 0) ∨ (a < 0 ∧ 0 < b) := by
  unfold sgnI
  split <;> split <;> (try split) <;> (try split) <;> simp <;> omega
theorem touch_iff (a b c d : Pl) : Touch (toPt a) (toPt b) (toPt c) (toPt d) ↔ touchI a b c d = true := by
  unfold Touch touchI
  simp only [cast_cross, cast_pos, cast_neg, cast_zero, onB_iff, Bool.or_eq_true, Bool.and_eq_true, decide_eq_true_eq, sgn_mul]
  grind
theorem ring_at (l : List Pl) (h : 0 < l.length) (i : Nat) : ring (toPts l) i = toPt (atI l i) := by
  unfold ring atI toPts
  have hi : i % l.length < l.length := Nat.mod_lt _ h
  rw [List.getD_eq_getElem?_getD, List.getD_eq_getElem?_getD, List.length_map, List.getElem?_map, List.getElem?_eq_getElem hi]
  rfl

structure Valid (l : List Pl) : Prop where
  lo : 3 ≤ l.length
  hi : l.length ≤ 8
  place : ∀ p ∈ l, placeI p = true
  tc : TC (toPts l)
theorem Valid.len {l : List Pl} (h : Valid l) : 3 ≤ (toPts l).length := by unfold toPts; rw [List.length_map]; exact h.lo
theorem valid_of {l : List Pl} (h : validI l = true) : Valid l := by
  unfold validI at h
  simp only [Bool.and_eq_true, decide_eq_true_eq, List.all_eq_true, List.mem_range, Bool.or_eq_true, Bool.not_eq_true', Bool.and_eq_false_iff, decide_eq_false_iff_not] at h
  obtain ⟨⟨⟨⟨h1, h2⟩, h3⟩, h4⟩, h5⟩ := h
  have e : (toPts l).length = l.length := by unfold toPts; rw [List.length_map]
  refine ⟨h1, h2, h3, tc_of (by rw [e]; exact h1) ?_ ?_⟩
  · intro i hi
    rw [e] at hi
    rw [ring_at l (by omega), ring_at l (by omega), ring_at l (by omega), cast_cross, cast_pos]
    exact h4 i hi
  · intro i j hij hj hne
    rw [e] at hj hne
    rw [ring_at l (by omega), ring_at l (by omega), ring_at l (by omega), ring_at l (by omega), touch_iff]
    have := h5 i (by omega) j hj
    rcases this with (h | h) | h
    · exact absurd hij h
    · exfalso; apply h
      by_cases hl : j + 1 < l.length
      · rw [Nat.mod_eq_of_lt hl]; omega
      · have : j + 1 = l.length := by omega
        rw [this, Nat.mod_self]; omega
    · rw [h]; simp
end Go.Proofs.YtblopapobmbboaaDoor.Geo
